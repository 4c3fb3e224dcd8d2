/- A part of the proof: texts of the walk and of the plain laws, merged. No condition. -/
import Derived.Test.YthbphcbhedmnoaaGreatDoorM1
set_option linter.unusedVariables false
set_option linter.unusedSimpArgs false
set_option maxHeartbeats 4000000
set_option maxRecDepth 100000
namespace Go.Proofs.YthbphcbhedmnoaaGreatDoor
namespace SX
open Go
def PWS (n:Nat) (ops:Array Oper) (K:PPost) (m:Nat) (L:Array Bool) (σ:PEnv) (ρd ρs:List PRes):Prop :=
 ∀ β κ σ' rd rs,GOK κ→Sim κ σ σ'→RRels κ ρd rd→RRels κ ρs rs→WS β n ops (lft K) m L σ' rd rs κ
def PStep (n:Nat) (ops:Array Oper) (K:PPost) (m:Nat) (L:Array Bool) (σ:PEnv) (ρd ρs:List PRes) (i:Nat):Prop :=
 ∀ β κ σ' rd rs,GOK κ→Sim κ σ σ'→RRels κ ρd rd→RRels κ ρs rs→Step β n ops (lft K) m L σ' rd rs κ i
section
variable {n m:Nat} {ops:Array Oper} {K:PPost} {L:Array Bool} {σ:PEnv} {ρ ρd ρs:List PRes} {o:Oper} {i d:Nat} {p:PV} {c:Bool}
theorem ka {K:Exit→PPost} {id:Nat} {l:List Oper} (ρs:List PRes) (hp:ρ.Perm (ρd++ρs)) (h:PWS n l.toArray (K .normal) l.length (Array.replicate l.length false) σ ρd ρs):PWC n (.region id l.toArray true) K σ ρ:=fun β κ σ' ρ' g hs hr=>by
 obtain ⟨rs',h1,h2⟩:=hr.perm hp
 obtain ⟨r1,r2,rfl,h3,h4⟩:=h2.split
 exact A7 h1 fun κ1 hk=>h β κ1 σ' r1 r2 (g.mono hk) (hs.mono hk) (h3.mono hk) (h4.mono hk)
theorem dK (hr:(Region.ready .any ops L).isEmpty=true) (h:K σ (ρd++ρs)):PWS n ops K m L σ ρd ρs:=fun β κ σ' rd rs g hs h1 h2=>ws_done hr ⟨σ,ρd++ρs,hs,h1.app h2,h⟩
theorem bY (i:Nat) (hok:okQ ops L i=true) (ho:ops[i]?=some o) (hg:o.guard=none) (hd:o.dst=some d) (hlt:Nat.blt d n=true) (h:POpQ true o σ ρs p) (hw:PWS n ops K m (L.setIfInBounds i true) (fD σ d p) ρd ρs):PWS n ops K (m+1) L σ ρd ρs:=fun β κ σ' rd rs g hs h1 h2=>by
 obtain ⟨v,k1,k2⟩:=h κ σ' rs g hs h2
 exact ws_q i hok ho hg hd hlt k2 (hw β κ _ rd rs g (hs.upd (k1 rfl)) h1 h2)
theorem bg (i:Nat) (hr:(Region.ready .any ops L == [i])=true) (h:PStep n ops K m L σ ρd ρs i):PWS n ops K (m+1) L σ ρd ρs:=fun β κ σ' rd rs g hs h1 h2=>ws_one i hr (h β κ σ' rd rs g hs h1 h2)
theorem ia (i j:Nat) (hr:(Region.ready .any ops L == [i,j])=true) (h:PStep n ops K m L σ ρd ρs i) (h':PStep n ops K m L σ ρd ρs j):PWS n ops K (m+1) L σ ρd ρs:=fun β κ σ' rd rs g hs h1 h2=>ws_two i j hr (h β κ σ' rd rs g hs h1 h2) (h' β κ σ' rd rs g hs h1 h2)
theorem ba (ho:ops[i]?=some o) (hg:o.guard=none) (hd:o.dst=some d) (hlt:Nat.blt d n=true) (h:POpL o σ ρd fun p ρ'=>PWS n ops K m (L.setIfInBounds i true) (fD σ d p) ρ' ρs):PStep n ops K m L σ ρd ρs i:=fun β κ σ' rd rs g hs h1 h2 =>
 step_l ho hg hd hlt (((h κ σ' rd g hs h1).framed (ρf:=rs)).mono fun v ρ' κ' hk ⟨ρ1,e,pv,ρp,k1,k2,k3⟩=>⟨ρ1,e,k3 β κ' _ ρ1 rs (g.mono hk) ((hs.mono hk).upd k1) k2 (h2.mono hk)⟩)
theorem dL (ho:ops[i]?=some o) (hg:o.guard=none) (hd:o.dst=none) (h:POpL o σ ρd fun _ ρ'=>PWS n ops K m (L.setIfInBounds i true) σ ρ' ρs):PStep n ops K m L σ ρd ρs i:=fun β κ σ' rd rs g hs h1 h2 =>
 step_l0 ho hg hd (((h κ σ' rd g hs h1).framed (ρf:=rs)).mono fun v ρ' κ' hk ⟨ρ1,e,pv,ρp,k1,k2,k3⟩=>⟨ρ1,e,k3 β κ' _ ρ1 rs (g.mono hk) (hs.mono hk) k2 (h2.mono hk)⟩)
theorem mj {f:Nat} {l:List Operand} {ts:Array Nat} {pargs:List PV} {v:PV} (ho:ops[i]?=some o) (hg:o.guard=none) (hd:o.dst=some d) (hlt:Nat.blt d n=true) (hop:o.op=.call { callee:=.value (.func f),args:=l.toArray,argTypes:=ts }) (ha:l.map (bj σ)=pargs) (hc:PF f pargs v) (h:PWS n ops K m (L.setIfInBounds i true) (fD σ d v) ρd ρs):PStep n ops K m L σ ρd ρs i :=
 ba ho hg hd hlt (pl_call hop ha hc h)
end
section
variable {n:Nat} {x:Code} {K:Exit→PPost} {σ:PEnv} {ρ:List PRes} {a:Option Addr} {m c T sz:Nat} {α:Type} {enc:α→List PV} {xs:List α}
theorem iv (hm:PRes.row a m c T sz (xs.map enc)∈ρ) (h:xs.length=m→(0<m→a=some ⟨mW a,0,none⟩)→PWC n x K σ ρ):PWC n x K σ ρ:=fun β κ σ' ρ' g hs hr hi=>by
 obtain ⟨r,hr1,hr2⟩:=hr.mem hm
 cases hr2 with
 | row hb ho hc =>
  have h1:=hi.own _ hr1
  have e1:=(ga h1).2.1;have e2:=hc.len;rw [List.length_map] at e2
  exact h (by omega) (fun h0=>lC h1 h0) β κ σ' ρ' g hs hr hi
theorem oX {cc:Bool} {o:Oper} {y z0:Operand} {t by':Nat} {k:IntKind} {i:Int} {z:Value} {e:α} (hl:xs.length=m) (ha:0<m→a=some ⟨mW a,0,none⟩) (ho:o.op=.indexAddr t y z0) (hu:em t=some (.slice T)) (hi:fC T=some (z,sz,by')) (hx:PEv σ cc y (.v (.slice a m c))) (hy:PEv σ cc z0 (.v (.int k i))) (hm:cc=true→idx xs i=some e):POpQ cc o σ ρ (.v (.pointer (some ⟨mW a,i.toNat * sz,none⟩))):=fun κ σ' ρ' g hs hrr=>by
 refine ⟨_,fun _=>.v rfl,fun hc w hst=>?_⟩
 obtain ⟨h0,hmm⟩:=iN (hm hc)
 have hlt:=(List.getElem?_eq_some_iff.1 hmm).1
 have h:=mT (c:=true) (ρ:=ρ') (κ:=κ) (j:=i.toNat) ho hu hi (fun _=>by rw [hs.ve hx hc,ha (by omega)]) (fun _=>hs.ve hy hc) (fun _=>by omega) (fun _=>by omega) rfl w hst
 rwa [Nat.zero_add] at h
end
theorem zF {t E:Nat} (hu:em t=some (.slice E)) (a:Option Addr) (n c:Nat) (x y:Operand) (w:World):((eqGuard .eql t x y (.slice a n c) (.slice none 0 0)).run Tryz.prog w=.ok () w)∧(binOp .eql t (.slice a n c) (.slice none 0 0)).run Tryz.prog w=.ok (.bool a.isNone) w:=by
 constructor
 ·cases a <;> simp [eqGuard]
 simp only [binOp,Sem.run_bind,run_equal_slice_nil w t E a n c (bB hu),Result.andThen_ok,Sem.run_pure]
theorem sT {n:Nat} {ops:Array Oper} {o:Oper} {rest:List Oper} {K:PPost} {σ:PEnv} {ρ:List PRes} {d t t' E mm:Nat} {x:Operand} {xs:List (List PV)} (hg:o.guard=none) (hd:o.dst=some d) (hlt:Nat.blt d n=true) (ho:o.op=.binOp .eql t x (.const (.slice none 0 0)) t') (hu:em t=some (.slice E)) (hx:bj σ x=.slc mm xs) (h:∀ b:Bool,(b=true→xs=[])→PWL n ops rest K (fD σ d (.v (.bool b))) ρ):PWL n ops (o::rest) K σ ρ:=fun β κ σ' ρ' g hs hr=>by
 have he:=hs.ev x
 rw [hx] at he
 generalize hw':ev σ' x=w at he
 cases he with
 | slc hsl hb h1 hss =>
  rename_i a c sz css
  have hq:OpQ true o σ' ρ' κ (.bool a.isNone):=fun _ w _=>by
   obtain ⟨g1,g2⟩:=zF hu a mm c x (.const (.slice none 0 0)) w
   have e2:ev σ' (.const (.slice none 0 0))=.slice none 0 0:=rfl
   simp only [execOp,ho,hw',e2,Sem.run_bind,g1,Result.andThen_ok,g2,Sem.run_pure]
  refine dV hg hd hlt hq (h a.isNone (fun hn=>?_) β κ _ ρ' g (hs.upd (.v rfl)) hr)
  cases a with
  | some ad=>cases hn
  | none =>
   have:mm=0:=by
    rcases Nat.eq_zero_or_pos mm with h | h
    ·exact h
    obtain ⟨b,off,e,_⟩:=hsl.at_ h;cases e
   subst this
   have e1:=hss.len;have e2:=hsl.len
   exact List.eq_nil_of_length_eq_zero (by omega)
theorem Bo {α:Type} (l:List α) (k:Nat) (v:α) (h:l[k]?=some v):l.set k v=l:=by
 apply List.ext_getElem?;intro i;rw [List.getElem?_set];split
 ·rename_i hik;subst hik;rw [h];have:=(List.getElem?_eq_some_iff.1 h).1;simp [this]
 rfl
section
variable {n:Nat} {x:Code} {K:Exit→PPost} {KL:PPost} {σ:PEnv} {ρ:List PRes} {ops:Array Oper} {lo:List Oper} {cs:List PV} {a:Option Addr} {m c:Nat} {css:List (List PV)} {α:Type} {enc:α→List PV} {xs:List α}
theorem agg_nil {κ:Kr} {w:Value} {k:Nat} (h:Rp κ (.agg cs) w) (hk:cs[k]?=some (.v (.slice none 0 0))):Rp κ (.agg (cs.set k (.slc 0 []))) w:=by
 cases h with
 | agg ho hc =>
  obtain ⟨v,hv,hp⟩:=hc.get hk
  have hset:=hc.set (k:=k) (p:=.slc 0 []) (v:=v) (by rw [hp.val];exact qY)
  rw [Bo _ _ _ hv] at hset
  exact .agg ho hset
theorem rk (t k:Nat) (ht:σ t=.agg cs) (hk:cs[k]?=some (.v (.slice none 0 0))) (h:PWL n ops lo KL (fD σ t (.agg (cs.set k (.slc 0 [])))) ρ):PWL n ops lo KL σ ρ:=fun β κ σ' ρ' g hs hr=>h β κ σ' ρ' g (mV hs (agg_nil (by have:=hs t;rwa [ht] at this) hk)) hr
end
def zpv:Value→PV
 | .slice none 0 0=>.slc 0 []
 | x=>cond (t7 x) (.v x) .any
theorem yy {κ:Kr}:∀ (l:List Value),Rps κ (l.map zpv) l
 | []=>.nil
 | x::l=>.cons (by unfold zpv;split;exact qY;exact t8) (yy l)
theorem sU {o:Oper} {σ:PEnv} {ρ:List PRes} {c:Bool} {t sz by':Nat} {parts:List (Nat×Operand)} {fl:List (Nat×Nat)} {zs:List Value} {zp cs:List PV} (hc:c=true) (ho:o.op=.build t parts.toArray) (hz:fC t=some (.agg zs.toArray,sz,by')) (hf:oo t=some fl) (hall:(fl.all fun p=>(fC p.2).isSome)=true) (hzp:zs.map zpv=zp) (hz1:zs.all Value.oneCell'=true) (h:PFill σ fl zp parts cs):POpQ c o σ ρ (.agg cs):=fun κ σ' ρ' g hs hr=>by
 subst hc
 obtain ⟨cv,h1,h2,h3⟩:=h.real hs (zv:=zs) (by rw [← hzp];exact yy zs) (fun u hu=>List.all_eq_true.1 hz1 u hu)
 exact ⟨_,fun _=>.agg h3 h2,vm ho hz hf hall h1⟩
theorem fF {α:Type} {a:α} {l:List α}:a∈a::l:=List.Mem.head _
theorem uV {α:Type} {a b0:α} {l:List α}:a∈b0::a::l:=List.Mem.tail _ (List.Mem.head _)
theorem ug {α:Type} {a b0 b1:α} {l:List α}:a∈b0::b1::a::l:=List.Mem.tail _ (List.Mem.tail _ (List.Mem.head _))
theorem zG {α:Type} {a b0 b1 b2:α} {l:List α}:a∈b0::b1::b2::a::l:=List.Mem.tail _ (List.Mem.tail _ (List.Mem.tail _ (List.Mem.head _)))
theorem zm4 {α:Type} {a b0 b1 b2 b3:α} {l:List α}:a∈b0::b1::b2::b3::a::l:=List.Mem.tail _ (List.Mem.tail _ (List.Mem.tail _ (List.Mem.tail _ (List.Mem.head _))))
theorem zm5 {α:Type} {a b0 b1 b2 b3 b4:α} {l:List α}:a∈b0::b1::b2::b3::b4::a::l:=List.Mem.tail _ (List.Mem.tail _ (List.Mem.tail _ (List.Mem.tail _ (List.Mem.tail _ (List.Mem.head _)))))
theorem zm6 {α:Type} {a b0 b1 b2 b3 b4 b5:α} {l:List α}:a∈b0::b1::b2::b3::b4::b5::a::l:=List.Mem.tail _ (List.Mem.tail _ (List.Mem.tail _ (List.Mem.tail _ (List.Mem.tail _ (List.Mem.tail _ (List.Mem.head _))))))
theorem zm7 {α:Type} {a b0 b1 b2 b3 b4 b5 b6:α} {l:List α}:a∈b0::b1::b2::b3::b4::b5::b6::a::l:=List.Mem.tail _ (List.Mem.tail _ (List.Mem.tail _ (List.Mem.tail _ (List.Mem.tail _ (List.Mem.tail _ (List.Mem.tail _ (List.Mem.head _)))))))
theorem zm8 {α:Type} {a b0 b1 b2 b3 b4 b5 b6 b7:α} {l:List α}:a∈b0::b1::b2::b3::b4::b5::b6::b7::a::l:=List.Mem.tail _ (List.Mem.tail _ (List.Mem.tail _ (List.Mem.tail _ (List.Mem.tail _ (List.Mem.tail _ (List.Mem.tail _ (List.Mem.tail _ (List.Mem.head _))))))))
theorem zm9 {α:Type} {a b0 b1 b2 b3 b4 b5 b6 b7 b8:α} {l:List α}:a∈b0::b1::b2::b3::b4::b5::b6::b7::b8::a::l:=List.Mem.tail _ (List.Mem.tail _ (List.Mem.tail _ (List.Mem.tail _ (List.Mem.tail _ (List.Mem.tail _ (List.Mem.tail _ (List.Mem.tail _ (List.Mem.tail _ (List.Mem.head _)))))))))
theorem zm10 {α:Type} {a b0 b1 b2 b3 b4 b5 b6 b7 b8 b9:α} {l:List α}:a∈b0::b1::b2::b3::b4::b5::b6::b7::b8::b9::a::l:=List.Mem.tail _ (List.Mem.tail _ (List.Mem.tail _ (List.Mem.tail _ (List.Mem.tail _ (List.Mem.tail _ (List.Mem.tail _ (List.Mem.tail _ (List.Mem.tail _ (List.Mem.tail _ (List.Mem.head _))))))))))
theorem zm11 {α:Type} {a b0 b1 b2 b3 b4 b5 b6 b7 b8 b9 b10:α} {l:List α}:a∈b0::b1::b2::b3::b4::b5::b6::b7::b8::b9::b10::a::l:=List.Mem.tail _ (List.Mem.tail _ (List.Mem.tail _ (List.Mem.tail _ (List.Mem.tail _ (List.Mem.tail _ (List.Mem.tail _ (List.Mem.tail _ (List.Mem.tail _ (List.Mem.tail _ (List.Mem.tail _ (List.Mem.head _)))))))))))
theorem zm12 {α:Type} {a b0 b1 b2 b3 b4 b5 b6 b7 b8 b9 b10 b11:α} {l:List α}:a∈b0::b1::b2::b3::b4::b5::b6::b7::b8::b9::b10::b11::a::l:=List.Mem.tail _ (List.Mem.tail _ (List.Mem.tail _ (List.Mem.tail _ (List.Mem.tail _ (List.Mem.tail _ (List.Mem.tail _ (List.Mem.tail _ (List.Mem.tail _ (List.Mem.tail _ (List.Mem.tail _ (List.Mem.tail _ (List.Mem.head _))))))))))))
theorem zm13 {α:Type} {a b0 b1 b2 b3 b4 b5 b6 b7 b8 b9 b10 b11 b12:α} {l:List α}:a∈b0::b1::b2::b3::b4::b5::b6::b7::b8::b9::b10::b11::b12::a::l:=List.Mem.tail _ (List.Mem.tail _ (List.Mem.tail _ (List.Mem.tail _ (List.Mem.tail _ (List.Mem.tail _ (List.Mem.tail _ (List.Mem.tail _ (List.Mem.tail _ (List.Mem.tail _ (List.Mem.tail _ (List.Mem.tail _ (List.Mem.tail _ (List.Mem.head _)))))))))))))
theorem zmv {n:Nat} {ops:Array Oper} {o:Oper} {rest:List Oper} {K:PPost} {σ:PEnv} {ρ:List PRes} {d:Nat} {x:Operand} {p:PV} (hg:o.guard=none) (hd:o.dst=some d) (hlt:Nat.blt d n=true) (ho:o.op=.move x) (hx:bj σ x=p) (hw:PWL n ops rest K (fD σ d p) ρ):PWL n ops (o::rest) K σ ρ:=bD hg hd hlt (eu ho (.p hx)) hw
theorem zas {n:Nat} {ops:Array Oper} {o:Oper} {rest:List Oper} {K:PPost} {σ:PEnv} {ρ:List PRes} {d:Nat} {x:Operand} {p:PV} (hg:o.guard=none) (hd:o.dst=some d) (hlt:Nat.blt d n=true) (ho:o.op=.assign x) (hx:bj σ x=p) (hw:PWL n ops rest K (fD σ d p) ρ):PWL n ops (o::rest) K σ ρ:=bD hg hd hlt (bU ho (.p hx)) hw
theorem zex {n:Nat} {ops:Array Oper} {o:Oper} {rest:List Oper} {K:PPost} {σ:PEnv} {ρ:List PRes} {d i:Nat} {vs:List PV} {x:Operand} {p:PV} (hg:o.guard=none) (hd:o.dst=some d) (hlt:Nat.blt d n=true) (ho:o.op=.extract x i) (hx:bj σ x=.tup vs) (hr:vs[i]?=some p) (hw:PWL n ops rest K (fD σ d p) ρ):PWL n ops (o::rest) K σ ρ:=bD hg hd hlt (rb ho (.p hx) hr) hw
def rg (a:Nat):Nat→List Nat
  | 0=>[]
  | n+1=>a::rg (a+1) n
theorem js {n:Nat} {x y:Code} {K:Exit→PPost} {σ:PEnv} {ρ:List PRes} {α:Type} {c:Operand} {p:Bool} {a b r:α} (hc:bj σ c=.v (.bool p)) (h:cond p a b=r) (ht:p=true→a=r→PWC n x K σ ρ) (hf:p=false→b=r→PWC n y K σ ρ):PWC n (.cond c x y) K σ ρ:=gz hc (fun e=>ht e (xf e h)) (fun e=>hf e (xg e h))
theorem xj {σ:PEnv} {d0:Nat} {v0:PV} (h:σ d0=v0):PHolds σ [(d0,v0)]:=by cases h;exact gP rfl (oj)
theorem mG {x0 v0:PV} {l:List PV}:PSplice (x0::l) 0 [v0] (v0::l):=mh (zln)
theorem dM {x0:PRes} {l:List PRes}:PSub [x0] (x0::l):=aY aC (bX)
theorem qa {σ:PEnv} {d0 d1:Nat} {v0 v1:PV} (h:(σ d0,σ d1)=(v0,v1)):PHolds σ [(d0,v0),(d1,v1)]:=by cases h;exact gP rfl (gP rfl (oj))
theorem Bp {x0 v0 x1 v1:PV} {l:List PV}:PSplice (x0::x1::l) 0 [v0,v1] (v0::v1::l):=mh (mh (zln))
theorem py {x0 x1:PRes} {l:List PRes}:PSub [x0,x1] (x0::x1::l):=aY aC (aY aC (bX))
theorem zH {σ:PEnv} {d0 d1 d2:Nat} {v0 v1 v2:PV} (h:(σ d0,σ d1,σ d2)=(v0,v1,v2)):PHolds σ [(d0,v0),(d1,v1),(d2,v2)]:=by cases h;exact gP rfl (gP rfl (gP rfl (oj)))
theorem zl3 {x0 v0 x1 v1 x2 v2:PV} {l:List PV}:PSplice (x0::x1::x2::l) 0 [v0,v1,v2] (v0::v1::v2::l):=mh (mh (mh (zln)))
theorem zs3 {x0 x1 x2:PRes} {l:List PRes}:PSub [x0,x1,x2] (x0::x1::x2::l):=aY aC (aY aC (aY aC (bX)))
theorem jt {σ:PEnv} {d0 d1 d2 d3:Nat} {v0 v1 v2 v3:PV} (h:(σ d0,σ d1,σ d2,σ d3)=(v0,v1,v2,v3)):PHolds σ [(d0,v0),(d1,v1),(d2,v2),(d3,v3)]:=by cases h;exact gP rfl (gP rfl (gP rfl (gP rfl (oj))))
theorem Bq {x0 v0 x1 v1 x2 v2 x3 v3:PV} {l:List PV}:PSplice (x0::x1::x2::x3::l) 0 [v0,v1,v2,v3] (v0::v1::v2::v3::l):=mh (mh (mh (mh (zln))))
theorem zs4 {x0 x1 x2 x3:PRes} {l:List PRes}:PSub [x0,x1,x2,x3] (x0::x1::x2::x3::l):=aY aC (aY aC (aY aC (aY aC (bX))))
theorem mO {σ:PEnv} {d0 d1 d2 d3 d4:Nat} {v0 v1 v2 v3 v4:PV} (h:(σ d0,σ d1,σ d2,σ d3,σ d4)=(v0,v1,v2,v3,v4)):PHolds σ [(d0,v0),(d1,v1),(d2,v2),(d3,v3),(d4,v4)]:=by cases h;exact gP rfl (gP rfl (gP rfl (gP rfl (gP rfl (oj)))))
theorem zl5 {x0 v0 x1 v1 x2 v2 x3 v3 x4 v4:PV} {l:List PV}:PSplice (x0::x1::x2::x3::x4::l) 0 [v0,v1,v2,v3,v4] (v0::v1::v2::v3::v4::l):=mh (mh (mh (mh (mh (zln)))))
theorem zs5 {x0 x1 x2 x3 x4:PRes} {l:List PRes}:PSub [x0,x1,x2,x3,x4] (x0::x1::x2::x3::x4::l):=aY aC (aY aC (aY aC (aY aC (aY aC (bX)))))
theorem zI {σ:PEnv} {d0 d1 d2 d3 d4 d5:Nat} {v0 v1 v2 v3 v4 v5:PV} (h:(σ d0,σ d1,σ d2,σ d3,σ d4,σ d5)=(v0,v1,v2,v3,v4,v5)):PHolds σ [(d0,v0),(d1,v1),(d2,v2),(d3,v3),(d4,v4),(d5,v5)]:=by cases h;exact gP rfl (gP rfl (gP rfl (gP rfl (gP rfl (gP rfl (oj))))))
theorem zs6 {x0 x1 x2 x3 x4 x5:PRes} {l:List PRes}:PSub [x0,x1,x2,x3,x4,x5] (x0::x1::x2::x3::x4::x5::l):=aY aC (aY aC (aY aC (aY aC (aY aC (aY aC (bX))))))
theorem ol {σ:PEnv} {d0 d1 d2 d3 d4 d5 d6:Nat} {v0 v1 v2 v3 v4 v5 v6:PV} (h:(σ d0,σ d1,σ d2,σ d3,σ d4,σ d5,σ d6)=(v0,v1,v2,v3,v4,v5,v6)):PHolds σ [(d0,v0),(d1,v1),(d2,v2),(d3,v3),(d4,v4),(d5,v5),(d6,v6)]:=by cases h;exact gP rfl (gP rfl (gP rfl (gP rfl (gP rfl (gP rfl (gP rfl (oj)))))))
theorem om {x0 v0 x1 v1 x2 v2 x3 v3 x4 v4 x5 v5 x6 v6:PV} {l:List PV}:PSplice (x0::x1::x2::x3::x4::x5::x6::l) 0 [v0,v1,v2,v3,v4,v5,v6] (v0::v1::v2::v3::v4::v5::v6::l):=mh (mh (mh (mh (mh (mh (mh (zln)))))))
theorem nH {σ:PEnv} {d0 d1 d2 d3 d4 d5 d6 d7:Nat} {v0 v1 v2 v3 v4 v5 v6 v7:PV} (h:(σ d0,σ d1,σ d2,σ d3,σ d4,σ d5,σ d6,σ d7)=(v0,v1,v2,v3,v4,v5,v6,v7)):PHolds σ [(d0,v0),(d1,v1),(d2,v2),(d3,v3),(d4,v4),(d5,v5),(d6,v6),(d7,v7)]:=by cases h;exact gP rfl (gP rfl (gP rfl (gP rfl (gP rfl (gP rfl (gP rfl (gP rfl (oj))))))))
theorem zl8 {x0 v0 x1 v1 x2 v2 x3 v3 x4 v4 x5 v5 x6 v6 x7 v7:PV} {l:List PV}:PSplice (x0::x1::x2::x3::x4::x5::x6::x7::l) 0 [v0,v1,v2,v3,v4,v5,v6,v7] (v0::v1::v2::v3::v4::v5::v6::v7::l):=mh (mh (mh (mh (mh (mh (mh (mh (zln))))))))
theorem Ay {σ:PEnv} {d0 d1 d2 d3 d4 d5 d6 d7 d8:Nat} {v0 v1 v2 v3 v4 v5 v6 v7 v8:PV} (h:(σ d0,σ d1,σ d2,σ d3,σ d4,σ d5,σ d6,σ d7,σ d8)=(v0,v1,v2,v3,v4,v5,v6,v7,v8)):PHolds σ [(d0,v0),(d1,v1),(d2,v2),(d3,v3),(d4,v4),(d5,v5),(d6,v6),(d7,v7),(d8,v8)]:=by cases h;exact gP rfl (gP rfl (gP rfl (gP rfl (gP rfl (gP rfl (gP rfl (gP rfl (gP rfl (oj)))))))))
theorem zl9 {x0 v0 x1 v1 x2 v2 x3 v3 x4 v4 x5 v5 x6 v6 x7 v7 x8 v8:PV} {l:List PV}:PSplice (x0::x1::x2::x3::x4::x5::x6::x7::x8::l) 0 [v0,v1,v2,v3,v4,v5,v6,v7,v8] (v0::v1::v2::v3::v4::v5::v6::v7::v8::l):=mh (mh (mh (mh (mh (mh (mh (mh (mh (zln)))))))))
theorem zq {t:Nat} {R:PV→List PRes→Prop} {σ:PEnv} {ρ:List PRes} {p:PV} (h:σ t=p) (hr:R p []):jM [.tmp t] R .ret σ ρ:=aO (dh (aP h)) bX hr
theorem osi {α:Type} {a b:α} (h:some a=some b):a=b:=Option.some.inj h
theorem cov_sub {σ:PEnv} {ρ ρ':List PRes} (h:PSub ρ' ρ):Cov σ ρ σ ρ':=fun _ _ _ h2=>oA h h2
def vI:TypeDesc→Bool
 | .interface _=>true
 | _=>false
section
variable {o:Oper} {σ:PEnv} {ρ:List PRes} {x:Operand} {t:Nat}
theorem xk {σ:Env} {ρ:List Res} {κ:Kr} {d:TypeDesc} (ho:o.op=.makeInterface t x) (hu:em t=some d) (hn:vI d=false):OpQ true o σ ρ κ (.iface t (ev σ x)):=fun _ w _=>by
 have h:=run_underlying (w:=w) (bB hu)
 cases d <;> first | (cases hn;done) | simp [execOp,ho,Instr.makeInterface,h]
theorem xl {d:TypeDesc} (ho:o.op=.makeInterface t x) (hu:em t=some d) (hn:vI d=false):POpQ true o σ ρ (.ifc t (bj σ x)):=fun κ σ' ρ' g hs hr=>⟨_,fun _=>.ifc (hs.ev x),xk ho hu hn⟩
def ta (T:Nat) (p:PV):Option PV:=match p with
 | .ifc t q=>cond (Nat.beq t T) (some (.tup [q,.v (.bool true)])) (match fC T with
  | some (.agg ⟨zs⟩,_,_)=>cond (zs.all Value.oneCell') (some (.tup [.agg (zs.map fun x=>cond (t7 x) (.v x) .any),.v (.bool false)])) none
  | _=>none)
 | _=>none
theorem oq_ta {σ:Env} {ρ:List Res} {κ:Kr} {xT T s:Nat} {v z:Value} {d:TypeDesc} {sz by':Nat} (ho:o.op=.typeAssert x xT T true) (hu:em T=some d) (hn:vI d=false) (hz:fC T=some (z,sz,by')) (hx:ev σ x=.iface s v):OpQ true o σ ρ κ (if s=T then .tuple #[v,.bool true] else .tuple #[z,.bool false]):=fun _ w _=>by
 have h:=run_underlying (w:=w) (bB hu)
 have hzv:=dW hz w
 by_cases hst:s=T
 ·cases d <;> first | (cases hn;done) | simp [execOp,ho,hx,Instr.typeAssert,h,hst]
 cases d <;> first | (cases hn;done) | simp [execOp,ho,hx,Instr.typeAssert,h,hst,hzv]
theorem pq_ta {xT T:Nat} {d:TypeDesc} {p r:PV} (ho:o.op=.typeAssert x xT T true) (hu:em T=some d) (hn:vI d=false) (hi:(fC T).isSome=true) (hx:bj σ x=p) (hr:ta T p=some r):POpQ true o σ ρ r:=fun κ σ' ρ' g hs hrr=>by
 obtain ⟨⟨z,sz,by'⟩,hz⟩:=Option.isSome_iff_exists.1 hi
 have h:=hs.ev x
 rw [hx] at h
 generalize he:ev σ' x=w at h
 cases h with
 | ifc h =>
  rename_i s q v
  have hq:=oq_ta (ρ:=ρ') (κ:=κ) ho hu hn hz he
  simp only [ta] at hr
  cases hb:Nat.beq s T
  ·have hne:s≠T:=fun e=>by rw [e] at hb;simp at hb
   rw [hb,hz] at hr
   simp only [cA] at hr
   rw [if_neg hne] at hq
   split at hr
   ·rename_i zs s1 b1 heq
    simp only [dR,Prod.mk.injEq] at heq
    obtain ⟨rfl,rfl,rfl⟩:=heq
    cases ho1:zs.all Value.oneCell'
    ·rw [ho1] at hr;cases hr
    rw [ho1] at hr;simp only [cK,dR] at hr;subst hr
    exact ⟨_,fun _=>.tup (ws:=[_,_]) (.cons (.agg (ds:=zs) (fun u hu=>List.all_eq_true.1 ho1 u hu) (jg zs)) (.cons (.v rfl) .nil)),hq⟩
   cases hr
  ·have hst:=Nat.eq_of_beq_eq_true hb
   rw [hb] at hr;simp only [cK,dR] at hr;subst hr
   rw [if_pos hst] at hq
   exact ⟨_,fun _=>.tup (ws:=[_,_]) (.cons h (.cons (.v rfl) .nil)),hq⟩
 | _=>simp only [ta] at hr;cases hr
end
structure MethOk (t:Nat) (name:String) (f:Nat):Prop where
 h:∀ (v:Value) (w:World),(method (Tryz.prog.types.size+Made.depth) t v name).run Tryz.prog w=.ok (f,v) w
theorem rl {o:Oper} {σ:Env} {ρ:List Res} {κ:Kr} {K:Value→List Res→Kr→Prop} {f t:Nat} {x:Operand} {name:String} {l:List Operand} {ts:Array Nat} {v:Value} {R:Value→Kr→Prop} (ho:o.op=.call { callee:=.invoke x name,args:=l.toArray,argTypes:=ts })
    (hx:ev σ x=.iface t v) (hm:MethOk t name f) (hc:CallP f (v::l.map (ev σ)) κ R) (h:∀ v κ',Kle κ κ'→R v κ'→K v ρ κ'):OpL o σ ρ κ K:=fun β hi Nx hk=>by
  have hi2:=hi.perm (List.Perm.refl ([]++ρ))
  have e1:(#[Value.iface t v]++(l.map (ev σ)).toArray)[0]?=some (.iface t v):=by simp
  have e2:(#[Value.iface t v]++(l.map (ev σ)).toArray).extract 1 (#[Value.iface t v]++(l.map (ev σ)).toArray).size=(l.map (ev σ)).toArray:=by simp;exact List.take_of_length_le (by simp)
  have e3:#[v]++(l.map (ev σ)).toArray=(v::l.map (ev σ)).toArray:=by simp
  have hp:(program).run Tryz.prog κ.w=.ok Tryz.prog κ.w:=rfl
  unfold execOp
  simp only [ho,resolve,Sem.run_bind,Sem.run_pure,Result.andThen_ok,invoke,List.map_toArray,hx,e1,e2,callMethod,hp,hm.h,e3,jT hc.1,OutV]
  exact (hc.2 hi2.split).mono fun e w' ⟨v,ρ',κ',h1,h2,h3,h4⟩=>by
    subst h2
    obtain ⟨rfl,h4⟩:=h4
    exact ⟨v,h1,hk v ρ κ' (hi2.join h3) h3.le.kle (h v κ' h3.le.kle h4)⟩
def PFI (p:PV) (name:String) (pargs:List PV) (r:PV):Prop:=∃ t q f,p=.ifc t q∧MethOk t name f∧PF f (q::pargs) r
theorem rm {t f:Nat} {name:String} {q:PV} {pargs:List PV} {r:PV} (hm:MethOk t name f) (h:PF f (q::pargs) r):PFI (.ifc t q) name pargs r:=⟨t,q,f,rfl,hm,h⟩
theorem sV {o:Oper} {σ:PEnv} {ρ:List PRes} {K:PV→List PRes→Prop} {x:Operand} {name:String} {l:List Operand} {ts:Array Nat} {pargs:List PV} {r:PV} (ho:o.op=.call { callee:=.invoke x name,args:=l.toArray,argTypes:=ts }) (ha:l.map (bj σ)=pargs) (hc:PFI (bj σ x) name pargs r) (h:K r ρ):POpL o σ ρ K:=fun κ σ' ρ' g hs hr=>by
 obtain ⟨t,q,f,e,hm,hf⟩:=hc
 have hx:=hs.ev x
 rw [e] at hx
 generalize he:ev σ' x=w at hx
 cases hx with
 | ifc hq=>exact rl ho he hm (hf κ _ g (.cons hq (by rw [← ha];exact gV hs l))) fun v κ' hk hv=>⟨r,ρ,hv,hr.mono hk,h⟩
abbrev pI (x:Int):PV:=.v (.int .i64 x)
abbrev pU (x:Int):PV:=.v (.int .u64 x)
abbrev pY (x:Int):PV:=.v (.int .u8 x)
abbrev pB (b:Bool):PV:=.v (.bool b)
abbrev pS (s:ByteArray):PV:=.v (.string s)
abbrev pP (b off:Nat):PV:=.v (.pointer (some ⟨b,off,none⟩))
abbrev pO (a:Option Addr) (n c:Nat):PV:=.v (.slice a n c)
abbrev pN:PV:=.v (.slice none 0 0)
abbrev pL {α:Type} (e:α→List PV) (xs:List α):PV:=.slc xs.length (List.map e xs)
def uW:IntKind→Nat
 | .i8=>0 | .i16=>1 | .i32=>2 | .i64=>3 | .u8=>4 | .u16=>5 | .u32=>6 | .u64=>7
theorem qq {a b:IntKind} (h:Nat.beq (uW a) (uW b)=true):a=b:=by cases a <;> cases b <;> first | rfl | cases h
def Br:Int→Bool
 | .ofNat (_+1)=>true
 | _=>false
def ge0l:Int→Bool
 | .ofNat _=>true
 | _=>false
theorem yz {b:Int} (h:Br b=true):b≠0:=by rintro rfl;cases h
theorem ge0l_ge {b:Int} (h:ge0l b=true):0≤b:=by cases b with | ofNat n=>exact Int.natCast_nonneg n | negSucc n=>cases h
def qcmp (op:BinOp) (a b:Int):Option Bool:=match op with | .eql=>some (a == b) | .neq=>some (a != b) | .lss=>some (decide (a<b)) | .leq=>some (decide (a≤b)) | .gtr=>some (decide (b<a)) | .geq=>some (decide (b≤a)) | _=>none
def qari (op:BinOp) (a b:Int):Option Int:=match op with | .add=>some (a+b) | .sub=>some (a - b) | .mul=>some (a*b) | _=>none
def qbit (op:BinOp) (k:IntKind) (a b:Int):Option Int:=match op with | .and=>some (fm k a b) | .or=>some (qo k a b) | .xor=>some (q9 k a b) | _=>none
def qshf (op:BinOp) (k:IntKind) (a b:Int):Option Int:=match op with | .shl=>some (gp k a b) | .shr=>some (cD k a b) | _=>none
def qeqb (op:BinOp) (p q:Bool):Option Bool:=match op with | .eql=>some (p == q) | .neq=>some (p != q) | _=>none
def qstr (op:BinOp) (s u:ByteArray):Option Bool:=match op with | .eql=>some (decide (s=u)) | .neq=>some (!decide (s=u)) | .lss=>some (Op.bytesLess s.toList u.toList) | .leq=>some (Op.bytesLess s.toList u.toList||decide (s=u)) | .gtr=>some (!(Op.bytesLess s.toList u.toList||decide (s=u))) | .geq=>some (!Op.bytesLess s.toList u.toList) | _=>none
def qint (op:BinOp) (k k':IntKind) (a b:Int):Option PV :=
 match qshf op k a b with
 | some r=>cond (ge0l b) (some (.v (.int k r))) none
 | none=>cond (Nat.beq (uW k) (uW k'))
  (match qcmp op a b with
   | some r=>some (.v (.bool r))
   | none=>match qari op a b with
    | some r=>some (.v (.int k (k.wrap r)))
    | none=>match qbit op k a b with
     | some r=>some (.v (.int k r))
     | none=>match op with
      | .quo=>cond (Br b) (some (.v (.int k (k.wrap (a.tdiv b))))) none
      | .rem=>cond (Br b) (some (.v (.int k (a.tmod b)))) none
      | _=>none) none
def qbin (op:BinOp) (t:Nat) (p q:PV):Option PV:=match p,q with
 | .v (.int k a),.v (.int k' b)=>qint op k k' a b
 | .v (.bool p),.v (.bool q)=>(match em t with | some .bool=>(qeqb op p q).map fun r=>.v (.bool r) | _=>none)
 | .v (.string s),.v (.string u)=>(qstr op s u).map fun r=>.v (.bool r)
 | _,_=>none
def qlen (t:Nat) (p:PV):Option PV:=match em t,p with
 | some (.slice _),.slc m _=>some (.v (.int .i64 (m:Int)))
 | some (.slice _),.v (.slice _ m _)=>some (.v (.int .i64 (m:Int)))
 | some .string,.v (.string s)=>some (.v (.int .i64 (s.size:Int)))
 | _,_=>none
def qmm (mx:Bool) (p q:PV):Option PV:=match p,q with
 | .v (.int k a),.v (.int k' b)=>cond (Nat.beq (uW k) (uW k')) (some (.v (.int k (cond mx (rc a b) (ji a b))))) none
 | _,_=>none
def vJ (σ:PEnv) (fl:List (Nat×Nat)):List PV→List (Nat×Operand)→Option (List PV)
 | zs,[]=>some zs
 | zs,(i,x)::r=>match fl[i]? with
  | some (k,ty)=>match fC ty,ik (bj σ x) with
   | some (_,sz,_),some vs=>cond (Nat.beq vs.length sz&&Nat.ble (k+vs.length) zs.length) (vJ σ fl (zs.take k++vs++zs.drop (k+vs.length)) r) none
   | _,_=>none
  | none=>none
theorem vK {σ:PEnv} {fl:List (Nat×Nat)}:∀ {parts:List (Nat×Operand)} {zs cs:List PV},vJ σ fl zs parts=some cs→PFill σ fl zs parts cs
 | [],zs,cs,h=>by simp only [vJ,dR] at h;exact h
 | (i,x)::r,zs,cs,h=>by
  simp only [vJ] at h
  split at h
  ·rename_i k ty h1
   split at h
   ·rename_i z sz by' vs h2 h3
    cases hb:(Nat.beq vs.length sz&&Nat.ble (k+vs.length) zs.length)
    ·rw [hb] at h;cases h
    rw [hb] at h
    simp only [Bool.and_eq_true] at hb
    exact zfc h1 h2 h3 hb.1 ⟨rfl,Nat.le_of_ble_eq_true hb.2⟩ (vK h)
   cases h
  cases h
def qfa (s f:Nat) (p:PV):Option PV:=match oo s with
 | some l=>match l[f]? with
  | some (kk,ty)=>match fC ty with
   | some (_,sz,_)=>cond (Nat.blt 0 sz) (match p with
    | .v (.pointer (some ⟨b,off,none⟩))=>some (.v (.pointer (some ⟨b,off+kk,none⟩)))
    | .ref cs off=>some (.ref cs (off+kk))
    | _=>none) none
   | none=>none
  | none=>none
 | none=>none
def qfd (t f:Nat) (p:PV):Option PV:=match oo t with
 | some l=>match l[f]? with
  | some (kk,ty)=>match p with
   | .agg cs=>cond (Nat.ble kk cs.length) (iM ty (cs.drop kk)) none
   | _=>none
  | none=>none
 | none=>none
def qx (σ:PEnv) (ρ:List PRes) (at_:Nat):Op→Option (PV×Option (Nat×Nat))
 | .move x=>some (bj σ x,none)
 | .assign x=>some (bj σ x,none)
 | .binOp op t x y _=>(qbin op t (bj σ x) (bj σ y)).map fun p=>(p,none)
 | .unOp .not _ x=>(match bj σ x with | .v (.bool p)=>some (.v (.bool !p),none) | _=>none)
 | .unOp .neg _ x=>(match bj σ x with | .v (.int k a)=>some (.v (.int k (k.wrap (0 - a))),none) | _=>none)
 | .convert s d x=>(match em s,em d,bj σ x with | some _,some (.int k'),.v (.int _ a)=>some (.v (.int k' (k'.wrap a)),none) | _,_,_=>none)
 | .nilCheck x=>(match bj σ x with | .v (.pointer (some ad))=>some (.v (.pointer (some ad)),none) | .ref cs k=>some (.ref cs k,none) | .ifc t p=>some (.ifc t p,none) | _=>none)
 | .fieldAddr s x f=>(qfa s f (bj σ x)).map fun p=>(p,none)
 | .field t x f=>(qfd t f (bj σ x)).map fun p=>(p,none)
 | .extract x i=>(match bj σ x with | .tup vs=>(vs[i]?).map fun p=>(p,none) | _=>none)
 | .load t x=>(match bj σ x with
  | .ref cs off=>(iM t (cs.drop off)).map fun p=>(p,none)
  | .v (.pointer (some ⟨b,off,none⟩))=>(match ρ[at_]? with | some (.b b' _ cs)=>(iM t (cs.drop off)).map fun p=>(p,some (b,b')) | _=>none)
  | _=>none)
 | .call ⟨.builtin .len,⟨[x]⟩,⟨[t]⟩⟩=>(qlen t (bj σ x)).map fun p=>(p,none)
 | .call ⟨.builtin .min,⟨[x,y]⟩,_⟩=>(qmm false (bj σ x) (bj σ y)).map fun p=>(p,none)
 | .call ⟨.builtin .max,⟨[x,y]⟩,_⟩=>(qmm true (bj σ x) (bj σ y)).map fun p=>(p,none)
 | .makeFunc (.func f) ⟨[]⟩ ⟨l⟩=>some (.fn f (l.map (bj σ)),none)
 | .makeInterface t x=>(match em t with | some d=>cond (vI d) none (some (.ifc t (bj σ x),none)) | none=>none)
 | .build t ⟨parts⟩=>(match fC t,oo t with
  | some (.agg ⟨zs⟩,_,_),some fl=>cond ((fl.all fun p=>(fC p.2).isSome)&&zs.all Value.oneCell') ((vJ σ fl (zs.map fun x=>cond (t7 x) (.v x) .any) parts).map fun cs=>(.agg cs,none)) none
  | _,_=>none)
 | _=>none
section
variable {o:Oper} {σ:PEnv} {ρ:List PRes} {x y:Operand} {t t':Nat} {p:PV}
theorem map_none {a:Option PV} {p:PV} {e:Option (Nat×Nat)} (h:(a.map fun q=>(q,(none:Option (Nat×Nat))))=some (p,e)):a=some p:=by
 cases a with
 | none=>cases h
 | some q=>simp only [Option.map_some,dR,Prod.mk.injEq] at h;rw [h.1]
theorem qint_ok {op:BinOp} {k k':IntKind} {a b:Int} (ho:o.op=.binOp op t x y t') (hx:bj σ x=.v (.int k a)) (hy:bj σ y=.v (.int k' b)) (h:qint op k k' a b=some p):POpQ true o σ ρ p:=by
 unfold qint at h
 split at h
 ·rename_i r hr
  cases hb:ge0l b
  ·rw [hb] at h;cases h
  rw [hb] at h;simp only [cK,dR] at h;subst h
  exact ra ho (.p hx) (.p hy) (fun _=>ge0l_ge hb) (by cases op <;> exact hr)
 cases hk:Nat.beq (uW k) (uW k')
 ·rw [hk] at h;cases h
 rw [hk] at h;simp only [cK] at h
 have:=qq hk;subst this
 split at h
 ·rename_i r hr;simp only [dR] at h;subst h;exact xc ho (.p hx) (.p hy) (by cases op <;> exact hr)
 split at h
 ·rename_i r hr;simp only [dR] at h;subst h;exact q8 ho (.p hx) (.p hy) (by cases op <;> exact hr)
 split at h
 ·rename_i r hr;simp only [dR] at h;subst h;exact pq_bits ho (.p hx) (.p hy) (by cases op <;> exact hr)
 split at h
 ·cases hb:Br b
  ·rw [hb] at h;cases h
  rw [hb] at h;simp only [cK,dR] at h;subst h;exact Bf ho (.p hx) (.p hy) fun _=>yz hb
 ·cases hb:Br b
  ·rw [hb] at h;cases h
  rw [hb] at h;simp only [cK,dR] at h;subst h;exact Bg ho (.p hx) (.p hy) fun _=>yz hb
 cases h
theorem qbin_ok {op:BinOp} (ho:o.op=.binOp op t x y t') (h:qbin op t (bj σ x) (bj σ y)=some p):POpQ true o σ ρ p:=by
 unfold qbin at h
 split at h
 ·rename_i h1 h2;exact qint_ok ho h1 h2 h
 ·rename_i h1 h2
  split at h
  ·rename_i hu
   obtain ⟨r,hr,rfl⟩:=Option.map_eq_some_iff.1 h
   exact pq_eqB ho hu (.p h1) (.p h2) (by cases op <;> exact hr)
  cases h
 ·rename_i h1 h2
  obtain ⟨r,hr,rfl⟩:=Option.map_eq_some_iff.1 h
  exact pq_str ho (.p h1) (.p h2) (by cases op <;> exact hr)
 cases h
theorem qlen_ok (ho:o.op=.call { callee:=.builtin .len,args:=#[x],argTypes:=#[t] }) (h:qlen t (bj σ x)=some p):POpQ true o σ ρ p:=by
 unfold qlen at h
 split at h
 ·rename_i hu hx;simp only [dR] at h;subst h;exact pq_len ho hu (.p hx)
 ·rename_i hu hx;simp only [dR] at h;subst h;exact pq_lenO ho hu (.p hx)
 ·rename_i hu hx;simp only [dR] at h;subst h;exact pq_lenS ho hu (.p hx)
 cases h
theorem Bs {mx:Bool} {ts:List Nat} (ho:o.op=.call { callee:=.builtin (cond mx .max .min),args:=#[x,y],argTypes:=ts.toArray }) (h:qmm mx (bj σ x) (bj σ y)=some p):POpQ true o σ ρ p:=by
 unfold qmm at h
 split at h
 ·rename_i k a k' b h1 h2
  cases hk:Nat.beq (uW k) (uW k')
  ·rw [hk] at h;cases h
  have:=qq hk;subst this
  rw [hk] at h
  simp only [cK,dR] at h;subst h
  cases mx
  ·exact xd ho (.p h1) (.p h2)
  exact pq_max ho (.p h1) (.p h2)
 cases h
theorem qfa_ok {s f:Nat} (ho:o.op=.fieldAddr s x f) (h:qfa s f (bj σ x)=some p):POpQ true o σ ρ p:=by
 unfold qfa at h
 split at h
 ·rename_i l h1
  split at h
  ·rename_i kk ty h2
   split at h
   ·rename_i z sz by' h3
    cases h4:Nat.blt 0 sz
    ·rw [h4] at h;cases h
    rw [h4] at h;simp only [cK] at h
    split at h
    ·rename_i hx;simp only [dR] at h;subst h;exact bo ho h1 h2 h3 h4 (.p hx)
    ·rename_i hx;simp only [dR] at h;subst h;exact sm ho h1 h2 h3 h4 (.p hx)
    cases h
   cases h
  cases h
 cases h
theorem qfd_ok {f:Nat} (ho:o.op=.field t x f) (h:qfd t f (bj σ x)=some p):POpQ true o σ ρ p:=by
 unfold qfd at h
 split at h
 ·rename_i l h1
  split at h
  ·rename_i kk ty h2
   split at h
   ·rename_i cs hx
    cases h4:Nat.ble kk cs.length
    ·rw [h4] at h;cases h
    rw [h4] at h;exact Bh ho h1 h2 (.p hx) h4 h
   cases h
  cases h
 cases h
theorem uh {c:Bool} {tt:Nat} {pp:PV} (ho:o.op=.nilCheck x) (hx:PEv σ c x (.ifc tt pp)):POpQ c o σ ρ (.ifc tt pp):=fun κ σ' ρ' g hs _=>by
 refine ⟨ev σ' x,hs.pe hx,fun hc w _=>?_⟩
 have h:=hs.pe hx hc
 generalize he:ev σ' x=y at h
 cases h with
 | ifc h=>simp [execOp,ho,he]
theorem qx_ok {k:Nat} {e:Option (Nat×Nat)} (h:qx σ ρ k o.op=some (p,e)) (he:∀ b b',e=some (b,b')→b=b'):POpQ true o σ ρ p:=by
 generalize ho:o.op=op at h
 unfold qx at h
 split at h
 ·simp only [dR,Prod.mk.injEq] at h;obtain ⟨rfl,_⟩:=h;exact eu ho (.p rfl)
 ·simp only [dR,Prod.mk.injEq] at h;obtain ⟨rfl,_⟩:=h;exact bU ho (.p rfl)
 ·exact qbin_ok ho (map_none h)
 ·split at h
  ·rename_i hx;simp only [dR,Prod.mk.injEq] at h;obtain ⟨rfl,_⟩:=h;exact pq_not ho (.p hx)
  cases h
 ·split at h
  ·rename_i hx;simp only [dR,Prod.mk.injEq] at h;obtain ⟨rfl,_⟩:=h;exact pq_neg ho (.p hx)
  cases h
 ·split at h
  ·rename_i h1 h2 hx;simp only [dR,Prod.mk.injEq] at h;obtain ⟨rfl,_⟩:=h;exact pq_conv ho h1 h2 (.p hx)
  cases h
 ·split at h
  ·rename_i hx;simp only [dR,Prod.mk.injEq] at h;obtain ⟨rfl,_⟩:=h;exact vz ho (.p hx)
  ·rename_i hx;simp only [dR,Prod.mk.injEq] at h;obtain ⟨rfl,_⟩:=h;exact ud ho (.p hx)
  ·rename_i hx;simp only [dR,Prod.mk.injEq] at h;obtain ⟨rfl,_⟩:=h;exact uh ho (.p hx)
  cases h
 ·exact qfa_ok ho (map_none h)
 ·exact qfd_ok ho (map_none h)
 ·split at h
  ·rename_i hx;exact rb ho (.p hx) (map_none h)
  cases h
 ·split at h
  ·rename_i hx;exact oV ho (.p hx) (map_none h)
  ·rename_i b off hx
   split at h
   ·rename_i b' T cs hr
    obtain ⟨q,hq,h2⟩:=Option.map_eq_some_iff.1 h
    simp only [Prod.mk.injEq] at h2
    obtain ⟨rfl,rfl⟩:=h2
    have:=he b b' rfl;subst this
    exact cJ ho (.p hx) (List.mem_of_getElem? hr) hq
   cases h
  cases h
 ·exact qlen_ok ho (map_none h)
 ·exact Bs (mx:=false) (ts:=_) ho (map_none h)
 ·exact Bs (mx:=true) (ts:=_) ho (map_none h)
 ·simp only [dR,Prod.mk.injEq] at h;obtain ⟨rfl,_⟩:=h;exact vD ho
 ·split at h
  ·rename_i d hu
   cases hn:vI d
   ·rw [hn] at h;simp only [cA,dR,Prod.mk.injEq] at h;obtain ⟨rfl,_⟩:=h;exact xl ho hu hn
   rw [hn] at h;cases h
  cases h
 ·split at h
  ·rename_i zs sz by' fl h1 h2
   cases hc:((fl.all fun p=>(fC p.2).isSome)&&zs.all Value.oneCell')
   ·rw [hc] at h;cases h
   rw [hc] at h
   simp only [cK] at h
   obtain ⟨q,hq,h3⟩:=Option.map_eq_some_iff.1 h
   simp only [Prod.mk.injEq] at h3
   obtain ⟨rfl,_⟩:=h3
   simp only [Bool.and_eq_true] at hc
   exact re rfl ho h1 h2 hc.1 rfl hc.2 (vK hq)
  cases h
 cases h
end
structure GE where
 gs:List Bool
 p:PV
def gl (t:Nat):List (Nat×GE)→Option GE
 | []=>none
 | (d,e)::l=>cond (Nat.beq t d) (some e) (gl t l)
def Bt (t:Nat):List (Nat×GE)→List (Nat×GE)
 | []=>[]
 | (d,e)::l=>cond (Nat.beq t d) (Bt t l) ((d,e)::Bt t l)
def Bu (d:Nat):List Nat→Bool
 | []=>false
 | k::l=>cond (Nat.beq d k) true (Bu d l)
theorem qr {d:Nat}:∀ {l:List Nat},Bu d l=true↔d∈l
 | []=>by simp [Bu]
 | k::l=>by
  unfold Bu
  cases h:Nat.beq d k
  ·have:d≠k:=fun e=>by rw [e] at h;simp at h
   simp [qr (l:=l),this]
  simp [Nat.eq_of_beq_eq_true h]
def fM:List Operand→List Nat
 | []=>[]
 | .tmp t::l=>t::fM l
 | _::l=>fM l
def mI (σ:PEnv) (G:List (Nat×GE)) (ts:List Nat) (gs:List Bool):PEnv:=fun t=>match gl t G with
 | none=>σ t
 | some e=>cond (Bu t ts&&Nat.ble e.gs.length gs.length) e.p .any
def jV (G:List (Nat×GE)) (gs:List Bool):List Nat→List (Bool×Bool)
 | []=>[]
 | t::ts=>match gl t G with
  | none=>jV G gs ts
  | some e=>(e.gs.headD true,(gs.drop (gs.length - e.gs.length)).headD true)::jV G gs ts
def ui (ops:Array Oper) (σ:PEnv) (G:List (Nat×GE)):Option (Nat×Bool)→Option (List Bool)
 | none=>some []
 | some (j,pol)=>match (ops[j]?).bind (·.dst) with
  | none=>none
  | some d=>match gl d G with
   | none=>match σ d with | .v (.bool p)=>some [cond pol p (!p)] | _=>none
   | some e=>match e.p with | .v (.bool p)=>some ((e.gs.headD true&&cond pol p (!p))::e.gs) | _=>none
def StackOk (gs:List Bool):Prop:=gs.headD true=true→∀ b∈gs,b=true
def GInv (σ:PEnv) (G:List (Nat×GE)):Prop:=∀ t e,gl t G=some e→σ t=pgv (e.gs.headD true) e.p∧StackOk e.gs∧e.gs≠[]
def AllEq (l:List (Bool×Bool)):Prop:=l.map (·.1)=l.map (·.2)
theorem AllEq.nil:AllEq []:=rfl
theorem AllEq.cons {a b:Bool} {l:List (Bool×Bool)} (h:AllEq ((a,b)::l)):a=b∧AllEq l:=by
 unfold AllEq at h;simp only [List.map_cons,List.cons.injEq] at h;exact h
theorem AllEq.app {l m:List (Bool×Bool)} (h:AllEq (l++m)):AllEq l∧AllEq m:=by
 unfold AllEq at h;simp only [List.map_append] at h
 exact List.append_inj h (by simp)
theorem oD {G:List (Nat×GE)} {gs:List Bool} {t:Nat} {e:GE}:∀ {ts:List Nat},t∈ts→gl t G=some e→AllEq (jV G gs ts)→e.gs.headD true=(gs.drop (gs.length - e.gs.length)).headD true
 | u::ts,hm,hg,ha=>by
  simp only [jV] at ha
  rcases List.mem_cons.1 hm with rfl | hm
  ·rw [hg] at ha;exact ha.cons.1
  split at ha
  ·exact oD hm hg ha
  exact oD hm hg ha.cons.2
theorem rn {gs:List Bool} (h:StackOk gs) (hc:gs.headD true=true) (k:Nat):(gs.drop k).headD true=true:=by
 rw [List.headD_eq_head?_getD,List.head?_drop]
 cases e:gs[k]? with
 | none=>rfl
 | some b=>exact h hc b (List.mem_of_getElem? e)
theorem oE {κ:Kr} {σ:PEnv} {σ':Env} {G:List (Nat×GE)} {ts:List Nat} {gs:List Bool} (hs:Sim κ σ σ') (hi:GInv σ G) (ha:AllEq (jV G gs ts)) (hk:StackOk gs) (hc:gs.headD true=true):Sim κ (mI σ G ts gs) σ':=fun t=>by
 unfold mI
 cases hg:gl t G with
 | none=>exact hs t
 | some e =>
  simp only
  cases hb:(Bu t ts&&Nat.ble e.gs.length gs.length)
  ·exact .any
  simp only [Bool.and_eq_true,qr] at hb
  have h1:=oD hb.1 hg ha
  rw [rn hk hc] at h1
  have h2:=(hi t e hg).1
  rw [h1,kh] at h2
  have:=hs t
  rw [h2] at this
  exact this
theorem oY {o:Oper} {σ:PEnv} {ρ:List PRes} {G:List (Nat×GE)} {ts:List Nat} {gs:List Bool} {p:PV} (h:gs.headD true=true→POpQ true o (mI σ G ts gs) ρ p) (hi:GInv σ G) (ha:AllEq (jV G gs ts)) (hk:StackOk gs):POpQ (gs.headD true) o σ ρ p:=fun κ σ' ρ' g hs hr=>by
 cases hc:gs.headD true with
 | false=>exact xa
 | true=>exact h hc κ σ' ρ' g (oE hs hi ha hk hc) hr
theorem zJ {ops:Array Oper} {σ:PEnv} {G:List (Nat×GE)} {o:Oper} {gs:List Bool} (hi:GInv σ G) (h:ui ops σ G o.guard=some gs):PGuardIs ops σ o (gs.headD true)∧StackOk gs:=by
 cases hg:o.guard with
 | none =>
  rw [hg] at h;simp only [ui,dR] at h;subst h
  exact ⟨fun κ σ' _=>wV hg,fun _ b hb=>by cases hb⟩
 | some jp =>
  obtain ⟨j,pol⟩:=jp
  rw [hg] at h;simp only [ui] at h
  split at h
  ·cases h
  rename_i d hd
  split at h
  ·split at h
   ·rename_i p hp
    simp only [dR] at h;subst h
    refine ⟨?_,fun hc b hb=>by rw [List.mem_singleton.1 hb];exact hc⟩
    cases pol
    ·exact Ba hg hd hp
    exact oz hg hd hp
   cases h
  rename_i e hgl
  split at h
  ·rename_i p hp
   simp only [dR] at h;subst h
   obtain ⟨h1,h2,h3⟩:=hi d e hgl
   rw [hp] at h1
   refine ⟨?_,fun hc b hb=>?_⟩
   ·cases pol
    ·exact oU hg hd h1
    exact zw hg hd h1
   simp only [List.headD_cons,Bool.and_eq_true] at hc
   rcases List.mem_cons.1 hb with rfl | hb
   ·simp only [hc,Bool.and_self]
   exact h2 hc.1 b hb
  cases h
def yA (σ:PEnv) (G:List (Nat×GE)) (want:Bool):Operand→Option (PV×List (Bool×Bool))
 | .tmp t=>match gl t G with
  | some e=>some (e.p,[(e.gs.headD true,want)])
  | none=>some (σ t,[])
 | x=>some (bj σ x,[])
theorem vL {σ:PEnv} {G:List (Nat×GE)} {want:Bool} {x:Operand} {p:PV} {l:List (Bool×Bool)} (hi:GInv σ G) (h:yA σ G want x=some (p,l)) (ha:AllEq l):PEv σ want x p:=by
 unfold yA at h
 split at h
 ·rename_i t
  split at h
  ·rename_i e hg
   simp only [dR,Prod.mk.injEq] at h;obtain ⟨rfl,rfl⟩:=h
   have h1:=ha.cons.1
   have h2:=(hi t e hg).1
   rw [h1] at h2
   exact .g h2
  simp only [dR,Prod.mk.injEq] at h;obtain ⟨rfl,rfl⟩:=h;exact .p rfl
 simp only [dR,Prod.mk.injEq] at h;obtain ⟨rfl,rfl⟩:=h;exact .p rfl
def rp:PV→Option Bool
 | .v (.bool p)=>some p
 | _=>none
theorem oZ {p:PV} {b:Bool} (h:rp p=some b):p=.v (.bool b):=by
 unfold rp at h;split at h
 ·simp only [dR] at h;rw [h]
 cases h
def uj:Operand→Bool
 | .const (.bool true)=>true
 | _=>false
def qt:Operand→Bool
 | .const (.bool false)=>true
 | _=>false
theorem zK {x:Operand} {σ:PEnv} (h:uj x=true):bj σ x=.v (.bool true):=by
 unfold uj at h;split at h
 ·rfl
 cases h
theorem xm {x:Operand} {σ:PEnv} (h:qt x=true):bj σ x=.v (.bool false):=by
 unfold qt at h;split at h
 ·rfl
 cases h
def Bv (σ:PEnv) (G:List (Nat×GE)) (gs:List Bool) (cc a b:Operand):Option (PV×List (Bool×Bool)) :=
 match rp (bj (mI σ G (fM [cc]) gs) cc) with
 | none=>none
 | some p=>cond (uj a)
  (match yA σ G (gs.headD true && !p) b with
   | some (q,l)=>match rp q with
    | some q=>some (.v (.bool (p||q)),jV G gs (fM [cc])++l)
    | none=>none
   | none=>none)
  (cond (qt b)
   (match yA σ G (gs.headD true&&p) a with
    | some (q,l)=>match rp q with
     | some q=>some (.v (.bool (p&&q)),jV G gs (fM [cc])++l)
     | none=>none
    | none=>none) none)
theorem yB {σ:PEnv} {G:List (Nat×GE)} {gs:List Bool} {x:Operand} {p:PV} (hi:GInv σ G) (hk:StackOk gs) (ha:AllEq (jV G gs (fM [x]))) (h:bj (mI σ G (fM [x]) gs) x=p) (hn:p≠.any):PEv σ (gs.headD true) x p:=fun hc=>by
 cases x with
 | tmp t =>
  simp only [bj,fM] at h ⊢
  unfold mI at h
  cases hg:gl t G with
  | none=>rw [hg] at h;exact h
  | some e =>
   rw [hg] at h
   simp only at h
   cases hb:(Bu t [t]&&Nat.ble e.gs.length gs.length)
   ·rw [hb] at h;exact absurd h.symm hn
   ·rw [hb] at h;simp only [cK] at h
    have h1:=oD (t:=t) (ts:=[t]) (by simp) hg ha
    rw [rn hk hc] at h1
    have h2:=(hi t e hg).1
    rw [h1,kh] at h2
    rw [h2,h]
 | const x=>exact h
 | global g=>exact h
 | func f=>exact h
theorem Bw {o:Oper} {σ:PEnv} {ρ:List PRes} {G:List (Nat×GE)} {gs:List Bool} {cc a b:Operand} {p:PV} {l:List (Bool×Bool)} (ho:o.op=.pick cc a b) (hi:GInv σ G) (hk:StackOk gs) (h:Bv σ G gs cc a b=some (p,l)) (ha:AllEq l):POpQ (gs.headD true) o σ ρ p:=by
 unfold Bv at h
 split at h
 ·cases h
 rename_i c hc
 have hc:=oZ hc
 cases h1:uj a
 ·rw [h1] at h;simp only [cA] at h
  cases h2:qt b
  ·rw [h2] at h;cases h
  rw [h2] at h;simp only [cK] at h
  split at h
  ·rename_i q m hl
   split at h
   ·rename_i q' hq
    simp only [dR,Prod.mk.injEq] at h;obtain ⟨rfl,rfl⟩:=h
    have hl':=vL hi hl ha.app.2
    rw [oZ hq] at hl'
    exact xb ho (yB hi hk ha.app.1 hc (by simp)) (.p (xm h2)) hl'
   cases h
  cases h
 rw [h1] at h;simp only [cK] at h
 split at h
 ·rename_i q m hl
  split at h
  ·rename_i q' hq
   simp only [dR,Prod.mk.injEq] at h;obtain ⟨rfl,rfl⟩:=h
   have hl':=vL hi hl ha.app.2
   rw [oZ hq] at hl'
   exact pq_or ho (yB hi hk ha.app.1 hc (by simp)) (.p (zK h1)) hl'
  cases h
 cases h
inductive Fct where
 | ix (c:Bool) (css:List (List PV)) (i:Int) (cs:List PV)
 | sx (c:Bool) (s:ByteArray) (i:Int) (u:UInt8)
 | nz (c:Bool) (b:Int)
 | ge (c:Bool) (b:Int)
 | sl (c:Bool) (css:List (List PV)) (lo hi:Int) (zss:List (List PV)) (m sz:Nat)
 | ss (c:Bool) (s:ByteArray) (lo hi:Int) (z:ByteArray)
 | ct (c:Bool) (s u z:ByteArray)
 | eq (t:Nat) (ks:List Nat)
 | cl (c:Bool) (f:Nat) (pargs:List PV) (r:PV)
 | cv (c:Bool) (pf:PV) (pargs:List PV) (r:PV)
 | ci (c:Bool) (p:PV) (name:String) (pargs:List PV) (r:PV)
 | ta (T:Nat) (p r:PV)
structure EqOk (t:Nat) (ks:List Nat):Prop where
 h1:Tryz.prog.underlying t=some (.struct (Tryz.prog.fieldsOf t))
 h2:Tryz.prog.stoodInHeld t=false
 h3:Tryz.prog.eqGuardType Tryz.prog.depth t=false
 h4:flatK (Tryz.prog.fieldsOf t).toList 0 ks=true
def Fct.ok:Fct→Prop
 | .ix c css i cs=>c=true→idx css i=some cs
 | .sx c s i u=>c=true→idx s.data.toList i=some u
 | .nz c b=>c=true→b≠0
 | .ge c b=>c=true→0≤b
 | .sl c css lo hi zss m sz=>(c=true→sub css lo hi=some zss)∧m=zss.length∧∀ cs∈css,cs.length=sz
 | .ss c s lo hi z=>c=true→kl s lo hi=some z
 | .ct c s u z=>c=true→zC s u=some z
 | .eq t ks=>EqOk t ks
 | .cl c f pargs r=>c=true→PF f pargs r
 | .cv c pf pargs r=>c=true→PFV pf pargs r
 | .ci c p name pargs r=>c=true→PFI p name pargs r
 | .ta T p r=>SX.ta T p=some r
def FOk:List (Nat×Fct)→Prop
 | []=>True
 | f::l=>f.2.ok∧FOk l
theorem bL:FOk []:=trivial
section
variable {F:List (Nat×Fct)} {c:Bool} {α:Type} {xs zs:List α} {i lo hi b:Int} {m:α}
theorem mY (k:Nat) (e:α→List PV) (hm:c=true→idx xs i=some m) (h:FOk F):FOk ((k,.ix c (List.map e xs) i (e m))::F):=⟨fun hc=>by
 obtain ⟨h0,hmm⟩:=iN (hm hc)
 unfold idx;rw [if_pos h0,List.getElem?_map,hmm];rfl,h⟩
theorem fG (k:Nat) (e:α→List PV) (hm:idx xs i=some m) (h:FOk F):FOk ((k,.ix true (List.map e xs) i (e m))::F):=mY k e (fun _=>hm) h
theorem sW (k:Nat) (e:α→List PV) {cs:List PV} (he:e m=cs) (hm:idx xs i=some m) (h:FOk F):FOk ((k,.ix true (List.map e xs) i cs)::F):=by subst he;exact fG k e hm h
theorem fosxg (k:Nat) {s:ByteArray} {u:UInt8} (hm:c=true→idx s.data.toList i=some u) (h:FOk F):FOk ((k,.sx c s i u)::F):=⟨hm,h⟩
theorem fosx (k:Nat) {s:ByteArray} {u:UInt8} (hm:idx s.data.toList i=some u) (h:FOk F):FOk ((k,.sx true s i u)::F):=⟨fun _=>hm,h⟩
theorem zL (k:Nat) {u:Unit} (hm:SX.nz b=some u) (h:FOk F):FOk ((k,.nz true b)::F):=⟨fun _=>nz_some hm,h⟩
theorem uk (k:Nat) {u:Unit} (hm:lv b=some u) (h:FOk F):FOk ((k,.ge true b)::F):=⟨fun _=>iO hm,h⟩
theorem foslg (k:Nat) (e:α→List PV) (sz:Nat) (hw:∀ m,(e m).length=sz) (hm:c=true→sub xs lo hi=some zs) (h:FOk F):FOk ((k,.sl c (List.map e xs) lo hi (List.map e zs) zs.length sz)::F):=⟨⟨fun hc=>by
 obtain ⟨h1,rfl⟩:=ft (hm hc)
 unfold sub;rw [if_pos (by rw [List.length_map];exact h1),List.map_drop,List.map_take],by rw [List.length_map],fun cs hcs=>by obtain ⟨x,_,rfl⟩:=List.mem_map.1 hcs;exact hw x⟩,h⟩
theorem fosl (k:Nat) (e:α→List PV) (sz:Nat) (hw:∀ m,(e m).length=sz) (hm:sub xs lo hi=some zs) (h:FOk F):FOk ((k,.sl true (List.map e xs) lo hi (List.map e zs) zs.length sz)::F):=foslg k e sz hw (fun _=>hm) h
theorem fossg (k:Nat) {s z:ByteArray} (hm:c=true→kl s lo hi=some z) (h:FOk F):FOk ((k,.ss c s lo hi z)::F):=⟨hm,h⟩
theorem foss (k:Nat) {s z:ByteArray} (hm:kl s lo hi=some z) (h:FOk F):FOk ((k,.ss true s lo hi z)::F):=⟨fun _=>hm,h⟩
theorem foeq (k:Nat) {t:Nat} {ks:List Nat} (hm:EqOk t ks) (h:FOk F):FOk ((k,.eq t ks)::F):=⟨hm,h⟩
theorem bR (k:Nat) {f:Nat} {pargs:List PV} {r:PV} (hm:PF f pargs r) (h:FOk F):FOk ((k,.cl true f pargs r)::F):=⟨fun _=>hm,h⟩
theorem gC (k:Nat) {f:Nat} {pargs:List PV} {r:PV} (hm:c=true→PF f pargs r) (h:FOk F):FOk ((k,.cl c f pargs r)::F):=⟨hm,h⟩
theorem foci (k:Nat) {p:PV} {name:String} {pargs:List PV} {r:PV} (hm:PFI p name pargs r) (h:FOk F):FOk ((k,.ci true p name pargs r)::F):=⟨fun _=>hm,h⟩
theorem fota (k:Nat) {T:Nat} {p r:PV} (hm:SX.ta T p=some r) (h:FOk F):FOk ((k,.ta T p r)::F):=⟨hm,h⟩
theorem xn (k:Nat) {pf:PV} {pargs:List PV} {r:PV} (hm:PFV pf pargs r) (h:FOk F):FOk ((k,.cv true pf pargs r)::F):=⟨fun _=>hm,h⟩
theorem focvg (k:Nat) {pf:PV} {pargs:List PV} {r:PV} (hm:c=true→PFV pf pargs r) (h:FOk F):FOk ((k,.cv c pf pargs r)::F):=⟨hm,h⟩
end
inductive Eqn where
 | n (a:Nat)
 | b (a:Bool)
 | i (a:Int)
 | p (a:PV)
 | l (a:List PV)
 | q (a:List (List PV))
 | s (a:ByteArray)
 | m (a:String)
abbrev StepR:=PV×List Eqn×List Eqn
def xo (σ:PEnv) (c:Bool) (t:Nat) (p:PV) (lo hi:Option Operand):Fct→Option StepR
 | .sl c' css l h zss m sz=>(match em t,p with
  | some (.slice E),.slc mm css'=>(match fC E with
   | some (_,sz',_)=>(match lo,hi with
    | none,some y=>(match bj σ y with | .v (.int _ b)=>some (.slc m zss,[.b c',.q css,.i l,.i h,.n sz],[.b c,.q css',.i 0,.i b,.n sz']) | _=>none)
    | some x,none=>(match bj σ x with | .v (.int _ a)=>some (.slc m zss,[.b c',.q css,.i l,.i h,.n sz],[.b c,.q css',.i a,.i (mm:Int),.n sz']) | _=>none)
    | _,_=>none)
   | none=>none)
  | _,_=>none)
 | .ss c' s l h z=>(match em t,p with
  | some .string,.v (.string s')=>(match lo,hi with
   | none,some y=>(match bj σ y with | .v (.int _ b)=>some (.v (.string z),[.b c',.s s,.i l,.i h],[.b c,.s s',.i 0,.i b]) | _=>none)
   | some x,none=>(match bj σ x with | .v (.int _ a)=>some (.v (.string z),[.b c',.s s,.i l,.i h],[.b c,.s s',.i a,.i (s'.size:Int)]) | _=>none)
   | some x,some y=>(match bj σ x,bj σ y with | .v (.int _ a),.v (.int _ b)=>some (.v (.string z),[.b c',.s s,.i l,.i h],[.b c,.s s',.i a,.i b]) | _,_=>none)
   | none,none=>none)
  | _,_=>none)
 | _=>none
def Bx (σ:PEnv) (c:Bool):Op→Fct→Option StepR
 | .indexAddr t x y,.ix c' css i cs=>(match em t,bj σ x,bj σ y with
  | some (.slice E),.slc _ css',.v (.int _ i')=>(match fC E with | some (_,sz,_)=>some (.ref cs 0,[.b c',.q css,.i i,.n cs.length],[.b c,.q css',.i i',.n sz]) | none=>none)
  | _,_,_=>none)
 | .index t x y,.sx c' s i u=>(match em t,bj σ x,bj σ y with
  | some .string,.v (.string s'),.v (.int _ i')=>some (.v (.int .u8 (u.toNat:Int)),[.b c',.s s,.i i],[.b c,.s s',.i i'])
  | _,_,_=>none)
 | .binOp .quo _ x y _,.nz c' b=>(match bj σ x,bj σ y with
  | .v (.int k a),.v (.int k' b')=>cond (Nat.beq (uW k) (uW k')) (some (.v (.int k (k.wrap (a.tdiv b))),[.b c',.i b],[.b c,.i b'])) none
  | _,_=>none)
 | .binOp .rem _ x y _,.nz c' b=>(match bj σ x,bj σ y with
  | .v (.int k a),.v (.int k' b')=>cond (Nat.beq (uW k) (uW k')) (some (.v (.int k (a.tmod b)),[.b c',.i b],[.b c,.i b'])) none
  | _,_=>none)
 | .binOp .shl _ x y _,.ge c' b=>(match bj σ x,bj σ y with
  | .v (.int k a),.v (.int _ b')=>some (.v (.int k (gp k a b)),[.b c',.i b],[.b c,.i b'])
  | _,_=>none)
 | .binOp .shr _ x y _,.ge c' b=>(match bj σ x,bj σ y with
  | .v (.int k a),.v (.int _ b')=>some (.v (.int k (cD k a b)),[.b c',.i b],[.b c,.i b'])
  | _,_=>none)
 | .binOp .add _ x y _,.ct c' s u z=>(match bj σ x,bj σ y with
  | .v (.string s'),.v (.string u')=>some (.v (.string z),[.b c',.s s,.s u],[.b c,.s s',.s u'])
  | _,_=>none)
 | .binOp .eql t x y _,.eq t' ks=>(match bj σ x,bj σ y with
  | .agg cs,.agg ds=>(match Bm cs,Bm ds with
   | some xs,some ys=>(match vH ks xs ys with | some r=>some (.v (.bool r),[.n t'],[.n t]) | none=>none)
   | _,_=>none)
  | _,_=>none)
 | .binOp .neq t x y _,.eq t' ks=>(match bj σ x,bj σ y with
  | .agg cs,.agg ds=>(match Bm cs,Bm ds with
   | some xs,some ys=>(match vH ks xs ys with | some r=>some (.v (.bool !r),[.n t'],[.n t]) | none=>none)
   | _,_=>none)
  | _,_=>none)
 | .slice t x lo hi none,f=>xo σ c t (bj σ x) lo hi f
 | .typeAssert x _ T true,.ta T' p r=>(match em T with
  | some d=>cond (!vI d&&(fC T).isSome) (some (r,[.n T',.p p],[.n T,.p (bj σ x)])) none
  | none=>none)
 | _,_=>none
section
variable {o:Oper} {σ:PEnv} {ρ:List PRes} {x y:Operand} {t:Nat} {k:IntKind} {a b:Int} {css zss:List (List PV)}
theorem zM {E sz by' mm:Nat} {z:Value} {cs:List PV} (ho:o.op=.indexAddr t x y) (hu:em t=some (.slice E)) (hi:fC E=some (z,sz,by')) (hw:cs.length=sz) (hx:bj σ x=.slc mm css) (hy:bj σ y=.v (.int k a)) (hm:idx css a=some cs):POpQ true o σ ρ (.ref cs 0):=fun κ σ' ρ' g hs hrr=>by
 obtain ⟨h0,hcs⟩:=iN hm
 have h:=hs.ev x
 rw [hx] at h
 generalize he:ev σ' x=w at h
 cases h with
 | slc hsl hb h1 hss =>
  rename_i ad cp sz' dss
  obtain ⟨ds,hd,hds⟩:=hss.get hcs
  have hlt:a.toNat<mm:=by rw [← hsl.len];exact (List.getElem?_eq_some_iff.1 hd).1
  obtain ⟨bb,off,ha,hsh⟩:=hsl.at_ (by omega)
  have hwid:sz'=sz:=by
   have e1:=hsl.wid ds (List.mem_of_getElem? hd)
   have e2:=hds.len
   omega
  subst hwid
  have h2:=mT (c:=true) (ρ:=ρ') (κ:=κ) (j:=a.toNat) ho hu hi (.p (by rw [he,ha])) (.p (hs.v1 hy)) (fun _=>by omega) (fun _=>hlt)
  exact ⟨_,fun _=>by have:=Rp.ref (k:=0) (hsh _ _ hd) (h1 ds (List.mem_of_getElem? hd)) hds;rwa [Nat.add_zero] at this,h2⟩
theorem vM {κ:Kr} {sz:Nat}:∀ {css:List (List PV)} {dss:List (List Value)},(∀ cs∈css,cs.length=sz)→Rpss κ css dss→∀ ds∈dss,ds.length=sz
 | _,_,_,.nil,ds,hd=>by cases hd
 | _,_,hw,.cons h hs,ds,hd=>by
  rcases List.mem_cons.1 hd with rfl | hd
  ·rw [← h.len];exact hw _ (by simp)
  exact vM (fun c hc=>hw c (by simp [hc])) hs ds hd
theorem xp {E sz by' mm:Nat} {z:Value} (ho:o.op=.slice t x none (some y) none) (hu:em t=some (.slice E)) (hi:fC E=some (z,sz,by')) (hx:bj σ x=.slc mm css) (hy:bj σ y=.v (.int k b)) (hm:sub css 0 b=some zss):POpQ true o σ ρ (.slc zss.length zss):=fun κ σ' ρ' g hs hrr=>by
 obtain ⟨⟨h0,h1,h2⟩,rfl⟩:=ft hm
 have h:=hs.ev x
 rw [hx] at h
 generalize he:ev σ' x=w at h
 cases h with
 | slc hsl hb ho1 hss =>
  rename_i ad cp sz' dss
  have hl:css.length=mm:=by rw [← hsl.len,← hss.len]
  have hcap:=hsl.cap
  have hzl:((css.take b.toNat).drop (0:Int).toNat).length=b.toNat:=by simp;omega
  rw [hzl]
  refine ⟨.slice ad b.toNat cp,fun _=>?_,nO (c:=true) (k:=b.toNat) ho hu hi (.p he) (.p (hs.v1 hy)) (fun _=>by omega) (fun _=>by omega)⟩
  have:=Rp.slc (hsl.take (m:=b.toNat) (by omega)) (by omega) (vE ho1 fun d hd=>List.mem_of_mem_take hd) (hss.take b.toNat)
  simpa using this
theorem xq {E sz by' mm:Nat} {z:Value} (ho:o.op=.slice t x (some y) none none) (hu:em t=some (.slice E)) (hi:fC E=some (z,sz,by')) (hw:∀ cs∈css,cs.length=sz) (hx:bj σ x=.slc mm css) (hy:bj σ y=.v (.int k a)) (hm:sub css a (mm:Int)=some zss):POpQ true o σ ρ (.slc zss.length zss):=fun κ σ' ρ' g hs hrr=>by
 obtain ⟨⟨h0,h1,h2⟩,rfl⟩:=ft hm
 have h:=hs.ev x
 rw [hx] at h
 generalize he:ev σ' x=w at h
 cases h with
 | slc hsl hb ho1 hss =>
  rename_i ad cp sz' dss
  have hl:css.length=mm:=by rw [← hsl.len,← hss.len]
  have hcap:=hsl.cap
  have hq:=qW (c:=true) (ρ:=ρ') (κ:=κ) (k:=a.toNat) ho hu hi (.p he) (.p (hs.v1 hy)) (fun _=>by omega) (fun _=>by omega)
  have hd:=hsl.dropT (m:=a.toNat) (by omega)
  have e2:List.drop a.toNat (List.take (mm:Int).toNat css)=css.drop a.toNat:=by rw [Int.toNat_natCast,← hl,List.take_length]
  rw [e2]
  have hzl:(css.drop a.toNat).length=mm - a.toNat:=by simp [hl]
  rw [hzl]
  by_cases hz:mm - a.toNat=0
  ·refine ⟨_,fun _=>?_,hq⟩
   have e3:css.drop a.toNat=[]:=List.drop_of_length_le (by omega)
   rw [e3]
   exact .slc (sz:=sz) (css:=[]) ⟨by simp [hz],by omega,by simp,fun h=>absurd h (by omega)⟩ (by omega) (fun _ h=>by cases h) .nil
  have hszz:sz'=sz:=by
   have hlen:=hsl.len
   match dss,hlen with
   | [],hlen=>simp only [List.length_nil] at hlen;omega
   | d::ds,_=>rw [← hsl.wid d (by simp),vM hw hss d (by simp)]
  subst hszz
  exact ⟨_,fun _=>Rp.slc hd (by omega) (vE ho1 fun d hd=>List.mem_of_mem_drop hd) (hss.drop a.toNat),hq⟩
end
theorem zN {o:Oper} {σ:PEnv} {ρ:List PRes} {c:Bool} {x:Operand} {t:Nat} {lo hi:Option Operand} {f:Fct} {p:PV} {L R:List Eqn} (ho:o.op=.slice t x lo hi none) (h:xo σ c t (bj σ x) lo hi f=some (p,L,R)) (he:L=R) (hf:f.ok) (hc:c=true):POpQ true o σ ρ p:=by
 unfold xo at h
 split at h
 ·rename_i c' css l hh zss m sz
  split at h
  ·rename_i E mm css' hu hx
   split at h
   ·rename_i z sz' by' hi'
    split at h
    ·rename_i y
     split at h
     ·rename_i k b hy
      simp only [dR,Prod.mk.injEq] at h;obtain ⟨rfl,rfl,rfl⟩:=h
      simp only [List.cons.injEq,Eqn.b.injEq,Eqn.q.injEq,Eqn.i.injEq,Eqn.n.injEq,and_true] at he
      obtain ⟨rfl,rfl,rfl,rfl,rfl⟩:=he
      obtain ⟨h1,rfl,h3⟩:=hf
      exact xp ho hu hi' hx hy (h1 hc)
     cases h
    ·rename_i y
     split at h
     ·rename_i k b hy
      simp only [dR,Prod.mk.injEq] at h;obtain ⟨rfl,rfl,rfl⟩:=h
      simp only [List.cons.injEq,Eqn.b.injEq,Eqn.q.injEq,Eqn.i.injEq,Eqn.n.injEq,and_true] at he
      obtain ⟨rfl,rfl,rfl,rfl,rfl⟩:=he
      obtain ⟨h1,rfl,h3⟩:=hf
      exact xq ho hu hi' h3 hx hy (h1 hc)
     cases h
    cases h
   cases h
  cases h
 ·rename_i c' s l hh z
  split at h
  ·rename_i s' hu hx
   split at h
   ·split at h
    ·rename_i hy
     simp only [dR,Prod.mk.injEq] at h;obtain ⟨rfl,rfl,rfl⟩:=h
     simp only [List.cons.injEq,Eqn.b.injEq,Eqn.s.injEq,Eqn.i.injEq,and_true] at he
     obtain ⟨rfl,rfl,rfl,rfl⟩:=he
     exact xh ho hu (.p hx) (.p hy) (fun _=>hf hc)
    cases h
   ·split at h
    ·rename_i hy
     simp only [dR,Prod.mk.injEq] at h;obtain ⟨rfl,rfl,rfl⟩:=h
     simp only [List.cons.injEq,Eqn.b.injEq,Eqn.s.injEq,Eqn.i.injEq,and_true] at he
     obtain ⟨rfl,rfl,rfl,rfl⟩:=he
     exact xi ho hu (.p hx) (.p hy) (fun _=>hf hc)
    cases h
   ·split at h
    ·rename_i hy hy2
     simp only [dR,Prod.mk.injEq] at h;obtain ⟨rfl,rfl,rfl⟩:=h
     simp only [List.cons.injEq,Eqn.b.injEq,Eqn.s.injEq,Eqn.i.injEq,and_true] at he
     obtain ⟨rfl,rfl,rfl,rfl⟩:=he
     exact vF ho hu (.p hx) (.p hy) (.p hy2) (fun _=>hf hc)
    cases h
   cases h
  cases h
 cases h
theorem By {o:Oper} {σ:PEnv} {ρ:List PRes} {c:Bool} {f:Fct} {p:PV} {L R:List Eqn} (h:Bx σ c o.op f=some (p,L,R)) (he:L=R) (hf:f.ok) (hc:c=true):POpQ true o σ ρ p:=by
 generalize ho:o.op=op at h
 unfold Bx at h
 split at h
 ·split at h
  ·rename_i hu hx hy
   split at h
   ·rename_i hi
    simp only [dR,Prod.mk.injEq] at h;obtain ⟨rfl,rfl,rfl⟩:=h
    simp only [List.cons.injEq,Eqn.b.injEq,Eqn.q.injEq,Eqn.i.injEq,Eqn.n.injEq,and_true] at he
    obtain ⟨rfl,rfl,rfl,h4⟩:=he
    exact zM ho hu hi h4 hx hy (hf hc)
   cases h
  cases h
 ·split at h
  ·rename_i hu hx hy
   simp only [dR,Prod.mk.injEq] at h;obtain ⟨rfl,rfl,rfl⟩:=h
   simp only [List.cons.injEq,Eqn.b.injEq,Eqn.s.injEq,Eqn.i.injEq,and_true] at he
   obtain ⟨rfl,rfl,rfl⟩:=he
   exact zA ho hu (.p hx) (.p hy) (fun _=>hf hc)
  cases h
 ·split at h
  ·rename_i k a k' b' hx hy
   cases hk:Nat.beq (uW k) (uW k')
   ·rw [hk] at h;cases h
   rw [hk] at h;have:=qq hk;subst this
   simp only [cK,dR,Prod.mk.injEq] at h;obtain ⟨rfl,rfl,rfl⟩:=h
   simp only [List.cons.injEq,Eqn.b.injEq,Eqn.i.injEq,and_true] at he
   obtain ⟨rfl,rfl⟩:=he
   exact Bf ho (.p hx) (.p hy) (fun _=>hf hc)
  cases h
 ·split at h
  ·rename_i k a k' b' hx hy
   cases hk:Nat.beq (uW k) (uW k')
   ·rw [hk] at h;cases h
   rw [hk] at h;have:=qq hk;subst this
   simp only [cK,dR,Prod.mk.injEq] at h;obtain ⟨rfl,rfl,rfl⟩:=h
   simp only [List.cons.injEq,Eqn.b.injEq,Eqn.i.injEq,and_true] at he
   obtain ⟨rfl,rfl⟩:=he
   exact Bg ho (.p hx) (.p hy) (fun _=>hf hc)
  cases h
 ·split at h
  ·rename_i hx hy
   simp only [dR,Prod.mk.injEq] at h;obtain ⟨rfl,rfl,rfl⟩:=h
   simp only [List.cons.injEq,Eqn.b.injEq,Eqn.i.injEq,and_true] at he
   obtain ⟨rfl,rfl⟩:=he
   exact ra ho (.p hx) (.p hy) (fun _=>hf hc) rfl
  cases h
 ·split at h
  ·rename_i hx hy
   simp only [dR,Prod.mk.injEq] at h;obtain ⟨rfl,rfl,rfl⟩:=h
   simp only [List.cons.injEq,Eqn.b.injEq,Eqn.i.injEq,and_true] at he
   obtain ⟨rfl,rfl⟩:=he
   exact ra ho (.p hx) (.p hy) (fun _=>hf hc) rfl
  cases h
 ·split at h
  ·rename_i hx hy
   simp only [dR,Prod.mk.injEq] at h;obtain ⟨rfl,rfl,rfl⟩:=h
   simp only [List.cons.injEq,Eqn.b.injEq,Eqn.s.injEq,and_true] at he
   obtain ⟨rfl,rfl,rfl⟩:=he
   exact pq_catT ho (.p hx) (.p hy) (fun _=>hf hc)
  cases h
 ·split at h
  ·rename_i hx hy
   split at h
   ·rename_i h5 h6
    split at h
    ·rename_i r hr
     simp only [dR,Prod.mk.injEq] at h;obtain ⟨rfl,rfl,rfl⟩:=h
     simp only [List.cons.injEq,Eqn.n.injEq,and_true] at he
     subst he
     exact yx _ ho hf.h1 hf.h2 hf.h3 hf.h4 (.p hx) (.p hy) h5 h6 hr rfl
    cases h
   cases h
  cases h
 ·split at h
  ·rename_i hx hy
   split at h
   ·rename_i h5 h6
    split at h
    ·rename_i r hr
     simp only [dR,Prod.mk.injEq] at h;obtain ⟨rfl,rfl,rfl⟩:=h
     simp only [List.cons.injEq,Eqn.n.injEq,and_true] at he
     subst he
     exact yx _ ho hf.h1 hf.h2 hf.h3 hf.h4 (.p hx) (.p hy) h5 h6 hr rfl
    cases h
   cases h
  cases h
 ·exact zN ho h he hf hc
 ·split at h
  ·rename_i d hu
   cases hb:(!vI d&&(fC _).isSome)
   ·rw [hb] at h;cases h
   rw [hb] at h
   simp only [cK,dR,Prod.mk.injEq] at h;obtain ⟨rfl,rfl,rfl⟩:=h
   simp only [List.cons.injEq,Eqn.n.injEq,Eqn.p.injEq,and_true] at he
   obtain ⟨rfl,h2⟩:=he
   simp only [Bool.and_eq_true,Bool.not_eq_true'] at hb
   exact pq_ta ho hu hb.1 hb.2 h2.symm hf
  cases h
 cases h
def gL (l:List (Bool×Bool)):List Eqn:=l.map fun z=>.b z.1
def gR (l:List (Bool×Bool)):List Eqn:=l.map fun z=>.b z.2
theorem gLR:∀ {l:List (Bool×Bool)},gL l=gR l→AllEq l
 | [],_=>AllEq.nil
 | (a,b)::l,h=>by
  simp only [gL,gR,List.map_cons,List.cons.injEq,Eqn.b.injEq] at h
  have:=gLR (l:=l) h.2
  unfold AllEq at this ⊢
  simp only [List.map_cons,h.1,this]
theorem Bz {l:List (Bool×Bool)}:(gL l).length=(gR l).length:=by simp [gL,gR]
def mZ:Op→Bool
 | .call ⟨.value _,_,_⟩=>true
 | .call ⟨.invoke _ _,_,_⟩=>true
 | _=>false
abbrev StepO:=Option (PV×Bool×List Eqn×List Eqn)
def rq (σ:PEnv) (G:List (Nat×GE)) (ρ:List PRes) (gs:List Bool) (at_:Nat) (op:Op):StepO :=
 match qx (mI σ G (fM op.operands.toList) gs) ρ at_ op with
 | some (p,none)=>some (p,false,gL (jV G gs (fM op.operands.toList)),gR (jV G gs (fM op.operands.toList)))
 | some (p,some (b,b'))=>some (p,true,gL (jV G gs (fM op.operands.toList))++[.n b],gR (jV G gs (fM op.operands.toList))++[.n b'])
 | none=>none
def BA (σ:PEnv) (G:List (Nat×GE)) (gs:List Bool) (op:Op) (cal:Operand) (ags:List Operand):Fct→StepO
 | .cl c f pargs r=>(match cal with
  | .func f'=>some (r,false,gL (jV G gs (fM op.operands.toList))++[.b c,.n f,.l pargs],gR (jV G gs (fM op.operands.toList))++[.b (gs.headD true),.n f',.l (ags.map (bj (mI σ G (fM op.operands.toList) gs)))])
  | _=>none)
 | .cv c pf pargs r=>some (r,false,gL (jV G gs (fM op.operands.toList))++[.b c,.p pf,.l pargs],gR (jV G gs (fM op.operands.toList))++[.b (gs.headD true),.p (bj (mI σ G (fM op.operands.toList) gs) cal),.l (ags.map (bj (mI σ G (fM op.operands.toList) gs)))])
 | _=>none
def invx (σ:PEnv) (G:List (Nat×GE)) (gs:List Bool) (op:Op) (x:Operand) (name:String) (ags:List Operand):Fct→StepO
 | .ci c p name' pargs r=>some (r,false,gL (jV G gs (fM op.operands.toList))++[.b c,.p p,.m name',.l pargs],gR (jV G gs (fM op.operands.toList))++[.b (gs.headD true),.p (bj (mI σ G (fM op.operands.toList) gs) x),.m name,.l (ags.map (bj (mI σ G (fM op.operands.toList) gs)))])
 | _=>none
def BB (σ:PEnv) (G:List (Nat×GE)) (ρ:List PRes) (gs:List Bool) (at_:Nat) (fo:Option Fct) (op:Op):StepO :=
 match fo with
 | some f=>(match op with
  | .call ⟨.value cal,⟨ags⟩,ts⟩=>BA σ G gs (.call ⟨.value cal,⟨ags⟩,ts⟩) cal ags f
  | .call ⟨.invoke x name,⟨ags⟩,ts⟩=>invx σ G gs (.call ⟨.invoke x name,⟨ags⟩,ts⟩) x name ags f
  | op=>(match Bx (mI σ G (fM op.operands.toList) gs) (gs.headD true) op f with
   | some (p,L,R)=>some (p,false,gL (jV G gs (fM op.operands.toList))++L,gR (jV G gs (fM op.operands.toList))++R)
   | none=>none))
 | none=>(match op with
  | .pick cc a b=>(match Bv σ G gs cc a b with | some (p,l)=>some (p,false,gL l,gR l) | none=>none)
  | op=>rq σ G ρ gs at_ op)
def POpG (c:Bool) (o:Oper) (σ:PEnv) (r:PV):Prop:=∀ κ σ' ρ' (KK:Value→Kr→Prop),GOK κ→Sim κ σ σ'→(∀ v κ',Kle κ κ'→(c=true→Rp κ' r v)→KK v κ')→OpG c o σ' ρ' κ KK
theorem vN {a b l m:List Eqn} (h:a++l=b++m) (hl:a.length=b.length):a=b∧l=m:=List.append_inj h hl
theorem popg_cl {o:Oper} {σ:PEnv} {G:List (Nat×GE)} {gs:List Bool} {ts:List Nat} {f:Nat} {ags:List Operand} {at_:Array Nat} {pargs:List PV} {r:PV} (ho:o.op=.call { callee:=.value (.func f),args:=ags.toArray,argTypes:=at_ }) (hi:GInv σ G) (ha:AllEq (jV G gs ts)) (hk:StackOk gs) (hp:pargs=ags.map (bj (mI σ G ts gs))) (hc:gs.headD true=true→PF f pargs r):POpG (gs.headD true) o σ r:=fun κ σ' ρ' KK g hs h =>
 vd ho (fun _=>rfl) (fun hct=>hc hct κ _ g (by rw [hp];exact gV (oE hs hi ha hk hct) ags)) h
theorem popg_cv {o:Oper} {σ:PEnv} {G:List (Nat×GE)} {gs:List Bool} {ts:List Nat} {x:Operand} {ags:List Operand} {at_:Array Nat} {pf:PV} {pargs:List PV} {r:PV} (ho:o.op=.call { callee:=.value x,args:=ags.toArray,argTypes:=at_ }) (hi:GInv σ G) (ha:AllEq (jV G gs ts)) (hk:StackOk gs) (hx:pf=bj (mI σ G ts gs) x) (hp:pargs=ags.map (bj (mI σ G ts gs))) (hc:gs.headD true=true→PFV pf pargs r):POpG (gs.headD true) o σ r:=fun κ σ' ρ' KK g hs h=>by
 refine ⟨fun hct=>?_,fun hcf=>h undef κ (.refl _) fun h=>by rw [hcf] at h;cases h⟩
 have hs':=oE hs hi ha hk hct
 obtain ⟨f,first,cap,h1,h2⟩:=hc hct κ _ _ g (by rw [hx];exact hs'.ev x) (by rw [hp];exact gV hs' ags)
 exact zj ho h1 rfl h2 fun v κ' hk hv=>⟨rfl,h v κ' hk fun _=>hv⟩
theorem popg_ci {o:Oper} {σ:PEnv} {G:List (Nat×GE)} {gs:List Bool} {ts:List Nat} {x:Operand} {name:String} {ags:List Operand} {at_:Array Nat} {p:PV} {pargs:List PV} {r:PV} (ho:o.op=.call { callee:=.invoke x name,args:=ags.toArray,argTypes:=at_ }) (hi:GInv σ G) (ha:AllEq (jV G gs ts)) (hk:StackOk gs) (hx:p=bj (mI σ G ts gs) x) (hp:pargs=ags.map (bj (mI σ G ts gs))) (hc:gs.headD true=true→PFI p name pargs r):POpG (gs.headD true) o σ r:=fun κ σ' ρ' KK g hs h=>by
 refine ⟨fun hct=>?_,fun hcf=>h undef κ (.refl _) fun h=>by rw [hcf] at h;cases h⟩
 have hs':=oE hs hi ha hk hct
 obtain ⟨t,q,f,e1,hm,hf⟩:=hc hct
 have hv:=hs'.ev x
 rw [← hx,e1] at hv
 generalize he:ev σ' x=w at hv
 cases hv with
 | ifc hv=>exact rl ho he hm (hf κ _ g (.cons hv (by rw [hp];exact gV hs' ags))) fun v κ' hk hv=>⟨rfl,h v κ' hk fun _=>hv⟩
theorem zO {o:Oper} {σ:PEnv} {G:List (Nat×GE)} {ρ:List PRes} {gs:List Bool} {k:Nat} {p:PV} {u:Bool} {L R:List Eqn} (hi:GInv σ G) (hk:StackOk gs) (h:rq σ G ρ gs k o.op=some (p,u,L,R)) (he:L=R):POpQ (gs.headD true) o σ ρ p:=by
 unfold rq at h
 split at h
 ·rename_i p' hq
  simp only [dR,Prod.mk.injEq] at h;obtain ⟨rfl,_,rfl,rfl⟩:=h
  exact oY (fun _=>qx_ok hq (fun _ _ e=>by cases e)) hi (gLR he) hk
 ·rename_i p' b b' hq
  simp only [dR,Prod.mk.injEq] at h;obtain ⟨rfl,_,rfl,rfl⟩:=h
  obtain ⟨h1,h2⟩:=vN he Bz
  simp only [List.cons.injEq,Eqn.n.injEq,and_true] at h2
  exact oY (fun _=>qx_ok hq (fun _ _ e=>by simp only [dR,Prod.mk.injEq] at e;rw [← e.1,← e.2];exact h2)) hi (gLR h1) hk
 cases h
theorem BC {o:Oper} {σ:PEnv} {G:List (Nat×GE)} {gs:List Bool} {cal:Operand} {ags:List Operand} {ts:Array Nat} {f:Fct} {p:PV} {u:Bool} {L R:List Eqn} (ho:o.op=.call ⟨.value cal,⟨ags⟩,ts⟩) (hi:GInv σ G) (hk:StackOk gs) (h:BA σ G gs (.call ⟨.value cal,⟨ags⟩,ts⟩) cal ags f=some (p,u,L,R)) (he:L=R) (hf:f.ok):POpG (gs.headD true) o σ p:=by
 unfold BA at h
 split at h
 ·split at h
  ·simp only [dR,Prod.mk.injEq] at h;obtain ⟨rfl,_,rfl,rfl⟩:=h
   obtain ⟨h1,h2⟩:=vN he Bz
   simp only [List.cons.injEq,Eqn.n.injEq,Eqn.b.injEq,Eqn.l.injEq,and_true] at h2
   obtain ⟨h3,h4,h5⟩:=h2
   subst h4
   exact popg_cl ho hi (gLR h1) hk h5 (fun hc=>hf (by rw [h3];exact hc))
  cases h
 ·simp only [dR,Prod.mk.injEq] at h;obtain ⟨rfl,_,rfl,rfl⟩:=h
  obtain ⟨h1,h2⟩:=vN he Bz
  simp only [List.cons.injEq,Eqn.p.injEq,Eqn.b.injEq,Eqn.l.injEq,and_true] at h2
  obtain ⟨h3,h4,h5⟩:=h2
  exact popg_cv ho hi (gLR h1) hk h4 h5 (fun hc=>hf (by rw [h3];exact hc))
 cases h
theorem invx_ok {o:Oper} {σ:PEnv} {G:List (Nat×GE)} {gs:List Bool} {x:Operand} {name:String} {ags:List Operand} {ts:Array Nat} {f:Fct} {p:PV} {u:Bool} {L R:List Eqn} (ho:o.op=.call ⟨.invoke x name,⟨ags⟩,ts⟩) (hi:GInv σ G) (hk:StackOk gs) (h:invx σ G gs (.call ⟨.invoke x name,⟨ags⟩,ts⟩) x name ags f=some (p,u,L,R)) (he:L=R) (hf:f.ok):POpG (gs.headD true) o σ p:=by
 unfold invx at h
 split at h
 ·simp only [dR,Prod.mk.injEq] at h;obtain ⟨rfl,_,rfl,rfl⟩:=h
  obtain ⟨h1,h2⟩:=vN he Bz
  simp only [List.cons.injEq,Eqn.p.injEq,Eqn.b.injEq,Eqn.l.injEq,Eqn.m.injEq,and_true] at h2
  obtain ⟨h3,h4,h5,h6⟩:=h2
  subst h5
  exact popg_ci ho hi (gLR h1) hk h4 h6 (fun hc=>hf (by rw [h3];exact hc))
 cases h
theorem BD {o:Oper} {σ:PEnv} {G:List (Nat×GE)} {ρ:List PRes} {gs:List Bool} {k:Nat} {fo:Option Fct} {p:PV} {u:Bool} {L R:List Eqn} (hi:GInv σ G) (hk:StackOk gs) (h:BB σ G ρ gs k fo o.op=some (p,u,L,R)) (he:L=R) (hf:∀ f,fo=some f→f.ok):(mZ o.op=false∧POpQ (gs.headD true) o σ ρ p)∨(mZ o.op=true∧POpG (gs.headD true) o σ p):=by
 unfold BB at h
 split at h
 ·rename_i f
  split at h
  ·rename_i cal ags ts ho
   exact .inr ⟨by rw [ho];rfl,BC ho hi hk h he (hf f rfl)⟩
  ·rename_i x name ags ts ho
   exact .inr ⟨by rw [ho];rfl,invx_ok ho hi hk h he (hf f rfl)⟩
  rename_i hnc hnc2
  split at h
  ·rename_i p' L' R' hq
   simp only [dR,Prod.mk.injEq] at h;obtain ⟨rfl,_,rfl,rfl⟩:=h
   obtain ⟨h1,h2⟩:=vN he Bz
   refine .inl ⟨?_,oY (fun hc=>By hq h2 (hf f rfl) hc) hi (gLR h1) hk⟩
   unfold mZ
   split
   ·rename_i cal ags ts ho;exact absurd ho (hnc cal ags.toList ts)
   ·rename_i x name ags ts ho;exact absurd ho (hnc2 x name ags.toList ts)
   rfl
  cases h
 split at h
 ·rename_i cc a b ho
  split at h
  ·rename_i p' l' hp
   simp only [dR,Prod.mk.injEq] at h;obtain ⟨rfl,_,rfl,rfl⟩:=h
   exact .inl ⟨by rw [ho];rfl,Bw ho hi hk hp (gLR he)⟩
  cases h
 cases hc:mZ o.op
 ·exact .inl ⟨rfl,zO hi hk h he⟩
 exfalso
 unfold mZ at hc
 split at hc
 ·rename_i ho
  rw [ho] at h
  unfold rq at h
  simp only [qx] at h
  cases h
 ·rename_i ho
  rw [ho] at h
  unfold rq at h
  simp only [qx] at h
  cases h
 cases hc
def ul (σ:PEnv) (G:List (Nat×GE)) (d:Nat) (gs:List Bool) (p:PV):PEnv×List (Nat×GE):=match gs with
 | []=>(fD σ d p,Bt d G)
 | c::gs=>(fD σ d (pgv c p),(d,⟨c::gs,p⟩)::G)
theorem um {d t:Nat} {e:GE}:∀ {G:List (Nat×GE)},gl t (Bt d G)=some e→t≠d∧gl t G=some e
 | [],h=>by cases h
 | (k,e')::l,h=>by
  simp only [Bt] at h
  cases hd:Nat.beq d k
  ·rw [hd] at h;simp only [cA,gl] at h ⊢
   cases ht:Nat.beq t k
   ·rw [ht] at h;exact um h
   rw [ht] at h
   refine ⟨fun e=>?_,h⟩
   rw [Nat.eq_of_beq_eq_true ht] at e;rw [e] at hd;simp at hd
  rw [hd] at h;simp only [cK] at h
  obtain ⟨h1,h2⟩:=um h
  refine ⟨h1,?_⟩
  simp only [gl]
  have:Nat.beq t k=false:=by cases e:Nat.beq t k;rfl;exact absurd ((Nat.eq_of_beq_eq_true e).trans (Nat.eq_of_beq_eq_true hd).symm) h1
  rw [this];exact h2
theorem un {σ:PEnv} {d t:Nat} {p:PV} (h:t≠d):fD σ d p t=σ t:=by
 unfold fD
 have:Nat.beq t d=false:=by cases e:Nat.beq t d;rfl;exact absurd (Nat.eq_of_beq_eq_true e) h
 rw [this];rfl
theorem rt {σ:PEnv} {G:List (Nat×GE)} {d:Nat} {gs:List Bool} {p:PV} (hi:GInv σ G) (hk:StackOk gs):GInv (ul σ G d gs p).1 (ul σ G d gs p).2:=by
 unfold ul
 split
 ·intro t e h
  obtain ⟨h1,h2⟩:=um h
  simp only [un h1]
  exact hi t e h2
 rename_i c gs
 intro t e h
 simp only [gl] at h
 cases ht:Nat.beq t d
 ·rw [ht] at h
  have hne:t≠d:=fun e=>by rw [e] at ht;simp at ht
  simp only [un hne]
  exact hi t e h
 rw [ht] at h
 simp only [cK,dR] at h;subst h
 have:=Nat.eq_of_beq_eq_true ht;subst this
 refine ⟨?_,hk,by simp⟩
 simp only [fD,Nat.beq_refl,cK,List.headD_cons]
theorem ru {σ:PEnv} {G:List (Nat×GE)} {d:Nat} {gs:List Bool} {p:PV}:(ul σ G d gs p).1=fD σ d (pgv (gs.headD true) p):=by
 unfold ul;split
 ·rw [List.headD_nil,kh]
 rfl
structure RunR where
 σ:PEnv
 L:List Eqn
 R:List Eqn
def yC (i:Nat):List (Nat×Fct)→Option Fct
 | (k,f)::_=>cond (Nat.beq k i) (some f) none
 | []=>none
def oF (n:Nat) (ops:Array Oper) (ρ:List PRes):List Oper→Nat→List Nat→List (Nat×Fct)→PEnv→List (Nat×GE)→Option RunR
 | [],_,_,_,σ,_=>some ⟨σ,[],[]⟩
 | o::l,i,H,F,σ,G=>match o.dst with
  | some d=>cond (Nat.blt d n) (match ui ops σ G o.guard with
   | some gs=>match BB σ G ρ gs (H.headD 0) (yC i F) o.op with
    | some (p,u,L,R)=>match oF n ops ρ l (i+1) (cond u H.tail H) (match yC i F with | some _=>F.tail | none=>F) (ul σ G d gs p).1 (ul σ G d gs p).2 with
     | some r=>cond (Nat.beq L.length R.length) (some ⟨r.σ,L++r.L,R++r.R⟩) none
     | none=>none
    | none=>none
   | none=>none) none
  | none=>none
theorem BE {i:Nat} {F:List (Nat×Fct)} (h:FOk F):∀ f,yC i F=some f→f.ok:=fun f hf=>by
 cases F with
 | nil=>cases hf
 | cons a l =>
  obtain ⟨k,g⟩:=a
  simp only [yC] at hf
  cases hk:Nat.beq k i
  ·rw [hk] at hf;cases hf
  rw [hk] at hf;simp only [cK,dR] at hf;subst hf;exact h.1
theorem BF {F:List (Nat×Fct)} (h:FOk F) (b:Option Fct):FOk (match b with | some _=>F.tail | none=>F):=by
 cases b with
 | none=>exact h
 | some f=>cases F with
  | nil=>exact h
  | cons a l=>exact h.2
theorem rx {n:Nat} {ops:Array Oper} {ρ:List PRes} {o:Oper} {l:List Oper} {i:Nat} {H:List Nat} {F:List (Nat×Fct)} {σ:PEnv} {G:List (Nat×GE)} {r:RunR} (h:oF n ops ρ (o::l) i H F σ G=some r) (he:r.L=r.R) (hF:FOk F) (hi:GInv σ G) :
    ∃ d gs p H' F' r',o.dst=some d∧Nat.blt d n=true∧PGuardIs ops σ o (gs.headD true)∧StackOk gs∧((mZ o.op=false∧POpQ (gs.headD true) o σ ρ p)∨(mZ o.op=true∧POpG (gs.headD true) o σ p))∧oF n ops ρ l (i+1) H' F' (ul σ G d gs p).1 (ul σ G d gs p).2=some r'∧r'.σ=r.σ∧r'.L=r'.R∧FOk F':=by
  simp only [oF] at h
  split at h
  · rename_i d hd
    cases hlt:Nat.blt d n
    · rw [hlt] at h;cases h
    rw [hlt] at h;simp only [cK] at h
    split at h
    · rename_i gs hgs
      split at h
      · rename_i p u L R hst
        split at h
        · rename_i r' hr
          cases hlen:Nat.beq L.length R.length
          · rw [hlen] at h;cases h
          rw [hlen] at h;simp only [cK,dR] at h;subst h
          obtain ⟨h1,h2⟩:=List.append_inj he (Nat.eq_of_beq_eq_true hlen)
          obtain ⟨hg,hk⟩:=zJ hi hgs
          exact ⟨d,gs,p,_,_,r',hd,hlt,hg,hk,BD hi hk hst h1 (BE hF),hr,rfl,h2,BF hF _⟩
        cases h
      cases h
    cases h
  cases h
theorem BG {n:Nat} {ops:Array Oper} {o:Oper} {rest:List Oper} {K:PPost} {σ:PEnv} {ρ:List PRes} {d:Nat} {c:Bool} {r:PV} (hg:PGuardIs ops σ o c) (hd:o.dst=some d) (hlt:Nat.blt d n=true) (h:POpG c o σ r) (hw:PWL n ops rest K (fD σ d (pgv c r)) ρ):PWL n ops (o::rest) K σ ρ:=fun β κ σ' ρ' g hs hr =>
 wl_g (hg κ σ' hs) hd hlt (h κ σ' ρ' _ g hs fun v κ' hk hv=>hw β κ' _ _ (g.mono hk) ((hs.mono hk).upd (yv hv)) (hr.mono hk))
theorem BH {n:Nat} {ops:Array Oper} {o:Oper} {lo:List (Nat×Oper)} {K:PPost} {σ:PEnv} {ρd ρs:List PRes} {d:Nat} {c:Bool} {r:PV} (hg:PGuardIs ops σ o c) (hd:o.dst=some d) (hlt:Nat.blt d n=true) (h:POpG c o σ r) (hw:PWD n ops K lo (fD σ d (pgv c r)) ρd ρs):PWD n ops K ((1,o)::lo) σ ρd ρs:=fun β κ σ' rd rs g hs h1 h2 =>
 wd_g (hg κ σ' hs) hd hlt fun κ1 hk=>h κ1 σ' _ _ (g.mono hk) (hs.mono hk) fun v κ' hk' hv=>hw β κ' _ rd rs ((g.mono hk).mono hk') (((hs.mono hk).mono hk').upd (yv hv)) ((h1.mono hk).mono hk') ((h2.mono hk).mono hk')
theorem uo {n:Nat} {ops:Array Oper} {rest:List Oper} {K:PPost} {ρ:List PRes}:∀ {l:List Oper} {i:Nat} {H:List Nat} {F:List (Nat×Fct)} {σ:PEnv} {G:List (Nat×GE)} {r:RunR},oF n ops ρ l i H F σ G=some r→r.L=r.R→FOk F→GInv σ G→PWL n ops rest K r.σ ρ→PWL n ops (l++rest) K σ ρ
 | [],i,H,F,σ,G,r,h,_,_,_,hw=>by simp only [oF,dR] at h;subst h;exact hw
 | o::l,i,H,F,σ,G,r,h,he,hF,hi,hw=>by
  obtain ⟨d,gs,p,H',F',r',h1,h2,h3,h4,h5,h6,h7,h8,h9⟩:=rx h he hF hi
  have hrec:=uo (rest:=rest) (K:=K) h6 h8 h9 (rt hi h4) (by rw [h7];exact hw)
  rw [ru] at hrec
  rcases h5 with ⟨_,hq⟩ | ⟨_,hq⟩
  ·exact qX h3 h1 h2 hq hrec
  exact BG h3 h1 h2 hq hrec
def BI (ks D:List Nat):List Oper→Bool
 | []=>true
 | o::l=>(match o.dst with | some d=>Bu d ks||Bu d D | none=>true)&&BI ks D l
theorem sX {n:Nat} {ops:Array Oper} {ρ:List PRes} {ks D:List Nat}:∀ {l:List Oper} {i:Nat} {H:List Nat} {F:List (Nat×Fct)} {σ:PEnv} {G:List (Nat×GE)} {r:RunR},oF n ops ρ l i H F σ G=some r→r.L=r.R→FOk F→GInv σ G→BI ks D l=true→∀ t,t ∉ ks→t ∉ D→r.σ t=σ t
 | [],i,H,F,σ,G,r,h,_,_,_,_,t,_,_=>by simp only [oF,dR] at h;subst h;rfl
 | o::l,i,H,F,σ,G,r,h,he,hF,hi,hd,t,g1,g2=>by
  obtain ⟨d,gs,p,H',F',r',h1,h2,h3,h4,h5,h6,h7,h8,h9⟩:=rx h he hF hi
  simp only [BI,Bool.and_eq_true] at hd
  rw [h1] at hd
  simp only [Bool.or_eq_true,qr] at hd
  have hne:t≠d:=fun e=>by subst e;rcases hd.1 with h | h;exact g1 h;exact g2 h
  rw [← h7,sX h6 h8 h9 (rt hi h4) hd.2 t g1 g2,ru]
  exact un hne
abbrev RunO:=Option (List PV×List Eqn)
def mJ (n:Nat) (ops:Array Oper) (ρ:List PRes) (l:List Oper) (H:List Nat) (F:List (Nat×Fct)) (σ:PEnv) (ks D:List Nat):RunO :=
 match oF n ops ρ l 0 H F σ [] with
 | some r=>cond (BI ks D l) (some (ks.map r.σ,r.L)) none
 | none=>none
def km (n:Nat) (ops:Array Oper) (ρ:List PRes) (l:List Oper) (H:List Nat) (F:List (Nat×Fct)) (σ:PEnv) (vs:List PV):RunO :=
 match oF n ops ρ l 0 H F σ [] with
 | some r=>some (vs,r.R)
 | none=>some ([],[])
def pdel (σ:PEnv) (D:List Nat):PEnv:=fun t=>cond (Bu t D) .any (σ t)
def kL (σ:PEnv) (D:List Nat) (X:List (Nat×PV)):PEnv:=aD (pdel σ D) X
def vO (t:Nat):List (Nat×PV)→Option PV
 | []=>none
 | (d,v)::l=>cond (Nat.beq t d) (some v) (vO t l)
theorem ry {σ:PEnv} {t:Nat}:∀ {X:List (Nat×PV)},aD σ X t=(vO t X).getD (σ t)
 | []=>rfl
 | (d,v)::l=>by
  simp only [aD,fD,vO]
  cases Nat.beq t d
  ·exact ry (X:=l)
  rfl
theorem sY {t:Nat} {v:PV} {σ:PEnv}:∀ {X:List (Nat×PV)},vO t X=some v→(X.map (·.1)).map σ=X.map (·.2)→σ t=v
 | (d,w)::l,h,e=>by
  simp only [List.map_cons,List.cons.injEq] at e
  simp only [vO] at h
  cases hb:Nat.beq t d
  ·rw [hb] at h;exact sY h e.2
  rw [hb] at h;simp only [cK,dR] at h
  rw [Nat.eq_of_beq_eq_true hb,e.1,h]
theorem sZ {t:Nat}:∀ {X:List (Nat×PV)},vO t X=none→t ∉ X.map (·.1)
 | [],_=>by simp
 | (d,v)::l,h=>by
  simp only [vO] at h
  cases hb:Nat.beq t d
  ·rw [hb] at h
   have:t≠d:=fun e=>by rw [e] at hb;simp at hb
   simp only [List.map_cons,List.mem_cons,not_or]
   exact ⟨this,sZ h⟩
  rw [hb] at h;cases h
def PWeak (σ σ1:PEnv):Prop:=∀ t,σ1 t=σ t∨σ1 t=.any
theorem Sim.weak {κ:Kr} {σ σ1:PEnv} {σ':Env} (h:Sim κ σ σ') (hw:PWeak σ σ1):Sim κ σ1 σ':=fun t=>by
 rcases hw t with e | e
 ·rw [e];exact h t
 rw [e];exact .any
theorem yD {σ:PEnv}:GInv σ []:=fun t e h=>by cases h
theorem uq {n:Nat} {ops:Array Oper} {ρ:List PRes} {l:List Oper} {H D:List Nat} {F:List (Nat×Fct)} {σ:PEnv} {X:List (Nat×PV)} (hF:FOk F) (h:mJ n ops ρ l H F σ (X.map (·.1)) D=km n ops ρ l H F σ (X.map (·.2))):∃ r,oF n ops ρ l 0 H F σ []=some r∧r.L=r.R∧PWeak r.σ (kL σ D X):=by
 unfold mJ km at h
 cases hr:oF n ops ρ l 0 H F σ [] with
 | none=>rw [hr] at h;cases h
 | some r =>
  rw [hr] at h
  simp only at h
  cases hd:BI (X.map (·.1)) D l
  ·rw [hd] at h;cases h
  rw [hd] at h
  simp only [cK,dR,Prod.mk.injEq] at h
  obtain ⟨h1,h2⟩:=h
  refine ⟨r,rfl,h2,fun t=>?_⟩
  unfold kL
  rw [ry]
  cases hl:vO t X with
  | some v=>exact .inl (by rw [Option.getD_some,sY hl h1])
  | none =>
   rw [Option.getD_none]
   unfold pdel
   cases hi:Bu t D
   ·have h3':t ∉ D:=fun hm=>by rw [qr.2 hm] at hi;cases hi
    exact .inl (by rw [cA,sX hr h2 hF yD hd t (sZ hl) h3'])
   exact .inr rfl
section
variable {n:Nat} {ops:Array Oper} {l:List Oper} {K:PPost} {KC:Exit→PPost} {σ:PEnv} {ρ:List PRes} {id:Nat} {F:List (Nat×Fct)}
theorem vP {σ1:PEnv} (hw:PWeak σ σ1) (h:PWL n ops l K σ1 ρ):PWL n ops l K σ ρ:=fun β κ σ' ρ' g hs hr=>h β κ σ' ρ' g (hs.weak hw) hr
theorem bm (k:Nat) (H D:List Nat) (X:List (Nat×PV)) (hF:FOk F) (h:mJ n ops ρ (l.take k) H F σ (X.map (·.1)) D=km n ops ρ (l.take k) H F σ (X.map (·.2))) (hw:PWL n ops (l.drop k) K (kL σ D X) ρ):PWL n ops l K σ ρ:=by
 obtain ⟨r,h1,h2,h3⟩:=uq hF h
 have:=uo h1 h2 hF yD (vP h3 hw)
 rwa [List.take_append_drop] at this
theorem gr (H D:List Nat) (X:List (Nat×PV)) (hF:FOk F) (h:mJ n ops ρ l H F σ (X.map (·.1)) D=km n ops ρ l H F σ (X.map (·.2))) (hw:K (kL σ D X) ρ):PWL n ops l K σ ρ:=by
 obtain ⟨r,h1,h2,h3⟩:=uq hF h
 have:=uo (rest:=[]) h1 h2 hF yD (vP h3 (aw (ops:=ops) hw))
 rwa [List.append_nil] at this
theorem ap (H D:List Nat) (X:List (Nat×PV)) (hF:FOk F) (h:mJ n l.toArray ρ l H F σ (X.map (·.1)) D=km n l.toArray ρ l H F σ (X.map (·.2))) (hw:KC .normal (kL σ D X) ρ):PWC n (.region id l.toArray false) KC σ ρ:=aa (gr H D X hF h hw)
end
def vQ:List (Nat×Oper)→Bool
 | []=>true
 | (k,o)::l=>cond (mZ o.op) (Nat.beq k 1) (Nat.beq k 0)&&vQ l
theorem vR {n:Nat} {ops:Array Oper} {rest:List (Nat×Oper)} {K:PPost} {ρd ρ:List PRes}:∀ {l:List (Nat×Oper)} {i:Nat} {H:List Nat} {F:List (Nat×Fct)} {σ:PEnv} {G:List (Nat×GE)} {r:RunR},vQ l=true→oF n ops ρ (l.map (·.2)) i H F σ G=some r→r.L=r.R→FOk F→GInv σ G→PWD n ops K rest r.σ ρd ρ→PWD n ops K (l++rest) σ ρd ρ
 | [],i,H,F,σ,G,r,_,h,_,_,_,hw=>by simp only [List.map_nil,oF,dR] at h;subst h;exact hw
 | (k,o)::l,i,H,F,σ,G,r,ht,h,he,hF,hi,hw=>by
  simp only [vQ,Bool.and_eq_true] at ht
  obtain ⟨d,gs,p,H',F',r',h1,h2,h3,h4,h5,h6,h7,h8,h9⟩:=rx h he hF hi
  have hrec:=vR (rest:=rest) (K:=K) (ρd:=ρd) ht.2 h6 h8 h9 (rt hi h4) (by rw [h7];exact hw)
  rw [ru] at hrec
  rcases h5 with ⟨hc,hq⟩ | ⟨hc,hq⟩
  ·rw [hc] at ht;have:=Nat.eq_of_beq_eq_true ht.1;subst this
   exact pwd_qg h3 h1 h2 hq hrec
  rw [hc] at ht;have:=Nat.eq_of_beq_eq_true ht.1;subst this
  exact BH h3 h1 h2 hq hrec
section
variable {n:Nat} {ops:Array Oper} {l:List (Nat×Oper)} {K:PPost} {σ:PEnv} {ρd ρs:List PRes} {F:List (Nat×Fct)}
theorem BJ {σ1:PEnv} (hw:PWeak σ σ1) (h:PWD n ops K l σ1 ρd ρs):PWD n ops K l σ ρd ρs:=fun β κ σ' rd rs g hs h1 h2=>h β κ σ' rd rs g (hs.weak hw) h1 h2
def s7 (n:Nat) (ops:Array Oper) (ρ:List PRes) (l:List (Nat×Oper)) (H:List Nat) (F:List (Nat×Fct)) (σ:PEnv) (ks D:List Nat):RunO:=cond (vQ l) (mJ n ops ρ (l.map (·.2)) H F σ ks D) none
theorem dH (k:Nat) (H D:List Nat) (X:List (Nat×PV)) (hF:FOk F) (h:s7 n ops ρs (l.take k) H F σ (X.map (·.1)) D=km n ops ρs ((l.take k).map (·.2)) H F σ (X.map (·.2))) (hw:PWD n ops K (l.drop k) (kL σ D X) ρd ρs):PWD n ops K l σ ρd ρs:=by
 unfold s7 at h
 cases ht:vQ (l.take k)
 ·rw [ht] at h;unfold km at h;split at h <;> cases h
 rw [ht] at h
 obtain ⟨r,h1,h2,h3⟩:=uq hF h
 have:=vR ht h1 h2 hF yD (BJ h3 hw)
 rwa [List.take_append_drop] at this
end
def Found (v:Value) (es:List MapEntry) (r:Option (Nat×Value)):Prop:=(r=none∧∀ e∈es,e.key≠v)∨∃ i e,r=some (i,e.val)∧es[i]?=some e∧e.key=v
structure KeyLaw (kt:Nat) (P:Value→Prop):Prop where
 chk:∀ v,P v→∀ e w,(Instr.checkKey e 10000 kt v).run Tryz.prog w=.ok () w
 find:∀ v es,P v→(∀ e∈es,P e.key)→∀ w,∃ r,(Instr.findKey kt v es).run Tryz.prog w=.ok r w∧Found v es r
 same:∀ v,P v→Instr.sameBits 10000 v v=true
def PairKey (v:Value):Prop:=∃ a b,v=.agg #[.int .i64 a,.int .i64 b]
theorem sn {kt:Nat} {P:Value→Prop} (he:∀ v u,P v→P u→∀ w,∃ b,(Op.equal kt v u).run Tryz.prog w=.ok b w∧(b=true↔v=u)) {v:Value} (hv:P v):∀ (es:List MapEntry) (i:Nat),(∀ e∈es,P e.key)→∀ w,∃ r,(Instr.findAsking kt v es i).run Tryz.prog w=.ok r w∧((r=none∧∀ e∈es,e.key≠v)∨∃ j e,r=some (i+j,e.val)∧es[j]?=some e∧e.key=v):=by
 intro es
 induction es with
 | nil=>intro i _ w;exact ⟨none,by simp [Instr.findAsking],.inl ⟨rfl,fun e h=>by cases h⟩⟩
 | cons e es ih =>
  intro i h w
  obtain ⟨b,h1,h2⟩:=he v e.key hv (h e (by simp)) w
  unfold Instr.findAsking
  simp only [Sem.run_bind,h1,Result.andThen_ok]
  cases b with
  | true =>
   refine ⟨some (i,e.val),by simp,.inr ⟨0,e,by simp,rfl,(h2.1 rfl).symm⟩⟩
  | false =>
   obtain ⟨r,g1,g2⟩:=ih (i+1) (fun x hx=>h x (by simp [hx])) w
   refine ⟨r,by simpa using g1,?_⟩
   rcases g2 with ⟨g2,g3⟩ | ⟨j,x,g2,g3,g4⟩
   ·left
    refine ⟨g2,fun x hx=>?_⟩
    rcases List.mem_cons.1 hx with rfl | hx
    ·intro hh;have:=h2.2 hh.symm;cases this
    exact g3 x hx
   right;exact ⟨j+1,x,by rw [g2];congr 2;omega,g3,g4⟩
theorem BK {kt:Nat} (f1 f2:Field) (hu:em kt=some (.struct #[f1,f2])) (h1:Tryz.prog.underlying kt=some (.struct (Tryz.prog.fieldsOf kt))) (h2:Tryz.prog.stoodInHeld kt=false) (n1:f1.name ≠ "_") (n2:f2.name ≠ "_") (o1:f1.offset=0) (o2:f2.offset=1) (t1:em f1.type=some (.int .i64)) (t2:em f2.type=some (.int .i64)):KeyLaw kt PairKey:=by
 have hf:Tryz.prog.fieldsOf kt=#[f1,f2]:=by
  have:=(bB hu).symm.trans h1
  injection this with this;injection this with this;exact this.symm
 have pt:∀ (cs:Array Value) (f:Field) (v:Value) (w:World),em f.type=some (.int .i64)→cs[f.offset]?=some v→(part f.type cs f.offset).run Tryz.prog w=.ok v w:=fun cs f v w ht hv=>by
  simp [part,jd ht,jG,hv]
 have ck:∀ e n t a w,em t=some (.int .i64)→(Instr.checkKey e (n+1) t (.int .i64 a)).run Tryz.prog w=.ok () w:=fun e n t a w ht=>by simp [Instr.checkKey,run_underlying (bB ht)]
 have eq:∀ v u,PairKey v→PairKey u→∀ w,∃ b,(Op.equal kt v u).run Tryz.prog w=.ok b w∧(b=true↔v=u):=by
  rintro v u ⟨a,b,rfl⟩ ⟨c,d,rfl⟩ w
  refine ⟨(a == c)&&(b == d),?_,?_⟩
  ·show (Op.equalIn (9999+1) kt _ _).run Tryz.prog w=_
   rw [run_equalIn_struct w 9999 kt _ _ h1 h2,hf]
   have e1:=pt #[.int .i64 a,.int .i64 b] f1 (.int .i64 a) w t1 (by rw [o1];rfl)
   have e2:=pt #[.int .i64 c,.int .i64 d] f1 (.int .i64 c) w t1 (by rw [o1];rfl)
   have e3:=pt #[.int .i64 a,.int .i64 b] f2 (.int .i64 b) w t2 (by rw [o2];rfl)
   have e4:=pt #[.int .i64 c,.int .i64 d] f2 (.int .i64 d) w t2 (by rw [o2];rfl)
   have q1:(Op.equalIn 9999 f1.type (.int .i64 a) (.int .i64 c)).run Tryz.prog w=.ok (a == c) w:=run_equalIn_int w 9998 f1.type .i64 .i64 a c (bB t1)
   have q2:(Op.equalIn 9999 f2.type (.int .i64 b) (.int .i64 d)).run Tryz.prog w=.ok (b == d) w:=run_equalIn_int w 9998 f2.type .i64 .i64 b d (bB t2)
   show (Op.eqFields 9999 _ _ [f1,f2]).run Tryz.prog w=_
   simp only [Op.eqFields,if_pos n1,if_pos n2,Sem.run_bind,e1,e2,Result.andThen_ok,q1]
   cases (a == c)
   ·simp
   simp only [Bool.not_true,Bool.false_eq_true,if_false,Sem.run_bind,e3,e4,Result.andThen_ok,q2,if_true]
   cases (b == d) <;> simp
  simp only [Bool.and_eq_true,beq_iff_eq]
  constructor
  ·rintro ⟨rfl,rfl⟩;rfl
  intro h;injection h with h;simp at h;exact h
 refine ⟨?_,?_,?_⟩
 ·rintro v ⟨a,b,rfl⟩ e w
  have e1:=pt #[.int .i64 a,.int .i64 b] f1 (.int .i64 a) w t1 (by rw [o1];rfl)
  have e3:=pt #[.int .i64 a,.int .i64 b] f2 (.int .i64 b) w t2 (by rw [o2];rfl)
  have:∀ n,(Instr.checkKey e (n+1+1) kt (.agg #[.int .i64 a,.int .i64 b])).run Tryz.prog w=.ok () w:=fun n=>by
   rw [Instr.checkKey]
   simp only [Sem.run_bind,run_underlying (bB hu),Result.andThen_ok]
   rw [← Array.forIn_toList]
   simp [List.forIn_cons,n1,n2,e1,e3,ck e n f1.type a w t1,ck e n f2.type b w t2]
  exact this 9998
 ·intro v es hv hes w
  cases es with
  | nil =>
   refine ⟨none,?_,.inl ⟨rfl,fun e h=>by cases h⟩⟩
   simp [Instr.findKey,Instr.findNow,run_underlying (bB hu)]
  | cons e es =>
   obtain ⟨r,g1,g2⟩:=sn eq hv (e::es) 0 hes w
   refine ⟨r,?_,?_⟩
   ·have:Instr.findNow (.struct #[f1,f2]) v (e::es) 0=none:=by
     obtain ⟨a,b,rfl⟩:=hv
     simp [Instr.findNow,Instr.sameNow]
    simp [Instr.findKey,run_underlying (bB hu),this,g1]
   ·rcases g2 with g2 | ⟨j,x,g2,g3⟩
    ·exact .inl g2
    exact .inr ⟨j,x,by rw [g2,Nat.zero_add],g3⟩
 rintro v ⟨a,b,rfl⟩
 have:∀ n,Instr.sameBits (n+1+1) (.agg #[.int .i64 a,.int .i64 b]) (.agg #[.int .i64 a,.int .i64 b])=true:=fun n=>by simp [Instr.sameBits]
 exact this 9998
section
variable {K V:Type} [DecidableEq K]
def kn:List (K×V)→K→Option V
 | [],_=>none
 | (a,v)::r,k=>if a=k then some v else kn r k
def nI:List (K×V)→K→V→List (K×V)
 | [],k,v=>[(k,v)]
 | (a,w)::r,k,v=>if a=k then (k,v)::r else (a,w)::nI r k v
def mpos:List (K×V)→K→Nat
 | [],_=>0
 | (a,_)::r,k=>if a=k then 0 else mpos r k+1
def MND (xs:List (K×V)):Prop:=xs.Pairwise fun a b=>a.1≠b.1
theorem zP {xs:List (K×V)} {k:K} (h:∀ p∈xs,p.1≠k):kn xs k=none:=by
 induction xs with
 | nil=>rfl
 | cons p r ih =>
  obtain ⟨a,v⟩:=p
  unfold kn
  rw [if_neg (h (a,v) (by simp)),ih (fun p hp=>h p (by simp [hp]))]
theorem zQ {xs:List (K×V)} {k:K} (h:∀ p∈xs,p.1≠k) (v:V):nI xs k v=xs++[(k,v)]:=by
 induction xs with
 | nil=>rfl
 | cons p r ih =>
  obtain ⟨a,w⟩:=p
  unfold nI
  rw [if_neg (h (a,w) (by simp)),ih (fun p hp=>h p (by simp [hp]))];rfl
theorem yE {xs:List (K×V)} (nd:MND xs) {k:K} {v:V}:∀ {i:Nat},xs[i]?=some (k,v)→kn xs k=some v∧mpos xs k=i∧∀ u,nI xs k u=xs.set i (k,u):=by
 induction xs with
 | nil=>intro i h;simp at h
 | cons p r ih =>
  obtain ⟨a,w⟩:=p
  intro i h
  unfold MND at nd
  rw [List.pairwise_cons] at nd
  cases i with
  | zero =>
   simp only [List.getElem?_cons_zero,dR,Prod.mk.injEq] at h
   obtain ⟨rfl,rfl⟩:=h
   unfold kn mpos nI
   simp
  | succ i =>
   simp only [List.getElem?_cons_succ] at h
   have hne:a≠k:=nd.1 (k,v) (List.mem_of_getElem? h)
   obtain ⟨h1,h2,h3⟩:=ih nd.2 h
   unfold kn mpos nI
   rw [if_neg hne,if_neg hne]
   refine ⟨h1,by rw [h2],fun u=>?_⟩
   rw [if_neg hne,h3];rfl
def gW (ek:K→Value) (ev:V→PV) (xs:List (K×V)):List (Value×PV):=xs.map fun p=>(ek p.1,ev p.2)
structure KEnc (kt:Nat) (ek:K→Value):Prop where
 law:∃ P,KeyLaw kt P∧∀ a,P (ek a)
 inj:∀ a b,ek a=ek b→a=b
end
section
variable {κ:Kr}
theorem KVs.get:∀ {kvs:List (Value×PV)} {es:List MapEntry} {i:Nat} {e:MapEntry},KVs κ kvs es→es[i]?=some e→∃ p,kvs[i]?=some (e.key,p)∧Rp κ p e.val
 | _,_,0,_,.cons h _,g=>by simp only [List.getElem?_cons_zero,dR] at g;subst g;exact ⟨_,rfl,h⟩
 | _,_,i+1,_,.cons _ hs,g=>by simp only [List.getElem?_cons_succ] at g ⊢;exact hs.get g
theorem KVs.get':∀ {kvs:List (Value×PV)} {es:List MapEntry} {i:Nat} {k:Value} {p:PV},KVs κ kvs es→kvs[i]?=some (k,p)→∃ e,es[i]?=some e∧e.key=k∧Rp κ p e.val
 | _,_,0,_,_,.cons h _,g=>by simp only [List.getElem?_cons_zero,dR,Prod.mk.injEq] at g;obtain ⟨rfl,rfl⟩:=g;exact ⟨_,rfl,rfl,h⟩
 | _,_,i+1,_,_,.cons _ hs,g=>by simp only [List.getElem?_cons_succ] at g ⊢;exact hs.get' g
theorem KVs.keys:∀ {kvs:List (Value×PV)} {es:List MapEntry},KVs κ kvs es→kvs.map (·.1)=es.map (·.key)
 | _,_,.nil=>rfl
 | _,_,.cons _ hs=>by simp [hs.keys]
theorem KVs.app:∀ {ps qs:List (Value×PV)} {es fs:List MapEntry},KVs κ ps es→KVs κ qs fs→KVs κ (ps++qs) (es++fs)
 | _,_,_,_,.nil,h=>h
 | _,_,_,_,.cons h hs,g=>.cons h (hs.app g)
theorem KVs.set:∀ {kvs:List (Value×PV)} {es:List MapEntry} {i:Nat} {e e':MapEntry} {p:PV},KVs κ kvs es→es[i]?=some e→e'.key=e.key→Rp κ p e'.val→KVs κ (kvs.set i (e.key,p)) (es.set i e')
 | _,_,0,_,_,_,.cons h hs,g,hk,hp=>by simp only [List.getElem?_cons_zero,dR] at g;subst g;rw [← hk];exact .cons hp hs
 | _,_,i+1,_,_,_,.cons h hs,g,hk,hp=>by simp only [List.getElem?_cons_succ] at g;exact .cons h (hs.set g hk hp)
theorem xr {α:Type} {R:α→α→Prop}:∀ {l:List α} {i:Nat} {a a':α},l.Pairwise R→l[i]?=some a→(∀ x,R x a→R x a')→(∀ x,R a x→R a' x)→(l.set i a').Pairwise R
 | _::l,0,a,a',h,g,h1,h2=>by
  simp only [List.getElem?_cons_zero,dR] at g;subst g
  rw [List.pairwise_cons] at h
  exact List.pairwise_cons.2 ⟨fun x hx=>h2 x (h.1 x hx),h.2⟩
 | b::l,i+1,a,a',h,g,h1,h2=>by
  simp only [List.getElem?_cons_succ] at g
  rw [List.pairwise_cons] at h
  refine List.pairwise_cons.2 ⟨fun x hx=>?_,xr h.2 g h1 h2⟩
  rcases List.mem_or_eq_of_mem_set hx with hx | rfl
  ·exact h.1 x hx
  exact h1 b (h.1 a (List.mem_of_getElem? g))
theorem MapWf.set {es:List MapEntry} {clock i:Nat} {e e':MapEntry} (h:MapWf es clock) (g:es[i]?=some e) (hk:e'.key=e.key) (hb:e'.born=e.born):MapWf (es.set i e') clock where
 nd:=xr h.nd g (fun x hx=>by rw [hk];exact hx) (fun x hx=>by rw [hk];exact hx)
 bn:=xr h.bn g (fun x hx=>by rw [hb];exact hx) (fun x hx=>by rw [hb];exact hx)
 lt:=fun x hx=>by
  rcases List.mem_or_eq_of_mem_set hx with hx | rfl
  ·exact h.lt x hx
  rw [hb];exact h.lt e (List.mem_of_getElem? g)
theorem MapWf.push {es:List MapEntry} {clock:Nat} (h:MapWf es clock) {k v:Value} (hk:∀ e∈es,e.key≠k):MapWf (es++[⟨k,v,clock⟩]) (clock+1) where
 nd:=List.pairwise_append.2 ⟨h.nd,by simp,fun a ha b hb=>by simp at hb;subst hb;exact hk a ha⟩
 bn:=List.pairwise_append.2 ⟨h.bn,by simp,fun a ha b hb=>by simp at hb;subst hb;have:=h.lt a ha;show a.born≠clock;omega⟩
 lt:=fun x hx=>by
  rcases List.mem_append.1 hx with hx | hx
  ·have:=h.lt x hx;omega
  simp at hx;subst hx;show clock<clock+1;omega
end
section
variable {K V:Type} {ek:K→Value} {ev:V→PV} {xs:List (K×V)} {κ:Kr} {es:List MapEntry} {clock kt:Nat}
theorem vS {i:Nat} {k':Value} {p:PV} (h:(gW ek ev xs)[i]?=some (k',p)):∃ k v,xs[i]?=some (k,v)∧k'=ek k∧p=ev v:=by
 unfold gW at h
 rw [List.getElem?_map] at h
 cases e:xs[i]? with
 | none=>rw [e] at h;cases h
 | some q=>rw [e] at h;simp only [Option.map_some,dR,Prod.mk.injEq] at h;exact ⟨q.1,q.2,rfl,h.1.symm,h.2.symm⟩
theorem yF (h:KVs κ (gW ek ev xs) es) (hw:MapWf es clock):MND xs:=by
 have h1:(es.map (·.key)).Pairwise (· ≠ ·):=List.pairwise_map.2 hw.nd
 rw [← h.keys,gW,List.map_map,List.pairwise_map] at h1
 exact h1.imp fun hab e=>hab (by simp [e])
theorem xt {P:Value→Prop} (hP:∀ a,P (ek a)) (h:KVs κ (gW ek ev xs) es):∀ e∈es,P e.key:=by
 intro e he
 obtain ⟨i,hi,rfl⟩:=List.getElem_of_mem he
 obtain ⟨p,h1,_⟩:=h.get (List.getElem?_eq_getElem hi)
 obtain ⟨k,v,_,h2,_⟩:=vS h1
 rw [h2];exact hP k
theorem o3 (hinj:∀ a b,ek a=ek b→a=b) (h:KVs κ (gW ek ev xs) es) (hw:MapWf es clock) {k:K} {r:Option (Nat×Value)} (hf:Found (ek k) es r):(r=none∧(∀ p∈xs,p.1≠k)∧∀ e∈es,e.key≠ek k)∨∃ i e v,r=some (i,e.val)∧es[i]?=some e∧e.key=ek k∧xs[i]?=some (k,v)∧Rp κ (ev v) e.val:=by
 rcases hf with ⟨h1,h2⟩ | ⟨i,e,h1,h2,h3⟩
 ·left
  refine ⟨h1,fun p hp hpk=>?_,h2⟩
  obtain ⟨i,hi,rfl⟩:=List.getElem_of_mem hp
  have:(gW ek ev xs)[i]?=some (ek k,ev xs[i].2):=by unfold gW;rw [List.getElem?_map,List.getElem?_eq_getElem hi];simp [hpk]
  obtain ⟨e,g1,g2,_⟩:=h.get' this
  exact h2 e (List.mem_of_getElem? g1) g2
 right
 obtain ⟨p,g1,g2⟩:=h.get h2
 obtain ⟨k',v,g3,g4,g5⟩:=vS g1
 have:k'=k:=hinj _ _ (g4.symm.trans h3)
 subst this
 exact ⟨i,e,v,h1,h2,h3,g3,by rw [← g5];exact g2⟩
end
section
variable {κ:Kr} {σ:Env} {ρ:List Res} {o:Oper} {K:Value→List Res→Kr→Prop}
theorem xu {t:Nat} (ho:o.op=.makeMap t none) (h:∀ b κ',Kle κ κ'→K (.map (some b)) (Res.mp (some b) [] 0::ρ) κ'):OpL o σ ρ κ K:=fun β hi Nx hk=>by
 unfold execOp
 simp only [ho,Option.map_none,Instr.makeMap,Sem.run_bind,run_newObj_alloc,Result.andThen_ok,Sem.run_pure,OutV]
 exact hk _ _ _ (hi.alloc _ (Res.mp (some κ.w.heap.size) [] 0) rfl rfl) (ep hi.fin _) (h _ _ (ep hi.fin _))
end
theorem rz {b clock:Nat} {es:Array MapEntry} {w:World} (hb:w.heap[b]?=some (.map es clock)):(getObj b).run Tryz.prog w=.ok (.map es clock) w:=by simp [getObj,Sem.run,hb]
theorem vU {b clock:Nat} {es:Array MapEntry} {w:World} (o:Obj) (hb:w.heap[b]?=some (.map es clock)):(setObj b o).run Tryz.prog w=.ok () { w with heap:=w.heap.setIfInBounds b o }:=by simp [setObj,Sem.run,hb]
theorem s9 {α:Type} {f:α→α}:∀ {l:List α} {i:Nat} {e:α},l[i]?=some e→l.modify i f=l.set i (f e)
 | _::_,0,_,h=>by simp only [List.getElem?_cons_zero,dR] at h;subst h;rfl
 | _::l,i+1,_,h=>by simp only [List.getElem?_cons_succ] at h;simp [s9 h]
theorem xx {t kt et b clock:Nat} {z v:Value} {sz by':Nat} {P:Value→Prop} (ht:em t=some (.map kt et)) (hz:fC et=some (z,sz,by')) (L:KeyLaw kt P) (hv:P v) {es:List MapEntry} (hes:∀ e∈es,P e.key) {w:World} (hb:w.heap[b]?=some (.map es.toArray clock)) (c:Bool):∃ r,Found v es r∧(Instr.lookup t (.map (some b)) v c).run Tryz.prog w=.ok (if c then .tuple #[(r.map (·.2)).getD z,.bool r.isSome] else (r.map (·.2)).getD z) w:=by
 obtain ⟨r,h1,h2⟩:=L.find v es hv hes w
 refine ⟨r,h2,?_⟩
 simp only [Instr.lookup,Sem.run_bind,run_underlying (bB ht),Result.andThen_ok,rz hb,Sem.run_pure,L.chk v hv,h1]
 cases r with
 | none=>simp [dW hz]
 | some q=>simp
theorem rA {t kt et:Nat} {z v:Value} {sz by':Nat} {P:Value→Prop} (ht:em t=some (.map kt et)) (hz:fC et=some (z,sz,by')) (L:KeyLaw kt P) (hv:P v) {w:World} (c:Bool):(Instr.lookup t (.map none) v c).run Tryz.prog w=.ok (if c then .tuple #[z,.bool false] else z) w:=by
 obtain ⟨r,h1,h2⟩:=L.find v [] hv (fun e h=>by cases h) w
 have hr:r=none:=by
  rcases h2 with h2 | ⟨i,e,_,h2,_⟩
  ·exact h2.1
  simp at h2
 subst hr
 simp [Instr.lookup,run_underlying (bB ht),L.chk v hv,h1,dW hz]
theorem so {t kt et b clock:Nat} {v u:Value} {P:Value→Prop} (ht:em t=some (.map kt et)) (L:KeyLaw kt P) (hv:P v) {es:List MapEntry} (hes:∀ e∈es,P e.key) {w:World} (hb:w.heap[b]?=some (.map es.toArray clock)):∃ r es' clock',Found v es r∧(Instr.mapUpdate t (.map (some b)) v u).run Tryz.prog w=.ok () { w with heap:=w.heap.setIfInBounds b (.map es'.toArray clock') }∧((r=none∧es'=es++[⟨v,u,clock⟩]∧clock'=clock+1)∨∃ i e,es[i]?=some e∧e.key=v∧r=some (i,e.val)∧es'=es.set i ⟨v,u,e.born⟩∧clock'=clock):=by
 obtain ⟨r,h1,h2⟩:=L.find v es hv hes w
 have h2':=h2
 rcases h2 with ⟨rfl,h3⟩ | ⟨i,e,rfl,h3,h4⟩
 ·refine ⟨none,es++[⟨v,u,clock⟩],clock+1,h2',?_,.inl ⟨rfl,rfl,rfl⟩⟩
  simp only [Instr.mapUpdate,Sem.run_bind,run_underlying (bB ht),Result.andThen_ok,rz hb,L.chk v hv,h1,vU _ hb]
  simp
 refine ⟨some (i,e.val),es.set i ⟨v,u,e.born⟩,clock,h2',?_,.inr ⟨i,e,h3,h4,rfl,rfl,rfl⟩⟩
 have hk:((es.toArray[i]?).map (·.key)).getD v=v:=by simp [h3,h4]
 have hst:(Instr.keyThatStays v v).run Tryz.prog w=.ok v w:=by simp [Instr.keyThatStays,L.same v hv]
 have hm:es.toArray.modify i (fun x=>({ x with key:=v,val:=u }:MapEntry))=(es.set i ⟨v,u,e.born⟩).toArray:=by
  apply Array.ext'
  simp only [Array.toList_modify]
  rw [s9 h3]
 simp only [Instr.mapUpdate,Sem.run_bind,run_underlying (bB ht),Result.andThen_ok,rz hb,L.chk v hv,h1,hk,hst,hm,vU _ hb]
section
variable {K V:Type} [DecidableEq K] {ek:K→Value} {vv:V→PV} {xs:List (K×V)} {κ:Kr} {es:List MapEntry} {clock kt:Nat}
theorem BL {es':List MapEntry} {clock':Nat} {k:K} {v:V} {u:Value} {r:Option (Nat×Value)} (hinj:∀ a b,ek a=ek b→a=b) (hw:MapWf es clock) (h:KVs κ (gW ek vv xs) es) (hf:Found (ek k) es r) (hv:Rp κ (vv v) u)
    (hc:(r=none∧es'=es++[⟨ek k,u,clock⟩]∧clock'=clock+1)∨∃ i e,es[i]?=some e∧e.key=ek k∧r=some (i,e.val)∧es'=es.set i ⟨ek k,u,e.born⟩∧clock'=clock):MapWf es' clock'∧KVs κ (gW ek vv (nI xs k v)) es':=by
  rcases hc with ⟨rfl,rfl,rfl⟩ | ⟨i,e,h1,h2,rfl,rfl,rfl⟩
  · rcases o3 hinj h hw hf with ⟨_,h3,h4⟩ | ⟨i,e,v,h3,_⟩
    · refine ⟨hw.push h4,?_⟩
      rw [zQ h3,gW,List.map_append]
      exact h.app (.cons (e:=⟨ek k,u,clock⟩) hv .nil)
    cases h3
  rcases o3 hinj h hw hf with ⟨h3,_⟩ | ⟨i',e',v',h3,h4,h5,h6,h7⟩
  · cases h3
  have hi:i'=i:=by injection h3 with h3;injection h3 with h3 _;exact h3.symm
  subst hi
  refine ⟨hw.set h1 h2.symm rfl,?_⟩
  rw [(yE (yF h hw) h6).2.2 v,gW,List.map_set]
  have:=h.set h1 (e':=⟨ek k,u,e.born⟩) h2.symm hv
  rw [h2] at this
  exact this
theorem BM {k:K} {z0:V} {z:Value} {r:Option (Nat×Value)} (hinj:∀ a b,ek a=ek b→a=b) (hw:MapWf es clock) (h:KVs κ (gW ek vv xs) es) (hf:Found (ek k) es r) (hz:Rp κ (vv z0) z):Rp κ (vv ((kn xs k).getD z0)) ((r.map (·.2)).getD z)∧r.isSome=(kn xs k).isSome:=by
 rcases o3 hinj h hw hf with ⟨rfl,h3,h4⟩ | ⟨i,e,v,rfl,h4,h5,h6,h7⟩
 ·rw [zP h3];exact ⟨hz,rfl⟩
 rw [(yE (yF h hw) h6).1];exact ⟨h7,rfl⟩
end
theorem pz {w:World} {b i:Nat} {o:Obj} (h:i≠b):({ w with heap:=w.heap.setIfInBounds b o }:World).heap[i]?=w.heap[i]?:=by
 show (w.heap.setIfInBounds b o)[i]?=_
 rw [Array.getElem?_setIfInBounds_ne (fun e=>h e.symm)]
theorem pA {w:World} {b:Nat} {o o':Obj} (h:w.heap[b]?=some o'):({ w with heap:=w.heap.setIfInBounds b o }:World).heap[b]?=some o:=by
 show (w.heap.setIfInBounds b o)[b]?=_
 have:b<w.heap.size:=by
  rcases Nat.lt_or_ge b w.heap.size with h1 | h1
  ·exact h1
  rw [Array.getElem?_eq_none h1] at h;cases h
 rw [Array.getElem?_setIfInBounds_self_of_lt this]
theorem Zo.mapTurn {β:Base} {l1 l2:List Res} {κ:Kr} {b clock clock':Nat} {es es':List MapEntry} (h:Zo β (l1++Res.mp (some b) es clock::l2) κ):Zo β (l1++Res.mp (some b) es' clock'::l2) ⟨{ κ.w with heap:=κ.w.heap.setIfInBounds b (.map es'.toArray clock') },κ.S⟩∧Kle κ ⟨{ κ.w with heap:=κ.w.heap.setIfInBounds b (.map es'.toArray clock') },κ.S⟩:=by
 have hb:κ.w.heap[b]?=some (.map es.toArray clock):=h.own (Res.mp (some b) es clock) (by simp)
 exact h.turn (r:=Res.mp (some b) es clock) (r':=Res.mp (some b) es' clock') (b:=b) rfl rfl rfl (fun i hi=>pz hi) (by simp) (pA hb) rfl rfl rfl (Nat.le_refl _)
section
variable {K V:Type} [DecidableEq K] {ek:K→Value} {vv:V→PV} {xs:List (K×V)} {o:Oper} {σ:PEnv} {ρ ρ':List PRes} {c:Bool} {x y y2:Operand} {t kt et:Nat} {KK:PV→List PRes→Prop} {k:K} {v z0:V} {z:Value} {sz by' b:Nat} {pk:PV} {mo:Option Nat}
theorem xy (ho:o.op=.makeMap t none) (h:∀ b,KK (.v (.map (some b))) (.mp (some b) []::ρ)):POpL o σ ρ KK:=fun κ σ' ρ' g hs hr =>
 xu ho fun b κ' hk=>⟨_,_,.v rfl,.cons (.mp (fun h=>by cases h) ⟨.nil,.nil,fun e h=>by cases h⟩ .nil) (hr.mono hk),h b⟩
def MapIs (ρ:List PRes) (mo:Option Nat) (kvs:List (Value×PV)):Prop:=∀ κ rs,RRels κ ρ rs→∃ es clock,Res.mp mo es clock∈rs∧(mo=none→es=[])∧MapWf es clock∧KVs κ kvs es
theorem BN {kvs:List (Value×PV)} (h:PRes.mp mo kvs∈ρ):MapIs ρ mo kvs:=fun κ rs hr=>by
 obtain ⟨r,h1,h2⟩:=hr.mem h
 cases h2 with
 | mp hn hw hk=>exact ⟨_,_,h1,hn,hw,hk⟩
theorem xz {es:List MapEntry} {clock:Nat} (hw:MapWf es clock) {u:Value} {r r':Option (Nat×Value)} (h:Found u es r) (h':Found u es r'):r=r':=by
 rcases h with ⟨rfl,h1⟩ | ⟨i,e,rfl,h1,h2⟩ <;> rcases h' with ⟨rfl,h3⟩ | ⟨j,f,rfl,h3,h4⟩
 ·rfl
 ·exact absurd h4 (h1 f (List.mem_of_getElem? h3))
 ·exact absurd h2 (h3 e (List.mem_of_getElem? h1))
 have hij:i=j:=by
  obtain ⟨li,ei⟩:=List.getElem?_eq_some_iff.1 h1
  obtain ⟨lj,ej⟩:=List.getElem?_eq_some_iff.1 h3
  have pw:=List.pairwise_iff_getElem.1 hw.nd
  rcases Nat.lt_trichotomy i j with h | h | h
  ·exact absurd (by rw [ei,ej,h2,h4]) (pw i j li lj h)
  ·exact h
  exact absurd (by rw [ei,ej,h2,h4]) (pw j i lj li h)
 subst hij
 rw [h1] at h3;injection h3 with h3;rw [h3]
theorem look_q (cm:Bool) (ho:o.op=.lookup t x y cm) (ht:em t=some (.map kt et)) (hz:fC et=some (z,sz,by')) (hzp:∀ κ,Rp κ (vv z0) z) (L:KEnc kt ek) (hx:PEv σ c x (.v (.map mo))) (hy:PEv σ c y pk) (hk:∀ κ u,Rp κ pk u→u=ek k) (hm:MapIs ρ mo (gW ek vv xs)) {κ:Kr} {σ':Env} {ρ':List Res} (hs:Sim κ σ σ') (hr:RRels κ ρ ρ'):c=true→∃ u,Rp κ (vv ((kn xs k).getD z0)) u∧∀ w,Stab ρ' κ w→(execOp (SX.ev σ') o).run Tryz.prog w=.ok (.value (if cm then .tuple #[u,.bool (kn xs k).isSome] else u)) w:=by
 intro hc
 obtain ⟨P,hL,hP⟩:=L.law
 have e1:SX.ev σ' x=.map mo:=hs.ve hx hc
 have e2:SX.ev σ' y=ek k:=hk κ _ (hs.pe hy hc)
 obtain ⟨es,clock,h1,hn,h2,h3⟩:=hm κ ρ' hr
 obtain ⟨r,g1,g2⟩:=hL.find (ek k) es (hP k) (xt hP h3) κ.w
 obtain ⟨l1,l2⟩:=BM L.inj h2 h3 g2 (hzp κ)
 refine ⟨_,l1,fun w hw=>?_⟩
 cases mo with
 | none =>
  have:=hn rfl;subst this
  have hr0:r=none:=by
   rcases g2 with g2 | ⟨i,e,_,g2,_⟩
   ·exact g2.1
   simp at g2
  subst hr0
  rw [← l2]
  simp only [execOp,ho,e1,e2,Sem.run_bind,rA ht hz hL (hP k) cm,Result.andThen_ok,Sem.run_pure]
  rfl
 | some b =>
  have hb:w.heap[b]?=some (.map es.toArray clock):=hw.own _ h1
  obtain ⟨r',f1,f2⟩:=xx ht hz hL (hP k) (xt hP h3) hb cm
  have:=xz h2 f1 g2;subst this
  rw [← l2]
  simp only [execOp,ho,e1,e2,Sem.run_bind,f2,Result.andThen_ok,Sem.run_pure]
theorem zR (ho:o.op=.lookup t x y false) (ht:em t=some (.map kt et)) (hz:fC et=some (z,sz,by')) (hzp:∀ κ,Rp κ (vv z0) z) (L:KEnc kt ek) (hx:PEv σ c x (.v (.map mo))) (hy:PEv σ c y pk) (hk:∀ κ u,Rp κ pk u→u=ek k) (hm:MapIs ρ mo (gW ek vv xs)):POpQ c o σ ρ (vv ((kn xs k).getD z0)):=fun κ σ' ρ' g hs hr=>by
 cases c with
 | false=>exact xa
 | true =>
  obtain ⟨u,h1,h2⟩:=look_q false ho ht hz hzp L hx hy hk hm hs hr rfl
  exact ⟨u,fun _=>h1,fun _ w hw=>h2 w hw⟩
theorem ur (ho:o.op=.mapUpdate t x y y2) (ht:em t=some (.map kt et)) (L:KEnc kt ek) (hx:bj σ x=.v (.map (some b))) (hy:bj σ y=pk) (hk:∀ κ u,Rp κ pk u→u=ek k) (hv:bj σ y2=vv v) (hu:PUpd ρ (.mp (some b) (gW ek vv xs)) (.mp (some b) (gW ek vv (nI xs k v))) ρ') (h:KK (.v undef) ρ'):POpL o σ ρ KK:=fun κ σ' rr g hs hr=>by
 obtain ⟨P,hL,hP⟩:=L.law
 obtain ⟨r0,l1,l2,rfl,h4,h5⟩:=hr.upd hu
 cases h4 with
 | mp hn hw hkv =>
  rename_i es clock
  intro β hi Nx hnx
  have hb:κ.w.heap[b]?=some (.map es.toArray clock):=hi.own (Res.mp (some b) es clock) (by simp)
  have e1:SX.ev σ' x=.map (some b):=hs.v1 hx
  have e2:SX.ev σ' y=ek k:=hk κ _ (by have:=hs.ev y;rwa [hy] at this)
  have rv:Rp κ (vv v) (SX.ev σ' y2):=by have:=hs.ev y2;rwa [hv] at this
  obtain ⟨r,es',clock',f1,f2,f3⟩:=so (u:=SX.ev σ' y2) ht hL (hP k) (xt hP hkv) hb
  obtain ⟨w1,w2⟩:=BL (v:=v) L.inj hw hkv f1 rv f3
  obtain ⟨i1,i2⟩:=hi.mapTurn (es':=es') (clock':=clock')
  simp only [execOp,ho,e1,e2,Sem.run_bind,f2,Result.andThen_ok,Sem.run_pure,OutV]
  exact hnx _ _ _ i1 i2 ⟨.v undef,ρ',.v rfl,h5 _ _ i2 (.mp (fun h=>by cases h) w1 (w2.mono i2)),h⟩
end
def kP (a b:Int):Value:=.agg #[.int .i64 a,.int .i64 b]
def vT (a:Bool):PV:=.v (.bool a)
theorem BO {a b:Int}:∀ (κ:Kr) (u:Value),Rp κ (.agg [.v (.int .i64 a),.v (.int .i64 b)]) u→u=kP a b:=fun κ u h=>by
 cases h with
 | agg ho hc =>
  have:=qp (xs:=[.int .i64 a,.int .i64 b]) rfl hc
  rw [this];rfl
theorem vV {K V:Type} {o:Oper} {σ:PEnv} {ρ:List PRes} {t:Nat} {KK:PV→List PRes→Prop} (ek:K→Value) (vv:V→PV) (ho:o.op=.makeMap t none) (h:∀ b,KK (.v (.map (some b))) (.mp (some b) (gW ek vv [])::ρ)):POpL o σ ρ KK:=xy ho h
theorem wl_gT {β:Base} {n:Nat} {ops:Array Oper} {o:Oper} {rest:List Oper} {K:Post} {σ:Env} {ρ:List Res} {κ:Kr} {d:Nat} (hg:GuardIs ops σ o true) (hd':o.dst=some d) (hlt:Nat.blt d n=true) (h:OpL o σ ρ κ fun v ρ' κ'=>WL β n ops rest K (upd σ d v) ρ' κ'):WL β n ops (o::rest) K σ ρ κ:=fun hi df a hr Q hk=>by
 simp only [← eR hd'] at h
 have hd:=fK hd' hlt
 unfold wpList
 rw [ij hr,hg]
 exact .inl (jc hr.eval (h β hi (fun v w=>wpList Tryz.prog ops Q rest (a.put o.dst v) w) fun v ρ' κ' hi' hle hw=>hw hi' _ (hr.put hd v) Q fun a' σ' ρ'' κ'' h1 h2 h3 h4=>hk a' σ' ρ'' κ'' h1 h2 (hle.trans h3) h4) fun _ _ h=>h)
section
variable {n:Nat} {ops:Array Oper} {o:Oper} {rest:List Oper} {K:PPost} {σ:PEnv} {ρ:List PRes} {d:Nat}
theorem pwl_gT (hg:PGuardIs ops σ o true) (hd:o.dst=some d) (hlt:Nat.blt d n=true) (h:POpL o σ ρ fun p ρ'=>PWL n ops rest K (fD σ d p) ρ'):PWL n ops (o::rest) K σ ρ:=fun β κ σ' ρ' g hs hr =>
 wl_gT (hg κ σ' hs) hd hlt ((h κ σ' ρ' g hs hr).mono fun v ρ1 κ1 hk ⟨pv,ρp,h1,h2,h3⟩=>h3 β κ1 _ _ (g.mono hk) ((hs.mono hk).upd h1) h2)
theorem pwl_gF {p:PV} (hg:PGuardIs ops σ o false) (hd:o.dst=some d) (hlt:Nat.blt d n=true) (h:PWL n ops rest K (fD σ d (pgv false p)) ρ):PWL n ops (o::rest) K σ ρ :=
 qX (p:=p) hg hd hlt (fun κ σ' ρ' g hs hr=>xa) h
theorem BP {ρ':List PRes} (hp:ρ.Perm ρ') (h:PWL n ops rest K σ ρ'):PWL n ops rest K σ ρ:=fun β κ σ' r g hs hr=>by
 obtain ⟨rs',h1,h2⟩:=hr.perm hp
 exact fun hi=>h β κ σ' rs' g hs h2 (hi.perm h1)
theorem rB {c:Bool} {f:Nat} {ags:List Operand} {ts:Array Nat} {pargs:List PV} {r:PV} {r0 r1:PRes} {l0:List PRes} (hg:PGuardIs ops σ o c) (hd:o.dst=some d) (hlt:Nat.blt d n=true) (ho:o.op=.call { callee:=.value (.func f),args:=ags.toArray,argTypes:=ts }) (hp:PPick ρ r0 l0) (ha:c=true→ags.map (bj σ)=pargs) (hc:c=true→PCall f pargs [r0] (fun pv ρ'=>pv=r∧ρ'=[r1])) (hn:c=false→r1=r0) (hw:PWL n ops rest K (fD σ d (pgv c r)) (r1::l0)):PWL n ops (o::rest) K σ ρ:=by
 cases c with
 | true =>
  refine pwl_gT hg hd hlt (aW ho (ha rfl) (ρ1:=[r0]) (ρ2:=l0) hp (hc rfl) ?_)
  rintro _ _ ⟨rfl,rfl⟩
  rw [kh] at hw;exact hw
 | false =>
  have:=hn rfl;subst this
  exact pwl_gF (p:=r) hg hd hlt (BP hp hw)
end
def gdp {α β:Type} [Inhabited α] (c:Bool) (x:Option (α×β)) (m:β):Option (α×β):=cond c x (some (default,m))
theorem gdp_t {α β:Type} [Inhabited α] {c:Bool} {x:Option (α×β)} {m:β} {v:α×β} (h:gdp c x m=some v) (hc:c=true):x=some v:=by subst hc;exact h
theorem gdp_f {α β:Type} [Inhabited α] {c:Bool} {x:Option (α×β)} {m:β} {v:α×β} (h:gdp c x m=some v) (hc:c=false):v.2=m:=by subst hc;simp only [gdp,cA,dR] at h;rw [← h]
def zS (by':Nat) (n:Int):Option Unit:=if 0≤n∧by'*n.toNat≤140737488355328∧n.toNat≤140737488355328 then some () else none
theorem xA {o:Oper} {σ:Env} {x:Operand} {t E sz by' n:Nat} {z:Value} {zs:List Value} (hg:o.guard=none) (ho:o.op=.makeSlice t (.const (.int .i64 0)) x) (hx:ev σ x=.int .i64 (n:Int)) (hu:em t=some (.slice E)) (hi:fC E=some (z,sz,by')) (hz:bH z=zs) (hzl:zs.length=sz) (h0:Nat.blt 0 sz=true) (hb:by'*n≤140737488355328∧n≤140737488355328):LateRun o σ E (List.replicate n zs).flatten (fun b=>.slice (some ⟨b,0,none⟩) 0 n) :=
 ⟨hg,fun w=>by
  obtain ⟨i,hinf,hz0,hsz,hby⟩:=nx hi
  have hr:=run_make (P:=Tryz.prog) w t E i z (bB hu) hinf hz0 .i64 .i64 0 n (by omega) (by omega) (by rw [hby];have:=hb.1;omega) (by omega)
  simp only [Int.toNat_natCast,Int.toNat_zero] at hr
  have hcs:z.cells=zs.toArray:=by rw [← hz,← gm]
  have hsz':z.cells.size=sz:=by rw [hcs];simpa using hzl
  have h0':0<z.cells.size:=by rw [hsz'];have h:=h0;simp [Nat.blt] at h;omega
  rw [hsz,← hsz',yt h0',hcs] at hr
  have e0:ev σ (.const (.int .i64 0))=.int .i64 0:=rfl
  simp only [execOp,ho,hx,e0,Sem.run_bind,hr,Result.andThen_ok,Sem.run_pure]⟩
theorem zT {b T sz m:Nat} {cs:List Value} (hl:cs.length=m*sz) (hm:m≤140737488355328):∀ o,(Res.b b T cs).says o→(Res.row (some ⟨b,0,none⟩) 0 m T sz []).says o:=fun o h=>by
 have ho:o=some (.cells cs.toArray T (0,0)):=h
 exact ⟨rfl,rfl,fun _ h=>(by cases h),Nat.zero_le _,by unfold maxLen;omega,cs.toArray,ho,by simpa using hl,by simp⟩
theorem BQ {o:Oper} {σ:PEnv} {ρ:List PRes} {x:Operand} {t T sz by':Nat} {K:PV→List PRes→Prop} {z:Value} {n:Int} {u:Unit} (hg:o.guard=none) (ho:o.op=.makeSlice t (.const (.int .i64 0)) x) (hx:bj σ x=.v (.int .i64 n)) (hu:em t=some (.slice T)) (hi:fC T=some (z,sz,by')) (hzl:Nat.beq (bH z).length sz=true) (h0:Nat.blt 0 sz=true) (hm:zS by' n=some u)
    (h:∀ b,K (.v (.slice (some ⟨b,0,none⟩) 0 n.toNat)) (.row (some ⟨b,0,none⟩) 0 n.toNat T sz []::ρ)):POpL o σ ρ K:=fun κ σ' ρ' g hs hr=>by
  unfold zS at hm
  split at hm
  · rename_i hb
    obtain ⟨h1,h2,h3⟩:=hb
    have hn:n=((n.toNat:Nat):Int):=by omega
    have hlr:=xA (o:=o) (σ:=σ') (n:=n.toNat) hg ho (by rw [hs.v1 hx,← hn]) hu hi rfl (Nat.eq_of_beq_eq_true hzl) h0 ⟨h2,h3⟩
    intro β hinv Nx hk
    refine yu hlr (K:=fun v ρ1 κ1=>∃ b,v=.slice (some ⟨b,0,none⟩) 0 n.toNat∧ρ1=Res.b b T (List.replicate n.toNat (bH z)).flatten::ρ'∧Kle κ κ1) (fun b κ' hk=>⟨b,rfl,rfl,hk⟩) β hinv Nx fun v ρ1 κ1 g1 g2 g3=>?_
    obtain ⟨b,rfl,rfl,h4⟩:=g3
    have hlen:(List.replicate n.toNat (bH z)).flatten.length=n.toNat * sz:=by simp [Nat.eq_of_beq_eq_true hzl]
    have hv:=g1.view (r':=Res.row (some ⟨b,0,none⟩) 0 n.toNat T sz []) Pick.h rfl (zT hlen h3)
    exact hk _ _ κ1 hv g2 ⟨_,_,.v rfl,.cons (.row (by omega) (fun _ h=>by cases h) .nil) (hr.mono h4),h b⟩
  cases hm
theorem BR {a:Option Addr} {n c T sz k:Nat} {css:List (List Value)} (hk:k≤n):∀ o,(Res.row a n c T sz css).says o→(Res.row a k c T sz (css.take k)).says o:=fun o h=>by
 cases a with
 | none=>obtain ⟨rfl,rfl,rfl⟩:=h;exact ⟨by omega,rfl,by simp⟩
 | some ad =>
  obtain ⟨h1,h2,h3,h4,h5,cur,h6,h7,h8⟩:=h
  refine ⟨h1,by rw [List.length_take];omega,fun cs hcs=>h3 cs (List.mem_of_mem_take hcs),by omega,h5,cur,h6,h7,?_⟩
  have hle:k*sz≤n*sz:=Nat.mul_le_mul_right _ hk
  have e:cur.toList.take (k*sz)=(css.flatten).take (k*sz):=by rw [← h8,List.take_take,Nat.min_eq_left hle]
  rw [e]
  have hw:∀ cs∈css.take k,cs.length=sz:=fun cs hcs=>h3 cs (List.mem_of_mem_take hcs)
  have hl:((css.take k).flatten).length=k*sz:=by rw [d9 hw,List.length_take];congr 1;omega
  have hsplit:css.flatten=(css.take k).flatten++(css.drop k).flatten:=by rw [← List.flatten_append,List.take_append_drop]
  rw [hsplit,List.take_append_of_le_length (by omega),List.take_of_length_le (by omega)]
theorem row_blk {a:Option Addr} {n c T sz k:Nat} {css dss:List (List Value)}:(Res.row a k c T sz dss).blk=(Res.row a n c T sz css).blk:=by cases a <;> rfl
theorem tc {o:Oper} {σ:PEnv} {ρ l:List PRes} {x y:Operand} {t T T2 sz by' n c:Nat} {a:Option Addr} {kd:IntKind} {i:Int} {z:Value} {K:PV→List PRes→Prop} {α:Type} {enc:α→List PV} {xs zs:List α} (ho:o.op=.slice t x none (some y) none) (hu:em t=some (.slice T)) (hi:fC T=some (z,sz,by')) (hx:bj σ x=.v (.slice a n c)) (hy:bj σ y=.v (.int kd i)) (hp:PPick ρ (.row a n c T2 sz (xs.map enc)) l) (hm:sub xs 0 i=some zs) (h:K (.v (.slice a zs.length c)) (.row a zs.length c T2 sz (zs.map enc)::l)):POpL o σ ρ K:=fun κ σ' ρ' g hs hr β hinv Nx hk=>by
 obtain ⟨⟨h0,h1,h2⟩,hz⟩:=ft hm
 have hz:zs=xs.take i.toNat:=by rw [hz];rfl
 obtain ⟨r,l',k1,k2,k3⟩:=hr.pick hp
 cases k2 with
 | row hb ho1 hc =>
  rename_i dss
  have hi2:=hinv.perm k1
  have hown:=ga (hi2.own (Res.row a n c T2 sz dss) (by simp))
  have hl:xs.length=n:=by have e:=hc.len;rw [List.length_map] at e;omega
  have hcap:n≤c:=by
   have hh:=hi2.own (Res.row a n c T2 sz dss) (by simp)
   cases a with
   | none=>obtain ⟨e1,e2,_⟩:=hh;omega
   | some ad=>exact hh.2.2.2.1
  have hq:OpQ true o σ' ρ' κ (.slice a i.toNat c):=nO (c:=true) (k:=i.toNat) ho hu hi (.p (hs.v1 hx)) (.p (hs.v1 hy)) (fun _=>by omega) (fun _=>by omega)
  have hzl:zs.length=i.toNat:=by rw [hz,List.length_take];omega
  have hv:=hinv.view (r':=Res.row a i.toNat c T2 sz (dss.take i.toNat)) k1 row_blk (BR (by omega))
  rw [hq rfl κ.w hinv.stab]
  refine hk _ (Res.row a i.toNat c T2 sz (dss.take i.toNat)::l') κ hv (.refl _) ⟨.v (.slice a zs.length c),.row a zs.length c T2 sz (zs.map enc)::l,by rw [hzl];exact .v rfl,.cons ?_ k3,h⟩
  rw [hzl]
  refine .row (by omega) (fun d hd=>ho1 d (List.mem_of_mem_take hd)) ?_
  rw [hz,List.map_take]
  exact hc.take _
abbrev pQ (a:Option Addr) (n c k sz:Nat):PV:=.v (.slice (if c=k then a else a.map (·.add (k*sz))) (n - k) (c - k))
section
variable {o:Oper} {σ:PEnv} {ρ ρ':List PRes} {x y:Operand} {t T T2 sz by' n c:Nat} {a:Option Addr} {kd:IntKind} {i j:Int} {z:Value} {α:Type} {enc:α→List PV} {xs zs:List α} {m:α} {K:PV→List PRes→Prop}
theorem jj (ho:o.op=.slice t x (some y) none none) (hu:em t=some (.slice T)) (hi:fC T=some (z,sz,by')) (hx:bj σ x=.v (.slice a n c)) (hy:bj σ y=.v (.int kd i)) (hm2:PRes.row a n c T2 sz (xs.map enc)∈ρ) (hm:sub xs i (xs.length:Int)=some zs):POpQ true o σ ρ (pQ a n c i.toNat sz):=fun κ σ' ρ' g hs hrr=>by
 obtain ⟨⟨h0,h1,h2⟩,_⟩:=ft hm
 refine ⟨_,fun _=>.v rfl,fun _ w hst=>?_⟩
 obtain ⟨r,hr1,hr2⟩:=hrr.mem hm2
 cases hr2 with
 | row hb ho1 hc =>
  have hl:xs.length=n:=by have e1:=(ga (hst.own _ hr1)).2.1;have e2:=hc.len;rw [List.length_map] at e2;omega
  exact qW (c:=true) (ρ:=ρ') (κ:=κ) (k:=i.toNat) ho hu hi (.p (hs.v1 hx)) (.p (hs.v1 hy)) (fun _=>by omega) (fun _=>by omega) rfl w hst
theorem yG {B k sz c n:Nat} (h:k<n) (hc:n≤c):(if c=k then some (⟨B,0,none⟩:Addr) else (some (⟨B,0,none⟩:Addr)).map (·.add (k*sz)))=some ⟨B,k*sz,none⟩:=by
 rw [if_neg (by omega)]
 simp only [Option.map_some,Addr.add,dR]
 split
 ·rename_i e;rw [e]
 simp
theorem yH {a:Option Addr} {n c T sz:Nat} {css:List (List Value)} {w:World} (h:(Res.row a n c T sz css).holds w):n≤c:=by
 cases a with
 | none=>obtain ⟨e1,e2,_⟩:=h;omega
 | some ad=>exact h.2.2.2.1
theorem gD (ho:o.op=.indexAddr t x y) (hu:em t=some (.slice T)) (hi:fC T=some (z,sz,by')) (hx:bj σ x=pQ a n c i.toNat sz) (hy:bj σ y=.v (.int kd j)) (hi0:0≤i) (hj:0≤j) (hm2:PRes.row a n c T2 sz (xs.map enc)∈ρ) (hm:idx xs (i+j)=some m):POpQ true o σ ρ (.v (.pointer (some ⟨mW a,(i+j).toNat * sz,none⟩))):=fun κ σ' ρ' g hs hrr=>by
 refine ⟨_,fun _=>.v rfl,fun _ w hst=>?_⟩
 obtain ⟨h0,hmm⟩:=iN hm
 have hlt:=(List.getElem?_eq_some_iff.1 hmm).1
 obtain ⟨r,hr1,hr2⟩:=hrr.mem hm2
 cases hr2 with
 | row hb ho1 hc2 =>
  have hw:=hst.own _ hr1
  have hn:xs.length=n:=by have e1:=(ga hw).2.1;have e2:=hc2.len;rw [List.length_map] at e2;omega
  have ha:=lC hw (by omega)
  have hcap:=yH hw
  have e1:ev σ' x=.slice (some ⟨mW a,i.toNat * sz,none⟩) (n - i.toNat) (c - i.toNat):=by
   rw [hs.v1 hx]
   generalize mW a=B at ha ⊢
   subst ha
   rw [yG (n:=n) (by omega) hcap]
  have h:=mT (c:=true) (ρ:=ρ') (κ:=κ) (j:=j.toNat) ho hu hi (fun _=>e1) (fun _=>hs.v1 hy) (fun _=>by omega) (fun _=>by omega) rfl w hst
  have e:i.toNat * sz+j.toNat * sz=(i+j).toNat * sz:=by rw [← Nat.add_mul];congr 1;omega
  rwa [e] at h
theorem zc_flat {z:Value} {sz m:Nat} (h0:0<sz) (hz:(bH z).length=sz):(Builtin.zeroCells z.cells m).toList=(List.replicate m (bH z)).flatten:=by
 have hsz:z.cells.size=sz:=by rw [← hz,← gm];simp
 have:=yt (z:=z.cells) (n:=m) (by omega)
 show (madeCells z.cells (m*z.cells.size)).toList=_
 rw [this,gm]
theorem td {z0:α} (ho:o.op=.call { callee:=.builtin .clear,args:=#[x],argTypes:=#[t] }) (hu:em t=some (.slice T)) (hi:fC T=some (z,sz,by')) (hx:bj σ x=pQ a n c i.toNat sz) (hm:sub xs i (xs.length:Int)=some zs) (hzc:enc z0=xe z) (hz1:(bH z).all Value.oneCell'=true) (hzl:Nat.beq (bH z).length sz=true) (h0:Nat.blt 0 sz=true) (hp:PUpd ρ (.row a n c T2 sz (xs.map enc)) (.row a n c T2 sz ((xs.take i.toNat++List.replicate (n - i.toNat) z0).map enc)) ρ') (h:K (.tup []) ρ'):POpL o σ ρ K:=fun κ σ' rr g hs hr β hinv Nx hkk=>by
 obtain ⟨⟨hi0,hi1,hi2⟩,_⟩:=ft hm
 generalize hkk':i.toNat=k at *
 have hsz0:0<sz:=by have:=h0;simp [Nat.blt] at this;omega
 have hzlen:=Nat.eq_of_beq_eq_true hzl
 have hr0:=hr
 obtain ⟨r0,l1,l2,rfl,h4,h5⟩:=hr.upd hp
 cases h4 with
 | row hb ho1 hc =>
  rename_i dss
  have hw:=hinv.own (Res.row a n c T2 sz dss) (by simp)
  have hdl:dss.length=n:=(ga hw).2.1
  have hdw:=(ga hw).2.2
  have hxl:xs.length=n:=by have e:=hc.len;rw [List.length_map] at e;omega
  have hcap:=yH hw
  have e1:ev σ' x=_:=hs.v1 hx
  have hun:=run_underlying (w:=κ.w) (bB hu)
  have fin:∀ κ',Kle κ κ'→RRel κ' (.row a n c T2 sz ((xs.take k++List.replicate (n - k) z0).map enc)) (Res.row a n c T2 sz (dss.take k++List.replicate (n - k) (bH z))):=fun κ' hk'=>by
   refine .row hb (fun d hd=>?_) ?_
   ·rcases List.mem_append.1 hd with hd | hd
    ·exact ho1 d (List.mem_of_mem_take hd)
    rw [(List.mem_replicate.1 hd).2];exact fun u hu=>List.all_eq_true.1 hz1 u hu
   rw [List.map_append,List.map_take,List.map_replicate]
   refine ((hc.take k).app ?_).mono hk'
   rw [hzc]
   generalize n - k=q
   induction q with
   | zero=>exact .nil
   | succ q ih=>rw [List.replicate_succ,List.replicate_succ];exact .cons (jg _) ih
  rcases Nat.eq_zero_or_pos (n - k) with hz | hz
  ·have hkn:k=n:=by omega
   have hrun:(execOp (ev σ') o).run Tryz.prog κ.w=.ok (.value (.tuple #[])) κ.w:=by
    rw [show n - k=0 from hz] at e1
    unfold execOp
    simp only [ho,resolve,Sem.run_bind,Sem.run_pure,Result.andThen_ok,invoke,builtin,List.map_toArray,Array.map,e1]
    generalize (if c=k then a else a.map (·.add (k*sz)))=q at e1
    cases q <;> simp [Builtin.clear_,hun,e1]
   rw [hrun]
   have e2:dss.take k++List.replicate (n - k) (bH z)=dss:=by rw [hz,hkn,← hdl];simp
   have:=fin κ (.refl _)
   rw [e2] at this
   exact hkk _ _ κ hinv (.refl _) ⟨.tup [],ρ',.tup (ws:=[]) .nil,h5 κ _ (.refl _) this,h⟩
  have ha:=lC hw (by omega)
  generalize mW a=B at ha
  subst ha
  rw [yG (n:=n) (by omega) hcap] at e1
  obtain ⟨g0,g1,g2,g3,g4,cur,g5,g6,g7⟩:=hw
  have hbk:κ.w.heap[B]?=some (.cells cur.toList.toArray T2 (0,0)):=by simpa using g5
  have hfl:((List.replicate (n - k) (bH z)).flatten).length=(n - k)*sz:=by simp [hzlen]
  have hmul:k*sz+(n - k)*sz=n*sz:=by rw [← Nat.add_mul];congr 1;omega
  have hnc:n*sz≤c*sz:=Nat.mul_le_mul_right _ g3
  have hone:((List.replicate (n - k) (bH z)).flatten).all Value.oneCell'=true:=by
   rw [List.all_eq_true];intro u hu
   obtain ⟨d,hd,hu⟩:=List.mem_flatten.1 hu
   rw [(List.mem_replicate.1 hd).2] at hu
   exact List.all_eq_true.1 hz1 u hu
  obtain ⟨w',hrun,q1,q2,q3,q4,q5,q6⟩:=kZ (off:=k*sz) (vs:=(List.replicate (n - k) (bH z)).flatten) hbk (by simp only [Array.length_toList,g6,hfl];omega) hone
  have hzc2:=zc_flat (z:=z) (m:=n - k) hsz0 hzlen
  have hrun2:(execOp (ev σ') o).run Tryz.prog κ.w=.ok (.value (.tuple #[])) w':=by
   obtain ⟨q,hq⟩:∃ q,n - k=q+1:=⟨n - k - 1,by omega⟩
   rw [hq] at e1 hrun hzc2
   unfold execOp
   simp only [ho,resolve,Sem.run_bind,Sem.run_pure,Result.andThen_ok,invoke,builtin,List.map_toArray,Array.map,e1]
   simp [Builtin.clear_,hun,e1,dW hi,hzc2,hrun]
  rw [hrun2]
  have hsays:(Res.row (some ⟨B,0,none⟩) n c T2 sz (dss.take k++List.replicate (n - k) (bH z))).says w'.heap[B]?:=by
   refine ⟨rfl,by simp [List.length_take];omega,fun d hd=>?_,g3,g4,_,q3,?_,?_⟩
   ·rcases List.mem_append.1 hd with hd | hd
    ·exact g2 d (List.mem_of_mem_take hd)
    rw [(List.mem_replicate.1 hd).2];exact hzlen
   ·simp only [List.size_toArray,List.length_append,List.length_take,List.length_drop,Array.length_toList,g6,hfl];omega
   have hA:(List.take (k*sz) cur.toList).length=k*sz:=by rw [List.length_take,Array.length_toList,g6];omega
   rw [List.toList_toArray,List.take_left' (by rw [List.length_append,hA,hfl];exact hmul)]
   rw [List.flatten_append]
   congr 1
   have hw2:∀ d∈dss.take k,d.length=sz:=fun d hd=>g2 d (List.mem_of_mem_take hd)
   have hl2:((dss.take k).flatten).length=k*sz:=by rw [d9 hw2,List.length_take];congr 1;omega
   have:List.take (k*sz) cur.toList=List.take (k*sz) (List.take (n*sz) cur.toList):=by rw [List.take_take,Nat.min_eq_left (by omega)]
   rw [this,g7]
   have hsplit:dss.flatten=(dss.take k).flatten++(dss.drop k).flatten:=by rw [← List.flatten_append,List.take_append_drop]
   rw [hsplit,List.take_append_of_le_length (by omega),List.take_of_length_le (by omega)]
  obtain ⟨hi',hk'⟩:=hinv.turn (r:=Res.row (some ⟨B,0,none⟩) n c T2 sz dss) (r':=Res.row (some ⟨B,0,none⟩) n c T2 sz (dss.take k++List.replicate (n - k) (bH z))) rfl rfl rfl q1 q2 hsays q4 q5 q6 (lw _ _ _ _ _ hrun)
  exact hkk _ _ _ hi' hk' ⟨.tup [],ρ',.tup (ws:=[]) .nil,h5 _ _ hk' (fin _ hk'),h⟩
end
theorem te {n:Nat} {ops:Array Oper} {lo:List Oper} {K:PPost} {σ:PEnv} {ρ:List PRes} (t:Nat) {p q:PV} (ht:σ t=p) (e:q=p) (h:PWL n ops lo K (fD σ t q) ρ):PWL n ops lo K σ ρ:=by
 rw [e,sO ht] at h;exact h
section
variable {α:Type} (lt:α→α→Bool)
def ins (x:α):List α→List α
 | []=>[x]
 | y::l=>cond (lt y x) (y::ins x l) (x::y::l)
def jv:List α→List α
 | []=>[]
 | x::l=>ins lt x (jv l)
variable {lt}
theorem rC {x:α}:∀ {l:List α},(ins lt x l).Perm (x::l)
 | []=>List.Perm.refl _
 | y::l=>by
  unfold ins
  cases lt y x
  ·exact List.Perm.refl _
  exact (List.Perm.cons y rC).trans (List.Perm.swap x y l)
theorem jk:∀ {l:List α},(jv lt l).Perm l
 | []=>List.Perm.refl _
 | x::l=>rC.trans (List.Perm.cons x jk)
theorem rD (htr:∀ x y z,lt x y=true→lt y z=true→lt x z=true) (hnt:∀ x y z,lt x y=false→lt y z=false→lt x z=false) (hir:∀ x,lt x x=false) {x:α}:∀ {l:List α},l.Pairwise (fun a b=>lt b a=false)→(ins lt x l).Pairwise (fun a b=>lt b a=false)
 | [],_=>List.pairwise_singleton _ _
 | y::l,h=>by
  unfold ins
  obtain ⟨h1,h2⟩:=List.pairwise_cons.1 h
  have asym:∀ a b,lt a b=true→lt b a=false:=fun a b hab=>by
   cases hba:lt b a
   ·rfl
   have:=htr a b a hab hba;rw [hir] at this;cases this
  cases hy:lt y x
  ·refine List.pairwise_cons.2 ⟨fun z hz=>?_,h⟩
   rcases List.mem_cons.1 hz with rfl | hz
   ·exact hy
   exact hnt z y x (h1 z hz) hy
  refine List.pairwise_cons.2 ⟨fun z hz=>?_,rD htr hnt hir h2⟩
  rcases List.mem_cons.1 (rC.mem_iff.1 hz) with rfl | hz
  ·exact asym y z hy
  exact h1 z hz
theorem jW (htr:∀ x y z,lt x y=true→lt y z=true→lt x z=true) (hnt:∀ x y z,lt x y=false→lt y z=false→lt x z=false) (hir:∀ x,lt x x=false):∀ (l:List α),(jv lt l).Pairwise (fun a b=>lt b a=false)
 | []=>List.Pairwise.nil
 | x::l=>rD htr hnt hir (jW htr hnt hir l)
theorem na (ha:∀ x y,lt x y=false→lt y x=false→x=y):∀ {l m:List α},l.Pairwise (fun a b=>lt b a=false)→m.Pairwise (fun a b=>lt b a=false)→l.Perm m→l=m
 | [],m,_,_,hp=>(List.nil_perm.1 hp).symm
 | x::l,m,h1,h2,hp=>by
  obtain ⟨g1,g2⟩:=List.pairwise_cons.1 h1
  match m,h2,hp with
  | [],_,hp=>exact absurd (List.perm_nil.1 hp) (by simp)
  | y::m,h2,hp =>
   obtain ⟨k1,k2⟩:=List.pairwise_cons.1 h2
   have hxy:x=y:=by
    have hx:x∈y::m:=hp.mem_iff.1 (by simp)
    have hy:y∈x::l:=hp.mem_iff.2 (by simp)
    rcases List.mem_cons.1 hx with e | hx
    ·exact e
    rcases List.mem_cons.1 hy with e | hy
    ·exact e.symm
    exact ha x y (k1 x hx) (g1 y hy)
   subst hxy
   rw [na ha g2 k2 ((List.perm_cons x).1 hp)]
end
theorem uX {α β:Type} {x:Option α} {f:α→Option β} {a:α} (h:x=some a):x.bind f=f a:=by rw [h];rfl
theorem cU {r:Int} (h1 : -9223372036854775808≤r) (h2:r≤9223372036854775807):IntKind.i64.wrap r=r:=u9 ⟨h1,h2⟩
theorem u64s {r:Int} (h1:0≤r) (h2:r≤18446744073709551615):IntKind.u64.wrap r=r:=by simp [IntKind.wrap,IntKind.signed,IntKind.bits];omega
theorem lD {n:Nat} (h:n≤1267650600228229401496703205000):n<FUEL:=Nat.lt_of_le_of_lt h (by unfold FUEL;omega)
theorem bp {α:Type} {xs:List α} {k:Nat} (h:k<xs.length):idx xs (k:Int)=some xs[k]:=by
 unfold idx;rw [if_pos (by omega)];simp [h]
theorem gt {α:Type} [Inhabited α] {x:Option α}:gd true x=x:=rfl
theorem pC {α:Type} [Inhabited α] {x:Option α}:gd false x=some default:=rfl
theorem ko {α:Type} {l:List α} {k:Nat} (h:0<k) (hk:k<l.length) (hl:l.length≤4611686018427387904):idx l (IntKind.i64.wrap ((k:Int) - 1))=some (l[k - 1]'(by omega)):=by
 rw [cU (by omega) (by omega),show (k:Int) - 1=((k - 1:Nat):Int) by omega]
 exact bp (by omega)
theorem dr {k:Nat} {n:Nat} (hk:k<n) (hn:n≤4611686018427387904):IntKind.i64.wrap ((k:Int)+1)=((k+1:Nat):Int):=by rw [cU (by omega) (by omega)];omega
theorem ml {k n:Nat} (h:k<n):decide ((k:Int)<(n:Int))=true:=by simp;omega
theorem fY (n:Nat):decide ((n:Int)<(n:Int))=false:=by simp
theorem d0k {k:Nat}:decide ((0:Int)<(k:Int))=decide (0<k):=by by_cases h:0<k <;> simp [h] <;> omega
theorem eM {α:Type} {by':Nat} {xs ys:List α} (h:(xs.length+ys.length)*by'≤140737488355328) (h2:xs.length+ys.length≤140737488355328):app by' xs ys=some (xs++ys):=by unfold app;rw [if_pos ⟨h,h2⟩]
theorem us {α:Type} {xs:List α} {a b:Nat} (h:a≤b) (h2:b≤xs.length):sub xs (a:Int) (b:Int)=some ((xs.take b).drop a):=by
 unfold sub;rw [if_pos (by omega)];simp
theorem sub_pre {α:Type} (l:List α) (n:Int) (hn:0≤n):sub l 0 (ji (l.length:Int) n)=some (l.take n.toNat):=by
 unfold sub
 have:ji (l.length:Int) n=((min l.length n.toNat:Nat):Int):=by unfold ji;split <;> omega
 rw [this,if_pos (by omega)];simp [Nat.min_comm]
theorem xB {b:Nat} {n:Nat} (h:b*n≤140737488355328) (h2:n≤140737488355328):zS b (n:Int)=some ():=by unfold zS;rw [if_pos (by simp;omega)]
theorem BS {b:Int} (h:b≠0):nz b=some ():=by unfold nz;rw [if_neg h]
def bindR {A B R:Type} (p:A⊕R) (g:A→B⊕R):B⊕R:=match p with | .inl a=>g a | .inr r=>.inr r
def run {α A R:Type} (f:Nat→α→A→A⊕R):List α→Nat→A→A⊕R
 | [],_,a=>.inl a
 | x::xs,k,a=>bindR (f k x a) (fun a'=>run f xs (k+1) a')
theorem kp {α A R:Type} (f:Nat→α→A→A⊕R) (x:α) (xs:List α) (k:Nat) (a:A):run f (x::xs) k a=bindR (f k x a) (run f xs (k+1)):=rfl
def zU {S T A R:Type} (g:A→S) (e:R→T):A⊕R→S⊕T
 | .inl a=>.inl (g a)
 | .inr r=>.inr (e r)
def ut {T A R:Type} (g:A→T) (e:R→T):A⊕R→T
 | .inl a=>g a
 | .inr r=>e r
theorem vW {S T α A R:Type} {l:List α} (hl:l.length≤4611686018427387904) {body:S→Option (S⊕T)} (pack:Int→A→S) (f:Nat→α→A→A⊕R) (fin:A→T) (exit:R→T) (P:Nat→A→Prop)
    (hstep:∀ (k:Nat) (hk:k<l.length) (a:A),P k a→body (pack (k:Int) a)=some (zU (pack ((k+1:Nat):Int)) exit (f k l[k] a))∧∀ a',f k l[k] a=.inl a'→P (k+1) a')
    (hend:∀ a,P l.length a→body (pack (l.length:Int) a)=some (.inr (fin a))) (a:A) (h0:P 0 a):bf body FUEL (pack 0 a)=some (ut fin exit (run f l 0 a))∧∀ a',run f l 0 a=.inl a'→P l.length a':=by
  have main:∀ (xs:List α) (k N:Nat) (a:A),l.drop k=xs→k≤l.length→P k a→xs.length<N→bf body N (pack (k:Int) a)=some (ut fin exit (run f xs k a))∧∀ a',run f xs k a=.inl a'→P l.length a':=by
    intro xs
    induction xs with
    | nil =>
      intro k N a hd hk hp hN
      have:k=l.length:=by
        have:=congrArg List.length hd;simp at this;omega
      subst this
      obtain ⟨N,rfl⟩:∃ M,N=M+1:=⟨N - 1,by omega⟩
      rw [gA,hend a hp]
      exact ⟨rfl,fun a' h=>by injection h with h;exact h ▸ hp⟩
    | cons x xs ih =>
      intro k N a hd hk hp hN
      have hk':k<l.length:=by
        have:=congrArg List.length hd;simp at this;omega
      have hx:l[k]=x∧l.drop (k+1)=xs:=by
        rw [List.drop_eq_getElem_cons hk'] at hd;injection hd with h1 h2;exact ⟨h1,h2⟩
      obtain ⟨N,rfl⟩:∃ M,N=M+1:=⟨N - 1,by omega⟩
      obtain ⟨e1,e2⟩:=hstep k hk' a hp
      rw [hx.1] at e1 e2
      rw [gA,e1]
      rw [kp]
      cases hf:f k x a with
      | inl a'=>exact ih (k+1) N a' hx.2 (by omega) (e2 a' hf) (by simp at hN;omega)
      | inr r=>exact ⟨rfl,fun a' h=>by change Sum.inr r=_ at h;cases h⟩
  exact main l 0 FUEL a rfl (by omega) h0 (lD (by omega))
theorem lE {S T α A R β:Type} {l:List α} (hl:l.length≤4611686018427387904) {body:S→Option (S⊕T)} {k:T→Option β} (pack:Int→A→S) (f:Nat→α→A→A⊕R) (fin:A→T) (exit:R→T) (P:Nat→A→Prop) (a:A) (h0:P 0 a)
    (hstep:∀ (k:Nat) (hk:k<l.length) (a:A),P k a→body (pack (k:Int) a)=some (zU (pack ((k+1:Nat):Int)) exit (f k l[k] a))∧∀ a',f k l[k] a=.inl a'→P (k+1) a')
    (hend:∀ a,P l.length a→body (pack (l.length:Int) a)=some (.inr (fin a))):Option.bind (bf body FUEL (pack 0 a)) k=k (ut fin exit (run f l 0 a)):=uX (vW hl pack f fin exit P hstep hend a h0).1
def co {α T:Type} (g:Nat→α→Option T):List α→Nat→Option T
 | [],_=>none
 | x::xs,k=>match g k x with | some t=>some t | none=>co g xs (k+1)
def zV {T:Type} (k:Nat):Option T→Int⊕T
 | some t=>.inr t
 | none=>.inl ((k+1:Nat):Int)
theorem cR {T α β:Type} {l:List α} (hl:l.length≤4611686018427387904) {body:Int→Option (Int⊕T)} {k:T→Option β} (g:Nat→α→Option T) (e:T)
    (hstep:∀ (k:Nat) (hk:k<l.length),body (k:Int)=some (zV k (g k l[k]))) (hend:body (l.length:Int)=some (.inr e)):Option.bind (bf body FUEL 0) k=k ((co g l 0).getD e):=by
  refine (lE hl (fun i (_:Unit)=>i) (fun k x _=>match g k x with | some t=>.inr t | none=>.inl ()) (fun _=>e) (fun (t:T)=>t) (fun _ _=>True) () trivial (fun k hk a _=>⟨by
    rw [hstep k hk];cases g k l[k] <;> rfl,fun _ _=>trivial⟩) (fun a _=>hend)).trans ?_
  congr 1
  generalize 0=i
  induction l generalizing i with
  | nil=>rfl
  | cons x xs ih =>
    clear hstep hend
    have ih2:∀ j,ut (fun _=>e) (fun t=>t) (run (fun k x (_:Unit)=>match g k x with | some t=>Sum.inr t | none=>Sum.inl ()) xs j ())=(co g xs j).getD e:=by
      clear ih hl
      induction xs with
      | nil=>intro j;rfl
      | cons y ys ih=>intro j;rw [kp,co];cases g j y with | some t=>rfl | none=>exact ih (j+1)
    rw [kp,co]
    cases g i x with
    | some t=>rfl
    | none=>exact ih2 (i+1)
theorem tf {α T:Type} (p:α→Bool) (t:T):∀ (l:List α) (k:Nat),co (fun _ x=>cond (p x) none (some t)) l k=cond (l.all p) none (some t)
 | [],_=>rfl
 | x::xs,k=>by
  rw [co,List.all_cons,tf p t xs]
  cases p x <;> rfl
theorem nS {α T:Type} (p:α→Bool) (f:α→T):∀ (l:List α) (k:Nat),co (fun _ x=>cond (p x) (some (f x)) none) l k=(l.find? p).map f
 | [],_=>rfl
 | x::xs,k=>by
  rw [co,List.find?_cons,nS p f xs]
  cases p x <;> rfl
theorem kq {α T:Type} {g:Nat→α→Option T}:∀ {l:List α} {k:Nat},co g l k=none↔∀ i x,l[i]?=some x→g (k+i) x=none
 | [],k=>by simp [co]
 | x::xs,k=>by
  rw [co]
  constructor
  ·intro h i y hy
   cases hg:g k x with
   | some t=>rw [hg] at h;cases h
   | none =>
    rw [hg] at h
    cases i with
    | zero=>simp at hy;subst hy;exact hg
    | succ i=>have:=kq.1 h i y (by simpa using hy);rw [show k+(i+1)=k+1+i by omega];exact this
  intro h
  have h0:=h 0 x rfl
  rw [Nat.add_zero] at h0
  rw [h0]
  exact kq.2 fun i y hy=>by have:=h (i+1) y (by simpa using hy);rw [show k+1+i=k+(i+1) by omega];exact this
theorem ez {S T α A β:Type} {l:List α} (hl:l.length≤4611686018427387904) {body:S→Option (S⊕T)} {k:T→Option β} (pack:Int→A→S) (f:A→α→A) (fin:A→T) (P:Nat→A→Prop) (a:A) (h0:P 0 a)
    (hstep:∀ (k:Nat) (hk:k<l.length) (a:A),P k a→body (pack (k:Int) a)=some (.inl (pack ((k+1:Nat):Int) (f a l[k])))∧P (k+1) (f a l[k]))
    (hend:∀ a,P l.length a→body (pack (l.length:Int) a)=some (.inr (fin a))):Option.bind (bf body FUEL (pack 0 a)) k=k (fin (l.foldl f a))∧P l.length (l.foldl f a):=by
  have e:=vW hl pack (fun _ x a=>(.inl (f a x):A⊕Empty)) fin (fun r=>nomatch r) P (fun k hk a hp=>⟨(hstep k hk a hp).1,fun a' h=>by injection h with h;exact h ▸ (hstep k hk a hp).2⟩) hend a h0
  have e2:∀ (xs:List α) (i:Nat) (b:A),run (fun _ x a=>(.inl (f a x):A⊕Empty)) xs i b=.inl (xs.foldl f b):=by
    intro xs
    induction xs with
    | nil=>intro i b;rfl
    | cons x xs ih=>intro i b;rw [kp,List.foldl_cons];exact ih _ _
  rw [e2] at e
  exact ⟨uX e.1,e.2 _ rfl⟩
theorem ib {α:Type} {l:List α} {k:Nat} (h:k<l.length) (d:α):l.getD k d=l[k]:=by simp [List.getD,h]
theorem u8tri (a b:UInt8):a<b∨a=b∨b<a:=by
 rcases Nat.lt_trichotomy a.toNat b.toNat with h | h | h
 ·exact .inl h
 ·exact .inr (.inl (UInt8.toNat_inj.1 h))
 exact .inr (.inr h)
theorem tg:∀ (x y:List UInt8),(Op.bytesLess x y||(x == y)) = !Op.bytesLess y x
 | [],[]=>by simp [Op.bytesLess]
 | _::_,[]=>by simp [Op.bytesLess]
 | [],_::_=>by simp [Op.bytesLess]
 | a::x,b::y=>by
  rw [Op.bytesLess,Op.bytesLess]
  have ih:=tg x y
  rcases u8tri a b with h | h | h
  ·have h1:¬ b<a:=fun h'=>by have:a.toNat<b.toNat:=h;have:b.toNat<a.toNat:=h';omega
   have h2:¬ b=a:=fun h'=>by subst h';have:b.toNat<b.toNat:=h;omega
   have h3:¬ a=b:=fun h'=>h2 h'.symm
   simp [h,h1,h2]
  ·subst h
   have h1:¬ a<a:=fun h'=>by have:a.toNat<a.toNat:=h';omega
   simp [h1] at ih ⊢
   rw [← ih]
  have h1:¬ a<b:=fun h'=>by have:a.toNat<b.toNat:=h';have:b.toNat<a.toNat:=h;omega
  have h3:¬ a=b:=fun h'=>by subst h';have:a.toNat<a.toNat:=h;omega
  simp [h,h1,h3]
theorem str_ext {x y:ByteArray}:x=y↔x.data.toList=y.data.toList:=by
 constructor
 ·rintro rfl;rfl
 intro h;cases x;cases y;congr 1;exact Array.toList_inj.1 h
theorem qu (x y:ByteArray):(Op.bytesLess x.toList y.toList||decide (x=y)) = !Op.bytesLess y.toList x.toList:=by
 rw [← tN];exact tg _ _
structure Zw where
 Kind:Int
 Measure:Int
 Quantity:Int
 Value:Int
 Amount:Int
 deriving Inhabited,DecidableEq
def Zw.enc (m:Zw):List PV:=[pI m.Kind,pI m.Measure,pI m.Quantity,pI m.Value,pI m.Amount]
def Zw.eqb (a b:Zw):Bool:=((a.Kind == b.Kind)&&((a.Measure == b.Measure)&&((a.Quantity == b.Quantity)&&((a.Value == b.Value)&&((a.Amount == b.Amount)&&true)))))
theorem Zw.eqb_iff {a b:Zw}:Zw.eqb a b=true↔a=b:=by cases a;cases b;simp [Zw.eqb]
structure ZD where
 Lines:(List Zw)
 Total:Int
 deriving Inhabited,DecidableEq
def ZD.enc (m:ZD):List PV:=[pL Zw.enc m.Lines,pI m.Total]
structure Zz where
 Code:ByteArray
 Origin:ByteArray
 Proof:Bool
 Company:Int
 Day:Int
 Quantity:Int
 Value:Int
 Granted:Int
 deriving Inhabited,DecidableEq
def Zz.enc (m:Zz):List PV:=[pS m.Code,pS m.Origin,pB m.Proof,pI m.Company,pI m.Day,pI m.Quantity,pI m.Value,pI m.Granted]
def Zz.eqb (a b:Zz):Bool:=((decide (a.Code=b.Code))&&((decide (a.Origin=b.Origin))&&((a.Proof == b.Proof)&&((a.Company == b.Company)&&((a.Day == b.Day)&&((a.Quantity == b.Quantity)&&((a.Value == b.Value)&&((a.Granted == b.Granted)&&true))))))))
theorem Zz.eqb_iff {a b:Zz}:Zz.eqb a b=true↔a=b:=by cases a;cases b;simp [Zz.eqb]
structure Zf where
 Product:Int
 Value:Int
 deriving Inhabited,DecidableEq
def Zf.enc (m:Zf):List PV:=[pI m.Product,pI m.Value]
def Zf.eqb (a b:Zf):Bool:=((a.Product == b.Product)&&((a.Value == b.Value)&&true))
theorem Zf.eqb_iff {a b:Zf}:Zf.eqb a b=true↔a=b:=by cases a;cases b;simp [Zf.eqb]
structure Zb where
 ID:Int
 Code:ByteArray
 Country:ByteArray
 Price:Int
 Obtained:Bool
 Processes:(List ByteArray)
 Inputs:(List Zf)
 deriving Inhabited,DecidableEq
def Zb.enc (m:Zb):List PV:=[pI m.ID,pS m.Code,pS m.Country,pI m.Price,pB m.Obtained,pL eS m.Processes,pL Zf.enc m.Inputs]
structure Za where
 Product:Int
 Agreement:Int
 deriving Inhabited,DecidableEq
def Za.enc (m:Za):List PV:=[pI m.Product,pI m.Agreement]
def Za.eqb (a b:Za):Bool:=((a.Product == b.Product)&&((a.Agreement == b.Agreement)&&true))
theorem Za.eqb_iff {a b:Za}:Za.eqb a b=true↔a=b:=by cases a;cases b;simp [Za.eqb]
theorem Za.eqok57:EqOk 57 [0,0]:=⟨by kernel_rfl,by kernel_rfl,by kernel_rfl,by kernel_rfl⟩
structure Zg where
 Claim:Za
 Path:(List Int)
 Premises:(List Za)
 deriving Inhabited,DecidableEq
def Zg.enc (m:Zg):List PV:=[pI m.Claim.Product,pI m.Claim.Agreement,pL eI m.Path,pL Za.enc m.Premises]
structure Zy where
 Rate:Int
 Amount:Int
 Per:Int
 HasMost:Bool
 Most:Int
 HasLeast:Bool
 Least:Int
 deriving Inhabited,DecidableEq
def Zy.enc (m:Zy):List PV:=[pI m.Rate,pI m.Amount,pI m.Per,pB m.HasMost,pI m.Most,pB m.HasLeast,pI m.Least]
def Zy.eqb (a b:Zy):Bool:=((a.Rate == b.Rate)&&((a.Amount == b.Amount)&&((a.Per == b.Per)&&((a.HasMost == b.HasMost)&&((a.Most == b.Most)&&((a.HasLeast == b.HasLeast)&&((a.Least == b.Least)&&true)))))))
theorem Zy.eqb_iff {a b:Zy}:Zy.eqb a b=true↔a=b:=by cases a;cases b;simp [Zy.eqb]
structure ZC where
 ID:Int
 Kind:Int
 Prefix:ByteArray
 Origins:(List ByteArray)
 Company:Int
 From:Int
 To:Int
 Registered:Int
 Duty:Zy
 deriving Inhabited,DecidableEq
def ZC.enc (m:ZC):List PV:=[pI m.ID,pI m.Kind,pS m.Prefix,pL eS m.Origins,pI m.Company,pI m.From,pI m.To,pI m.Registered,pI m.Duty.Rate,pI m.Duty.Amount,pI m.Duty.Per,pB m.Duty.HasMost,pI m.Duty.Most,pB m.Duty.HasLeast,pI m.Duty.Least]
structure Zj where
 L:(List Int)
 I:Int
 deriving Inhabited,DecidableEq
def Zj.enc (m:Zj):List PV:=[pL eI m.L,pI m.I]
structure Zp where
 kind:Int
 measure:Int
 deriving Inhabited,DecidableEq
def Zp.enc (m:Zp):List PV:=[pI m.kind,pI m.measure]
def Zp.eqb (a b:Zp):Bool:=((a.kind == b.kind)&&((a.measure == b.measure)&&true))
theorem Zp.eqb_iff {a b:Zp}:Zp.eqb a b=true↔a=b:=by cases a;cases b;simp [Zp.eqb]
structure ZB where
 keys:(List Zp)
 sums:(List (Zp×Int))
 deriving Inhabited
structure Ze where
 Kind:Int
 Digits:Int
 Except:(List ByteArray)
 Tolerance:Int
 Limit:Int
 Name:ByteArray
 Args:(List Ze)
 deriving Inhabited
mutual
def Ze.enc:Ze→List PV
 | ⟨Kind0,Digits0,Except0,Tolerance0,Limit0,Name0,Args0⟩=>[pI Kind0,pI Digits0,pL eS Except0,pI Tolerance0,pI Limit0,pS Name0,.slc Args0.length (Ze.encs Args0)]
def Ze.encs:List Ze→List (List PV)
 | []=>[]
 | r::l=>r.enc::Ze.encs l
end
theorem Ze.encs_eq:∀ (l:List Ze),Ze.encs l=List.map Ze.enc l
 | []=>by rw [Ze.encs];rfl
 | r::l=>by rw [Ze.encs,Ze.encs_eq l];rfl
theorem Ze.enc_eq (m:Ze):m.enc=[pI m.Kind,pI m.Digits,pL eS m.Except,pI m.Tolerance,pI m.Limit,pS m.Name,pL Ze.enc m.Args]:=by cases m;rw [Ze.enc,Ze.encs_eq]
structure Zk where
 Prefix:ByteArray
 Rule:Ze
 deriving Inhabited
def Zk.enc (m:Zk):List PV:=[pS m.Prefix,pI m.Rule.Kind,pI m.Rule.Digits,pL eS m.Rule.Except,pI m.Rule.Tolerance,pI m.Rule.Limit,pS m.Rule.Name,pL Ze.enc m.Rule.Args]
structure Zc where
 ID:Int
 Kind:Int
 Parties:(List ByteArray)
 Rules:(List Zk)
 deriving Inhabited
def Zc.enc (m:Zc):List PV:=[pI m.ID,pI m.Kind,pL eS m.Parties,pL Zk.enc m.Rules]
structure Zi where
 claim:Za
 rule:Ze
 deriving Inhabited
def Zi.enc (m:Zi):List PV:=[pI m.claim.Product,pI m.claim.Agreement,pI m.rule.Kind,pI m.rule.Digits,pL eS m.rule.Except,pI m.rule.Tolerance,pI m.rule.Limit,pS m.rule.Name,pL Ze.enc m.rule.Args]
structure Zl where
 Code:ByteArray
 Value:Int
 Originating:Bool
 deriving Inhabited,DecidableEq
def Zl.enc (m:Zl):List PV:=[pS m.Code,pI m.Value,pB m.Originating]
def Zl.eqb (a b:Zl):Bool:=((decide (a.Code=b.Code))&&((a.Value == b.Value)&&((a.Originating == b.Originating)&&true)))
theorem Zl.eqb_iff {a b:Zl}:Zl.eqb a b=true↔a=b:=by cases a;cases b;simp [Zl.eqb]
structure Zm where
 Code:ByteArray
 Price:Int
 Obtained:Bool
 Processes:(List ByteArray)
 Inputs:(List Zl)
 deriving Inhabited,DecidableEq
def Zm.enc (m:Zm):List PV:=[pS m.Code,pI m.Price,pB m.Obtained,pL eS m.Processes,pL Zl.enc m.Inputs]
structure Zu where
 Hi:Int
 Lo:Int
 deriving Inhabited,DecidableEq
def Zu.enc (m:Zu):List PV:=[pU m.Hi,pU m.Lo]
def Zu.eqb (a b:Zu):Bool:=((a.Hi == b.Hi)&&((a.Lo == b.Lo)&&true))
theorem Zu.eqb_iff {a b:Zu}:Zu.eqb a b=true↔a=b:=by cases a;cases b;simp [Zu.eqb]
structure ZA where
 quantity:Int
 value:Int
 kinds:(List Int)
 deriving Inhabited,DecidableEq
def ZA.enc (m:ZA):List PV:=[pI m.quantity,pI m.value,pL eI m.kinds]
structure Zs where
 partners:(List Int)
 set_:(List (Za×Bool))
 deriving Inhabited
structure Zq where
 use:Zl
 premise:Za
 deriving Inhabited,DecidableEq
def Zq.enc (m:Zq):List PV:=[pS m.use.Code,pI m.use.Value,pB m.use.Originating,pI m.premise.Product,pI m.premise.Agreement]
structure Zv where
 rule:Ze
 deriving Inhabited
def Zv.enc (m:Zv):List PV:=[pI m.rule.Kind,pI m.rule.Digits,pL eS m.rule.Except,pI m.rule.Tolerance,pI m.rule.Limit,pS m.rule.Name,pL Ze.enc m.rule.Args]
structure Zr where
 index_:Int
 share:Int
 rest:Int
 deriving Inhabited,DecidableEq
def Zr.enc (m:Zr):List PV:=[pI m.index_,pU m.share,pU m.rest]
def Zr.eqb (a b:Zr):Bool:=((a.index_ == b.index_)&&((a.share == b.share)&&((a.rest == b.rest)&&true)))
theorem Zr.eqb_iff {a b:Zr}:Zr.eqb a b=true↔a=b:=by cases a;cases b;simp [Zr.eqb]
structure Zx where
 compare:Unit
 deriving Inhabited,DecidableEq
def Zx.enc (m:Zx):List PV:=[.fn 142 []]
structure Zn where
 Hi:Int
 Lo:Int
 deriving Inhabited,DecidableEq
def Zn.enc (m:Zn):List PV:=[pU m.Hi,pU m.Lo]
def Zn.eqb (a b:Zn):Bool:=((a.Hi == b.Hi)&&((a.Lo == b.Lo)&&true))
theorem Zn.eqb_iff {a b:Zn}:Zn.eqb a b=true↔a=b:=by cases a;cases b;simp [Zn.eqb]
theorem Zn.eqok249:EqOk 249 [0,0]:=⟨by kernel_rfl,by kernel_rfl,by kernel_rfl,by kernel_rfl⟩
structure Zt where
 use:Zl
 deriving Inhabited,DecidableEq
def Zt.enc (m:Zt):List PV:=[pS m.use.Code,pI m.use.Value,pB m.use.Originating]
def Za.key (m:Za):Value:=kP m.Product m.Agreement
theorem Za.kenc57:KEnc 57 Za.key:=⟨⟨PairKey,BK _ _ rfl (by kernel_rfl) (by kernel_rfl) (by decide) (by decide) rfl rfl rfl rfl,fun a=>⟨_,_,rfl⟩⟩,fun a b h=>by cases a;cases b;simp only [Za.key,kP] at h;injection h with h;simp at h;simp [h]⟩
def Zp.key (m:Zp):Value:=kP m.kind m.measure
inductive Zd where
 | plain_ (a:Zt)
 | proved_ (a:Zq)
 deriving Inhabited
def Zd.tag:Zd→Nat
 | .plain_ _=>268
 | .proved_ _=>179
def Zd.val:Zd→PV
 | .plain_ a=>.agg [pS a.use.Code,pI a.use.Value,pB a.use.Originating]
 | .proved_ a=>.agg [pS a.use.Code,pI a.use.Value,pB a.use.Originating,pI a.premise.Product,pI a.premise.Agreement]
def Zd.pv (m:Zd):PV:=.ifc m.tag m.val
def Zd.enc (m:Zd):List PV:=[m.pv]
def Zd.is_proved_:Zd→Bool
 | .proved_ _=>true
 | _=>false
def Zd.as_proved_:Zd→Zq
 | .proved_ a=>a
 | _=>(⟨(⟨ByteArray.empty,(0:Int),false⟩:Zl),(⟨(0:Int),(0:Int)⟩:Za)⟩:Zq)
theorem Zd.ta_proved_ (m:Zd):ta 179 m.pv=some (.tup [.agg [pS ((((Zd.as_proved_ m)).use).Code),pI ((((Zd.as_proved_ m)).use).Value),pB ((((Zd.as_proved_ m)).use).Originating),pI ((((Zd.as_proved_ m)).premise).Product),pI ((((Zd.as_proved_ m)).premise).Agreement)],pB (Zd.is_proved_ m)]):=by cases m <;> rfl
inductive Zh where
 | single_ (a:Zv)
 | every_ (a:(List Zh))
 | some_ (a:(List Zh))
 deriving Inhabited
def Zh.tag:Zh→Nat
 | .single_ _=>227
 | .every_ _=>224
 | .some_ _=>225
mutual
def Zh.val:Zh→PV
 | .single_ a=>.agg [pI a.rule.Kind,pI a.rule.Digits,pL eS a.rule.Except,pI a.rule.Tolerance,pI a.rule.Limit,pS a.rule.Name,pL Ze.enc a.rule.Args]
 | .every_ a=>.slc a.length (Zh.encs a)
 | .some_ a=>.slc a.length (Zh.encs a)
def Zh.encs:List Zh→List (List PV)
 | []=>[]
 | r::l=>[.ifc r.tag r.val]::Zh.encs l
end
def Zh.pv (m:Zh):PV:=.ifc m.tag m.val
def Zh.enc (m:Zh):List PV:=[m.pv]
theorem Zh.encs_eq:∀ (l:List Zh),Zh.encs l=List.map Zh.enc l
 | []=>by rw [Zh.encs];rfl
 | r::l=>by rw [Zh.encs,Zh.encs_eq l];rfl
theorem Zh.pv_single_ (a:Zv):(Zh.single_ a).pv=.ifc 227 (.agg [pI a.rule.Kind,pI a.rule.Digits,pL eS a.rule.Except,pI a.rule.Tolerance,pI a.rule.Limit,pS a.rule.Name,pL Ze.enc a.rule.Args]):=by rw [Zh.pv,Zh.val];rfl
theorem Zh.pv_every_ (a:(List Zh)):(Zh.every_ a).pv=.ifc 224 (pL Zh.enc a):=by rw [Zh.pv,Zh.val,Zh.encs_eq];rfl
theorem Zh.pv_some_ (a:(List Zh)):(Zh.some_ a).pv=.ifc 225 (pL Zh.enc a):=by rw [Zh.pv,Zh.val,Zh.encs_eq];rfl
abbrev aZ (m:Zb):List PV:=[pI m.ID,pS m.Code,pS m.Country,pI m.Price,pB m.Obtained,pL eS m.Processes,pL Zf.enc m.Inputs]
abbrev ed (m:Zg):List PV:=[pI m.Claim.Product,pI m.Claim.Agreement,pL eI m.Path,pL Za.enc m.Premises]
abbrev aN (m:Ze):List PV:=[pI m.Kind,pI m.Digits,pL eS m.Except,pI m.Tolerance,pI m.Limit,pS m.Name,pL Ze.enc m.Args]
abbrev dt (m:Zk):List PV:=[pS m.Prefix,pI m.Rule.Kind,pI m.Rule.Digits,pL eS m.Rule.Except,pI m.Rule.Tolerance,pI m.Rule.Limit,pS m.Rule.Name,pL Ze.enc m.Rule.Args]
abbrev aQ (m:Zc):List PV:=[pI m.ID,pI m.Kind,pL eS m.Parties,pL Zk.enc m.Rules]
abbrev cV (m:Zi):List PV:=[pI m.claim.Product,pI m.claim.Agreement,pI m.rule.Kind,pI m.rule.Digits,pL eS m.rule.Except,pI m.rule.Tolerance,pI m.rule.Limit,pS m.rule.Name,pL Ze.enc m.rule.Args]
abbrev cB (m:Zm):List PV:=[pS m.Code,pI m.Price,pB m.Obtained,pL eS m.Processes,pL Zl.enc m.Inputs]

section
variable {o:Oper} {σ:PEnv} {ρ:List PRes} {f:Nat} {l:List Operand} {ts:Array Nat} {pargs caps:List PV} {x:Operand} {KV:PV→List PRes→Prop}
theorem th {R:PV→List PRes→Prop} {ρ1 ρ2:List PRes} (ho:o.op=.call { callee:=.value x,args:=l.toArray,argTypes:=ts }) (hx:bj σ x=.fn f caps) (ha:l.map (bj σ)++caps=pargs) (hp:ρ.Perm (ρ1++ρ2)) (hc:PCall f pargs ρ1 R) (h:∀ pv ρ',R pv ρ'→KV pv (ρ'++ρ2)):POpL o σ ρ KV:=fun κ σ' ρ' g hs hr=>by
 obtain ⟨rs,h1,h2⟩:=hr.perm hp
 obtain ⟨r1,r2,rfl,h3,h4⟩:=h2.split
 have hv:=hs.ev x
 rw [hx] at hv
 generalize hw:ev σ' x=fv at hv
 cases hv with
 | fn hcap=>exact vc (first:=[]) ho hw rfl h1 (hc κ _ r1 g (by rw [← ha];exact (gV hs l).app hcap) h3) fun v ρ'' κ' hk ⟨pv,ρp,g1,g2,g3⟩=>⟨pv,ρp++ρ2,g1,g2.app (h4.mono hk),h pv ρp g3⟩
end
section
variable {o:Oper} {σ:PEnv} {ρ:List PRes} {x y:Operand} {t:Nat} {K:PV→List PRes→Prop} {α:Type} {enc:α→List PV} {xs:List α} {m m':α} {i:Int}
end
theorem o4 {P:Program} (w:World) (t tx ty e:TypeId) (i:TypeInfo) (z:Value) (ht:P.underlying t=some (.slice e)) (hx:P.underlying tx=some (.int .i64)) (hi:P.info? e=some i) (hz:i.zero=some z) (n:Nat) (hn:0<n) (hs:0<i.size) (hb:n*i.bytes≤140737488355328) (hm:n≤140737488355328) :
    (Builtin.append_ #[t,tx] ty #[.slice none 0 0,.int .i64 (n:Int)]).run P w=.ok (.slice (some ⟨w.heap.size,0,none⟩) n (grownCap w n 0 e)) (w.drew.alloc (.cells (Builtin.zeroCells z.cells n++Builtin.zeroCells z.cells (grownCap w n 0 e - n)) e)):=by
  have hw:IntKind.i64.wrap (n:Int)=n:=by simp [IntKind.wrap,IntKind.signed,IntKind.bits];omega
  have h1:¬ ((n:Int)<0):=by omega
  have h2:¬ (281474976710656<(n:Int)*(i.bytes:Int)):=by
    have:(n:Int)*(i.bytes:Int)=((n*i.bytes:Nat):Int):=by simp
    omega
  have h3:¬ n=0:=by omega
  have h4:¬ i.size=0:=by omega
  have h5:¬ (281474976710656<Builtin.nextslicecap n 0*i.bytes):=by
    have:Builtin.nextslicecap n 0=n:=by unfold Builtin.nextslicecap;rw [if_pos (by omega)]
    rw [this];omega
  have h6:¬ (9223372036854775807<(n:Int)):=by omega
  simp [Builtin.append_,run_underlying ht,run_underlying hx,sizeOf,typeInfo,zeroValue,hi,hz,asInt,asIntOf,hw,h1,h2,h3,h4,h5,h6,Question.forced,newRow,grownCap,Builtin.firstCells]
  exact fun h=>absurd h (Nat.mul_ne_zero h3 h4)
theorem BT {o:Oper} {σ:Env} {ρ l:List Res} {κ:Kr} {K:Value→List Res→Kr→Prop} {s x:Operand} {t ti T n sz by':Nat} {z:Value} (ho:o.op=.call { callee:=.builtin .append,args:=#[s,x],argTypes:=#[t,ti] }) (hu:em t=some (.slice T)) (hui:em ti=some (.int .i64)) (hi:fC T=some (z,sz,by')) (hz:Nat.beq z.cells.size sz=true) (h0:Nat.blt 0 sz=true) (hs:ev σ s=.slice none 0 0) (hx:ev σ x=.int .i64 (n:Int)) (hn:0<n) (hb:n*by'≤140737488355328∧n≤140737488355328)
    (hp:Pick ρ (Res.row none 0 0 T sz []) l) (h:∀ a c κ',Kle κ κ'→n≤c→K (.slice a n c) (Res.row a 0 c T sz []::l) κ'):OpL o σ ρ κ K:=fun β hinv Nx hk=>by
  obtain ⟨i,hinf,hz0,hsz,hby⟩:=nx hi
  have hsz0:0<sz:=by have h:=h0;simp [Nat.blt] at h;omega
  have hr:=o4 (P:=Tryz.prog) κ.w t ti o.type T i z (bB hu) (bB hui) hinf hz0 n hn (by rw [hsz];exact hsz0) (by rw [hby];exact hb.1) hb.2
  have hge:=grownCap_ge κ.w n 0 T
  have hcm:grownCap κ.w n 0 T≤maxLen:=grownCap_le_maxLen κ.w n 0 T (by unfold maxLen;omega)
  have hi2:=hinv.perm hp
  have hzs:=Nat.eq_of_beq_eq_true hz
  have hhold:(Res.row (some ⟨κ.w.heap.size,0,none⟩) 0 (grownCap κ.w n 0 T) T sz []).holds (κ.w.drew.alloc (.cells (Builtin.zeroCells z.cells n++Builtin.zeroCells z.cells (grownCap κ.w n 0 T - n)) T)):=by
    refine ⟨rfl,rfl,fun _ h=>(by cases h),Nat.zero_le _,hcm,_,heap_alloc_new κ.w.drew _,?_,by simp⟩
    simp only [Array.size_append,size_zeroCells,hzs,← Nat.add_mul]
    congr 1;omega
  obtain ⟨hi3,hk3⟩:=hi2.grow (r':=Res.row (some ⟨κ.w.heap.size,0,none⟩) 0 (grownCap κ.w n 0 T) T sz []) (w':=κ.w.drew.alloc (.cells (Builtin.zeroCells z.cells n++Builtin.zeroCells z.cells (grownCap κ.w n 0 T - n)) T)) ⟨rfl,rfl,rfl,by simp,fun k hk _=>by first | exact Go.heap_alloc_old κ.w.drew _ k hk | exact heap_alloc_old κ.w.drew _ hk⟩ (.inr (.inr rfl)) hhold (w5 hhold) (lw _ _ _ _ _ hr)
  unfold execOp
  simp only [ho,resolve,invoke,builtin,Sem.run_bind,Sem.run_pure,Result.andThen_ok,List.map_toArray,List.map_cons,List.map_nil,hs,hx,hr,OutV]
  exact hk _ _ _ hi3 hk3 (h _ _ _ hk3 hge)
theorem vX {o:Oper} {σ:PEnv} {ρ l:List PRes} {K:PV→List PRes→Prop} {s x:Operand} {t ti T sz by':Nat} {n:Int} {z:Value} {u:Unit} (ho:o.op=.call { callee:=.builtin .append,args:=#[s,x],argTypes:=#[t,ti] }) (hu:em t=some (.slice T)) (hui:em ti=some (.int .i64)) (hi:fC T=some (z,sz,by')) (hz:Nat.beq z.cells.size sz=true) (h0:Nat.blt 0 sz=true) (hs:bj σ s=.v (.slice none 0 0)) (hx:bj σ x=.v (.int .i64 n)) (hn:0<n) (hm:zS by' n=some u)
    (hp:PPick ρ (.row none 0 0 T sz []) l) (h:∀ a c,n.toNat≤c→K (.v (.slice a n.toNat c)) (.row a 0 c T sz []::l)):POpL o σ ρ K:=fun κ σ' ρ' g hm' hrr=>by
  unfold zS at hm
  split at hm
  · rename_i hb
    obtain ⟨h1,h2,h3⟩:=hb
    have hn':n=((n.toNat:Nat):Int):=by omega
    obtain ⟨r,l',k1,k2,k3⟩:=hrr.pick hp
    cases k2 with
    | row hbn ho1 hc =>
      rename_i dss
      have:=hc.nil_inv;subst this
      exact BT ho hu hui hi hz h0 (hm'.v1 hs) (by rw [hm'.v1 hx,← hn']) (by omega) ⟨by rw [Nat.mul_comm];exact h2,h3⟩ k1 fun a c κ' hk hge=>⟨_,_,.v rfl,.cons (.row (by omega) (fun _ h=>by cases h) .nil) (k3.mono hk),h a c hge⟩
  cases hm
theorem BU {by':Nat} {n:Int} {u:Unit} (h:zS by' n=some u):0≤n∧n≤140737488355328:=by
 unfold zS at h
 split at h
 ·rename_i hb;omega
 cases h
theorem tj {n:Int} (h0:0≤n) (h1:n≤140737488355328):IntKind.i64.wrap (n - IntKind.i64.wrap (((0:Nat):Int) - ((0:Nat):Int)))=n:=by
 simp [IntKind.wrap,IntKind.signed,IntKind.bits];omega
theorem oq_cap {o:Oper} {σ:Env} {ρ:List Res} {κ:Kr} {c:Bool} {x:Operand} {t n cp E:Nat} {a:Option Addr} (ho:o.op=.call { callee:=.builtin .cap,args:=#[x],argTypes:=#[t] }) (hu:em t=some (.slice E)) (hx:Ev σ c x (.slice a n cp)):OpQ c o σ ρ κ (.int .i64 (cp:Int)):=fun hc w _=>by
 simp [execOp,ho,resolve,invoke,builtin,Builtin.cap_,hx hc,run_underlying (bB hu),goInt]
theorem qw {o:Oper} {σ:PEnv} {ρ:List PRes} {c:Bool} {x:Operand} {t E nn cp:Nat} {ad:Option Addr} (ho:o.op=.call { callee:=.builtin .cap,args:=#[x],argTypes:=#[t] }) (hu:em t=some (.slice E)) (hx:PEv σ c x (.v (.slice ad nn cp))):POpQ c o σ ρ (.v (.int .i64 (cp:Int))):=fun κ σ' ρ' g hs hrr=>⟨_,fun _=>.v rfl,oq_cap ho hu (hs.ve hx)⟩
theorem nB {o:Oper} {σ:PEnv} {ρ:List PRes} {c:Bool} {x y:Operand} {t E sz by' nn cp k:Nat} {z:Value} {ad:Option Addr} {kd:IntKind} {i:Int} (ho:o.op=.slice t x none (some y) none) (hu:em t=some (.slice E)) (hi:fC E=some (z,sz,by')) (hx:PEv σ c x (.v (.slice ad nn cp))) (hy:PEv σ c y (.v (.int kd i))) (hik:i=(k:Int)) (hk:k≤cp):POpQ c o σ ρ (.v (.slice ad k cp)):=fun κ σ' ρ' g hs hrr=>⟨_,fun _=>.v rfl,nO ho hu hi (hs.ve hx) (hs.ve hy) (fun _=>hik) (fun _=>hk)⟩

def memN (t:Nat):List Nat→Bool
 | []=>false
 | x::l=>cond (Nat.beq t x) true (memN t l)
def rs (ds:List Nat) (σ:PEnv):PEnv:=fun t=>cond (memN t ds) (σ t) .any
inductive Flow (σ:PEnv) (ρ:List PRes):List Oper→List (List Nat)→List (Nat×PV)→Prop
 | nil:Flow σ ρ [] [] []
 | cons {o:Oper} {l:List Oper} {ds:List Nat} {D:List (List Nat)} {d:Nat} {p:PV} {dp:List (Nat×PV)} (h:POpL o (rs ds σ) ρ fun pv ρ'=>pv=p∧ρ'=ρ) (hs:Flow σ ρ l D dp):Flow σ ρ (o::l) (ds::D) ((d,p)::dp)
section
variable {σ:PEnv} {ρ:List PRes} {o:Oper} {l:List Oper} {ds:List Nat} {D:List (List Nat)} {d:Nat} {p:PV} {dp:List (Nat×PV)}
theorem Flow.get:∀ {l:List Oper} {D:List (List Nat)} {dp:List (Nat×PV)} {i:Nat} {o:Oper},Flow σ ρ l D dp→l[i]?=some o→∃ ds d p,D[i]?=some ds∧dp[i]?=some (d,p)∧POpL o (rs ds σ) ρ fun pv ρ'=>pv=p∧ρ'=ρ
 | _,_,_,0,_,.cons h _,e=>by simp only [List.getElem?_cons_zero,dR] at e;subst e;exact ⟨_,_,_,rfl,rfl,h⟩
 | _,_,_,i+1,_,.cons _ hs,e=>by simp only [List.getElem?_cons_succ] at e ⊢;exact hs.get e
theorem Flow.len:∀ {l:List Oper} {D:List (List Nat)} {dp:List (Nat×PV)},Flow σ ρ l D dp→D.length=l.length∧dp.length=l.length
 | _,_,_,.nil=>⟨rfl,rfl⟩
 | _,_,_,.cons _ hs=>⟨by simp [hs.len.1],by simp [hs.len.2]⟩
end
end SX
namespace SX
open Go
attribute [local irreducible] PWL PWC PWD POpL POpQ PEv PGuardIs PSub PPick PUpd PSplice PFill PLit PF PFV PCall FOk ff dX jL kS gS jM Cov PHolds bf idx app mk gd lb nz lv zC sub kl fm qo q9 gp cD ji rc IntKind.wrap Int.tmod Int.tdiv Op.bytesLess strOfNums
theorem aU {n:Nat} {l:List Oper} {KC:Exit→PPost} {σ:PEnv} {ρ:List PRes} {id:Nat} (D:List Nat) (h:mJ n l.toArray ρ l [] [] σ [] D=km n l.toArray ρ l [] [] σ []) (hw:KC .normal (kL σ D []) ρ):PWC n (.region id l.toArray false) KC σ ρ:=ap [] D [] bL h hw
theorem bc {n:Nat} {l:List Oper} {KC:Exit→PPost} {σ:PEnv} {ρ:List PRes} {id:Nat} (H D:List Nat) (X:List (Nat×PV)) (h:mJ n l.toArray ρ l H [] σ (X.map (·.1)) D=km n l.toArray ρ l H [] σ (X.map (·.2))) (hw:KC .normal (kL σ D X) ρ):PWC n (.region id l.toArray false) KC σ ρ:=ap H D X bL h hw
theorem al {n:Nat} {l:List Oper} {KC:Exit→PPost} {σ:PEnv} {ρ:List PRes} {id:Nat} (X:List (Nat×PV)) (h:mJ n l.toArray ρ l [] [] σ (X.map (·.1)) []=km n l.toArray ρ l [] [] σ (X.map (·.2))) (hw:KC .normal (kL σ [] X) ρ):PWC n (.region id l.toArray false) KC σ ρ:=ap [] [] X bL h hw
theorem ah {n:Nat} {l:List Oper} {KC:Exit→PPost} {σ:PEnv} {ρ:List PRes} {id:Nat} (D:List Nat) (X:List (Nat×PV)) (h:mJ n l.toArray ρ l [] [] σ (X.map (·.1)) D=km n l.toArray ρ l [] [] σ (X.map (·.2))) (hw:KC .normal (kL σ D X) ρ):PWC n (.region id l.toArray false) KC σ ρ:=ap [] D X bL h hw
theorem BV {n:Nat} {ops:Array Oper} {l:List (Nat×Oper)} {K:PPost} {σ:PEnv} {ρd ρs:List PRes} (k:Nat) (H:List Nat) (X:List (Nat×PV)) (h:s7 n ops ρs (l.take k) H [] σ (X.map (·.1)) []=km n ops ρs ((l.take k).map (·.2)) H [] σ (X.map (·.2))) (hw:PWD n ops K (l.drop k) (kL σ [] X) ρd ρs):PWD n ops K l σ ρd ρs:=dH k H [] X bL h hw
theorem BW {n:Nat} {ops:Array Oper} {l:List (Nat×Oper)} {K:PPost} {σ:PEnv} {ρd ρs:List PRes} (k:Nat) (H D:List Nat) (X:List (Nat×PV)) (h:s7 n ops ρs (l.take k) H [] σ (X.map (·.1)) D=km n ops ρs ((l.take k).map (·.2)) H [] σ (X.map (·.2))) (hw:PWD n ops K (l.drop k) (kL σ D X) ρd ρs):PWD n ops K l σ ρd ρs:=dH k H D X bL h hw
theorem iP {n:Nat} {ops:Array Oper} {l:List (Nat×Oper)} {K:PPost} {σ:PEnv} {ρd ρs:List PRes} (k:Nat) (X:List (Nat×PV)) (h:s7 n ops ρs (l.take k) [] [] σ (X.map (·.1)) []=km n ops ρs ((l.take k).map (·.2)) [] [] σ (X.map (·.2))) (hw:PWD n ops K (l.drop k) (kL σ [] X) ρd ρs):PWD n ops K l σ ρd ρs:=dH k [] [] X bL h hw
theorem kr {n:Nat} {ops:Array Oper} {l:List (Nat×Oper)} {K:PPost} {σ:PEnv} {ρd ρs:List PRes} (k:Nat) (D:List Nat) (X:List (Nat×PV)) (h:s7 n ops ρs (l.take k) [] [] σ (X.map (·.1)) D=km n ops ρs ((l.take k).map (·.2)) [] [] σ (X.map (·.2))) (hw:PWD n ops K (l.drop k) (kL σ D X) ρd ρs):PWD n ops K l σ ρd ρs:=dH k [] D X bL h hw
theorem bA {n:Nat} {ops:Array Oper} {l:List Oper} {K:PPost} {σ:PEnv} {ρ:List PRes} (D:List Nat) (h:mJ n ops ρ l [] [] σ [] D=km n ops ρ l [] [] σ []) (hw:K (kL σ D []) ρ):PWL n ops l K σ ρ:=gr [] D [] bL h hw
theorem aM {n:Nat} {ops:Array Oper} {l:List Oper} {K:PPost} {σ:PEnv} {ρ:List PRes} (X:List (Nat×PV)) (h:mJ n ops ρ l [] [] σ (X.map (·.1)) []=km n ops ρ l [] [] σ (X.map (·.2))) (hw:K (kL σ [] X) ρ):PWL n ops l K σ ρ:=gr [] [] X bL h hw
theorem fu {n:Nat} {ops:Array Oper} {l:List Oper} {K:PPost} {σ:PEnv} {ρ:List PRes} (D:List Nat) (X:List (Nat×PV)) (h:mJ n ops ρ l [] [] σ (X.map (·.1)) D=km n ops ρ l [] [] σ (X.map (·.2))) (hw:K (kL σ D X) ρ):PWL n ops l K σ ρ:=gr [] D X bL h hw
theorem fO {n:Nat} {ops:Array Oper} {l:List Oper} {K:PPost} {σ:PEnv} {ρ:List PRes} (k:Nat) (H:List Nat) (X:List (Nat×PV)) (h:mJ n ops ρ (l.take k) H [] σ (X.map (·.1)) []=km n ops ρ (l.take k) H [] σ (X.map (·.2))) (hw:PWL n ops (l.drop k) K (kL σ [] X) ρ):PWL n ops l K σ ρ:=bm k H [] X bL h hw
theorem cq {n:Nat} {ops:Array Oper} {l:List Oper} {K:PPost} {σ:PEnv} {ρ:List PRes} (k:Nat) (H D:List Nat) (X:List (Nat×PV)) (h:mJ n ops ρ (l.take k) H [] σ (X.map (·.1)) D=km n ops ρ (l.take k) H [] σ (X.map (·.2))) (hw:PWL n ops (l.drop k) K (kL σ D X) ρ):PWL n ops l K σ ρ:=bm k H D X bL h hw
theorem am {n:Nat} {ops:Array Oper} {l:List Oper} {K:PPost} {σ:PEnv} {ρ:List PRes} (k:Nat) (X:List (Nat×PV)) (h:mJ n ops ρ (l.take k) [] [] σ (X.map (·.1)) []=km n ops ρ (l.take k) [] [] σ (X.map (·.2))) (hw:PWL n ops (l.drop k) K (kL σ [] X) ρ):PWL n ops l K σ ρ:=bm k [] [] X bL h hw
theorem cE {n:Nat} {ops:Array Oper} {l:List Oper} {K:PPost} {σ:PEnv} {ρ:List PRes} (k:Nat) (D:List Nat) (X:List (Nat×PV)) (h:mJ n ops ρ (l.take k) [] [] σ (X.map (·.1)) D=km n ops ρ (l.take k) [] [] σ (X.map (·.2))) (hw:PWL n ops (l.drop k) K (kL σ D X) ρ):PWL n ops l K σ ρ:=bm k [] D X bL h hw
theorem aj {n:Nat} {ops:Array Oper} {o:Oper} {rest:List Oper} {K:PPost} {σ:PEnv} {ρ:List PRes} {d:Nat} (hg:(o.guard,o.dst,Nat.blt d n)=(none,some d,true)) (h:POpL o σ ρ fun p ρ'=>PWL n ops rest K (fD σ d p) ρ'):PWL n ops (o::rest) K σ ρ:=Bc (Prod.mk.inj hg).1 (Prod.mk.inj (Prod.mk.inj hg).2).1 (Prod.mk.inj (Prod.mk.inj hg).2).2 h
theorem zz {α:Type} {t:Nat} {enc:α→PV} {σ:PEnv} {ρ:List PRes} {v:α} (r:α) (h:some v=some r) (e:σ t=enc v):jM [.tmp t] (fun pv ρ'=>pv=enc r∧ρ'=[]) .ret σ ρ:=by cases h;exact aO (dh (aP e)) bX ⟨rfl,rfl⟩
theorem bM {x y1:Code} {K1:Exit→PPost} {ρ1:List PRes} {n1:Nat} {σ1:PEnv} (h1:PWC n1 x (ff n1 y1 K1) σ1 ρ1):ff n1 (.seq x y1) K1 .normal σ1 ρ1:=aL (af h1)
theorem eD {K1:Exit→PPost} {ρ1:List PRes} {n1:Nat} {σ1:PEnv} (h1:K1 .ret σ1 ρ1):ff n1 .ret K1 .normal σ1 ρ1:=aL (bS h1)
theorem cg {p:Bool} {x y1:Code} {K1:Exit→PPost} {ρ1:List PRes} {n1:Nat} {c:Operand} {σ1:PEnv} {α:Type} {a b r:α} (hc:bj σ1 c=.v (.bool p)) (h1:cond p a b=r) (ht:p=true→a=r→PWC n1 x K1 σ1 ρ1) (hf:p=false→b=r→PWC n1 y1 K1 σ1 ρ1):ff n1 (.cond c x y1) K1 .normal σ1 ρ1:=aL (js hc h1 ht hf)
theorem dn {y1 x1 y:Code} {K1:Exit→PPost} {ρ:List PRes} {n:Nat} {σ:PEnv} (h:PWC n x1 (ff n y (ff n y1 K1)) σ ρ):ff n (.seq (.seq x1 y) y1) K1 .normal σ ρ:=bM (af h)
theorem du {x y1:Code} {K1:Exit→PPost} {ρ1:List PRes} {n1:Nat} {σ1:PEnv} {α β:Type} {x1:Option α} {f:α→Option β} {r:β} (h:x1.bind f=some r) (k:∀ a,x1=some a→f a=some r→(PWC n1 x (ff n1 y1 K1) σ1 ρ1)):ff n1 (.seq x y1) K1 .normal σ1 ρ1:=bM (ae h k)
theorem iw {y:Code} {K1:Exit→PPost} {ρ1:List PRes} {id n:Nat} {σ1:PEnv} (h1:K1 .ret σ1 ρ1):dX id (ff n y K1) .ret σ1 ρ1:=aA (aq h1)
theorem gX {x1 y:Code} {K:Exit→PPost} {ρ1:List PRes} {id n1:Nat} {σ1:PEnv} (h1:PWC n1 x1 (ff n1 y (dX id K)) σ1 ρ1):PWC n1 (.block id (.seq x1 y)) K σ1 ρ1:=aJ (af h1)
theorem fP {K1:Exit→PPost} {l:List Oper} {ρ1:List PRes} {n id n1:Nat} {σ:PEnv} (X:List (Nat×PV)) (h:mJ n l.toArray ρ1 l [] [] σ (X.map (·.1)) []=km n l.toArray ρ1 l [] [] σ (X.map (·.2))) (h1:K1 .ret (kL σ [] X) ρ1):PWC n (.region id l.toArray false) (ff n1 .ret K1) σ ρ1:=al X h (eD h1)
theorem eW {x y:Code} {fn:Func} {ρ:List PRes} {pargs:List PV} {rs:List ResultVar} {f n1:Nat} {R:PV→List PRes→Prop} (hf:Tryz.prog.funcs[f]?=some fn) (hb:fn.body=some (.seq x y)) (hn:fn.ntmps=n1) (hres:fn.results=rs.toArray) (hsz:Nat.ble pargs.length n1=true) (h1:PWC n1 x (ff n1 y (jM rs R)) (vr pargs) ρ):PCall f pargs ρ R:=jq hf hb hn hres hsz (af h1)
theorem mn {y:Code} {K1:Exit→PPost} {ρ1:List PRes} {id n:Nat} {σ1:PEnv} (h1:PWC n y K1 σ1 ρ1):dX id (ff n y K1) .normal σ1 ρ1:=aH (aL h1)
theorem dN {y:Code} {K:Exit→PPost} {ρ:List PRes} {n:Nat} {σ:PEnv} {α β:Type} {x:Option α} {f:α→Option β} {r:β} (h1:x.bind f=some r) (k:∀ a,x=some a→f a=some r→(PWC n y K σ ρ)):ff n y K .normal σ ρ:=aL (ae h1 k)
def ku (p0:(List Int)) (p1:Int):Option (List Int):=cond (decide (p1<(p0.length:Int))) ((sub p0 0 p1).bind fun l2=>some l2) (some p0)
theorem pD {p0:(List Int)} {p1:Int} {r:(List Int)}  (h:ku p0 p1=some r):PF 25 [pL eI p0,pI p1] (pL eI r):=by
 unfold ku at h
 refine br ?_
 refine eW Tryz.func25 rfl Tryz.ntmps25 Tryz.results25 rfl (aU [4] (by kernel_rfl) (dn (ah [5,6,7] [(8,pB (decide (p1<(p0.length:Int))))] (by kernel_rfl) (cg rfl h (fun hc1 h=>?_) fun hc1 h=>?_))))
 ·refine af ?_
  refine ae h fun l2 hl2 h=>ap [] [9,10,11] [(4,pL eI l2)] (fosl 2 eI 1 (fun _=>rfl) hl2 bL) (by kernel_rfl) (eD (aq ?_))
  exact zz r h rfl
 refine ai ?_
 refine bM (ah [12] [(4,pL eI p0)] (by kernel_rfl) (eD ?_))
 exact zz r h rfl
def dF (p0:Int) (p1:Int):Option Int:=(nz p1).bind fun u1=>(nz p1).bind fun u2=>lb ((Int.tmod (IntKind.i64.wrap ((Int.tmod p0 p1)+p1)) p1)) (fun w3=>some w3)
theorem fQ {p0:Int} {p1:Int} {r:Int}  (h:dF p0 p1=some r):PF 13 [pI p0,pI p1] (pI r):=by
 unfold dF at h
 refine br ?_
 refine eW Tryz.func13 rfl Tryz.ntmps13 Tryz.results13 rfl (aU [4] (by kernel_rfl) (du h fun u1 hu1 h=>ae h fun u2 hu2 h=>?_))
 refine fp h ?_;clear h;intro w3 hw3 h
 refine aa (bm 7 [] (rg 5 6) [(11,pI (Int.tmod (IntKind.i64.wrap ((Int.tmod p0 p1)+p1)) p1))] (zL 2 hu1 (zL 6 hu2 bL)) (by kernel_rfl) (bD rfl rfl rfl (bU rfl (.p (congrArg (fun z=>PV.v (Value.int .i64 z)) hw3))) (aw (eD ?_))))
 exact zz r h rfl
def aI (p0:Zj) (p1:Int):Option (Int×Zj):=cond (decide ((p0.L.length:Int)≤p0.I)) (some ((0:Int),p0)) ((idx p0.L (IntKind.i64.wrap ((IntKind.i64.wrap (p0.I+1)) - 1))).bind fun m2=>(dF m2 p1).bind fun x3=>some (x3,(⟨p0.L,(IntKind.i64.wrap (p0.I+1))⟩:Zj)))
theorem aB {p0:Zj} {p1:Int} {b0:Nat} {r:(Int×Zj)}  (h:aI p0 p1=some r):PCall 26 [pP b0 0,pI p1] [PRes.b b0 77 [pL eI p0.L,pI p0.I]] (fun pv ρ'=>pv=pI r.1∧ρ'=[PRes.b b0 77 [pL eI r.2.L,pI r.2.I]]):=by
 unfold aI at h
 refine eW Tryz.func26 rfl Tryz.ntmps26 Tryz.results26 rfl (aU [4] (by kernel_rfl) (dn (dg (ρd:=[]) [(0,0),(1,0),(2,0),(3,0),(4,0),(5,0),(6,0),(7,0),(8,0),(9,0)] _ (List.Perm.refl _) (by kernel_rfl) rfl (BW 10 [0,0] (rg 5 9) [(14,pB (decide ((p0.L.length:Int)≤p0.I)))] (by kernel_rfl) (ey (cg rfl h (fun hc1 h=>?_) fun hc1 h=>?_))))))
 ·refine af ?_
  refine fP [(4,pI 0)] (by kernel_rfl) (aq ?_)
  obtain rfl:=osi h
  exact aO (dh (aP rfl)) dM ⟨rfl,rfl⟩
 refine ai ?_
 refine bM (aa (cq 7 [0] [15,16,17,18,20] [(19,pI (IntKind.i64.wrap (p0.I+1))),(21,pP b0 1)] (by kernel_rfl) (aX rfl rfl (au (vs:=[pI (IntKind.i64.wrap (p0.I+1))]) rfl rfl rfl rfl rfl cY (dY mG) (aw (bM (dg (ρd:=[]) [(0,0),(1,0),(2,0),(3,0),(4,0),(5,0),(6,0),(7,0),(8,0),(9,0),(10,0),(11,0),(12,1),(13,0)] _ (List.Perm.refl _) (by kernel_rfl) rfl (ae h fun m2 hm2 h=>ae h fun x3 hx3 h=>dH 14 [0,0] (rg 22 13) [(4,pI x3)] (fG 9 eI hm2 (bR 12 (fQ hx3) bL)) (by kernel_rfl) (ey (eD ?_))))))))))
 obtain rfl:=osi h
 exact aO (dh (aP rfl)) dM ⟨rfl,rfl⟩
def eT (p0:Zj):Option (Int×Zj):=(aI p0 4).bind fun x1=>cond (decide (0<x1.1)) ((aI x1.2 101).bind fun x3=>some ((IntKind.i64.wrap (10000*x3.1)),x3.2)) ((aI x1.2 1000001).bind fun x4=>some (x4.1,x4.2))
theorem jO {p0:Zj} {b0:Nat} {r:(Int×Zj)}  (h:eT p0=some r):PCall 62 [pP b0 0] [PRes.b b0 77 [pL eI p0.L,pI p0.I]] (fun pv ρ'=>pv=pI r.1∧ρ'=[PRes.b b0 77 [pL eI r.2.L,pI r.2.I]]):=by
 unfold eT at h
 refine eW Tryz.func62 rfl Tryz.ntmps62 Tryz.results62 rfl (aU [2] (by kernel_rfl) (dn (ae h fun x1 hx1 h=>aa (am 1 [(3,pP b0 0)] (by kernel_rfl) ?_))))
 refine aj rfl (aW rfl rfl (ρ1:=[_]) (aF (by exact aC) (List.Perm.refl _)) (aB hx1) ?_);rintro _ _ ⟨rfl,rfl⟩
 refine aM [(5,pB (decide (0<x1.1)))] (by kernel_rfl) (cg rfl h (fun hc2 h=>?_) fun hc2 h=>?_)
 ·refine af ?_
  refine ae h fun x3 hx3 h=>aa (am 1 [(6,pP b0 0)] (by kernel_rfl) ?_)
  refine aj rfl (aW rfl rfl (ρ1:=[_]) (aF (by exact aC) (List.Perm.refl _)) (aB hx3) ?_);rintro _ _ ⟨rfl,rfl⟩
  refine fu [8] [(2,pI (IntKind.i64.wrap (10000*x3.1)))] (by kernel_rfl) (eD (aq ?_))
  obtain rfl:=osi h
  exact aO (dh (aP rfl)) dM ⟨rfl,rfl⟩
 refine ai ?_
 refine du h fun x4 hx4 h=>aa (am 1 [(9,pP b0 0)] (by kernel_rfl) ?_)
 refine aj rfl (aW rfl rfl (ρ1:=[_]) (aF (by exact aC) (List.Perm.refl _)) (aB hx4) ?_);rintro _ _ ⟨rfl,rfl⟩
 refine aM [(2,pI x4.1)] (by kernel_rfl) (eD ?_)
 obtain rfl:=osi h
 exact aO (dh (aP rfl)) dM ⟨rfl,rfl⟩
def fR (p0:Zj) (p1:Int):Option (ByteArray×Zj):=(aI p0 2).bind fun x1=>(bf (S:=(List Int)×(List Int)×Int) (T:=((List Int)×(List Int)×Int)) (fun (l5,l8,v9)=>cond (decide (((l5.length:Nat):Int)<p1)) ((aI (⟨l8,v9⟩:Zj) 3).bind fun x19=>(app 1 l5 [48,(IntKind.u8.wrap (IntKind.i64.wrap (49+x19.1)))]).bind fun l22=>some (.inl (l22,x19.2.L,x19.2.I))) (some (.inr (l5,l8,v9)))) FUEL ([57,(IntKind.u8.wrap (IntKind.i64.wrap (52+x1.1)))],x1.2.L,x1.2.I)).bind fun (l13,l14,v15)=>some ((strOfNums l13),(⟨l14,v15⟩:Zj))
theorem nJ {p0:Zj} {p1:Int} {b0:Nat} {r:(ByteArray×Zj)}  (h:fR p0 p1=some r):PCall 28 [pP b0 0,pI p1] [PRes.b b0 77 [pL eI p0.L,pI p0.I]] (fun pv ρ'=>pv=pS r.1∧ρ'=[PRes.b b0 77 [pL eI r.2.L,pI r.2.I]]):=by
 unfold fR at h
 refine eW Tryz.func28 rfl Tryz.ntmps28 Tryz.results28 rfl (aU [4] (by kernel_rfl) (du h fun x1 hx1 h=>aa (am 1 [(6,pP b0 0)] (by kernel_rfl) ?_)))
 refine aj rfl (aW rfl rfl (ρ1:=[_]) (aF (by exact aC) (List.Perm.refl _)) (aB hx1) ?_);rintro _ _ ⟨rfl,rfl⟩
 refine cE 2 [8] [(9,pY (IntKind.u8.wrap (IntKind.i64.wrap (52+x1.1))))] (by kernel_rfl) (aj rfl (bG rfl rfl rfl rfl rfl (fL rfl (fL rfl jr)) rfl rfl rfl rfl (fun b2=>aM [(5,pO (some ⟨b2,0,none⟩) 2 2)] (by kernel_rfl) (du h fun q17 hq17 h=>?_))))
 refine az (Y:=(Option Addr×Nat)×((List Int)×(List Int)×Int)) (fun ((a11,c12),(l13,l14,v15))=>[(5,pO a11 l13.length c12)]) (fun ((a11,c12),(l13,l14,v15))=>[PRes.b b0 77 [pL eI l14,pI v15],PRes.row a11 l13.length c12 5 1 (List.map eB l13)]) (fun ((a11,c12),(l13,l14,v15))=>q17=(l13,l14,v15)) ?_ ?_
 ·refine aJ ?_
  refine aK (Y:=Option Addr×Nat) (S:=(List Int)×(List Int)×Int) _ hq17 (fun (a6,c7) (l5,l8,v9)=>[(0,pP b0 0),(1,pI p1),(5,pO a6 l5.length c7)]) (fun (a6,c7) (l5,l8,v9)=>[PRes.b b0 77 [pL eI l8,pI v9],PRes.row a6 l5.length c7 5 1 (List.map eB l5)]) ((some ⟨b2,0,none⟩),2) (zH rfl) (aY (ak aC) dM) ?_
  rintro ⟨a6,c7⟩ ⟨l5,l8,v9⟩ o τ hb16;(try dsimp only at hb16);dsimp only [aD]
  refine af (af (ah [11,12,13] [(14,pB (decide (((l5.length:Nat):Int)<p1)))] (by kernel_rfl) (cg rfl hb16 (fun hc18 hb16=>?_) fun hc18 hb16=>?_)))
  ·refine ai ?_
   refine aL (aJ (ae hb16 fun x19 hx19 hb16=>aa (am 2 [(15,pO a6 l5.length c7),(16,pP b0 0)] (by kernel_rfl) ?_)))
   refine aj rfl (aW rfl rfl (ρ1:=[_]) (aF (by exact aC) (List.Perm.refl _)) (aB hx19) ?_);rintro _ _ ⟨rfl,rfl⟩
   refine cE 2 [18] [(19,pY (IntKind.u8.wrap (IntKind.i64.wrap (49+x19.1))))] (by kernel_rfl) (aj rfl (bG rfl rfl rfl rfl rfl (fL rfl (fL rfl jr)) rfl rfl rfl rfl (fun b20=>ae hb16 fun l22 hl22 hb16=>?_)))
   refine aj rfl (bP (enc:=eB) rfl rfl rfl rfl rfl rfl rfl rfl rfl fF (by exact ak (ak aC)) hl22 (fun a23 c24=>?_))
   refine aM [(5,pO a23 l22.length c24)] (by kernel_rfl) (aH ?_)
   exact bd hb16 (a23,c24) (zH rfl) (aY (ak (ak aC)) dM)
  refine aR ?_
  refine av (an hb16 (fun ht=>ar rfl ?_))
  exact aG ((a6,c7),(l5,l8,v9)) (xj rfl) py ht.symm
 rintro ⟨⟨a11,c12⟩,⟨l13,l14,v15⟩⟩ τ hz;(try dsimp only at hz);subst q17;(try dsimp only at h);dsimp only [aD]
 refine af (aa (am 1 [(22,pO a11 l13.length c12)] (by kernel_rfl) (aj rfl (Bn rfl rfl rfl rfl rfl (xs:=l13) uV rfl (aM [(4,pS (strOfNums l13))] (by kernel_rfl) (eD ?_))))))
 obtain rfl:=osi h
 exact aO (dh (aP rfl)) dM ⟨rfl,rfl⟩
def fS  : Option (List ByteArray):=some [(⟨#[65,65]⟩:ByteArray),(⟨#[66,66]⟩:ByteArray),(⟨#[67,67]⟩:ByteArray),(⟨#[68,68]⟩:ByteArray),(⟨#[69,69]⟩:ByteArray),(⟨#[70,70]⟩:ByteArray)]
theorem iQ  {r:(List ByteArray)}  (h:fS  = some r):PF 29 [] (pL eS r):=by
 unfold fS at h
 refine br ?_
 refine eW Tryz.func29 rfl Tryz.ntmps29 Tryz.results29 rfl (aU [0] (by kernel_rfl) (bM (aa (aj rfl (bG rfl rfl rfl rfl rfl (fL rfl (fL rfl (fL rfl (fL rfl (fL rfl (fL rfl jr)))))) rfl rfl rfl rfl (fun b1=>aM [(0,pO (some ⟨b1,0,none⟩) 6 6)] (by kernel_rfl) (aL ?_)))))))
 refine fk (enc:=eS) (xs:=[(⟨#[65,65]⟩:ByteArray),(⟨#[66,66]⟩:ByteArray),(⟨#[67,67]⟩:ByteArray),(⟨#[68,68]⟩:ByteArray),(⟨#[69,69]⟩:ByteArray),(⟨#[70,70]⟩:ByteArray)]) 0 rfl (by exact aC) ?_
 refine bS ?_
 exact zz r h rfl
def fi (p0:Int):Option Int:=Option.bind (cond (decide (4294967296≤p0)) (some ((cD .u64 p0 32),32)) (some (p0,0))) (fun (v1,v2)=>Option.bind (cond (decide (65536≤v1)) (some ((cD .u64 v1 16),(IntKind.i64.wrap (v2+16)))) (some (v1,v2))) (fun (v5,v6)=>Option.bind (cond (decide (256≤v5)) (some ((cD .u64 v5 8),(IntKind.i64.wrap (v6+8)))) (some (v5,v6))) (fun (v9,v10)=>(idx (⟨#[0,1,2,2,3,3,3,3,4,4,4,4,4,4,4,4,5,5,5,5,5,5,5,5,5,5,5,5,5,5,5,5,6,6,6,6,6,6,6,6,6,6,6,6,6,6,6,6,6,6,6,6,6,6,6,6,6,6,6,6,6,6,6,6,7,7,7,7,7,7,7,7,7,7,7,7,7,7,7,7,7,7,7,7,7,7,7,7,7,7,7,7,7,7,7,7,7,7,7,7,7,7,7,7,7,7,7,7,7,7,7,7,7,7,7,7,7,7,7,7,7,7,7,7,7,7,7,7,8,8,8,8,8,8,8,8,8,8,8,8,8,8,8,8,8,8,8,8,8,8,8,8,8,8,8,8,8,8,8,8,8,8,8,8,8,8,8,8,8,8,8,8,8,8,8,8,8,8,8,8,8,8,8,8,8,8,8,8,8,8,8,8,8,8,8,8,8,8,8,8,8,8,8,8,8,8,8,8,8,8,8,8,8,8,8,8,8,8,8,8,8,8,8,8,8,8,8,8,8,8,8,8,8,8,8,8,8,8,8,8,8,8,8,8,8,8,8,8,8,8,8,8,8,8,8,8]⟩:ByteArray).data.toList (IntKind.u8.wrap v9)).bind fun c13=>lb ((IntKind.i64.wrap (v10+(IntKind.i64.wrap (c13.toNat:Int))))) (fun w14=>some w14))))
theorem nT {p0:Int} {r:Int}  (h:fi p0=some r):PF 102 [pU p0] (pI r):=by
 unfold fi at h
 refine br ?_
 refine eW Tryz.func102 rfl Tryz.ntmps102 Tryz.results102 rfl (al [(2,pI 0)] (by kernel_rfl) (dn (ah [3] [(4,pB (decide (4294967296≤p0)))] (by kernel_rfl) (dN h fun q3 hq3 h=>?_))))
 refine az (Y:=Unit×(Int×Int)) (fun (_,(v1,v2))=>[(0,pU v1),(2,pI v2)]) (fun (_,(v1,v2))=>[]) (fun (_,(v1,v2))=>q3=(v1,v2)) ?_ ?_
 ·skip
  refine js rfl hq3 (fun hc4 hq3=>?_) fun hc4 hq3=>?_
  ·refine af ?_
   refine ah [5,6] [(0,pU (cD .u64 p0 32))] (by kernel_rfl) (aL (al [(2,pI 32)] (by kernel_rfl) ?_))
   obtain rfl:=osi hq3
   exact aG ((),((cD .u64 p0 32),32)) (qa rfl) bX rfl
  refine ai ?_
  obtain rfl:=osi hq3
  exact aG ((),(p0,0)) (qa rfl) bX rfl
 rintro ⟨_,⟨v1,v2⟩⟩ τ hz;(try dsimp only at hz);subst q3;(try dsimp only at h);dsimp only [aD]
 refine af (af (ah [7] [(8,pB (decide (65536≤v1)))] (by kernel_rfl) (dN h fun q7 hq7 h=>?_)))
 refine az (Y:=Unit×(Int×Int)) (fun (_,(v5,v6))=>[(0,pU v5),(2,pI v6)]) (fun (_,(v5,v6))=>[]) (fun (_,(v5,v6))=>q7=(v5,v6)) ?_ ?_
 ·skip
  refine js rfl hq7 (fun hc8 hq7=>?_) fun hc8 hq7=>?_
  ·refine af ?_
   refine ah [9,10] [(0,pU (cD .u64 v1 16))] (by kernel_rfl) (aL (ah [11,12] [(2,pI (IntKind.i64.wrap (v2+16)))] (by kernel_rfl) ?_))
   obtain rfl:=osi hq7
   exact aG ((),((cD .u64 v1 16),(IntKind.i64.wrap (v2+16)))) (qa rfl) bX rfl
  refine ai ?_
  obtain rfl:=osi hq7
  exact aG ((),(v1,v2)) (qa rfl) bX rfl
 rintro ⟨_,⟨v5,v6⟩⟩ τ hz;(try dsimp only at hz);subst q7;(try dsimp only at h);dsimp only [aD]
 refine af (af (ah [13] [(14,pB (decide (256≤v5)))] (by kernel_rfl) (dN h fun q11 hq11 h=>?_)))
 refine az (Y:=Unit×(Int×Int)) (fun (_,(v9,v10))=>[(0,pU v9),(2,pI v10)]) (fun (_,(v9,v10))=>[]) (fun (_,(v9,v10))=>q11=(v9,v10)) ?_ ?_
 ·skip
  refine js rfl hq11 (fun hc12 hq11=>?_) fun hc12 hq11=>?_
  ·refine af ?_
   refine ah [15,16] [(0,pU (cD .u64 v5 8))] (by kernel_rfl) (aL (ah [17,18] [(2,pI (IntKind.i64.wrap (v6+8)))] (by kernel_rfl) ?_))
   obtain rfl:=osi hq11
   exact aG ((),((cD .u64 v5 8),(IntKind.i64.wrap (v6+8)))) (qa rfl) bX rfl
  refine ai ?_
  obtain rfl:=osi hq11
  exact aG ((),(v5,v6)) (qa rfl) bX rfl
 rintro ⟨_,⟨v9,v10⟩⟩ τ hz;(try dsimp only at hz);subst q11;(try dsimp only at h);dsimp only [aD]
 refine af (ae h fun c13 hc13 h=>?_)
 refine fp h ?_;clear h;intro w14 hw14 h
 refine aa (bm 6 [] (rg 19 5) [(24,pI (IntKind.i64.wrap (v10+(IntKind.i64.wrap (c13.toNat:Int)))))] (fosx 3 (s:=(⟨#[0,1,2,2,3,3,3,3,4,4,4,4,4,4,4,4,5,5,5,5,5,5,5,5,5,5,5,5,5,5,5,5,6,6,6,6,6,6,6,6,6,6,6,6,6,6,6,6,6,6,6,6,6,6,6,6,6,6,6,6,6,6,6,6,7,7,7,7,7,7,7,7,7,7,7,7,7,7,7,7,7,7,7,7,7,7,7,7,7,7,7,7,7,7,7,7,7,7,7,7,7,7,7,7,7,7,7,7,7,7,7,7,7,7,7,7,7,7,7,7,7,7,7,7,7,7,7,7,8,8,8,8,8,8,8,8,8,8,8,8,8,8,8,8,8,8,8,8,8,8,8,8,8,8,8,8,8,8,8,8,8,8,8,8,8,8,8,8,8,8,8,8,8,8,8,8,8,8,8,8,8,8,8,8,8,8,8,8,8,8,8,8,8,8,8,8,8,8,8,8,8,8,8,8,8,8,8,8,8,8,8,8,8,8,8,8,8,8,8,8,8,8,8,8,8,8,8,8,8,8,8,8,8,8,8,8,8,8,8,8,8,8,8,8,8,8,8,8,8,8,8,8,8,8,8,8]⟩:ByteArray)) hc13 bL) (by kernel_rfl) (bD rfl rfl rfl (bU rfl (.p (congrArg (fun z=>PV.v (Value.int .i64 z)) hw14))) (aw (eD ?_))))
 exact zz r h rfl
def kv (p0:(List Int)):Option Int:=(bf (S:=Int) (T:=(Unit)⊕(_)) (fun v1=>cond (decide (v1<(p0.length:Int))) ((idx p0 v1).bind fun m5=>cond (m5 != 0) (some (.inr (.inr m5))) (some (.inl (IntKind.i64.wrap (v1+1))))) (some (.inr (.inl ())))) FUEL 0).bind fun q=>match q with | .inl _=>some (0:Int) | .inr e=>some e
theorem sq {p0:(List Int)} {r:Int}  (h:kv p0=some r):PF 33 [pL eI p0] (pI r):=by
 unfold kv at h
 refine br ?_
 refine eW Tryz.func33 rfl Tryz.ntmps33 Tryz.results33 rfl (aU [2] (by kernel_rfl) (bM (al [(3,pI 0)] (by kernel_rfl) (dn (al [(6,pL eI p0),(7,pI (p0.length:Int)),(8,pI 0)] (by kernel_rfl) (dN h fun q3 hq3 h=>?_))))))
 refine az (Y:=Unit×Unit) (fun (_,_)=>[(3,pI 0)]) (fun (_,_)=>[]) (fun (_,_)=>q3=Sum.inl ()) ?_ ?_
 ·refine aJ ?_
  refine aK (Y:=Unit) (S:=Int) _ hq3 (fun _ v1=>[(3,pI 0),(6,pL eI p0),(7,pI (p0.length:Int)),(8,pI v1)]) (fun _ v1=>[]) () (jt rfl) bX ?_
  rintro _ v1 o τ hb2;(try dsimp only at hb2);dsimp only [aD]
  refine af (al [(9,pB (decide (v1<(p0.length:Int))))] (by kernel_rfl) (bM (js rfl hb2 (fun hc4 hb2=>?_) fun hc4 hb2=>?_)))
  ·refine ai ?_
   refine bM (gX (ae hb2 fun m5 hm5 hb2=>ap [] [10,11] [(5,pI m5)] (fG 0 eI hm5 bL) (by kernel_rfl) (bM (ah [12,13] [(14,pB (m5 != 0))] (by kernel_rfl) (cg rfl hb2 (fun hc6 hb2=>?_) fun hc6 hb2=>?_)))))
   ·refine af ?_
    refine ah [15] [(2,pI m5)] (by kernel_rfl) (eD (iw ?_))
    refine aS hb2 (fun ht=>?_);subst ht
    refine aA (aV ?_)
    exact zz r h rfl
   refine ai ?_
   refine mn (ah [16] [(8,pI (IntKind.i64.wrap (v1+1)))] (by kernel_rfl) ?_)
   exact bd hb2 () (jt rfl) bX
  refine aR ?_
  refine av (an hb2 (fun ht=>ar rfl ?_))
  exact aG ((),()) (xj rfl) bX ht.symm
 rintro ⟨_,_⟩ τ hz;(try dsimp only at hz);subst q3;(try dsimp only at h);dsimp only [aD]
 refine af (ah [17] [(2,pI 0)] (by kernel_rfl) (eD ?_))
 exact zz r h rfl
def gY (p0:Int):Option Bool:=some (p0 != p0)
theorem lF {p0:Int} {r:Bool}  (h:gY p0=some r):PF 65 [pI p0] (pB r):=by
 unfold gY at h
 refine br ?_
 refine eW Tryz.func65 rfl Tryz.ntmps65 Tryz.results65 rfl (aU [2] (by kernel_rfl) (bM (ah [3,4,5] [(2,pB (p0 != p0))] (by kernel_rfl) (eD ?_))))
 exact zz r h rfl
def eE (p0:Int) (p1:Int):Option Int:=(gY p0).bind fun x1=>(gY p1).bind fun x2=>cond x1 (cond x2 (some (0:Int)) (some (-1))) (cond x2 (some (1:Int)) (cond (decide (p0<p1)) (some (-1)) (cond (decide (p1<p0)) (some (1:Int)) (some (0:Int)))))
theorem il {p0:Int} {p1:Int} {r:Int}  (h:eE p0 p1=some r):PF 34 [pI p0,pI p1] (pI r):=by
 unfold eE at h
 refine br ?_
 refine eW Tryz.func34 rfl Tryz.ntmps34 Tryz.results34 rfl (aU [4] (by kernel_rfl) (du h fun x1 hx1 h=>ap [] [7,8] [(5,pB x1)] (bR 1 (lF hx1) bL) (by kernel_rfl) (du h fun x2 hx2 h=>ap [] [9,10] [(6,pB x2)] (bR 1 (lF hx2) bL) (by kernel_rfl) (dn (al [(11,pB x1)] (by kernel_rfl) (cg rfl h (fun hc3 h=>?_) fun hc3 h=>?_))))))
 ·refine af ?_
  refine af (al [(12,pB x2)] (by kernel_rfl) (cg rfl h (fun hc4 h=>?_) fun hc4 h=>?_))
  ·refine af ?_
   refine fP [(4,pI 0)] (by kernel_rfl) (aq (aq ?_))
   exact zz r h rfl
  refine ai ?_
  refine bM (fP [(4,pI (-1))] (by kernel_rfl) (aq ?_))
  exact zz r h rfl
 refine ai ?_
 refine dn (al [(13,pB x2)] (by kernel_rfl) (cg rfl h (fun hc5 h=>?_) fun hc5 h=>?_))
 ·refine af ?_
  refine fP [(4,pI 1)] (by kernel_rfl) (aq ?_)
  exact zz r h rfl
 refine ai ?_
 refine dn (ah [14,15] [(16,pB (decide (p0<p1)))] (by kernel_rfl) (cg rfl h (fun hc6 h=>?_) fun hc6 h=>?_))
 ·refine af ?_
  refine fP [(4,pI (-1))] (by kernel_rfl) (aq ?_)
  exact zz r h rfl
 refine ai ?_
 refine dn (ah [17,18] [(19,pB (decide (p1<p0)))] (by kernel_rfl) (cg rfl h (fun hc7 h=>?_) fun hc7 h=>?_))
 ·refine af ?_
  refine fP [(4,pI 1)] (by kernel_rfl) (aq ?_)
  exact zz r h rfl
 refine ai ?_
 refine bM (fP [(4,pI 0)] (by kernel_rfl) ?_)
 exact zz r h rfl
def ee (p0:Int):Option Bool:=some ((decide (65≤p0))&&(decide (p0≤90)))
theorem iy {p0:Int} {r:Bool}  (h:ee p0=some r):PF 77 [pY p0] (pB r):=by
 unfold ee at h
 refine br ?_
 refine eW Tryz.func77 rfl Tryz.ntmps77 Tryz.results77 rfl (aU [2] (by kernel_rfl) (bM (ah (rg 3 6) [(2,pB ((decide (65≤p0))&&(decide (p0≤90))))] (by kernel_rfl) (eD ?_))))
 exact zz r h rfl
def bK (p0:ByteArray):Option Bool:=(gd ((p0.size:Int) == 2) (idx p0.data.toList 0)).bind fun c1=>(gd ((p0.size:Int) == 2) (ee (c1.toNat:Int))).bind fun x2=>(gd (((p0.size:Int) == 2)&&x2) (idx p0.data.toList 1)).bind fun c3=>(gd (((p0.size:Int) == 2)&&x2) (ee (c3.toNat:Int))).bind fun x4=>some ((((p0.size:Int) == 2)&&x2)&&x4)
theorem dw {p0:ByteArray} {r:Bool}  (h:bK p0=some r):PF 42 [pS p0] (pB r):=by
 unfold bK at h
 refine br ?_
 refine eW Tryz.func42 rfl Tryz.ntmps42 Tryz.results42 rfl (aU [2] (by kernel_rfl) (du h fun c1 hc1 h=>ae h fun x2 hx2 h=>ae h fun c3 hc3 h=>ae h fun x4 hx4 h=>ap [] (rg 3 13) [(2,pB ((((p0.size:Int) == 2)&&x2)&&x4))] (fosxg 5 (gq hc1) (gC 6 (fun hc=>iy (gq hx2 hc)) (fosxg 10 (gq hc3) (gC 11 (fun hc=>iy (gq hx4 hc)) bL)))) (by kernel_rfl) (eD ?_)))
 exact zz r h rfl
def cF (p0:(List ByteArray)) (p1:ByteArray):Option Int:=(bf (S:=Int) (T:=(Unit)⊕(_)) (fun v1=>cond (decide (v1<(p0.length:Int))) ((idx p0 v1).bind fun m5=>cond (decide (p1=m5)) (some (.inr (.inr v1))) (some (.inl (IntKind.i64.wrap (v1+1))))) (some (.inr (.inl ())))) FUEL 0).bind fun q=>match q with | .inl _=>some (-1) | .inr e=>some e
theorem jx {p0:(List ByteArray)} {p1:ByteArray} {r:Int}  (h:cF p0 p1=some r):PF 158 [pL eS p0,pS p1] (pI r):=by
 unfold cF at h
 refine br ?_
 refine eW Tryz.func158 rfl Tryz.ntmps158 Tryz.results158 rfl (aU [4] (by kernel_rfl) (dn (ah [6] [(7,pI (p0.length:Int)),(8,pI 0)] (by kernel_rfl) (dN h fun q3 hq3 h=>?_))))
 refine az (Y:=Unit×Unit) (fun (_,_)=>[]) (fun (_,_)=>[]) (fun (_,_)=>q3=Sum.inl ()) ?_ ?_
 ·refine aJ ?_
  refine aK (Y:=Unit) (S:=Int) _ hq3 (fun _ v1=>[(0,pL eS p0),(1,pS p1),(7,pI (p0.length:Int)),(8,pI v1)]) (fun _ v1=>[]) () (jt rfl) bX ?_
  rintro _ v1 o τ hb2;(try dsimp only at hb2);dsimp only [aD]
  refine af (al [(9,pB (decide (v1<(p0.length:Int))))] (by kernel_rfl) (bM (js rfl hb2 (fun hc4 hb2=>?_) fun hc4 hb2=>?_)))
  ·refine ai ?_
   refine bM (gX (ah [10] [(5,pI v1)] (by kernel_rfl) (du hb2 fun m5 hm5 hb2=>ap [] (rg 11 5) [(16,pB (decide (p1=m5)))] (fG 3 eS hm5 bL) (by kernel_rfl) (cg rfl hb2 (fun hc6 hb2=>?_) fun hc6 hb2=>?_))))
   ·refine af ?_
    refine ah [17] [(4,pI v1)] (by kernel_rfl) (eD (iw ?_))
    refine aS hb2 (fun ht=>?_);subst ht
    refine aA (aV ?_)
    exact zz r h rfl
   refine ai ?_
   refine mn (ah [18] [(8,pI (IntKind.i64.wrap (v1+1)))] (by kernel_rfl) ?_)
   exact bd hb2 () (jt rfl) bX
  refine aR ?_
  refine av (an hb2 (fun ht=>ar rfl ?_))
  exact aG ((),()) oj bX ht.symm
 rintro ⟨_,_⟩ τ hz;(try dsimp only at hz);subst q3;(try dsimp only at h);dsimp only [aD]
 refine af (fP [(4,pI (-1))] (by kernel_rfl) ?_)
 exact zz r h rfl
def bz (p0:(List ByteArray)) (p1:ByteArray):Option Bool:=(cF p0 p1).bind fun x1=>some (decide (0≤x1))
theorem cr {p0:(List ByteArray)} {p1:ByteArray} {r:Bool}  (h:bz p0 p1=some r):PF 123 [pL eS p0,pS p1] (pB r):=by
 unfold bz at h
 refine br ?_
 refine eW Tryz.func123 rfl Tryz.ntmps123 Tryz.results123 rfl (aU [4] (by kernel_rfl) (du h fun x1 hx1 h=>ap [] [5,6,7,8] [(4,pB (decide (0≤x1)))] (bR 2 (jx hx1) bL) (by kernel_rfl) (eD ?_)))
 exact zz r h rfl
def fa (p0:ByteArray) (p1:ByteArray):Option Bool:=(gd (decide ((p1.size:Int)≤(p0.size:Int))) (kl p0 0 (p1.size:Int))).bind fun s1=>some ((decide ((p1.size:Int)≤(p0.size:Int)))&&(decide (s1=p1)))
theorem ld {p0:ByteArray} {p1:ByteArray} {r:Bool}  (h:fa p0 p1=some r):PF 171 [pS p0,pS p1] (pB r):=by
 unfold fa at h
 refine br ?_
 refine eW Tryz.func171 rfl Tryz.ntmps171 Tryz.results171 rfl (aU [4] (by kernel_rfl) (du h fun s1 hs1 h=>ap [] (rg 5 13) [(4,pB ((decide ((p1.size:Int)≤(p0.size:Int)))&&(decide (s1=p1))))] (fossg 9 (gq hs1) bL) (by kernel_rfl) (eD ?_)))
 exact zz r h rfl
def cQ (p0:ByteArray) (p1:ByteArray):Option Bool:=(fa p0 p1).bind fun x1=>some x1
theorem gE {p0:ByteArray} {p1:ByteArray} {r:Bool}  (h:cQ p0 p1=some r):PF 129 [pS p0,pS p1] (pB r):=by
 unfold cQ at h
 refine br ?_
 refine eW Tryz.func129 rfl Tryz.ntmps129 Tryz.results129 rfl (aU [4] (by kernel_rfl) (du h fun x1 hx1 h=>ap [] [5,6,7] [(4,pB x1)] (bR 2 (ld hx1) bL) (by kernel_rfl) (eD ?_)))
 exact zz r h rfl
def bJ (p0:(List ByteArray)):Option (List ByteArray):=app 16 ([]:List ByteArray) p0
theorem ef {p0:(List ByteArray)} {r:(List ByteArray)} (h:bJ p0=some r):PCall 108 [pL eS p0] [] (fun pv ρ'=>∃ a c,pv=.v (.slice a r.length c)∧ρ'=[PRes.row a r.length c 9 1 (List.map eS r)]):=by
 unfold bJ at h
 refine jq Tryz.func108 rfl Tryz.ntmps108 Tryz.results108 rfl ?_
 (repeat refine af ?_)
 refine aa (bD rfl rfl rfl (bU (p:=.v (.slice none 0 0)) rfl (.p rfl)) (aw (aL ?_)))
 (repeat refine af ?_)
 refine aa (bD rfl rfl rfl (eu (p:=pL eS p0) rfl (.p rfl)) (sT rfl rfl rfl rfl rfl rfl (fun b hb=>aw (aL ?_))))
 refine gz rfl (fun hc=>?_) (fun hc=>?_)
 ·have e0:p0=[]:=List.map_eq_nil_iff.1 (hb hc)
  subst e0;obtain ⟨rfl,_⟩:=oC h
  (repeat refine af ?_)
  refine aa (bD rfl rfl rfl (bU (p:=.v (.slice none 0 0)) rfl (.p rfl)) (aw (aL (bI 9 1 (bS (aq ?_))))))
  exact aO (dh (aP rfl)) dM ⟨_,_,rfl,rfl⟩
 refine ai ?_
 refine aL ?_
 (repeat refine af ?_)
 refine aa (aj rfl (bG rfl rfl rfl rfl rfl jr rfl rfl rfl rfl (fun b1=>bD rfl rfl rfl (eu (p:=pL eS p0) rfl (.p rfl)) ?_)))
 refine aj rfl (lB (enc:=eS) (xs:=([]:List ByteArray)) rfl rfl rfl rfl rfl (fun _=>rfl) rfl rfl rfl (by exact aC) h (fun a c=>?_))
 refine bD rfl rfl rfl (bU (p:=.v (.slice a r.length c)) rfl (.p rfl)) (aw (eD ?_))
 exact aO (dh (aP rfl)) dM ⟨_,_,rfl,rfl⟩
def gb (p0:Int) (p1:Int):Option (Int×Int):=lb ((IntKind.u64.wrap ((fm .u64 p0 4294967295)*(fm .u64 p1 4294967295)))) (fun w1=>lb ((IntKind.u64.wrap ((IntKind.u64.wrap ((cD .u64 p0 32)*(fm .u64 p1 4294967295)))+(cD .u64 w1 32)))) (fun w2=>lb ((IntKind.u64.wrap ((fm .u64 w2 4294967295)+(IntKind.u64.wrap ((fm .u64 p0 4294967295)*(cD .u64 p1 32)))))) (fun w3=>lb ((IntKind.u64.wrap ((IntKind.u64.wrap ((IntKind.u64.wrap ((cD .u64 p0 32)*(cD .u64 p1 32)))+(cD .u64 w2 32)))+(cD .u64 w3 32)))) (fun w4=>some (w4,(IntKind.u64.wrap (p0*p1)))))))
theorem nU {p0:Int} {p1:Int} {r:(Int×Int)}  (h:gb p0 p1=some r):PF 184 [pU p0,pU p1] (.tup [pU r.1,pU r.2]):=by
 unfold gb at h
 refine br ?_
 refine eW Tryz.func184 rfl Tryz.ntmps184 Tryz.results184 rfl (aU [4,5] (by kernel_rfl) (bM (ah [14,15] [(6,pU (fm .u64 p0 4294967295))] (by kernel_rfl) (bM (ah [16,17] [(7,pU (cD .u64 p0 32))] (by kernel_rfl) (bM (ah [18,19] [(8,pU (fm .u64 p1 4294967295))] (by kernel_rfl) (bM (ah [20,21] [(9,pU (cD .u64 p1 32))] (by kernel_rfl) (bM ?_))))))))))
 refine fp h ?_;clear h;intro w1 hw1 h
 refine aa (cE 3 [22,23] [(24,pU (IntKind.u64.wrap ((fm .u64 p0 4294967295)*(fm .u64 p1 4294967295))))] (by kernel_rfl) (bD rfl rfl rfl (bU rfl (.p (congrArg (fun z=>PV.v (Value.int .u64 z)) hw1))) (aw (bM ?_))))
 refine fp h ?_;clear h;intro w2 hw2 h
 refine aa (cE 6 (rg 25 5) [(30,pU (IntKind.u64.wrap ((IntKind.u64.wrap ((cD .u64 p0 32)*(fm .u64 p1 4294967295)))+(cD .u64 w1 32))))] (by kernel_rfl) (bD rfl rfl rfl (bU rfl (.p (congrArg (fun z=>PV.v (Value.int .u64 z)) hw2))) (aw (bM (ah [31,32] [(12,pU (fm .u64 w2 4294967295))] (by kernel_rfl) (bM (ah [33,34] [(13,pU (cD .u64 w2 32))] (by kernel_rfl) (bM ?_))))))))
 refine fp h ?_;clear h;intro w3 hw3 h
 refine aa (cE 5 [35,36,37,38] [(39,pU (IntKind.u64.wrap ((fm .u64 w2 4294967295)+(IntKind.u64.wrap ((fm .u64 p0 4294967295)*(cD .u64 p1 32))))))] (by kernel_rfl) (bD rfl rfl rfl (bU rfl (.p (congrArg (fun z=>PV.v (Value.int .u64 z)) hw3))) (aw (bM ?_))))
 refine fp h ?_;clear h;intro w4 hw4 h
 refine aa (cE 8 (rg 40 7) [(47,pU (IntKind.u64.wrap ((IntKind.u64.wrap ((IntKind.u64.wrap ((cD .u64 p0 32)*(cD .u64 p1 32)))+(cD .u64 w2 32)))+(cD .u64 w3 32))))] (by kernel_rfl) (bD rfl rfl rfl (bU rfl (.p (congrArg (fun z=>PV.v (Value.int .u64 z)) hw4))) (aw (bM (ah [48,49,50] [(5,pU (IntKind.u64.wrap (p0*p1)))] (by kernel_rfl) (eD ?_))))))
 obtain rfl:=osi h
 exact aO (ec (aP rfl) (aP rfl)) bX ⟨rfl,rfl⟩
def iz (p0:Int) (p1:Int):Option Zn:=(gb p0 p1).bind fun x2=>some (⟨x2.1,x2.2⟩:Zn)
theorem mq {p0:Int} {p1:Int} {r:Zn}  (h:iz p0 p1=some r):PF 145 [pU p0,pU p1] (.agg [pU r.Hi,pU r.Lo]):=by
 unfold iz at h
 refine br ?_
 refine eW Tryz.func145 rfl Tryz.ntmps145 Tryz.results145 rfl (aa (aj rfl (aT (cs:=[pU 0,pU 0]) rfl rfl rfl rfl (fun b1=>aw (du h fun x2 hx2 h=>ap [] [8,9,10,7,11,12] [(5,pU x2.1),(6,pU x2.2)] (bR 2 (nU hx2) bL) (by kernel_rfl) (bM (aa (cE 3 [13,14] [(15,.agg [pU x2.1,pU x2.2])] (by kernel_rfl) (aX rfl rfl (au (vs:=[pU x2.1,pU x2.2]) rfl rfl rfl rfl rfl cY Bp (aw (eD ?_))))))))))))
 obtain rfl:=osi h
 exact aO (dh (gB rfl fF rfl)) bX ⟨rfl,rfl⟩
def cW (p0:Int):Option Int:=(fi p0).bind fun x1=>some (IntKind.i64.wrap (64 - x1))
theorem jX {p0:Int} {r:Int}  (h:cW p0=some r):PF 204 [pU p0] (pI r):=by
 unfold cW at h
 refine br ?_
 refine eW Tryz.func204 rfl Tryz.ntmps204 Tryz.results204 rfl (aU [2] (by kernel_rfl) (du h fun x1 hx1 h=>ap [] [3,4,5] [(2,pI (IntKind.i64.wrap (64 - x1)))] (bR 1 (nT hx1) bL) (by kernel_rfl) (eD ?_)))
 exact zz r h rfl
def gf (p0:Int) (p1:Int) (p2:Int):Option (Int×Int):=cond (p2 == 0) (none) (cond (decide (p2≤p0)) (none) (cond (p0 == 0) ((nz p2).bind fun u4=>(nz p2).bind fun u5=>some ((IntKind.u64.wrap (Int.tdiv p1 p2)),(Int.tmod p1 p2))) ((cW p2).bind fun x6=>(lv (IntKind.u64.wrap x6)).bind fun u7=>lb ((cD .u64 (gp .u64 p2 (IntKind.u64.wrap x6)) 32)) (fun w8=>lb ((fm .u64 (gp .u64 p2 (IntKind.u64.wrap x6)) 4294967295)) (fun w9=>(lv (IntKind.u64.wrap x6)).bind fun u10=>(lv (IntKind.u64.wrap (64 - (IntKind.u64.wrap x6)))).bind fun u11=>lb ((qo .u64 (gp .u64 p0 (IntKind.u64.wrap x6)) (cD .u64 p1 (IntKind.u64.wrap (64 - (IntKind.u64.wrap x6)))))) (fun w12=>(lv (IntKind.u64.wrap x6)).bind fun u13=>lb ((cD .u64 (gp .u64 p1 (IntKind.u64.wrap x6)) 32)) (fun w14=>lb ((fm .u64 (gp .u64 p1 (IntKind.u64.wrap x6)) 4294967295)) (fun w15=>(nz w8).bind fun u16=>lb ((IntKind.u64.wrap (w12 - (IntKind.u64.wrap ((IntKind.u64.wrap (Int.tdiv w12 w8))*w8))))) (fun w17=>(bf (S:=Int×Int) (T:=(Int)) (fun (v18,v19)=>cond ((decide (4294967296≤v18))||(decide ((IntKind.u64.wrap ((IntKind.u64.wrap (4294967296*v19))+w14))<(IntKind.u64.wrap (v18*w9))))) (cond (decide (4294967296≤(IntKind.u64.wrap (v19+w8)))) (some (.inr (IntKind.u64.wrap (v18 - 1)))) (some (.inl ((IntKind.u64.wrap (v18 - 1)),(IntKind.u64.wrap (v19+w8)))))) (some (.inr v18))) FUEL ((IntKind.u64.wrap (Int.tdiv w12 w8)),w17)).bind fun v20=>lb ((IntKind.u64.wrap ((IntKind.u64.wrap ((IntKind.u64.wrap (w12*4294967296))+w14)) - (IntKind.u64.wrap (v20*(gp .u64 p2 (IntKind.u64.wrap x6))))))) (fun w25=>(nz w8).bind fun u26=>lb ((IntKind.u64.wrap (w25 - (IntKind.u64.wrap ((IntKind.u64.wrap (Int.tdiv w25 w8))*w8))))) (fun w27=>(bf (S:=Int×Int) (T:=(Int)) (fun (v28,v29)=>cond ((decide (4294967296≤v29))||(decide ((IntKind.u64.wrap ((IntKind.u64.wrap (4294967296*v28))+w15))<(IntKind.u64.wrap (v29*w9))))) (cond (decide (4294967296≤(IntKind.u64.wrap (v28+w8)))) (some (.inr (IntKind.u64.wrap (v29 - 1)))) (some (.inl ((IntKind.u64.wrap (v28+w8)),(IntKind.u64.wrap (v29 - 1)))))) (some (.inr v29))) FUEL (w27,(IntKind.u64.wrap (Int.tdiv w25 w8)))).bind fun v30=>(lv (IntKind.u64.wrap x6)).bind fun u35=>lb ((IntKind.u64.wrap ((IntKind.u64.wrap (v20*4294967296))+v30))) (fun w36=>lb ((cD .u64 (IntKind.u64.wrap ((IntKind.u64.wrap ((IntKind.u64.wrap (w25*4294967296))+w15)) - (IntKind.u64.wrap (v30*(gp .u64 p2 (IntKind.u64.wrap x6)))))) (IntKind.u64.wrap x6))) (fun w37=>some (w36,w37))))))))))))))
theorem nV {p0:Int} {p1:Int} {p2:Int} {r:(Int×Int)}  (h:gf p0 p1 p2=some r):PF 186 [pU p0,pU p1,pU p2] (.tup [pU r.1,pU r.2]):=by
 unfold gf at h
 refine br ?_
 refine eW Tryz.func186 rfl Tryz.ntmps186 Tryz.results186 rfl (aU [6,7] (by kernel_rfl) (dn (ah [19] [(20,pB (p2 == 0))] (by kernel_rfl) (cg rfl h (fun hc1 h=>?_) fun hc1 h=>?_))))
 ·refine aa ?_
  exact absurd h (by simp)
 refine ai ?_
 refine dn (ah [22,23] [(24,pB (decide (p2≤p0)))] (by kernel_rfl) (cg rfl h (fun hc2 h=>?_) fun hc2 h=>?_))
 ·refine aa ?_
  exact absurd h (by simp)
 refine ai ?_
 refine dn (ah [26] [(27,pB (p0 == 0))] (by kernel_rfl) (cg rfl h (fun hc3 h=>?_) fun hc3 h=>?_))
 ·refine af ?_
  refine dg (ρd:=[]) [(0,0),(1,0),(2,0),(3,0),(4,0),(5,0),(6,0),(7,0)] _ (List.Perm.refl _) (by kernel_rfl) rfl (ae h fun u4 hu4 h=>ae h fun u5 hu5 h=>dH 8 [] (rg 28 6) [(6,pU (IntKind.u64.wrap (Int.tdiv p1 p2))),(7,pU (Int.tmod p1 p2))] (zL 2 hu4 (zL 5 hu5 bL)) (by kernel_rfl) (ey (eD (aq ?_))))
  obtain rfl:=osi h
  exact aO (ec (aP rfl) (aP rfl)) bX ⟨rfl,rfl⟩
 refine ai ?_
 refine du h fun x6 hx6 h=>ap [] [34,35,36] [(8,pU (IntKind.u64.wrap x6))] (bR 1 (jX hx6) bL) (by kernel_rfl) (du h fun u7 hu7 h=>ap [] [37,38,39] [(2,pU (gp .u64 p2 (IntKind.u64.wrap x6)))] (uk 2 hu7 bL) (by kernel_rfl) (bM ?_))
 refine fp h ?_;clear h;intro w8 hw8 h
 refine aa (cE 2 [40] [(41,pU (cD .u64 (gp .u64 p2 (IntKind.u64.wrap x6)) 32))] (by kernel_rfl) (bD rfl rfl rfl (bU rfl (.p (congrArg (fun z=>PV.v (Value.int .u64 z)) hw8))) (aw (bM ?_))))
 refine fp h ?_;clear h;intro w9 hw9 h
 refine aa (cE 2 [42] [(43,pU (fm .u64 (gp .u64 p2 (IntKind.u64.wrap x6)) 4294967295))] (by kernel_rfl) (bD rfl rfl rfl (bU rfl (.p (congrArg (fun z=>PV.v (Value.int .u64 z)) hw9))) (aw (du h fun u10 hu10 h=>ae h fun u11 hu11 h=>?_))))
 refine fp h ?_;clear h;intro w12 hw12 h
 refine aa (bm 8 [] (rg 44 7) [(51,pU (qo .u64 (gp .u64 p0 (IntKind.u64.wrap x6)) (cD .u64 p1 (IntKind.u64.wrap (64 - (IntKind.u64.wrap x6))))))] (uk 2 hu10 (uk 6 hu11 bL)) (by kernel_rfl) (bD rfl rfl rfl (bU rfl (.p (congrArg (fun z=>PV.v (Value.int .u64 z)) hw12))) (aw (du h fun u13 hu13 h=>ap [] [52,53,54] [(12,pU (gp .u64 p1 (IntKind.u64.wrap x6)))] (uk 2 hu13 bL) (by kernel_rfl) (bM ?_)))))
 refine fp h ?_;clear h;intro w14 hw14 h
 refine aa (cE 2 [55] [(56,pU (cD .u64 (gp .u64 p1 (IntKind.u64.wrap x6)) 32))] (by kernel_rfl) (bD rfl rfl rfl (bU rfl (.p (congrArg (fun z=>PV.v (Value.int .u64 z)) hw14))) (aw (bM ?_))))
 refine fp h ?_;clear h;intro w15 hw15 h
 refine aa (cE 2 [57] [(58,pU (fm .u64 (gp .u64 p1 (IntKind.u64.wrap x6)) 4294967295))] (by kernel_rfl) (bD rfl rfl rfl (bU rfl (.p (congrArg (fun z=>PV.v (Value.int .u64 z)) hw15))) (aw (du h fun u16 hu16 h=>ap [] [59,60,61] [(15,pU (IntKind.u64.wrap (Int.tdiv w12 w8)))] (zL 2 hu16 bL) (by kernel_rfl) (bM ?_)))))
 refine fp h ?_;clear h;intro w17 hw17 h
 refine aa (cE 5 [62,63,64,65] [(66,pU (IntKind.u64.wrap (w12 - (IntKind.u64.wrap ((IntKind.u64.wrap (Int.tdiv w12 w8))*w8)))))] (by kernel_rfl) (bD rfl rfl rfl (bU rfl (.p (congrArg (fun z=>PV.v (Value.int .u64 z)) hw17))) (aw (du h fun q22 hq22 h=>?_))))
 refine az (Y:=Unit×Int) (fun (_,v20)=>[(2,pU (gp .u64 p2 (IntKind.u64.wrap x6))),(8,pU (IntKind.u64.wrap x6)),(9,pU w8),(10,pU w9),(11,pU w12),(13,pU w14),(14,pU w15),(15,pU v20)]) (fun (_,v20)=>[]) (fun (_,v20)=>q22=v20) ?_ ?_
 ·refine aJ ?_
  refine aK (Y:=Unit) (S:=Int×Int) _ hq22 (fun _ (v18,v19)=>[(2,pU (gp .u64 p2 (IntKind.u64.wrap x6))),(8,pU (IntKind.u64.wrap x6)),(9,pU w8),(10,pU w9),(11,pU w12),(13,pU w14),(14,pU w15),(15,pU v18),(16,pU v19)]) (fun _ (v18,v19)=>[]) () (Ay rfl) bX ?_
  rintro _ ⟨v18,v19⟩ o τ hb21;(try dsimp only at hb21);dsimp only [aD]
  refine af (af (ah (rg 67 11) [(78,pB ((decide (4294967296≤v18))||(decide ((IntKind.u64.wrap ((IntKind.u64.wrap (4294967296*v19))+w14))<(IntKind.u64.wrap (v18*w9))))))] (by kernel_rfl) (cg rfl hb21 (fun hc23 hb21=>?_) fun hc23 hb21=>?_)))
  ·refine ai ?_
   refine aL (gX (ah [79,80] [(15,pU (IntKind.u64.wrap (v18 - 1)))] (by kernel_rfl) (bM (ah [81,82,83] [(16,pU (IntKind.u64.wrap (v19+w8)))] (by kernel_rfl) (bM (ah [84] [(85,pB (decide (4294967296≤(IntKind.u64.wrap (v19+w8)))))] (by kernel_rfl) (cg rfl hb21 (fun hc24 hb21=>?_) fun hc24 hb21=>?_)))))))
   ·refine aR ?_
    refine mU rfl (an hb21 (fun ht=>ar rfl ?_))
    exact aG ((),(IntKind.u64.wrap (v18 - 1))) (nH rfl) bX ht.symm
   refine ai ?_
   refine aH ?_
   exact bd hb21 () (Ay rfl) bX
  refine aR ?_
  refine av (an hb21 (fun ht=>ar rfl ?_))
  exact aG ((),v18) (nH rfl) bX ht.symm
 rintro ⟨_,v20⟩ τ hz;(try dsimp only at hz);subst q22;(try dsimp only at h);dsimp only [aD]
 refine af ?_
 refine fp h ?_;clear h;intro w25 hw25 h
 refine aa (cE 8 (rg 86 7) [(93,pU (IntKind.u64.wrap ((IntKind.u64.wrap ((IntKind.u64.wrap (w12*4294967296))+w14)) - (IntKind.u64.wrap (v20*(gp .u64 p2 (IntKind.u64.wrap x6)))))))] (by kernel_rfl) (bD rfl rfl rfl (bU rfl (.p (congrArg (fun z=>PV.v (Value.int .u64 z)) hw25))) (aw (du h fun u26 hu26 h=>ap [] [94,95,96] [(18,pU (IntKind.u64.wrap (Int.tdiv w25 w8)))] (zL 2 hu26 bL) (by kernel_rfl) (bM ?_)))))
 refine fp h ?_;clear h;intro w27 hw27 h
 refine aa (cE 5 [97,98,99,100] [(101,pU (IntKind.u64.wrap (w25 - (IntKind.u64.wrap ((IntKind.u64.wrap (Int.tdiv w25 w8))*w8)))))] (by kernel_rfl) (bD rfl rfl rfl (bU rfl (.p (congrArg (fun z=>PV.v (Value.int .u64 z)) hw27))) (aw (du h fun q32 hq32 h=>?_))))
 refine az (Y:=Unit×Int) (fun (_,v30)=>[(2,pU (gp .u64 p2 (IntKind.u64.wrap x6))),(8,pU (IntKind.u64.wrap x6)),(14,pU w15),(15,pU v20),(17,pU w25),(18,pU v30)]) (fun (_,v30)=>[]) (fun (_,v30)=>q32=v30) ?_ ?_
 ·refine aJ ?_
  refine aK (Y:=Unit) (S:=Int×Int) _ hq32 (fun _ (v28,v29)=>[(2,pU (gp .u64 p2 (IntKind.u64.wrap x6))),(8,pU (IntKind.u64.wrap x6)),(9,pU w8),(10,pU w9),(14,pU w15),(15,pU v20),(16,pU v28),(17,pU w25),(18,pU v29)]) (fun _ (v28,v29)=>[]) () (Ay rfl) bX ?_
  rintro _ ⟨v28,v29⟩ o τ hb31;(try dsimp only at hb31);dsimp only [aD]
  refine af (af (ah (rg 102 11) [(113,pB ((decide (4294967296≤v29))||(decide ((IntKind.u64.wrap ((IntKind.u64.wrap (4294967296*v28))+w15))<(IntKind.u64.wrap (v29*w9))))))] (by kernel_rfl) (cg rfl hb31 (fun hc33 hb31=>?_) fun hc33 hb31=>?_)))
  ·refine ai ?_
   refine aL (gX (ah [114,115] [(18,pU (IntKind.u64.wrap (v29 - 1)))] (by kernel_rfl) (bM (ah [116,117,118] [(16,pU (IntKind.u64.wrap (v28+w8)))] (by kernel_rfl) (bM (ah [119] [(120,pB (decide (4294967296≤(IntKind.u64.wrap (v28+w8)))))] (by kernel_rfl) (cg rfl hb31 (fun hc34 hb31=>?_) fun hc34 hb31=>?_)))))))
   ·refine aR ?_
    refine mU rfl (an hb31 (fun ht=>ar rfl ?_))
    exact aG ((),(IntKind.u64.wrap (v29 - 1))) (zI rfl) bX ht.symm
   refine ai ?_
   refine aH ?_
   exact bd hb31 () (Ay rfl) bX
  refine aR ?_
  refine av (an hb31 (fun ht=>ar rfl ?_))
  exact aG ((),v29) (zI rfl) bX ht.symm
 rintro ⟨_,v30⟩ τ hz;(try dsimp only at hz);subst q32;(try dsimp only at h);dsimp only [aD]
 refine af (ae h fun u35 hu35 h=>?_)
 refine fp h ?_;clear h;intro w36 hw36 h
 refine aa (bm 14 [] [121,122,123,125,126,127,128,129,130,131,132,133] [(124,pU (IntKind.u64.wrap ((IntKind.u64.wrap (v20*4294967296))+v30))),(134,pU (cD .u64 (IntKind.u64.wrap ((IntKind.u64.wrap ((IntKind.u64.wrap (w25*4294967296))+w15)) - (IntKind.u64.wrap (v30*(gp .u64 p2 (IntKind.u64.wrap x6)))))) (IntKind.u64.wrap x6)))] (uk 13 hu35 bL) (by kernel_rfl) (bD rfl rfl rfl (bU rfl (.p (congrArg (fun z=>PV.v (Value.int .u64 z)) hw36))) ?_))
 refine fp h ?_;clear h;intro w37 hw37 h
 refine bD rfl rfl rfl (bU rfl (.p (congrArg (fun z=>PV.v (Value.int .u64 z)) hw37))) (aw (eD ?_))
 obtain rfl:=osi h
 exact aO (ec (aP rfl) (aP rfl)) bX ⟨rfl,rfl⟩
def iR (p0:Int) (p1:Int) (p2:Int) (p3:Int):Option Bool:=cond (p3 == 1) (some (decide (0<p1))) (cond (p3 == 2) (some (decide ((IntKind.u64.wrap (p2 - p1))≤p1))) (cond (p3 == 3) (some ((decide ((IntKind.u64.wrap (p2 - p1))<p1))||((p1 == (IntKind.u64.wrap (p2 - p1)))&&((Int.tmod p0 2) == 1)))) (some false)))
theorem qb {p0:Int} {p1:Int} {p2:Int} {p3:Int} {r:Bool}  (h:iR p0 p1 p2 p3=some r):PF 187 [pU p0,pU p1,pU p2,pI p3] (pB r):=by
 unfold iR at h
 refine br ?_
 refine eW Tryz.func187 rfl Tryz.ntmps187 Tryz.results187 rfl (aU [8] (by kernel_rfl) (bM (ah [10,11,12] [(9,pU (IntKind.u64.wrap (p2 - p1)))] (by kernel_rfl) (dn (al [(13,pI p3)] (by kernel_rfl) (aL (gX (ah [15] [(14,pB (p3 == 1))] (by kernel_rfl) (cg rfl h (fun hc1 h=>?_) fun hc1 h=>?_)))))))))
 ·refine af ?_
  refine ah [16,17] [(8,pB (decide (0<p1)))] (by kernel_rfl) (eD (iw ?_))
  exact zz r h rfl
 refine af ?_
 refine ah [19] [(18,pB (p3 == 2))] (by kernel_rfl) (cg rfl h (fun hc2 h=>?_) fun hc2 h=>?_)
 ·refine af ?_
  refine ah [20,21,22] [(8,pB (decide ((IntKind.u64.wrap (p2 - p1))≤p1)))] (by kernel_rfl) (eD (iw ?_))
  exact zz r h rfl
 refine af ?_
 refine ah [24] [(23,pB (p3 == 3))] (by kernel_rfl) (cg rfl h (fun hc3 h=>?_) fun hc3 h=>?_)
 ·refine af ?_
  refine ah (rg 25 13) [(8,pB ((decide ((IntKind.u64.wrap (p2 - p1))<p1))||((p1 == (IntKind.u64.wrap (p2 - p1)))&&((Int.tmod p0 2) == 1))))] (by kernel_rfl) (eD (iw ?_))
  exact zz r h rfl
 refine ai ?_
 refine aH (bM (fP [(8,pB false)] (by kernel_rfl) ?_))
 exact zz r h rfl
def lG (p0:Zn) (p1:Int) (p2:Int):Option (Int×Int):=cond (((p1 == 0)||(decide (p2<0)))||(decide (3<p2))) (some ((0:Int),(2:Int))) (cond (decide (p1≤p0.Hi)) (some ((0:Int),(3:Int))) ((gf p0.Hi p0.Lo p1).bind fun x4=>(iR x4.1 x4.2 p1 p2).bind fun x5=>cond (!x5) (some (x4.1,(0:Int))) (cond (x4.1 == 18446744073709551615) (some ((0:Int),(3:Int))) (some ((IntKind.u64.wrap (x4.1+1)),(0:Int))))))
theorem uu {p0:Zn} {p1:Int} {p2:Int} {r:(Int×Int)}  (h:lG p0 p1 p2=some r):PF 148 [.agg [pU p0.Hi,pU p0.Lo],pU p1,pI p2] (.tup [pU r.1,pI r.2]):=by
 unfold lG at h
 refine br ?_
 refine eW Tryz.func148 rfl Tryz.ntmps148 Tryz.results148 rfl (aa (aj rfl (bE (cs:=[pU p0.Hi,pU p0.Lo]) rfl rfl (fun b1=>bA [6,7] (by kernel_rfl) (dn (ah (rg 10 9) [(19,pB (((p1 == 0)||(decide (p2<0)))||(decide (3<p2))))] (by kernel_rfl) (cg rfl h (fun hc2 h=>?_) fun hc2 h=>?_)))))))
 ·refine af ?_
  refine fP [(6,pU 0),(7,pI 2)] (by kernel_rfl) (aq ?_)
  obtain rfl:=osi h
  exact aO (ec (aP rfl) (aP rfl)) bX ⟨rfl,rfl⟩
 refine ai ?_
 refine dn (bc [0] [20,21,22] [(23,pB (decide (p1≤p0.Hi)))] (by kernel_rfl) (cg rfl h (fun hc3 h=>?_) fun hc3 h=>?_))
 ·refine af ?_
  refine fP [(6,pU 0),(7,pI 3)] (by kernel_rfl) (aq ?_)
  obtain rfl:=osi h
  exact aO (ec (aP rfl) (aP rfl)) bX ⟨rfl,rfl⟩
 refine ai ?_
 refine du h fun x4 hx4 h=>ap [0,0] ((rg 25 6)++[24,31,32]) [(8,pU x4.1),(9,pU x4.2)] (bR 5 (nV hx4) bL) (by kernel_rfl) (dn (ae h fun x5 hx5 h=>ap [] (rg 33 5) [(38,pB (!x5))] (bR 4 (qb hx5) bL) (by kernel_rfl) (cg rfl h (fun hc6 h=>?_) fun hc6 h=>?_)))
 ·refine af ?_
  refine ah [39] [(6,pU x4.1),(7,pI 0)] (by kernel_rfl) (eD (aq ?_))
  obtain rfl:=osi h
  exact aO (ec (aP rfl) (aP rfl)) bX ⟨rfl,rfl⟩
 refine ai ?_
 refine dn (ah [40] [(41,pB (x4.1 == 18446744073709551615))] (by kernel_rfl) (cg rfl h (fun hc7 h=>?_) fun hc7 h=>?_))
 ·refine af ?_
  refine fP [(6,pU 0),(7,pI 3)] (by kernel_rfl) (aq ?_)
  obtain rfl:=osi h
  exact aO (ec (aP rfl) (aP rfl)) bX ⟨rfl,rfl⟩
 refine ai ?_
 refine bM (ah [42,43] [(6,pU (IntKind.u64.wrap (x4.1+1))),(7,pI 0)] (by kernel_rfl) (eD ?_))
 obtain rfl:=osi h
 exact aO (ec (aP rfl) (aP rfl)) bX ⟨rfl,rfl⟩
def jY (p0:Int) (p1:Int) (p2:Int) (p3:Int):Option (Int×Int):=(iz p0 p1).bind fun x1=>(lG x1 p2 p3).bind fun x2=>some (x2.1,x2.2)
theorem qc {p0:Int} {p1:Int} {p2:Int} {p3:Int} {r:(Int×Int)}  (h:jY p0 p1 p2 p3=some r):PF 140 [pU p0,pU p1,pU p2,pI p3] (.tup [pU r.1,pI r.2]):=by
 unfold jY at h
 refine br ?_
 refine eW Tryz.func140 rfl Tryz.ntmps140 Tryz.results140 rfl (aU [8,9] (by kernel_rfl) (du h fun x1 hx1 h=>ae h fun x2 hx2 h=>ap [] (rg 10 8) [(8,pU x2.1),(9,pI x2.2)] (bR 2 (mq hx1) (bR 5 (uu hx2) bL)) (by kernel_rfl) (eD ?_)))
 obtain rfl:=osi h
 exact aO (ec (aP rfl) (aP rfl)) bX ⟨rfl,rfl⟩
end SX
end Go.Proofs.YthbphcbhedmnoaaGreatDoor
