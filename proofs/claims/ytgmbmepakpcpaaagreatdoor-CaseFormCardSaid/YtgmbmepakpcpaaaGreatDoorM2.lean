/- A part of the proof: texts of the walk and of the plain laws, merged. No condition. -/
import Derived.Test.YtgmbmepakpcpaaaGreatDoorM1
set_option linter.unusedVariables false
set_option linter.unusedSimpArgs false
set_option maxHeartbeats 4000000
set_option maxRecDepth 100000
namespace Go.Proofs.YtgmbmepakpcpaaaGreatDoor
namespace SX
open Go
theorem xI {t E:Nat} (hu:dw t=some (.slice E)) (a:Option Addr) (n c:Nat) (x y:Operand) (w:World):((eqGuard .eql t x y (.slice a n c) (.slice none 0 0)).run Tryz.prog w=.ok () w)∧(binOp .eql t (.slice a n c) (.slice none 0 0)).run Tryz.prog w=.ok (.bool a.isNone) w:=by
 constructor
 ·cases a <;> simp [eqGuard]
 simp only [binOp,Sem.run_bind,run_equal_slice_nil w t E a n c (bt hu),Result.andThen_ok,Sem.run_pure]
theorem rU {n:Nat} {ops:Array Oper} {o:Oper} {rest:List Oper} {K:PPost} {σ:PEnv} {ρ:List PRes} {d t t' E mm:Nat} {x:Operand} {xs:List (List PV)} (hg:o.guard=none) (hd:o.dst=some d) (hlt:Nat.blt d n=true) (ho:o.op=.binOp .eql t x (.const (.slice none 0 0)) t') (hu:dw t=some (.slice E)) (hx:bi σ x=.slc mm xs) (h:∀ b:Bool,(b=true→xs=[])→PWL n ops rest K (eX σ d (.v (.bool b))) ρ):PWL n ops (o::rest) K σ ρ:=fun β κ σ' ρ' g hs hr=>by
 have he:=hs.ev x
 rw [hx] at he
 generalize hw':ev σ' x=w at he
 cases he with
 | slc hsl hb h1 hss =>
  rename_i a c sz css
  have hq:OpQ true o σ' ρ' κ (.bool a.isNone):=fun _ w _=>by
   obtain ⟨g1,g2⟩:=xI hu a mm c x (.const (.slice none 0 0)) w
   have e2:ev σ' (.const (.slice none 0 0))=.slice none 0 0:=rfl
   simp only [execOp,ho,hw',e2,Sem.run_bind,g1,Result.andThen_ok,g2,Sem.run_pure]
  refine dr hg hd hlt hq (h a.isNone (fun hn=>?_) β κ _ ρ' g (hs.upd (.v rfl)) hr)
  cases a with
  | some ad=>cases hn
  | none =>
   have:mm=0:=by
    rcases Nat.eq_zero_or_pos mm with h | h
    ·exact h
    obtain ⟨b,off,e,_⟩:=hsl.at_ h;cases e
   subst this
   have e1:=hss.len;have e2:=hsl.len
   exact List.eq_nil_of_length_eq_zero (by omega)
theorem zj {α:Type} (l:List α) (k:Nat) (v:α) (h:l[k]?=some v):l.set k v=l:=by
 apply List.ext_getElem?;intro i;rw [List.getElem?_set];split
 ·rename_i hik;subst hik;rw [h];have:=(List.getElem?_eq_some_iff.1 h).1;simp [this]
 rfl
section
variable {n:Nat} {x:Code} {K:Exit→PPost} {KL:PPost} {σ:PEnv} {ρ:List PRes} {ops:Array Oper} {lo:List Oper} {cs:List PV} {a:Option Addr} {m c:Nat} {css:List (List PV)} {α:Type} {enc:α→List PV} {xs:List α}
theorem agg_nil {κ:Kr} {w:Value} {k:Nat} (h:Rp κ (.agg cs) w) (hk:cs[k]?=some (.v (.slice none 0 0))):Rp κ (.agg (cs.set k (.slc 0 []))) w:=by
 cases h with
 | agg ho hc =>
  obtain ⟨v,hv,hp⟩:=hc.get hk
  have hset:=hc.set (k:=k) (p:=.slc 0 []) (v:=v) (by rw [hp.val];exact p8)
  rw [zj _ _ _ hv] at hset
  exact .agg ho hset
theorem jD (t k:Nat) (ht:σ t=.agg cs) (hk:cs[k]?=some (.v (.slice none 0 0))) (h:PWL n ops lo KL (eX σ t (.agg (cs.set k (.slc 0 [])))) ρ):PWL n ops lo KL σ ρ:=fun β κ σ' ρ' g hs hr=>h β κ σ' ρ' g (lN hs (agg_nil (by have:=hs t;rwa [ht] at this) hk)) hr
end
def zpv:Value→PV
 | .slice none 0 0=>.slc 0 []
 | x=>cond (sQ x) (.v x) .any
theorem wJ {κ:Kr}:∀ (l:List Value),Rps κ (l.map zpv) l
 | []=>.nil
 | x::l=>.cons (by unfold zpv;split;exact p8;exact sR) (wJ l)
theorem my {o:Oper} {σ:PEnv} {ρ:List PRes} {c:Bool} {t sz by':Nat} {parts:List (Nat×Operand)} {fl:List (Nat×Nat)} {zs:List Value} {zp cs:List PV} (hc:c=true) (ho:o.op=.build t parts.toArray) (hz:eE t=some (.agg zs.toArray,sz,by')) (hf:nl t=some fl) (hall:(fl.all fun p=>(eE p.2).isSome)=true) (hzp:zs.map zpv=zp) (hz1:zs.all Value.oneCell'=true) (h:PFill σ fl zp parts cs):POpQ c o σ ρ (.agg cs):=fun κ σ' ρ' g hs hr=>by
 subst hc
 obtain ⟨cv,h1,h2,h3⟩:=h.real hs (zv:=zs) (by rw [← hzp];exact wJ zs) (fun u hu=>List.all_eq_true.1 hz1 u hu)
 exact ⟨_,fun _=>.agg h3 h2,t8 ho hz hf hall h1⟩
theorem eP {α:Type} {a:α} {l:List α}:a∈a::l:=List.Mem.head _
theorem rV {α:Type} {a b0:α} {l:List α}:a∈b0::a::l:=List.Mem.tail _ (List.Mem.head _)
theorem rn {α:Type} {a b0 b1:α} {l:List α}:a∈b0::b1::a::l:=List.Mem.tail _ (List.Mem.tail _ (List.Mem.head _))
theorem zm3 {α:Type} {a b0 b1 b2:α} {l:List α}:a∈b0::b1::b2::a::l:=List.Mem.tail _ (List.Mem.tail _ (List.Mem.tail _ (List.Mem.head _)))
theorem zm4 {α:Type} {a b0 b1 b2 b3:α} {l:List α}:a∈b0::b1::b2::b3::a::l:=List.Mem.tail _ (List.Mem.tail _ (List.Mem.tail _ (List.Mem.tail _ (List.Mem.head _))))
theorem zm5 {α:Type} {a b0 b1 b2 b3 b4:α} {l:List α}:a∈b0::b1::b2::b3::b4::a::l:=List.Mem.tail _ (List.Mem.tail _ (List.Mem.tail _ (List.Mem.tail _ (List.Mem.tail _ (List.Mem.head _)))))
theorem zm6 {α:Type} {a b0 b1 b2 b3 b4 b5:α} {l:List α}:a∈b0::b1::b2::b3::b4::b5::a::l:=List.Mem.tail _ (List.Mem.tail _ (List.Mem.tail _ (List.Mem.tail _ (List.Mem.tail _ (List.Mem.tail _ (List.Mem.head _))))))
theorem zm7 {α:Type} {a b0 b1 b2 b3 b4 b5 b6:α} {l:List α}:a∈b0::b1::b2::b3::b4::b5::b6::a::l:=List.Mem.tail _ (List.Mem.tail _ (List.Mem.tail _ (List.Mem.tail _ (List.Mem.tail _ (List.Mem.tail _ (List.Mem.tail _ (List.Mem.head _)))))))
theorem zm8 {α:Type} {a b0 b1 b2 b3 b4 b5 b6 b7:α} {l:List α}:a∈b0::b1::b2::b3::b4::b5::b6::b7::a::l:=List.Mem.tail _ (List.Mem.tail _ (List.Mem.tail _ (List.Mem.tail _ (List.Mem.tail _ (List.Mem.tail _ (List.Mem.tail _ (List.Mem.tail _ (List.Mem.head _))))))))
theorem zm9 {α:Type} {a b0 b1 b2 b3 b4 b5 b6 b7 b8:α} {l:List α}:a∈b0::b1::b2::b3::b4::b5::b6::b7::b8::a::l:=List.Mem.tail _ (List.Mem.tail _ (List.Mem.tail _ (List.Mem.tail _ (List.Mem.tail _ (List.Mem.tail _ (List.Mem.tail _ (List.Mem.tail _ (List.Mem.tail _ (List.Mem.head _)))))))))
theorem zm10 {α:Type} {a b0 b1 b2 b3 b4 b5 b6 b7 b8 b9:α} {l:List α}:a∈b0::b1::b2::b3::b4::b5::b6::b7::b8::b9::a::l:=List.Mem.tail _ (List.Mem.tail _ (List.Mem.tail _ (List.Mem.tail _ (List.Mem.tail _ (List.Mem.tail _ (List.Mem.tail _ (List.Mem.tail _ (List.Mem.tail _ (List.Mem.tail _ (List.Mem.head _))))))))))
theorem zm11 {α:Type} {a b0 b1 b2 b3 b4 b5 b6 b7 b8 b9 b10:α} {l:List α}:a∈b0::b1::b2::b3::b4::b5::b6::b7::b8::b9::b10::a::l:=List.Mem.tail _ (List.Mem.tail _ (List.Mem.tail _ (List.Mem.tail _ (List.Mem.tail _ (List.Mem.tail _ (List.Mem.tail _ (List.Mem.tail _ (List.Mem.tail _ (List.Mem.tail _ (List.Mem.tail _ (List.Mem.head _)))))))))))
theorem zm12 {α:Type} {a b0 b1 b2 b3 b4 b5 b6 b7 b8 b9 b10 b11:α} {l:List α}:a∈b0::b1::b2::b3::b4::b5::b6::b7::b8::b9::b10::b11::a::l:=List.Mem.tail _ (List.Mem.tail _ (List.Mem.tail _ (List.Mem.tail _ (List.Mem.tail _ (List.Mem.tail _ (List.Mem.tail _ (List.Mem.tail _ (List.Mem.tail _ (List.Mem.tail _ (List.Mem.tail _ (List.Mem.tail _ (List.Mem.head _))))))))))))
theorem zm13 {α:Type} {a b0 b1 b2 b3 b4 b5 b6 b7 b8 b9 b10 b11 b12:α} {l:List α}:a∈b0::b1::b2::b3::b4::b5::b6::b7::b8::b9::b10::b11::b12::a::l:=List.Mem.tail _ (List.Mem.tail _ (List.Mem.tail _ (List.Mem.tail _ (List.Mem.tail _ (List.Mem.tail _ (List.Mem.tail _ (List.Mem.tail _ (List.Mem.tail _ (List.Mem.tail _ (List.Mem.tail _ (List.Mem.tail _ (List.Mem.tail _ (List.Mem.head _)))))))))))))
theorem zmv {n:Nat} {ops:Array Oper} {o:Oper} {rest:List Oper} {K:PPost} {σ:PEnv} {ρ:List PRes} {d:Nat} {x:Operand} {p:PV} (hg:o.guard=none) (hd:o.dst=some d) (hlt:Nat.blt d n=true) (ho:o.op=.move x) (hx:bi σ x=p) (hw:PWL n ops rest K (eX σ d p) ρ):PWL n ops (o::rest) K σ ρ:=bK hg hd hlt (ft ho (.p hx)) hw
theorem zas {n:Nat} {ops:Array Oper} {o:Oper} {rest:List Oper} {K:PPost} {σ:PEnv} {ρ:List PRes} {d:Nat} {x:Operand} {p:PV} (hg:o.guard=none) (hd:o.dst=some d) (hlt:Nat.blt d n=true) (ho:o.op=.assign x) (hx:bi σ x=p) (hw:PWL n ops rest K (eX σ d p) ρ):PWL n ops (o::rest) K σ ρ:=bK hg hd hlt (bv ho (.p hx)) hw
theorem zex {n:Nat} {ops:Array Oper} {o:Oper} {rest:List Oper} {K:PPost} {σ:PEnv} {ρ:List PRes} {d i:Nat} {vs:List PV} {x:Operand} {p:PV} (hg:o.guard=none) (hd:o.dst=some d) (hlt:Nat.blt d n=true) (ho:o.op=.extract x i) (hx:bi σ x=.tup vs) (hr:vs[i]?=some p) (hw:PWL n ops rest K (eX σ d p) ρ):PWL n ops (o::rest) K σ ρ:=bK hg hd hlt (qb ho (.p hx) hr) hw
def rg (a:Nat):Nat→List Nat
  | 0=>[]
  | n+1=>a::rg (a+1) n
theorem kq {n:Nat} {x y:Code} {K:Exit→PPost} {σ:PEnv} {ρ:List PRes} {α:Type} {c:Operand} {p:Bool} {a b r:α} (hc:bi σ c=.v (.bool p)) (h:cond p a b=r) (ht:p=true→a=r→PWC n x K σ ρ) (hf:p=false→b=r→PWC n y K σ ρ):PWC n (.cond c x y) K σ ρ:=gM hc (fun e=>ht e (vD e h)) (fun e=>hf e (vE e h))
theorem tN {σ:PEnv} {d0:Nat} {v0:PV} (h:σ d0=v0):PHolds σ [(d0,v0)]:=by cases h;exact cW rfl (mN)
theorem kR {x0 v0:PV} {l:List PV}:PSplice (x0::l) 0 [v0] (v0::l):=nk (zln)
theorem cI {x0:PRes} {l:List PRes}:PSub [x0] (x0::l):=aZ aI (bL)
theorem nS {σ:PEnv} {d0 d1:Nat} {v0 v1:PV} (h:(σ d0,σ d1)=(v0,v1)):PHolds σ [(d0,v0),(d1,v1)]:=by cases h;exact cW rfl (cW rfl (mN))
theorem oT {x0 v0 x1 v1:PV} {l:List PV}:PSplice (x0::x1::l) 0 [v0,v1] (v0::v1::l):=nk (nk (zln))
theorem oA {x0 x1:PRes} {l:List PRes}:PSub [x0,x1] (x0::x1::l):=aZ aI (aZ aI (bL))
theorem lF {σ:PEnv} {d0 d1 d2:Nat} {v0 v1 v2:PV} (h:(σ d0,σ d1,σ d2)=(v0,v1,v2)):PHolds σ [(d0,v0),(d1,v1),(d2,v2)]:=by cases h;exact cW rfl (cW rfl (cW rfl (mN)))
theorem zl3 {x0 v0 x1 v1 x2 v2:PV} {l:List PV}:PSplice (x0::x1::x2::l) 0 [v0,v1,v2] (v0::v1::v2::l):=nk (nk (nk (zln)))
theorem zk {x0 x1 x2:PRes} {l:List PRes}:PSub [x0,x1,x2] (x0::x1::x2::l):=aZ aI (aZ aI (aZ aI (bL)))
theorem jW {σ:PEnv} {d0 d1 d2 d3:Nat} {v0 v1 v2 v3:PV} (h:(σ d0,σ d1,σ d2,σ d3)=(v0,v1,v2,v3)):PHolds σ [(d0,v0),(d1,v1),(d2,v2),(d3,v3)]:=by cases h;exact cW rfl (cW rfl (cW rfl (cW rfl (mN))))
theorem wK {x0 v0 x1 v1 x2 v2 x3 v3:PV} {l:List PV}:PSplice (x0::x1::x2::x3::l) 0 [v0,v1,v2,v3] (v0::v1::v2::v3::l):=nk (nk (nk (nk (zln))))
theorem yu {x0 x1 x2 x3:PRes} {l:List PRes}:PSub [x0,x1,x2,x3] (x0::x1::x2::x3::l):=aZ aI (aZ aI (aZ aI (aZ aI (bL))))
theorem mz {σ:PEnv} {d0 d1 d2 d3 d4:Nat} {v0 v1 v2 v3 v4:PV} (h:(σ d0,σ d1,σ d2,σ d3,σ d4)=(v0,v1,v2,v3,v4)):PHolds σ [(d0,v0),(d1,v1),(d2,v2),(d3,v3),(d4,v4)]:=by cases h;exact cW rfl (cW rfl (cW rfl (cW rfl (cW rfl (mN)))))
theorem zl {x0 v0 x1 v1 x2 v2 x3 v3 x4 v4:PV} {l:List PV}:PSplice (x0::x1::x2::x3::x4::l) 0 [v0,v1,v2,v3,v4] (v0::v1::v2::v3::v4::l):=nk (nk (nk (nk (nk (zln)))))
theorem zs5 {x0 x1 x2 x3 x4:PRes} {l:List PRes}:PSub [x0,x1,x2,x3,x4] (x0::x1::x2::x3::x4::l):=aZ aI (aZ aI (aZ aI (aZ aI (aZ aI (bL)))))
theorem rt {σ:PEnv} {d0 d1 d2 d3 d4 d5:Nat} {v0 v1 v2 v3 v4 v5:PV} (h:(σ d0,σ d1,σ d2,σ d3,σ d4,σ d5)=(v0,v1,v2,v3,v4,v5)):PHolds σ [(d0,v0),(d1,v1),(d2,v2),(d3,v3),(d4,v4),(d5,v5)]:=by cases h;exact cW rfl (cW rfl (cW rfl (cW rfl (cW rfl (cW rfl (mN))))))
theorem zs6 {x0 x1 x2 x3 x4 x5:PRes} {l:List PRes}:PSub [x0,x1,x2,x3,x4,x5] (x0::x1::x2::x3::x4::x5::l):=aZ aI (aZ aI (aZ aI (aZ aI (aZ aI (aZ aI (bL))))))
theorem n7 {σ:PEnv} {d0 d1 d2 d3 d4 d5 d6:Nat} {v0 v1 v2 v3 v4 v5 v6:PV} (h:(σ d0,σ d1,σ d2,σ d3,σ d4,σ d5,σ d6)=(v0,v1,v2,v3,v4,v5,v6)):PHolds σ [(d0,v0),(d1,v1),(d2,v2),(d3,v3),(d4,v4),(d5,v5),(d6,v6)]:=by cases h;exact cW rfl (cW rfl (cW rfl (cW rfl (cW rfl (cW rfl (cW rfl (mN)))))))
theorem mA {x0 v0 x1 v1 x2 v2 x3 v3 x4 v4 x5 v5 x6 v6:PV} {l:List PV}:PSplice (x0::x1::x2::x3::x4::x5::x6::l) 0 [v0,v1,v2,v3,v4,v5,v6] (v0::v1::v2::v3::v4::v5::v6::l):=nk (nk (nk (nk (nk (nk (nk (zln)))))))
theorem rW {σ:PEnv} {d0 d1 d2 d3 d4 d5 d6 d7:Nat} {v0 v1 v2 v3 v4 v5 v6 v7:PV} (h:(σ d0,σ d1,σ d2,σ d3,σ d4,σ d5,σ d6,σ d7)=(v0,v1,v2,v3,v4,v5,v6,v7)):PHolds σ [(d0,v0),(d1,v1),(d2,v2),(d3,v3),(d4,v4),(d5,v5),(d6,v6),(d7,v7)]:=by cases h;exact cW rfl (cW rfl (cW rfl (cW rfl (cW rfl (cW rfl (cW rfl (cW rfl (mN))))))))
theorem zl8 {x0 v0 x1 v1 x2 v2 x3 v3 x4 v4 x5 v5 x6 v6 x7 v7:PV} {l:List PV}:PSplice (x0::x1::x2::x3::x4::x5::x6::x7::l) 0 [v0,v1,v2,v3,v4,v5,v6,v7] (v0::v1::v2::v3::v4::v5::v6::v7::l):=nk (nk (nk (nk (nk (nk (nk (nk (zln))))))))
theorem qk {σ:PEnv} {d0 d1 d2 d3 d4 d5 d6 d7 d8:Nat} {v0 v1 v2 v3 v4 v5 v6 v7 v8:PV} (h:(σ d0,σ d1,σ d2,σ d3,σ d4,σ d5,σ d6,σ d7,σ d8)=(v0,v1,v2,v3,v4,v5,v6,v7,v8)):PHolds σ [(d0,v0),(d1,v1),(d2,v2),(d3,v3),(d4,v4),(d5,v5),(d6,v6),(d7,v7),(d8,v8)]:=by cases h;exact cW rfl (cW rfl (cW rfl (cW rfl (cW rfl (cW rfl (cW rfl (cW rfl (cW rfl (mN)))))))))
theorem zq {t:Nat} {R:PV→List PRes→Prop} {σ:PEnv} {ρ:List PRes} {p:PV} (h:σ t=p) (hr:R p []):jz [.tmp t] R .ret σ ρ:=aQ (cL (aX h)) bL hr
theorem osi {α:Type} {a b:α} (h:some a=some b):a=b:=Option.some.inj h
theorem cov_sub {σ:PEnv} {ρ ρ':List PRes} (h:PSub ρ' ρ):Cov σ ρ σ ρ':=fun _ _ _ h2=>nw h h2
def uv:TypeDesc→Bool
 | .interface _=>true
 | _=>false
section
variable {o:Oper} {σ:PEnv} {ρ:List PRes} {x:Operand} {t:Nat}
theorem vH {σ:Env} {ρ:List Res} {κ:Kr} {d:TypeDesc} (ho:o.op=.makeInterface t x) (hu:dw t=some d) (hn:uv d=false):OpQ true o σ ρ κ (.iface t (ev σ x)):=fun _ w _=>by
 have h:=run_underlying (w:=w) (bt hu)
 cases d <;> first | (cases hn;done) | simp [execOp,ho,Instr.makeInterface,h]
theorem vI {d:TypeDesc} (ho:o.op=.makeInterface t x) (hu:dw t=some d) (hn:uv d=false):POpQ true o σ ρ (.ifc t (bi σ x)):=fun κ σ' ρ' g hs hr=>⟨_,fun _=>.ifc (hs.ev x),vH ho hu hn⟩
def ta (T:Nat) (p:PV):Option PV:=match p with
 | .ifc t q=>cond (Nat.beq t T) (some (.tup [q,.v (.bool true)])) (match eE T with
  | some (.agg ⟨zs⟩,_,_)=>cond (zs.all Value.oneCell') (some (.tup [.agg (zs.map fun x=>cond (sQ x) (.v x) .any),.v (.bool false)])) none
  | _=>none)
 | _=>none
theorem oq_ta {σ:Env} {ρ:List Res} {κ:Kr} {xT T s:Nat} {v z:Value} {d:TypeDesc} {sz by':Nat} (ho:o.op=.typeAssert x xT T true) (hu:dw T=some d) (hn:uv d=false) (hz:eE T=some (z,sz,by')) (hx:ev σ x=.iface s v):OpQ true o σ ρ κ (if s=T then .tuple #[v,.bool true] else .tuple #[z,.bool false]):=fun _ w _=>by
 have h:=run_underlying (w:=w) (bt hu)
 have hzv:=dt hz w
 by_cases hst:s=T
 ·cases d <;> first | (cases hn;done) | simp [execOp,ho,hx,Instr.typeAssert,h,hst]
 cases d <;> first | (cases hn;done) | simp [execOp,ho,hx,Instr.typeAssert,h,hst,hzv]
theorem pq_ta {xT T:Nat} {d:TypeDesc} {p r:PV} (ho:o.op=.typeAssert x xT T true) (hu:dw T=some d) (hn:uv d=false) (hi:(eE T).isSome=true) (hx:bi σ x=p) (hr:ta T p=some r):POpQ true o σ ρ r:=fun κ σ' ρ' g hs hrr=>by
 obtain ⟨⟨z,sz,by'⟩,hz⟩:=Option.isSome_iff_exists.1 hi
 have h:=hs.ev x
 rw [hx] at h
 generalize he:ev σ' x=w at h
 cases h with
 | ifc h =>
  rename_i s q v
  have hq:=oq_ta (ρ:=ρ') (κ:=κ) ho hu hn hz he
  simp only [ta] at hr
  cases hb:Nat.beq s T
  ·have hne:s≠T:=fun e=>by rw [e] at hb;simp at hb
   rw [hb,hz] at hr
   simp only [cT] at hr
   rw [if_neg hne] at hq
   split at hr
   ·rename_i zs s1 b1 heq
    simp only [df,Prod.mk.injEq] at heq
    obtain ⟨rfl,rfl,rfl⟩:=heq
    cases ho1:zs.all Value.oneCell'
    ·rw [ho1] at hr;cases hr
    rw [ho1] at hr;simp only [dn,df] at hr;subst hr
    exact ⟨_,fun _=>.tup (ws:=[_,_]) (.cons (.agg (ds:=zs) (fun u hu=>List.all_eq_true.1 ho1 u hu) (ij zs)) (.cons (.v rfl) .nil)),hq⟩
   cases hr
  ·have hst:=Nat.eq_of_beq_eq_true hb
   rw [hb] at hr;simp only [dn,df] at hr;subst hr
   rw [if_pos hst] at hq
   exact ⟨_,fun _=>.tup (ws:=[_,_]) (.cons h (.cons (.v rfl) .nil)),hq⟩
 | _=>simp only [ta] at hr;cases hr
end
structure MethOk (t:Nat) (name:String) (f:Nat):Prop where
 h:∀ (v:Value) (w:World),(method (Tryz.prog.types.size+Made.depth) t v name).run Tryz.prog w=.ok (f,v) w
theorem qm {o:Oper} {σ:Env} {ρ:List Res} {κ:Kr} {K:Value→List Res→Kr→Prop} {f t:Nat} {x:Operand} {name:String} {l:List Operand} {ts:Array Nat} {v:Value} {R:Value→Kr→Prop} (ho:o.op=.call { callee:=.invoke x name,args:=l.toArray,argTypes:=ts })
    (hx:ev σ x=.iface t v) (hm:MethOk t name f) (hc:CallP f (v::l.map (ev σ)) κ R) (h:∀ v κ',Kle κ κ'→R v κ'→K v ρ κ'):OpL o σ ρ κ K:=fun β hi Nx hk=>by
  have hi2:=hi.perm (List.Perm.refl ([]++ρ))
  have e1:(#[Value.iface t v]++(l.map (ev σ)).toArray)[0]?=some (.iface t v):=by simp
  have e2:(#[Value.iface t v]++(l.map (ev σ)).toArray).extract 1 (#[Value.iface t v]++(l.map (ev σ)).toArray).size=(l.map (ev σ)).toArray:=by simp;exact List.take_of_length_le (by simp)
  have e3:#[v]++(l.map (ev σ)).toArray=(v::l.map (ev σ)).toArray:=by simp
  have hp:(program).run Tryz.prog κ.w=.ok Tryz.prog κ.w:=rfl
  unfold execOp
  simp only [ho,resolve,Sem.run_bind,Sem.run_pure,Result.andThen_ok,invoke,List.map_toArray,hx,e1,e2,callMethod,hp,hm.h,e3,jb hc.1,OutV]
  exact (hc.2 hi2.split).mono fun e w' ⟨v,ρ',κ',h1,h2,h3,h4⟩=>by
    subst h2
    obtain ⟨rfl,h4⟩:=h4
    exact ⟨v,h1,hk v ρ κ' (hi2.join h3) h3.le.kle (h v κ' h3.le.kle h4)⟩
def PFI (p:PV) (name:String) (pargs:List PV) (r:PV):Prop:=∃ t q f,p=.ifc t q∧MethOk t name f∧PF f (q::pargs) r
theorem zm {t f:Nat} {name:String} {q:PV} {pargs:List PV} {r:PV} (hm:MethOk t name f) (h:PF f (q::pargs) r):PFI (.ifc t q) name pargs r:=⟨t,q,f,rfl,hm,h⟩
theorem rX {o:Oper} {σ:PEnv} {ρ:List PRes} {K:PV→List PRes→Prop} {x:Operand} {name:String} {l:List Operand} {ts:Array Nat} {pargs:List PV} {r:PV} (ho:o.op=.call { callee:=.invoke x name,args:=l.toArray,argTypes:=ts }) (ha:l.map (bi σ)=pargs) (hc:PFI (bi σ x) name pargs r) (h:K r ρ):POpL o σ ρ K:=fun κ σ' ρ' g hs hr=>by
 obtain ⟨t,q,f,e,hm,hf⟩:=hc
 have hx:=hs.ev x
 rw [e] at hx
 generalize he:ev σ' x=w at hx
 cases hx with
 | ifc hq=>exact qm ho he hm (hf κ _ g (.cons hq (by rw [← ha];exact iH hs l))) fun v κ' hk hv=>⟨r,ρ,hv,hr.mono hk,h⟩
abbrev pI (x:Int):PV:=.v (.int .i64 x)
abbrev pU (x:Int):PV:=.v (.int .u64 x)
abbrev pY (x:Int):PV:=.v (.int .u8 x)
abbrev pB (b:Bool):PV:=.v (.bool b)
abbrev pS (s:ByteArray):PV:=.v (.string s)
abbrev pP (b off:Nat):PV:=.v (.pointer (some ⟨b,off,none⟩))
abbrev pO (a:Option Addr) (n c:Nat):PV:=.v (.slice a n c)
abbrev pN:PV:=.v (.slice none 0 0)
abbrev pL {α:Type} (e:α→List PV) (xs:List α):PV:=.slc xs.length (List.map e xs)
def tO:IntKind→Nat
 | .i8=>0 | .i16=>1 | .i32=>2 | .i64=>3 | .u8=>4 | .u16=>5 | .u32=>6 | .u64=>7
theorem po {a b:IntKind} (h:Nat.beq (tO a) (tO b)=true):a=b:=by cases a <;> cases b <;> first | rfl | cases h
def zn:Int→Bool
 | .ofNat (_+1)=>true
 | _=>false
def ge0l:Int→Bool
 | .ofNat _=>true
 | _=>false
theorem wL {b:Int} (h:zn b=true):b≠0:=by rintro rfl;cases h
theorem ge0l_ge {b:Int} (h:ge0l b=true):0≤b:=by cases b with | ofNat n=>exact Int.natCast_nonneg n | negSucc n=>cases h
def qcmp (op:BinOp) (a b:Int):Option Bool:=match op with | .eql=>some (a == b) | .neq=>some (a != b) | .lss=>some (decide (a<b)) | .leq=>some (decide (a≤b)) | .gtr=>some (decide (b<a)) | .geq=>some (decide (b≤a)) | _=>none
def qari (op:BinOp) (a b:Int):Option Int:=match op with | .add=>some (a+b) | .sub=>some (a - b) | .mul=>some (a*b) | _=>none
def qbit (op:BinOp) (k:IntKind) (a b:Int):Option Int:=match op with | .and=>some (co k a b) | .or=>some (kQ k a b) | .xor=>some (ro k a b) | _=>none
def qshf (op:BinOp) (k:IntKind) (a b:Int):Option Int:=match op with | .shl=>some (dT k a b) | .shr=>some (bQ k a b) | _=>none
def qeqb (op:BinOp) (p q:Bool):Option Bool:=match op with | .eql=>some (p == q) | .neq=>some (p != q) | _=>none
def qstr (op:BinOp) (s u:ByteArray):Option Bool:=match op with | .eql=>some (decide (s=u)) | .neq=>some (!decide (s=u)) | .lss=>some (Op.bytesLess s.toList u.toList) | .leq=>some (Op.bytesLess s.toList u.toList||decide (s=u)) | .gtr=>some (!(Op.bytesLess s.toList u.toList||decide (s=u))) | .geq=>some (!Op.bytesLess s.toList u.toList) | _=>none
def qint (op:BinOp) (k k':IntKind) (a b:Int):Option PV :=
 match qshf op k a b with
 | some r=>cond (ge0l b) (some (.v (.int k r))) none
 | none=>cond (Nat.beq (tO k) (tO k'))
  (match qcmp op a b with
   | some r=>some (.v (.bool r))
   | none=>match qari op a b with
    | some r=>some (.v (.int k (k.wrap r)))
    | none=>match qbit op k a b with
     | some r=>some (.v (.int k r))
     | none=>match op with
      | .quo=>cond (zn b) (some (.v (.int k (k.wrap (a.tdiv b))))) none
      | .rem=>cond (zn b) (some (.v (.int k (a.tmod b)))) none
      | _=>none) none
def qbin (op:BinOp) (t:Nat) (p q:PV):Option PV:=match p,q with
 | .v (.int k a),.v (.int k' b)=>qint op k k' a b
 | .v (.bool p),.v (.bool q)=>(match dw t with | some .bool=>(qeqb op p q).map fun r=>.v (.bool r) | _=>none)
 | .v (.string s),.v (.string u)=>(qstr op s u).map fun r=>.v (.bool r)
 | _,_=>none
def qlen (t:Nat) (p:PV):Option PV:=match dw t,p with
 | some (.slice _),.slc m _=>some (.v (.int .i64 (m:Int)))
 | some (.slice _),.v (.slice _ m _)=>some (.v (.int .i64 (m:Int)))
 | some .string,.v (.string s)=>some (.v (.int .i64 (s.size:Int)))
 | _,_=>none
def qmm (mx:Bool) (p q:PV):Option PV:=match p,q with
 | .v (.int k a),.v (.int k' b)=>cond (Nat.beq (tO k) (tO k')) (some (.v (.int k (cond mx (rq a b) (mO a b))))) none
 | _,_=>none
def uw (σ:PEnv) (fl:List (Nat×Nat)):List PV→List (Nat×Operand)→Option (List PV)
 | zs,[]=>some zs
 | zs,(i,x)::r=>match fl[i]? with
  | some (k,ty)=>match eE ty,gt (bi σ x) with
   | some (_,sz,_),some vs=>cond (Nat.beq vs.length sz&&Nat.ble (k+vs.length) zs.length) (uw σ fl (zs.take k++vs++zs.drop (k+vs.length)) r) none
   | _,_=>none
  | none=>none
theorem ux {σ:PEnv} {fl:List (Nat×Nat)}:∀ {parts:List (Nat×Operand)} {zs cs:List PV},uw σ fl zs parts=some cs→PFill σ fl zs parts cs
 | [],zs,cs,h=>by simp only [uw,df] at h;exact h
 | (i,x)::r,zs,cs,h=>by
  simp only [uw] at h
  split at h
  ·rename_i k ty h1
   split at h
   ·rename_i z sz by' vs h2 h3
    cases hb:(Nat.beq vs.length sz&&Nat.ble (k+vs.length) zs.length)
    ·rw [hb] at h;cases h
    rw [hb] at h
    simp only [Bool.and_eq_true] at hb
    exact xF h1 h2 h3 hb.1 ⟨rfl,Nat.le_of_ble_eq_true hb.2⟩ (ux h)
   cases h
  cases h
def qfa (s f:Nat) (p:PV):Option PV:=match nl s with
 | some l=>match l[f]? with
  | some (kk,ty)=>match eE ty with
   | some (_,sz,_)=>cond (Nat.blt 0 sz) (match p with
    | .v (.pointer (some ⟨b,off,none⟩))=>some (.v (.pointer (some ⟨b,off+kk,none⟩)))
    | .ref cs off=>some (.ref cs (off+kk))
    | _=>none) none
   | none=>none
  | none=>none
 | none=>none
def qfd (t f:Nat) (p:PV):Option PV:=match nl t with
 | some l=>match l[f]? with
  | some (kk,ty)=>match p with
   | .agg cs=>cond (Nat.ble kk cs.length) (gK ty (cs.drop kk)) none
   | _=>none
  | none=>none
 | none=>none
def qx (σ:PEnv) (ρ:List PRes) (at_:Nat):Op→Option (PV×Option (Nat×Nat))
 | .move x=>some (bi σ x,none)
 | .assign x=>some (bi σ x,none)
 | .binOp op t x y _=>(qbin op t (bi σ x) (bi σ y)).map fun p=>(p,none)
 | .unOp .not _ x=>(match bi σ x with | .v (.bool p)=>some (.v (.bool !p),none) | _=>none)
 | .unOp .neg _ x=>(match bi σ x with | .v (.int k a)=>some (.v (.int k (k.wrap (0 - a))),none) | _=>none)
 | .convert s d x=>(match dw s,dw d,bi σ x with | some _,some (.int k'),.v (.int _ a)=>some (.v (.int k' (k'.wrap a)),none) | _,_,_=>none)
 | .nilCheck x=>(match bi σ x with | .v (.pointer (some ad))=>some (.v (.pointer (some ad)),none) | .ref cs k=>some (.ref cs k,none) | .ifc t p=>some (.ifc t p,none) | _=>none)
 | .fieldAddr s x f=>(qfa s f (bi σ x)).map fun p=>(p,none)
 | .field t x f=>(qfd t f (bi σ x)).map fun p=>(p,none)
 | .extract x i=>(match bi σ x with | .tup vs=>(vs[i]?).map fun p=>(p,none) | _=>none)
 | .load t x=>(match bi σ x with
  | .ref cs off=>(gK t (cs.drop off)).map fun p=>(p,none)
  | .v (.pointer (some ⟨b,off,none⟩))=>(match ρ[at_]? with | some (.b b' _ cs)=>(gK t (cs.drop off)).map fun p=>(p,some (b,b')) | _=>none)
  | _=>none)
 | .call ⟨.builtin .len,⟨[x]⟩,⟨[t]⟩⟩=>(qlen t (bi σ x)).map fun p=>(p,none)
 | .call ⟨.builtin .min,⟨[x,y]⟩,_⟩=>(qmm false (bi σ x) (bi σ y)).map fun p=>(p,none)
 | .call ⟨.builtin .max,⟨[x,y]⟩,_⟩=>(qmm true (bi σ x) (bi σ y)).map fun p=>(p,none)
 | .makeFunc (.func f) ⟨[]⟩ ⟨l⟩=>some (.fn f (l.map (bi σ)),none)
 | .makeInterface t x=>(match dw t with | some d=>cond (uv d) none (some (.ifc t (bi σ x),none)) | none=>none)
 | .build t ⟨parts⟩=>(match eE t,nl t with
  | some (.agg ⟨zs⟩,_,_),some fl=>cond ((fl.all fun p=>(eE p.2).isSome)&&zs.all Value.oneCell') ((uw σ fl (zs.map fun x=>cond (sQ x) (.v x) .any) parts).map fun cs=>(.agg cs,none)) none
  | _,_=>none)
 | _=>none
section
variable {o:Oper} {σ:PEnv} {ρ:List PRes} {x y:Operand} {t t':Nat} {p:PV}
theorem map_none {a:Option PV} {p:PV} {e:Option (Nat×Nat)} (h:(a.map fun q=>(q,(none:Option (Nat×Nat))))=some (p,e)):a=some p:=by
 cases a with
 | none=>cases h
 | some q=>simp only [Option.map_some,df,Prod.mk.injEq] at h;rw [h.1]
theorem qint_ok {op:BinOp} {k k':IntKind} {a b:Int} (ho:o.op=.binOp op t x y t') (hx:bi σ x=.v (.int k a)) (hy:bi σ y=.v (.int k' b)) (h:qint op k k' a b=some p):POpQ true o σ ρ p:=by
 unfold qint at h
 split at h
 ·rename_i r hr
  cases hb:ge0l b
  ·rw [hb] at h;cases h
  rw [hb] at h;simp only [dn,df] at h;subst h
  exact qa ho (.p hx) (.p hy) (fun _=>ge0l_ge hb) (by cases op <;> exact hr)
 cases hk:Nat.beq (tO k) (tO k')
 ·rw [hk] at h;cases h
 rw [hk] at h;simp only [dn] at h
 have:=po hk;subst this
 split at h
 ·rename_i r hr;simp only [df] at h;subst h;exact vA ho (.p hx) (.p hy) (by cases op <;> exact hr)
 split at h
 ·rename_i r hr;simp only [df] at h;subst h;exact p9 ho (.p hx) (.p hy) (by cases op <;> exact hr)
 split at h
 ·rename_i r hr;simp only [df] at h;subst h;exact pq_bits ho (.p hx) (.p hy) (by cases op <;> exact hr)
 split at h
 ·cases hb:zn b
  ·rw [hb] at h;cases h
  rw [hb] at h;simp only [dn,df] at h;subst h;exact zc ho (.p hx) (.p hy) fun _=>wL hb
 ·cases hb:zn b
  ·rw [hb] at h;cases h
  rw [hb] at h;simp only [dn,df] at h;subst h;exact zd ho (.p hx) (.p hy) fun _=>wL hb
 cases h
theorem qbin_ok {op:BinOp} (ho:o.op=.binOp op t x y t') (h:qbin op t (bi σ x) (bi σ y)=some p):POpQ true o σ ρ p:=by
 unfold qbin at h
 split at h
 ·rename_i h1 h2;exact qint_ok ho h1 h2 h
 ·rename_i h1 h2
  split at h
  ·rename_i hu
   obtain ⟨r,hr,rfl⟩:=Option.map_eq_some_iff.1 h
   exact pq_eqB ho hu (.p h1) (.p h2) (by cases op <;> exact hr)
  cases h
 ·rename_i h1 h2
  obtain ⟨r,hr,rfl⟩:=Option.map_eq_some_iff.1 h
  exact pq_str ho (.p h1) (.p h2) (by cases op <;> exact hr)
 cases h
theorem qlen_ok (ho:o.op=.call { callee:=.builtin .len,args:=#[x],argTypes:=#[t] }) (h:qlen t (bi σ x)=some p):POpQ true o σ ρ p:=by
 unfold qlen at h
 split at h
 ·rename_i hu hx;simp only [df] at h;subst h;exact pq_len ho hu (.p hx)
 ·rename_i hu hx;simp only [df] at h;subst h;exact pq_lenO ho hu (.p hx)
 ·rename_i hu hx;simp only [df] at h;subst h;exact pq_lenS ho hu (.p hx)
 cases h
theorem zo {mx:Bool} {ts:List Nat} (ho:o.op=.call { callee:=.builtin (cond mx .max .min),args:=#[x,y],argTypes:=ts.toArray }) (h:qmm mx (bi σ x) (bi σ y)=some p):POpQ true o σ ρ p:=by
 unfold qmm at h
 split at h
 ·rename_i k a k' b h1 h2
  cases hk:Nat.beq (tO k) (tO k')
  ·rw [hk] at h;cases h
  have:=po hk;subst this
  rw [hk] at h
  simp only [dn,df] at h;subst h
  cases mx
  ·exact pq_min ho (.p h1) (.p h2)
  exact pq_max ho (.p h1) (.p h2)
 cases h
theorem qfa_ok {s f:Nat} (ho:o.op=.fieldAddr s x f) (h:qfa s f (bi σ x)=some p):POpQ true o σ ρ p:=by
 unfold qfa at h
 split at h
 ·rename_i l h1
  split at h
  ·rename_i kk ty h2
   split at h
   ·rename_i z sz by' h3
    cases h4:Nat.blt 0 sz
    ·rw [h4] at h;cases h
    rw [h4] at h;simp only [dn] at h
    split at h
    ·rename_i hx;simp only [df] at h;subst h;exact br ho h1 h2 h3 h4 (.p hx)
    ·rename_i hx;simp only [df] at h;subst h;exact rp ho h1 h2 h3 h4 (.p hx)
    cases h
   cases h
  cases h
 cases h
theorem qfd_ok {f:Nat} (ho:o.op=.field t x f) (h:qfd t f (bi σ x)=some p):POpQ true o σ ρ p:=by
 unfold qfd at h
 split at h
 ·rename_i l h1
  split at h
  ·rename_i kk ty h2
   split at h
   ·rename_i cs hx
    cases h4:Nat.ble kk cs.length
    ·rw [h4] at h;cases h
    rw [h4] at h;exact ze ho h1 h2 (.p hx) h4 h
   cases h
  cases h
 cases h
theorem sZ {c:Bool} {tt:Nat} {pp:PV} (ho:o.op=.nilCheck x) (hx:PEv σ c x (.ifc tt pp)):POpQ c o σ ρ (.ifc tt pp):=fun κ σ' ρ' g hs _=>by
 refine ⟨ev σ' x,hs.pe hx,fun hc w _=>?_⟩
 have h:=hs.pe hx hc
 generalize he:ev σ' x=y at h
 cases h with
 | ifc h=>simp [execOp,ho,he]
theorem qx_ok {k:Nat} {e:Option (Nat×Nat)} (h:qx σ ρ k o.op=some (p,e)) (he:∀ b b',e=some (b,b')→b=b'):POpQ true o σ ρ p:=by
 generalize ho:o.op=op at h
 unfold qx at h
 split at h
 ·simp only [df,Prod.mk.injEq] at h;obtain ⟨rfl,_⟩:=h;exact ft ho (.p rfl)
 ·simp only [df,Prod.mk.injEq] at h;obtain ⟨rfl,_⟩:=h;exact bv ho (.p rfl)
 ·exact qbin_ok ho (map_none h)
 ·split at h
  ·rename_i hx;simp only [df,Prod.mk.injEq] at h;obtain ⟨rfl,_⟩:=h;exact pq_not ho (.p hx)
  cases h
 ·split at h
  ·rename_i hx;simp only [df,Prod.mk.injEq] at h;obtain ⟨rfl,_⟩:=h;exact pq_neg ho (.p hx)
  cases h
 ·split at h
  ·rename_i h1 h2 hx;simp only [df,Prod.mk.injEq] at h;obtain ⟨rfl,_⟩:=h;exact pq_conv ho h1 h2 (.p hx)
  cases h
 ·split at h
  ·rename_i hx;simp only [df,Prod.mk.injEq] at h;obtain ⟨rfl,_⟩:=h;exact ul ho (.p hx)
  ·rename_i hx;simp only [df,Prod.mk.injEq] at h;obtain ⟨rfl,_⟩:=h;exact sW ho (.p hx)
  ·rename_i hx;simp only [df,Prod.mk.injEq] at h;obtain ⟨rfl,_⟩:=h;exact sZ ho (.p hx)
  cases h
 ·exact qfa_ok ho (map_none h)
 ·exact qfd_ok ho (map_none h)
 ·split at h
  ·rename_i hx;exact qb ho (.p hx) (map_none h)
  cases h
 ·split at h
  ·rename_i hx;exact n4 ho (.p hx) (map_none h)
  ·rename_i b off hx
   split at h
   ·rename_i b' T cs hr
    obtain ⟨q,hq,h2⟩:=Option.map_eq_some_iff.1 h
    simp only [Prod.mk.injEq] at h2
    obtain ⟨rfl,rfl⟩:=h2
    have:=he b b' rfl;subst this
    exact ce ho (.p hx) (List.mem_of_getElem? hr) hq
   cases h
  cases h
 ·exact qlen_ok ho (map_none h)
 ·exact zo (mx:=false) (ts:=_) ho (map_none h)
 ·exact zo (mx:=true) (ts:=_) ho (map_none h)
 ·simp only [df,Prod.mk.injEq] at h;obtain ⟨rfl,_⟩:=h;exact ur ho
 ·split at h
  ·rename_i d hu
   cases hn:uv d
   ·rw [hn] at h;simp only [cT,df,Prod.mk.injEq] at h;obtain ⟨rfl,_⟩:=h;exact vI ho hu hn
   rw [hn] at h;cases h
  cases h
 ·split at h
  ·rename_i zs sz by' fl h1 h2
   cases hc:((fl.all fun p=>(eE p.2).isSome)&&zs.all Value.oneCell')
   ·rw [hc] at h;cases h
   rw [hc] at h
   simp only [dn] at h
   obtain ⟨q,hq,h3⟩:=Option.map_eq_some_iff.1 h
   simp only [Prod.mk.injEq] at h3
   obtain ⟨rfl,_⟩:=h3
   simp only [Bool.and_eq_true] at hc
   exact qc rfl ho h1 h2 hc.1 rfl hc.2 (ux hq)
  cases h
 cases h
end
structure GE where
 gs:List Bool
 p:PV
def gl (t:Nat):List (Nat×GE)→Option GE
 | []=>none
 | (d,e)::l=>cond (Nat.beq t d) (some e) (gl t l)
def zr (t:Nat):List (Nat×GE)→List (Nat×GE)
 | []=>[]
 | (d,e)::l=>cond (Nat.beq t d) (zr t l) ((d,e)::zr t l)
def zt (d:Nat):List Nat→Bool
 | []=>false
 | k::l=>cond (Nat.beq d k) true (zt d l)
theorem pq {d:Nat}:∀ {l:List Nat},zt d l=true↔d∈l
 | []=>by simp [zt]
 | k::l=>by
  unfold zt
  cases h:Nat.beq d k
  ·have:d≠k:=fun e=>by rw [e] at h;simp at h
   simp [pq (l:=l),this]
  simp [Nat.eq_of_beq_eq_true h]
def e8:List Operand→List Nat
 | []=>[]
 | .tmp t::l=>t::e8 l
 | _::l=>e8 l
def lG (σ:PEnv) (G:List (Nat×GE)) (ts:List Nat) (gs:List Bool):PEnv:=fun t=>match gl t G with
 | none=>σ t
 | some e=>cond (zt t ts&&Nat.ble e.gs.length gs.length) e.p .any
def jd (G:List (Nat×GE)) (gs:List Bool):List Nat→List (Bool×Bool)
 | []=>[]
 | t::ts=>match gl t G with
  | none=>jd G gs ts
  | some e=>(e.gs.headD true,(gs.drop (gs.length - e.gs.length)).headD true)::jd G gs ts
def s7 (ops:Array Oper) (σ:PEnv) (G:List (Nat×GE)):Option (Nat×Bool)→Option (List Bool)
 | none=>some []
 | some (j,pol)=>match (ops[j]?).bind (·.dst) with
  | none=>none
  | some d=>match gl d G with
   | none=>match σ d with | .v (.bool p)=>some [cond pol p (!p)] | _=>none
   | some e=>match e.p with | .v (.bool p)=>some ((e.gs.headD true&&cond pol p (!p))::e.gs) | _=>none
def StackOk (gs:List Bool):Prop:=gs.headD true=true→∀ b∈gs,b=true
def GInv (σ:PEnv) (G:List (Nat×GE)):Prop:=∀ t e,gl t G=some e→σ t=pgv (e.gs.headD true) e.p∧StackOk e.gs∧e.gs≠[]
def AllEq (l:List (Bool×Bool)):Prop:=l.map (·.1)=l.map (·.2)
theorem AllEq.nil:AllEq []:=rfl
theorem AllEq.cons {a b:Bool} {l:List (Bool×Bool)} (h:AllEq ((a,b)::l)):a=b∧AllEq l:=by
 unfold AllEq at h;simp only [List.map_cons,List.cons.injEq] at h;exact h
theorem AllEq.app {l m:List (Bool×Bool)} (h:AllEq (l++m)):AllEq l∧AllEq m:=by
 unfold AllEq at h;simp only [List.map_append] at h
 exact List.append_inj h (by simp)
theorem ny {G:List (Nat×GE)} {gs:List Bool} {t:Nat} {e:GE}:∀ {ts:List Nat},t∈ts→gl t G=some e→AllEq (jd G gs ts)→e.gs.headD true=(gs.drop (gs.length - e.gs.length)).headD true
 | u::ts,hm,hg,ha=>by
  simp only [jd] at ha
  rcases List.mem_cons.1 hm with rfl | hm
  ·rw [hg] at ha;exact ha.cons.1
  split at ha
  ·exact ny hm hg ha
  exact ny hm hg ha.cons.2
theorem qn {gs:List Bool} (h:StackOk gs) (hc:gs.headD true=true) (k:Nat):(gs.drop k).headD true=true:=by
 rw [List.headD_eq_head?_getD,List.head?_drop]
 cases e:gs[k]? with
 | none=>rfl
 | some b=>exact h hc b (List.mem_of_getElem? e)
theorem nA {κ:Kr} {σ:PEnv} {σ':Env} {G:List (Nat×GE)} {ts:List Nat} {gs:List Bool} (hs:Sim κ σ σ') (hi:GInv σ G) (ha:AllEq (jd G gs ts)) (hk:StackOk gs) (hc:gs.headD true=true):Sim κ (lG σ G ts gs) σ':=fun t=>by
 unfold lG
 cases hg:gl t G with
 | none=>exact hs t
 | some e =>
  simp only
  cases hb:(zt t ts&&Nat.ble e.gs.length gs.length)
  ·exact .any
  simp only [Bool.and_eq_true,pq] at hb
  have h1:=ny hb.1 hg ha
  rw [qn hk hc] at h1
  have h2:=(hi t e hg).1
  rw [h1,jx] at h2
  have:=hs t
  rw [h2] at this
  exact this
theorem n8 {o:Oper} {σ:PEnv} {ρ:List PRes} {G:List (Nat×GE)} {ts:List Nat} {gs:List Bool} {p:PV} (h:gs.headD true=true→POpQ true o (lG σ G ts gs) ρ p) (hi:GInv σ G) (ha:AllEq (jd G gs ts)) (hk:StackOk gs):POpQ (gs.headD true) o σ ρ p:=fun κ σ' ρ' g hs hr=>by
 cases hc:gs.headD true with
 | false=>exact vy
 | true=>exact h hc κ σ' ρ' g (nA hs hi ha hk hc) hr
theorem xJ {ops:Array Oper} {σ:PEnv} {G:List (Nat×GE)} {o:Oper} {gs:List Bool} (hi:GInv σ G) (h:s7 ops σ G o.guard=some gs):PGuardIs ops σ o (gs.headD true)∧StackOk gs:=by
 cases hg:o.guard with
 | none =>
  rw [hg] at h;simp only [s7,df] at h;subst h
  exact ⟨fun κ σ' _=>vm hg,fun _ b hb=>by cases hb⟩
 | some jp =>
  obtain ⟨j,pol⟩:=jp
  rw [hg] at h;simp only [s7] at h
  split at h
  ·cases h
  rename_i d hd
  split at h
  ·split at h
   ·rename_i p hp
    simp only [df] at h;subst h
    refine ⟨?_,fun hc b hb=>by rw [List.mem_singleton.1 hb];exact hc⟩
    cases pol
    ·exact y8 hg hd hp
    exact nv hg hd hp
   cases h
  rename_i e hgl
  split at h
  ·rename_i p hp
   simp only [df] at h;subst h
   obtain ⟨h1,h2,h3⟩:=hi d e hgl
   rw [hp] at h1
   refine ⟨?_,fun hc b hb=>?_⟩
   ·cases pol
    ·exact nZ hg hd h1
    exact xB hg hd h1
   simp only [List.headD_cons,Bool.and_eq_true] at hc
   rcases List.mem_cons.1 hb with rfl | hb
   ·simp only [hc,Bool.and_self]
   exact h2 hc.1 b hb
  cases h
def wM (σ:PEnv) (G:List (Nat×GE)) (want:Bool):Operand→Option (PV×List (Bool×Bool))
 | .tmp t=>match gl t G with
  | some e=>some (e.p,[(e.gs.headD true,want)])
  | none=>some (σ t,[])
 | x=>some (bi σ x,[])
theorem uy {σ:PEnv} {G:List (Nat×GE)} {want:Bool} {x:Operand} {p:PV} {l:List (Bool×Bool)} (hi:GInv σ G) (h:wM σ G want x=some (p,l)) (ha:AllEq l):PEv σ want x p:=by
 unfold wM at h
 split at h
 ·rename_i t
  split at h
  ·rename_i e hg
   simp only [df,Prod.mk.injEq] at h;obtain ⟨rfl,rfl⟩:=h
   have h1:=ha.cons.1
   have h2:=(hi t e hg).1
   rw [h1] at h2
   exact .g h2
  simp only [df,Prod.mk.injEq] at h;obtain ⟨rfl,rfl⟩:=h;exact .p rfl
 simp only [df,Prod.mk.injEq] at h;obtain ⟨rfl,rfl⟩:=h;exact .p rfl
def qo:PV→Option Bool
 | .v (.bool p)=>some p
 | _=>none
theorem n9 {p:PV} {b:Bool} (h:qo p=some b):p=.v (.bool b):=by
 unfold qo at h;split at h
 ·simp only [df] at h;rw [h]
 cases h
def s9:Operand→Bool
 | .const (.bool true)=>true
 | _=>false
def pr:Operand→Bool
 | .const (.bool false)=>true
 | _=>false
theorem xK {x:Operand} {σ:PEnv} (h:s9 x=true):bi σ x=.v (.bool true):=by
 unfold s9 at h;split at h
 ·rfl
 cases h
theorem vJ {x:Operand} {σ:PEnv} (h:pr x=true):bi σ x=.v (.bool false):=by
 unfold pr at h;split at h
 ·rfl
 cases h
def zu (σ:PEnv) (G:List (Nat×GE)) (gs:List Bool) (cc a b:Operand):Option (PV×List (Bool×Bool)) :=
 match qo (bi (lG σ G (e8 [cc]) gs) cc) with
 | none=>none
 | some p=>cond (s9 a)
  (match wM σ G (gs.headD true && !p) b with
   | some (q,l)=>match qo q with
    | some q=>some (.v (.bool (p||q)),jd G gs (e8 [cc])++l)
    | none=>none
   | none=>none)
  (cond (pr b)
   (match wM σ G (gs.headD true&&p) a with
    | some (q,l)=>match qo q with
     | some q=>some (.v (.bool (p&&q)),jd G gs (e8 [cc])++l)
     | none=>none
    | none=>none) none)
theorem wN {σ:PEnv} {G:List (Nat×GE)} {gs:List Bool} {x:Operand} {p:PV} (hi:GInv σ G) (hk:StackOk gs) (ha:AllEq (jd G gs (e8 [x]))) (h:bi (lG σ G (e8 [x]) gs) x=p) (hn:p≠.any):PEv σ (gs.headD true) x p:=fun hc=>by
 cases x with
 | tmp t =>
  simp only [bi,e8] at h ⊢
  unfold lG at h
  cases hg:gl t G with
  | none=>rw [hg] at h;exact h
  | some e =>
   rw [hg] at h
   simp only at h
   cases hb:(zt t [t]&&Nat.ble e.gs.length gs.length)
   ·rw [hb] at h;exact absurd h.symm hn
   ·rw [hb] at h;simp only [dn] at h
    have h1:=ny (t:=t) (ts:=[t]) (by simp) hg ha
    rw [qn hk hc] at h1
    have h2:=(hi t e hg).1
    rw [h1,jx] at h2
    rw [h2,h]
 | const x=>exact h
 | global g=>exact h
 | func f=>exact h
theorem zw {o:Oper} {σ:PEnv} {ρ:List PRes} {G:List (Nat×GE)} {gs:List Bool} {cc a b:Operand} {p:PV} {l:List (Bool×Bool)} (ho:o.op=.pick cc a b) (hi:GInv σ G) (hk:StackOk gs) (h:zu σ G gs cc a b=some (p,l)) (ha:AllEq l):POpQ (gs.headD true) o σ ρ p:=by
 unfold zu at h
 split at h
 ·cases h
 rename_i c hc
 have hc:=n9 hc
 cases h1:s9 a
 ·rw [h1] at h;simp only [cT] at h
  cases h2:pr b
  ·rw [h2] at h;cases h
  rw [h2] at h;simp only [dn] at h
  split at h
  ·rename_i q m hl
   split at h
   ·rename_i q' hq
    simp only [df,Prod.mk.injEq] at h;obtain ⟨rfl,rfl⟩:=h
    have hl':=uy hi hl ha.app.2
    rw [n9 hq] at hl'
    exact vz ho (wN hi hk ha.app.1 hc (by simp)) (.p (vJ h2)) hl'
   cases h
  cases h
 rw [h1] at h;simp only [dn] at h
 split at h
 ·rename_i q m hl
  split at h
  ·rename_i q' hq
   simp only [df,Prod.mk.injEq] at h;obtain ⟨rfl,rfl⟩:=h
   have hl':=uy hi hl ha.app.2
   rw [n9 hq] at hl'
   exact pq_or ho (wN hi hk ha.app.1 hc (by simp)) (.p (xK h1)) hl'
  cases h
 cases h
inductive Fct where
 | ix (c:Bool) (css:List (List PV)) (i:Int) (cs:List PV)
 | sx (c:Bool) (s:ByteArray) (i:Int) (u:UInt8)
 | nz (c:Bool) (b:Int)
 | ge (c:Bool) (b:Int)
 | sl (c:Bool) (css:List (List PV)) (lo hi:Int) (zss:List (List PV)) (m sz:Nat)
 | ss (c:Bool) (s:ByteArray) (lo hi:Int) (z:ByteArray)
 | ct (c:Bool) (s u z:ByteArray)
 | eq (t:Nat) (ks:List Nat)
 | cl (c:Bool) (f:Nat) (pargs:List PV) (r:PV)
 | cv (c:Bool) (pf:PV) (pargs:List PV) (r:PV)
 | ci (c:Bool) (p:PV) (name:String) (pargs:List PV) (r:PV)
 | ta (T:Nat) (p r:PV)
structure EqOk (t:Nat) (ks:List Nat):Prop where
 h1:Tryz.prog.underlying t=some (.struct (Tryz.prog.fieldsOf t))
 h2:Tryz.prog.stoodInHeld t=false
 h3:Tryz.prog.eqGuardType Tryz.prog.depth t=false
 h4:flatK (Tryz.prog.fieldsOf t).toList 0 ks=true
def Fct.ok:Fct→Prop
 | .ix c css i cs=>c=true→idx css i=some cs
 | .sx c s i u=>c=true→idx s.data.toList i=some u
 | .nz c b=>c=true→b≠0
 | .ge c b=>c=true→0≤b
 | .sl c css lo hi zss m sz=>(c=true→sub css lo hi=some zss)∧m=zss.length∧∀ cs∈css,cs.length=sz
 | .ss c s lo hi z=>c=true→ll s lo hi=some z
 | .ct c s u z=>c=true→yt s u=some z
 | .eq t ks=>EqOk t ks
 | .cl c f pargs r=>c=true→PF f pargs r
 | .cv c pf pargs r=>c=true→PFV pf pargs r
 | .ci c p name pargs r=>c=true→PFI p name pargs r
 | .ta T p r=>SX.ta T p=some r
def FOk:List (Nat×Fct)→Prop
 | []=>True
 | f::l=>f.2.ok∧FOk l
theorem bx:FOk []:=trivial
section
variable {F:List (Nat×Fct)} {c:Bool} {α:Type} {xs zs:List α} {i lo hi b:Int} {m:α}
theorem ia (k:Nat) (e:α→List PV) (hm:c=true→idx xs i=some m) (h:FOk F):FOk ((k,.ix c (List.map e xs) i (e m))::F):=⟨fun hc=>by
 obtain ⟨h0,hmm⟩:=iJ (hm hc)
 unfold idx;rw [if_pos h0,List.getElem?_map,hmm];rfl,h⟩
theorem db (k:Nat) (e:α→List PV) (hm:idx xs i=some m) (h:FOk F):FOk ((k,.ix true (List.map e xs) i (e m))::F):=ia k e (fun _=>hm) h
theorem qp (k:Nat) (e:α→List PV) {cs:List PV} (he:e m=cs) (hm:idx xs i=some m) (h:FOk F):FOk ((k,.ix true (List.map e xs) i cs)::F):=by subst he;exact db k e hm h
theorem fosxg (k:Nat) {s:ByteArray} {u:UInt8} (hm:c=true→idx s.data.toList i=some u) (h:FOk F):FOk ((k,.sx c s i u)::F):=⟨hm,h⟩
theorem fosx (k:Nat) {s:ByteArray} {u:UInt8} (hm:idx s.data.toList i=some u) (h:FOk F):FOk ((k,.sx true s i u)::F):=⟨fun _=>hm,h⟩
theorem xL (k:Nat) {u:Unit} (hm:SX.nz b=some u) (h:FOk F):FOk ((k,.nz true b)::F):=⟨fun _=>nz_some hm,h⟩
theorem oU (k:Nat) {u:Unit} (hm:i5 b=some u) (h:FOk F):FOk ((k,.ge true b)::F):=⟨fun _=>jC hm,h⟩
theorem foslg (k:Nat) (e:α→List PV) (sz:Nat) (hw:∀ m,(e m).length=sz) (hm:c=true→sub xs lo hi=some zs) (h:FOk F):FOk ((k,.sl c (List.map e xs) lo hi (List.map e zs) zs.length sz)::F):=⟨⟨fun hc=>by
 obtain ⟨h1,rfl⟩:=fE (hm hc)
 unfold sub;rw [if_pos (by rw [List.length_map];exact h1),List.map_drop,List.map_take],by rw [List.length_map],fun cs hcs=>by obtain ⟨x,_,rfl⟩:=List.mem_map.1 hcs;exact hw x⟩,h⟩
theorem uz (k:Nat) (e:α→List PV) (sz:Nat) (hw:∀ m,(e m).length=sz) (hm:sub xs lo hi=some zs) (h:FOk F):FOk ((k,.sl true (List.map e xs) lo hi (List.map e zs) zs.length sz)::F):=foslg k e sz hw (fun _=>hm) h
theorem fossg (k:Nat) {s z:ByteArray} (hm:c=true→ll s lo hi=some z) (h:FOk F):FOk ((k,.ss c s lo hi z)::F):=⟨hm,h⟩
theorem xM (k:Nat) {t:Nat} {ks:List Nat} (hm:EqOk t ks) (h:FOk F):FOk ((k,.eq t ks)::F):=⟨hm,h⟩
theorem bG (k:Nat) {f:Nat} {pargs:List PV} {r:PV} (hm:PF f pargs r) (h:FOk F):FOk ((k,.cl true f pargs r)::F):=⟨fun _=>hm,h⟩
theorem ey (k:Nat) {f:Nat} {pargs:List PV} {r:PV} (hm:c=true→PF f pargs r) (h:FOk F):FOk ((k,.cl c f pargs r)::F):=⟨hm,h⟩
theorem fota (k:Nat) {T:Nat} {p r:PV} (hm:SX.ta T p=some r) (h:FOk F):FOk ((k,.ta T p r)::F):=⟨hm,h⟩
theorem focv (k:Nat) {pf:PV} {pargs:List PV} {r:PV} (hm:PFV pf pargs r) (h:FOk F):FOk ((k,.cv true pf pargs r)::F):=⟨fun _=>hm,h⟩
theorem focvg (k:Nat) {pf:PV} {pargs:List PV} {r:PV} (hm:c=true→PFV pf pargs r) (h:FOk F):FOk ((k,.cv c pf pargs r)::F):=⟨hm,h⟩
end
inductive Eqn where
 | n (a:Nat)
 | b (a:Bool)
 | i (a:Int)
 | p (a:PV)
 | l (a:List PV)
 | q (a:List (List PV))
 | s (a:ByteArray)
 | m (a:String)
abbrev StepR:=PV×List Eqn×List Eqn
def vK (σ:PEnv) (c:Bool) (t:Nat) (p:PV) (lo hi:Option Operand):Fct→Option StepR
 | .sl c' css l h zss m sz=>(match dw t,p with
  | some (.slice E),.slc mm css'=>(match eE E with
   | some (_,sz',_)=>(match lo,hi with
    | none,some y=>(match bi σ y with | .v (.int _ b)=>some (.slc m zss,[.b c',.q css,.i l,.i h,.n sz],[.b c,.q css',.i 0,.i b,.n sz']) | _=>none)
    | some x,none=>(match bi σ x with | .v (.int _ a)=>some (.slc m zss,[.b c',.q css,.i l,.i h,.n sz],[.b c,.q css',.i a,.i (mm:Int),.n sz']) | _=>none)
    | _,_=>none)
   | none=>none)
  | _,_=>none)
 | .ss c' s l h z=>(match dw t,p with
  | some .string,.v (.string s')=>(match lo,hi with
   | none,some y=>(match bi σ y with | .v (.int _ b)=>some (.v (.string z),[.b c',.s s,.i l,.i h],[.b c,.s s',.i 0,.i b]) | _=>none)
   | some x,none=>(match bi σ x with | .v (.int _ a)=>some (.v (.string z),[.b c',.s s,.i l,.i h],[.b c,.s s',.i a,.i (s'.size:Int)]) | _=>none)
   | some x,some y=>(match bi σ x,bi σ y with | .v (.int _ a),.v (.int _ b)=>some (.v (.string z),[.b c',.s s,.i l,.i h],[.b c,.s s',.i a,.i b]) | _,_=>none)
   | none,none=>none)
  | _,_=>none)
 | _=>none
def zx (σ:PEnv) (c:Bool):Op→Fct→Option StepR
 | .indexAddr t x y,.ix c' css i cs=>(match dw t,bi σ x,bi σ y with
  | some (.slice E),.slc _ css',.v (.int _ i')=>(match eE E with | some (_,sz,_)=>some (.ref cs 0,[.b c',.q css,.i i,.n cs.length],[.b c,.q css',.i i',.n sz]) | none=>none)
  | _,_,_=>none)
 | .index t x y,.sx c' s i u=>(match dw t,bi σ x,bi σ y with
  | some .string,.v (.string s'),.v (.int _ i')=>some (.v (.int .u8 (u.toNat:Int)),[.b c',.s s,.i i],[.b c,.s s',.i i'])
  | _,_,_=>none)
 | .binOp .quo _ x y _,.nz c' b=>(match bi σ x,bi σ y with
  | .v (.int k a),.v (.int k' b')=>cond (Nat.beq (tO k) (tO k')) (some (.v (.int k (k.wrap (a.tdiv b))),[.b c',.i b],[.b c,.i b'])) none
  | _,_=>none)
 | .binOp .rem _ x y _,.nz c' b=>(match bi σ x,bi σ y with
  | .v (.int k a),.v (.int k' b')=>cond (Nat.beq (tO k) (tO k')) (some (.v (.int k (a.tmod b)),[.b c',.i b],[.b c,.i b'])) none
  | _,_=>none)
 | .binOp .shl _ x y _,.ge c' b=>(match bi σ x,bi σ y with
  | .v (.int k a),.v (.int _ b')=>some (.v (.int k (dT k a b)),[.b c',.i b],[.b c,.i b'])
  | _,_=>none)
 | .binOp .shr _ x y _,.ge c' b=>(match bi σ x,bi σ y with
  | .v (.int k a),.v (.int _ b')=>some (.v (.int k (bQ k a b)),[.b c',.i b],[.b c,.i b'])
  | _,_=>none)
 | .binOp .add _ x y _,.ct c' s u z=>(match bi σ x,bi σ y with
  | .v (.string s'),.v (.string u')=>some (.v (.string z),[.b c',.s s,.s u],[.b c,.s s',.s u'])
  | _,_=>none)
 | .binOp .eql t x y _,.eq t' ks=>(match bi σ x,bi σ y with
  | .agg cs,.agg ds=>(match zh cs,zh ds with
   | some xs,some ys=>(match uu ks xs ys with | some r=>some (.v (.bool r),[.n t'],[.n t]) | none=>none)
   | _,_=>none)
  | _,_=>none)
 | .binOp .neq t x y _,.eq t' ks=>(match bi σ x,bi σ y with
  | .agg cs,.agg ds=>(match zh cs,zh ds with
   | some xs,some ys=>(match uu ks xs ys with | some r=>some (.v (.bool !r),[.n t'],[.n t]) | none=>none)
   | _,_=>none)
  | _,_=>none)
 | .slice t x lo hi none,f=>vK σ c t (bi σ x) lo hi f
 | .typeAssert x _ T true,.ta T' p r=>(match dw T with
  | some d=>cond (!uv d&&(eE T).isSome) (some (r,[.n T',.p p],[.n T,.p (bi σ x)])) none
  | none=>none)
 | _,_=>none
section
variable {o:Oper} {σ:PEnv} {ρ:List PRes} {x y:Operand} {t:Nat} {k:IntKind} {a b:Int} {css zss:List (List PV)}
theorem xN {E sz by' mm:Nat} {z:Value} {cs:List PV} (ho:o.op=.indexAddr t x y) (hu:dw t=some (.slice E)) (hi:eE E=some (z,sz,by')) (hw:cs.length=sz) (hx:bi σ x=.slc mm css) (hy:bi σ y=.v (.int k a)) (hm:idx css a=some cs):POpQ true o σ ρ (.ref cs 0):=fun κ σ' ρ' g hs hrr=>by
 obtain ⟨h0,hcs⟩:=iJ hm
 have h:=hs.ev x
 rw [hx] at h
 generalize he:ev σ' x=w at h
 cases h with
 | slc hsl hb h1 hss =>
  rename_i ad cp sz' dss
  obtain ⟨ds,hd,hds⟩:=hss.get hcs
  have hlt:a.toNat<mm:=by rw [← hsl.len];exact (List.getElem?_eq_some_iff.1 hd).1
  obtain ⟨bb,off,ha,hsh⟩:=hsl.at_ (by omega)
  have hwid:sz'=sz:=by
   have e1:=hsl.wid ds (List.mem_of_getElem? hd)
   have e2:=hds.len
   omega
  subst hwid
  have h2:=nq (c:=true) (ρ:=ρ') (κ:=κ) (j:=a.toNat) ho hu hi (.p (by rw [he,ha])) (.p (hs.v1 hy)) (fun _=>by omega) (fun _=>hlt)
  exact ⟨_,fun _=>by have:=Rp.ref (k:=0) (hsh _ _ hd) (h1 ds (List.mem_of_getElem? hd)) hds;rwa [Nat.add_zero] at this,h2⟩
theorem uA {κ:Kr} {sz:Nat}:∀ {css:List (List PV)} {dss:List (List Value)},(∀ cs∈css,cs.length=sz)→Rpss κ css dss→∀ ds∈dss,ds.length=sz
 | _,_,_,.nil,ds,hd=>by cases hd
 | _,_,hw,.cons h hs,ds,hd=>by
  rcases List.mem_cons.1 hd with rfl | hd
  ·rw [← h.len];exact hw _ (by simp)
  exact uA (fun c hc=>hw c (by simp [hc])) hs ds hd
theorem vL {E sz by' mm:Nat} {z:Value} (ho:o.op=.slice t x none (some y) none) (hu:dw t=some (.slice E)) (hi:eE E=some (z,sz,by')) (hx:bi σ x=.slc mm css) (hy:bi σ y=.v (.int k b)) (hm:sub css 0 b=some zss):POpQ true o σ ρ (.slc zss.length zss):=fun κ σ' ρ' g hs hrr=>by
 obtain ⟨⟨h0,h1,h2⟩,rfl⟩:=fE hm
 have h:=hs.ev x
 rw [hx] at h
 generalize he:ev σ' x=w at h
 cases h with
 | slc hsl hb ho1 hss =>
  rename_i ad cp sz' dss
  have hl:css.length=mm:=by rw [← hsl.len,← hss.len]
  have hcap:=hsl.cap
  have hzl:((css.take b.toNat).drop (0:Int).toNat).length=b.toNat:=by simp;omega
  rw [hzl]
  refine ⟨.slice ad b.toNat cp,fun _=>?_,mM (c:=true) (k:=b.toNat) ho hu hi (.p he) (.p (hs.v1 hy)) (fun _=>by omega) (fun _=>by omega)⟩
  have:=Rp.slc (hsl.take (m:=b.toNat) (by omega)) (by omega) (us ho1 fun d hd=>List.mem_of_mem_take hd) (hss.take b.toNat)
  simpa using this
theorem vM {E sz by' mm:Nat} {z:Value} (ho:o.op=.slice t x (some y) none none) (hu:dw t=some (.slice E)) (hi:eE E=some (z,sz,by')) (hw:∀ cs∈css,cs.length=sz) (hx:bi σ x=.slc mm css) (hy:bi σ y=.v (.int k a)) (hm:sub css a (mm:Int)=some zss):POpQ true o σ ρ (.slc zss.length zss):=fun κ σ' ρ' g hs hrr=>by
 obtain ⟨⟨h0,h1,h2⟩,rfl⟩:=fE hm
 have h:=hs.ev x
 rw [hx] at h
 generalize he:ev σ' x=w at h
 cases h with
 | slc hsl hb ho1 hss =>
  rename_i ad cp sz' dss
  have hl:css.length=mm:=by rw [← hsl.len,← hss.len]
  have hcap:=hsl.cap
  have hq:=pZ (c:=true) (ρ:=ρ') (κ:=κ) (k:=a.toNat) ho hu hi (.p he) (.p (hs.v1 hy)) (fun _=>by omega) (fun _=>by omega)
  have hd:=hsl.dropT (m:=a.toNat) (by omega)
  have e2:List.drop a.toNat (List.take (mm:Int).toNat css)=css.drop a.toNat:=by rw [Int.toNat_natCast,← hl,List.take_length]
  rw [e2]
  have hzl:(css.drop a.toNat).length=mm - a.toNat:=by simp [hl]
  rw [hzl]
  by_cases hz:mm - a.toNat=0
  ·refine ⟨_,fun _=>?_,hq⟩
   have e3:css.drop a.toNat=[]:=List.drop_of_length_le (by omega)
   rw [e3]
   exact .slc (sz:=sz) (css:=[]) ⟨by simp [hz],by omega,by simp,fun h=>absurd h (by omega)⟩ (by omega) (fun _ h=>by cases h) .nil
  have hszz:sz'=sz:=by
   have hlen:=hsl.len
   match dss,hlen with
   | [],hlen=>simp only [List.length_nil] at hlen;omega
   | d::ds,_=>rw [← hsl.wid d (by simp),uA hw hss d (by simp)]
  subst hszz
  exact ⟨_,fun _=>Rp.slc hd (by omega) (us ho1 fun d hd=>List.mem_of_mem_drop hd) (hss.drop a.toNat),hq⟩
end
theorem xO {o:Oper} {σ:PEnv} {ρ:List PRes} {c:Bool} {x:Operand} {t:Nat} {lo hi:Option Operand} {f:Fct} {p:PV} {L R:List Eqn} (ho:o.op=.slice t x lo hi none) (h:vK σ c t (bi σ x) lo hi f=some (p,L,R)) (he:L=R) (hf:f.ok) (hc:c=true):POpQ true o σ ρ p:=by
 unfold vK at h
 split at h
 ·rename_i c' css l hh zss m sz
  split at h
  ·rename_i E mm css' hu hx
   split at h
   ·rename_i z sz' by' hi'
    split at h
    ·rename_i y
     split at h
     ·rename_i k b hy
      simp only [df,Prod.mk.injEq] at h;obtain ⟨rfl,rfl,rfl⟩:=h
      simp only [List.cons.injEq,Eqn.b.injEq,Eqn.q.injEq,Eqn.i.injEq,Eqn.n.injEq,and_true] at he
      obtain ⟨rfl,rfl,rfl,rfl,rfl⟩:=he
      obtain ⟨h1,rfl,h3⟩:=hf
      exact vL ho hu hi' hx hy (h1 hc)
     cases h
    ·rename_i y
     split at h
     ·rename_i k b hy
      simp only [df,Prod.mk.injEq] at h;obtain ⟨rfl,rfl,rfl⟩:=h
      simp only [List.cons.injEq,Eqn.b.injEq,Eqn.q.injEq,Eqn.i.injEq,Eqn.n.injEq,and_true] at he
      obtain ⟨rfl,rfl,rfl,rfl,rfl⟩:=he
      obtain ⟨h1,rfl,h3⟩:=hf
      exact vM ho hu hi' h3 hx hy (h1 hc)
     cases h
    cases h
   cases h
  cases h
 ·rename_i c' s l hh z
  split at h
  ·rename_i s' hu hx
   split at h
   ·split at h
    ·rename_i hy
     simp only [df,Prod.mk.injEq] at h;obtain ⟨rfl,rfl,rfl⟩:=h
     simp only [List.cons.injEq,Eqn.b.injEq,Eqn.s.injEq,Eqn.i.injEq,and_true] at he
     obtain ⟨rfl,rfl,rfl,rfl⟩:=he
     exact vF ho hu (.p hx) (.p hy) (fun _=>hf hc)
    cases h
   ·split at h
    ·rename_i hy
     simp only [df,Prod.mk.injEq] at h;obtain ⟨rfl,rfl,rfl⟩:=h
     simp only [List.cons.injEq,Eqn.b.injEq,Eqn.s.injEq,Eqn.i.injEq,and_true] at he
     obtain ⟨rfl,rfl,rfl,rfl⟩:=he
     exact vG ho hu (.p hx) (.p hy) (fun _=>hf hc)
    cases h
   ·split at h
    ·rename_i hy hy2
     simp only [df,Prod.mk.injEq] at h;obtain ⟨rfl,rfl,rfl⟩:=h
     simp only [List.cons.injEq,Eqn.b.injEq,Eqn.s.injEq,Eqn.i.injEq,and_true] at he
     obtain ⟨rfl,rfl,rfl,rfl⟩:=he
     exact ut ho hu (.p hx) (.p hy) (.p hy2) (fun _=>hf hc)
    cases h
   cases h
  cases h
 cases h
theorem zy {o:Oper} {σ:PEnv} {ρ:List PRes} {c:Bool} {f:Fct} {p:PV} {L R:List Eqn} (h:zx σ c o.op f=some (p,L,R)) (he:L=R) (hf:f.ok) (hc:c=true):POpQ true o σ ρ p:=by
 generalize ho:o.op=op at h
 unfold zx at h
 split at h
 ·split at h
  ·rename_i hu hx hy
   split at h
   ·rename_i hi
    simp only [df,Prod.mk.injEq] at h;obtain ⟨rfl,rfl,rfl⟩:=h
    simp only [List.cons.injEq,Eqn.b.injEq,Eqn.q.injEq,Eqn.i.injEq,Eqn.n.injEq,and_true] at he
    obtain ⟨rfl,rfl,rfl,h4⟩:=he
    exact xN ho hu hi h4 hx hy (hf hc)
   cases h
  cases h
 ·split at h
  ·rename_i hu hx hy
   simp only [df,Prod.mk.injEq] at h;obtain ⟨rfl,rfl,rfl⟩:=h
   simp only [List.cons.injEq,Eqn.b.injEq,Eqn.s.injEq,Eqn.i.injEq,and_true] at he
   obtain ⟨rfl,rfl,rfl⟩:=he
   exact xE ho hu (.p hx) (.p hy) (fun _=>hf hc)
  cases h
 ·split at h
  ·rename_i k a k' b' hx hy
   cases hk:Nat.beq (tO k) (tO k')
   ·rw [hk] at h;cases h
   rw [hk] at h;have:=po hk;subst this
   simp only [dn,df,Prod.mk.injEq] at h;obtain ⟨rfl,rfl,rfl⟩:=h
   simp only [List.cons.injEq,Eqn.b.injEq,Eqn.i.injEq,and_true] at he
   obtain ⟨rfl,rfl⟩:=he
   exact zc ho (.p hx) (.p hy) (fun _=>hf hc)
  cases h
 ·split at h
  ·rename_i k a k' b' hx hy
   cases hk:Nat.beq (tO k) (tO k')
   ·rw [hk] at h;cases h
   rw [hk] at h;have:=po hk;subst this
   simp only [dn,df,Prod.mk.injEq] at h;obtain ⟨rfl,rfl,rfl⟩:=h
   simp only [List.cons.injEq,Eqn.b.injEq,Eqn.i.injEq,and_true] at he
   obtain ⟨rfl,rfl⟩:=he
   exact zd ho (.p hx) (.p hy) (fun _=>hf hc)
  cases h
 ·split at h
  ·rename_i hx hy
   simp only [df,Prod.mk.injEq] at h;obtain ⟨rfl,rfl,rfl⟩:=h
   simp only [List.cons.injEq,Eqn.b.injEq,Eqn.i.injEq,and_true] at he
   obtain ⟨rfl,rfl⟩:=he
   exact qa ho (.p hx) (.p hy) (fun _=>hf hc) rfl
  cases h
 ·split at h
  ·rename_i hx hy
   simp only [df,Prod.mk.injEq] at h;obtain ⟨rfl,rfl,rfl⟩:=h
   simp only [List.cons.injEq,Eqn.b.injEq,Eqn.i.injEq,and_true] at he
   obtain ⟨rfl,rfl⟩:=he
   exact qa ho (.p hx) (.p hy) (fun _=>hf hc) rfl
  cases h
 ·split at h
  ·rename_i hx hy
   simp only [df,Prod.mk.injEq] at h;obtain ⟨rfl,rfl,rfl⟩:=h
   simp only [List.cons.injEq,Eqn.b.injEq,Eqn.s.injEq,and_true] at he
   obtain ⟨rfl,rfl,rfl⟩:=he
   exact pq_catT ho (.p hx) (.p hy) (fun _=>hf hc)
  cases h
 ·split at h
  ·rename_i hx hy
   split at h
   ·rename_i h5 h6
    split at h
    ·rename_i r hr
     simp only [df,Prod.mk.injEq] at h;obtain ⟨rfl,rfl,rfl⟩:=h
     simp only [List.cons.injEq,Eqn.n.injEq,and_true] at he
     subst he
     exact wI _ ho hf.h1 hf.h2 hf.h3 hf.h4 (.p hx) (.p hy) h5 h6 hr rfl
    cases h
   cases h
  cases h
 ·split at h
  ·rename_i hx hy
   split at h
   ·rename_i h5 h6
    split at h
    ·rename_i r hr
     simp only [df,Prod.mk.injEq] at h;obtain ⟨rfl,rfl,rfl⟩:=h
     simp only [List.cons.injEq,Eqn.n.injEq,and_true] at he
     subst he
     exact wI _ ho hf.h1 hf.h2 hf.h3 hf.h4 (.p hx) (.p hy) h5 h6 hr rfl
    cases h
   cases h
  cases h
 ·exact xO ho h he hf hc
 ·split at h
  ·rename_i d hu
   cases hb:(!uv d&&(eE _).isSome)
   ·rw [hb] at h;cases h
   rw [hb] at h
   simp only [dn,df,Prod.mk.injEq] at h;obtain ⟨rfl,rfl,rfl⟩:=h
   simp only [List.cons.injEq,Eqn.n.injEq,Eqn.p.injEq,and_true] at he
   obtain ⟨rfl,h2⟩:=he
   simp only [Bool.and_eq_true,Bool.not_eq_true'] at hb
   exact pq_ta ho hu hb.1 hb.2 h2.symm hf
  cases h
 cases h
def gL (l:List (Bool×Bool)):List Eqn:=l.map fun z=>.b z.1
def gR (l:List (Bool×Bool)):List Eqn:=l.map fun z=>.b z.2
theorem gLR:∀ {l:List (Bool×Bool)},gL l=gR l→AllEq l
 | [],_=>AllEq.nil
 | (a,b)::l,h=>by
  simp only [gL,gR,List.map_cons,List.cons.injEq,Eqn.b.injEq] at h
  have:=gLR (l:=l) h.2
  unfold AllEq at this ⊢
  simp only [List.map_cons,h.1,this]
theorem zA {l:List (Bool×Bool)}:(gL l).length=(gR l).length:=by simp [gL,gR]
def lP:Op→Bool
 | .call ⟨.value _,_,_⟩=>true
 | .call ⟨.invoke _ _,_,_⟩=>true
 | _=>false
abbrev StepO:=Option (PV×Bool×List Eqn×List Eqn)
def qq (σ:PEnv) (G:List (Nat×GE)) (ρ:List PRes) (gs:List Bool) (at_:Nat) (op:Op):StepO :=
 match qx (lG σ G (e8 op.operands.toList) gs) ρ at_ op with
 | some (p,none)=>some (p,false,gL (jd G gs (e8 op.operands.toList)),gR (jd G gs (e8 op.operands.toList)))
 | some (p,some (b,b'))=>some (p,true,gL (jd G gs (e8 op.operands.toList))++[.n b],gR (jd G gs (e8 op.operands.toList))++[.n b'])
 | none=>none
def zB (σ:PEnv) (G:List (Nat×GE)) (gs:List Bool) (op:Op) (cal:Operand) (ags:List Operand):Fct→StepO
 | .cl c f pargs r=>(match cal with
  | .func f'=>some (r,false,gL (jd G gs (e8 op.operands.toList))++[.b c,.n f,.l pargs],gR (jd G gs (e8 op.operands.toList))++[.b (gs.headD true),.n f',.l (ags.map (bi (lG σ G (e8 op.operands.toList) gs)))])
  | _=>none)
 | .cv c pf pargs r=>some (r,false,gL (jd G gs (e8 op.operands.toList))++[.b c,.p pf,.l pargs],gR (jd G gs (e8 op.operands.toList))++[.b (gs.headD true),.p (bi (lG σ G (e8 op.operands.toList) gs) cal),.l (ags.map (bi (lG σ G (e8 op.operands.toList) gs)))])
 | _=>none
def invx (σ:PEnv) (G:List (Nat×GE)) (gs:List Bool) (op:Op) (x:Operand) (name:String) (ags:List Operand):Fct→StepO
 | .ci c p name' pargs r=>some (r,false,gL (jd G gs (e8 op.operands.toList))++[.b c,.p p,.m name',.l pargs],gR (jd G gs (e8 op.operands.toList))++[.b (gs.headD true),.p (bi (lG σ G (e8 op.operands.toList) gs) x),.m name,.l (ags.map (bi (lG σ G (e8 op.operands.toList) gs)))])
 | _=>none
def zC (σ:PEnv) (G:List (Nat×GE)) (ρ:List PRes) (gs:List Bool) (at_:Nat) (fo:Option Fct) (op:Op):StepO :=
 match fo with
 | some f=>(match op with
  | .call ⟨.value cal,⟨ags⟩,ts⟩=>zB σ G gs (.call ⟨.value cal,⟨ags⟩,ts⟩) cal ags f
  | .call ⟨.invoke x name,⟨ags⟩,ts⟩=>invx σ G gs (.call ⟨.invoke x name,⟨ags⟩,ts⟩) x name ags f
  | op=>(match zx (lG σ G (e8 op.operands.toList) gs) (gs.headD true) op f with
   | some (p,L,R)=>some (p,false,gL (jd G gs (e8 op.operands.toList))++L,gR (jd G gs (e8 op.operands.toList))++R)
   | none=>none))
 | none=>(match op with
  | .pick cc a b=>(match zu σ G gs cc a b with | some (p,l)=>some (p,false,gL l,gR l) | none=>none)
  | op=>qq σ G ρ gs at_ op)
def POpG (c:Bool) (o:Oper) (σ:PEnv) (r:PV):Prop:=∀ κ σ' ρ' (KK:Value→Kr→Prop),GOK κ→Sim κ σ σ'→(∀ v κ',Kle κ κ'→(c=true→Rp κ' r v)→KK v κ')→OpG c o σ' ρ' κ KK
theorem uB {a b l m:List Eqn} (h:a++l=b++m) (hl:a.length=b.length):a=b∧l=m:=List.append_inj h hl
theorem popg_cl {o:Oper} {σ:PEnv} {G:List (Nat×GE)} {gs:List Bool} {ts:List Nat} {f:Nat} {ags:List Operand} {at_:Array Nat} {pargs:List PV} {r:PV} (ho:o.op=.call { callee:=.value (.func f),args:=ags.toArray,argTypes:=at_ }) (hi:GInv σ G) (ha:AllEq (jd G gs ts)) (hk:StackOk gs) (hp:pargs=ags.map (bi (lG σ G ts gs))) (hc:gs.headD true=true→PF f pargs r):POpG (gs.headD true) o σ r:=fun κ σ' ρ' KK g hs h =>
 tU ho (fun _=>rfl) (fun hct=>hc hct κ _ g (by rw [hp];exact iH (nA hs hi ha hk hct) ags)) h
theorem popg_cv {o:Oper} {σ:PEnv} {G:List (Nat×GE)} {gs:List Bool} {ts:List Nat} {x:Operand} {ags:List Operand} {at_:Array Nat} {pf:PV} {pargs:List PV} {r:PV} (ho:o.op=.call { callee:=.value x,args:=ags.toArray,argTypes:=at_ }) (hi:GInv σ G) (ha:AllEq (jd G gs ts)) (hk:StackOk gs) (hx:pf=bi (lG σ G ts gs) x) (hp:pargs=ags.map (bi (lG σ G ts gs))) (hc:gs.headD true=true→PFV pf pargs r):POpG (gs.headD true) o σ r:=fun κ σ' ρ' KK g hs h=>by
 refine ⟨fun hct=>?_,fun hcf=>h undef κ (.refl _) fun h=>by rw [hcf] at h;cases h⟩
 have hs':=nA hs hi ha hk hct
 obtain ⟨f,first,cap,h1,h2⟩:=hc hct κ _ _ g (by rw [hx];exact hs'.ev x) (by rw [hp];exact iH hs' ags)
 exact xo ho h1 rfl h2 fun v κ' hk hv=>⟨rfl,h v κ' hk fun _=>hv⟩
theorem popg_ci {o:Oper} {σ:PEnv} {G:List (Nat×GE)} {gs:List Bool} {ts:List Nat} {x:Operand} {name:String} {ags:List Operand} {at_:Array Nat} {p:PV} {pargs:List PV} {r:PV} (ho:o.op=.call { callee:=.invoke x name,args:=ags.toArray,argTypes:=at_ }) (hi:GInv σ G) (ha:AllEq (jd G gs ts)) (hk:StackOk gs) (hx:p=bi (lG σ G ts gs) x) (hp:pargs=ags.map (bi (lG σ G ts gs))) (hc:gs.headD true=true→PFI p name pargs r):POpG (gs.headD true) o σ r:=fun κ σ' ρ' KK g hs h=>by
 refine ⟨fun hct=>?_,fun hcf=>h undef κ (.refl _) fun h=>by rw [hcf] at h;cases h⟩
 have hs':=nA hs hi ha hk hct
 obtain ⟨t,q,f,e1,hm,hf⟩:=hc hct
 have hv:=hs'.ev x
 rw [← hx,e1] at hv
 generalize he:ev σ' x=w at hv
 cases hv with
 | ifc hv=>exact qm ho he hm (hf κ _ g (.cons hv (by rw [hp];exact iH hs' ags))) fun v κ' hk hv=>⟨rfl,h v κ' hk fun _=>hv⟩
theorem xP {o:Oper} {σ:PEnv} {G:List (Nat×GE)} {ρ:List PRes} {gs:List Bool} {k:Nat} {p:PV} {u:Bool} {L R:List Eqn} (hi:GInv σ G) (hk:StackOk gs) (h:qq σ G ρ gs k o.op=some (p,u,L,R)) (he:L=R):POpQ (gs.headD true) o σ ρ p:=by
 unfold qq at h
 split at h
 ·rename_i p' hq
  simp only [df,Prod.mk.injEq] at h;obtain ⟨rfl,_,rfl,rfl⟩:=h
  exact n8 (fun _=>qx_ok hq (fun _ _ e=>by cases e)) hi (gLR he) hk
 ·rename_i p' b b' hq
  simp only [df,Prod.mk.injEq] at h;obtain ⟨rfl,_,rfl,rfl⟩:=h
  obtain ⟨h1,h2⟩:=uB he zA
  simp only [List.cons.injEq,Eqn.n.injEq,and_true] at h2
  exact n8 (fun _=>qx_ok hq (fun _ _ e=>by simp only [df,Prod.mk.injEq] at e;rw [← e.1,← e.2];exact h2)) hi (gLR h1) hk
 cases h
theorem zD {o:Oper} {σ:PEnv} {G:List (Nat×GE)} {gs:List Bool} {cal:Operand} {ags:List Operand} {ts:Array Nat} {f:Fct} {p:PV} {u:Bool} {L R:List Eqn} (ho:o.op=.call ⟨.value cal,⟨ags⟩,ts⟩) (hi:GInv σ G) (hk:StackOk gs) (h:zB σ G gs (.call ⟨.value cal,⟨ags⟩,ts⟩) cal ags f=some (p,u,L,R)) (he:L=R) (hf:f.ok):POpG (gs.headD true) o σ p:=by
 unfold zB at h
 split at h
 ·split at h
  ·simp only [df,Prod.mk.injEq] at h;obtain ⟨rfl,_,rfl,rfl⟩:=h
   obtain ⟨h1,h2⟩:=uB he zA
   simp only [List.cons.injEq,Eqn.n.injEq,Eqn.b.injEq,Eqn.l.injEq,and_true] at h2
   obtain ⟨h3,h4,h5⟩:=h2
   subst h4
   exact popg_cl ho hi (gLR h1) hk h5 (fun hc=>hf (by rw [h3];exact hc))
  cases h
 ·simp only [df,Prod.mk.injEq] at h;obtain ⟨rfl,_,rfl,rfl⟩:=h
  obtain ⟨h1,h2⟩:=uB he zA
  simp only [List.cons.injEq,Eqn.p.injEq,Eqn.b.injEq,Eqn.l.injEq,and_true] at h2
  obtain ⟨h3,h4,h5⟩:=h2
  exact popg_cv ho hi (gLR h1) hk h4 h5 (fun hc=>hf (by rw [h3];exact hc))
 cases h
theorem invx_ok {o:Oper} {σ:PEnv} {G:List (Nat×GE)} {gs:List Bool} {x:Operand} {name:String} {ags:List Operand} {ts:Array Nat} {f:Fct} {p:PV} {u:Bool} {L R:List Eqn} (ho:o.op=.call ⟨.invoke x name,⟨ags⟩,ts⟩) (hi:GInv σ G) (hk:StackOk gs) (h:invx σ G gs (.call ⟨.invoke x name,⟨ags⟩,ts⟩) x name ags f=some (p,u,L,R)) (he:L=R) (hf:f.ok):POpG (gs.headD true) o σ p:=by
 unfold invx at h
 split at h
 ·simp only [df,Prod.mk.injEq] at h;obtain ⟨rfl,_,rfl,rfl⟩:=h
  obtain ⟨h1,h2⟩:=uB he zA
  simp only [List.cons.injEq,Eqn.p.injEq,Eqn.b.injEq,Eqn.l.injEq,Eqn.m.injEq,and_true] at h2
  obtain ⟨h3,h4,h5,h6⟩:=h2
  subst h5
  exact popg_ci ho hi (gLR h1) hk h4 h6 (fun hc=>hf (by rw [h3];exact hc))
 cases h
theorem zF {o:Oper} {σ:PEnv} {G:List (Nat×GE)} {ρ:List PRes} {gs:List Bool} {k:Nat} {fo:Option Fct} {p:PV} {u:Bool} {L R:List Eqn} (hi:GInv σ G) (hk:StackOk gs) (h:zC σ G ρ gs k fo o.op=some (p,u,L,R)) (he:L=R) (hf:∀ f,fo=some f→f.ok):(lP o.op=false∧POpQ (gs.headD true) o σ ρ p)∨(lP o.op=true∧POpG (gs.headD true) o σ p):=by
 unfold zC at h
 split at h
 ·rename_i f
  split at h
  ·rename_i cal ags ts ho
   exact .inr ⟨by rw [ho];rfl,zD ho hi hk h he (hf f rfl)⟩
  ·rename_i x name ags ts ho
   exact .inr ⟨by rw [ho];rfl,invx_ok ho hi hk h he (hf f rfl)⟩
  rename_i hnc hnc2
  split at h
  ·rename_i p' L' R' hq
   simp only [df,Prod.mk.injEq] at h;obtain ⟨rfl,_,rfl,rfl⟩:=h
   obtain ⟨h1,h2⟩:=uB he zA
   refine .inl ⟨?_,n8 (fun hc=>zy hq h2 (hf f rfl) hc) hi (gLR h1) hk⟩
   unfold lP
   split
   ·rename_i cal ags ts ho;exact absurd ho (hnc cal ags.toList ts)
   ·rename_i x name ags ts ho;exact absurd ho (hnc2 x name ags.toList ts)
   rfl
  cases h
 split at h
 ·rename_i cc a b ho
  split at h
  ·rename_i p' l' hp
   simp only [df,Prod.mk.injEq] at h;obtain ⟨rfl,_,rfl,rfl⟩:=h
   exact .inl ⟨by rw [ho];rfl,zw ho hi hk hp (gLR he)⟩
  cases h
 cases hc:lP o.op
 ·exact .inl ⟨rfl,xP hi hk h he⟩
 exfalso
 unfold lP at hc
 split at hc
 ·rename_i ho
  rw [ho] at h
  unfold qq at h
  simp only [qx] at h
  cases h
 ·rename_i ho
  rw [ho] at h
  unfold qq at h
  simp only [qx] at h
  cases h
 cases hc
def tc (σ:PEnv) (G:List (Nat×GE)) (d:Nat) (gs:List Bool) (p:PV):PEnv×List (Nat×GE):=match gs with
 | []=>(eX σ d p,zr d G)
 | c::gs=>(eX σ d (pgv c p),(d,⟨c::gs,p⟩)::G)
theorem td {d t:Nat} {e:GE}:∀ {G:List (Nat×GE)},gl t (zr d G)=some e→t≠d∧gl t G=some e
 | [],h=>by cases h
 | (k,e')::l,h=>by
  simp only [zr] at h
  cases hd:Nat.beq d k
  ·rw [hd] at h;simp only [cT,gl] at h ⊢
   cases ht:Nat.beq t k
   ·rw [ht] at h;exact td h
   rw [ht] at h
   refine ⟨fun e=>?_,h⟩
   rw [Nat.eq_of_beq_eq_true ht] at e;rw [e] at hd;simp at hd
  rw [hd] at h;simp only [dn] at h
  obtain ⟨h1,h2⟩:=td h
  refine ⟨h1,?_⟩
  simp only [gl]
  have:Nat.beq t k=false:=by cases e:Nat.beq t k;rfl;exact absurd ((Nat.eq_of_beq_eq_true e).trans (Nat.eq_of_beq_eq_true hd).symm) h1
  rw [this];exact h2
theorem te {σ:PEnv} {d t:Nat} {p:PV} (h:t≠d):eX σ d p t=σ t:=by
 unfold eX
 have:Nat.beq t d=false:=by cases e:Nat.beq t d;rfl;exact absurd (Nat.eq_of_beq_eq_true e) h
 rw [this];rfl
theorem qr {σ:PEnv} {G:List (Nat×GE)} {d:Nat} {gs:List Bool} {p:PV} (hi:GInv σ G) (hk:StackOk gs):GInv (tc σ G d gs p).1 (tc σ G d gs p).2:=by
 unfold tc
 split
 ·intro t e h
  obtain ⟨h1,h2⟩:=td h
  simp only [te h1]
  exact hi t e h2
 rename_i c gs
 intro t e h
 simp only [gl] at h
 cases ht:Nat.beq t d
 ·rw [ht] at h
  have hne:t≠d:=fun e=>by rw [e] at ht;simp at ht
  simp only [te hne]
  exact hi t e h
 rw [ht] at h
 simp only [dn,df] at h;subst h
 have:=Nat.eq_of_beq_eq_true ht;subst this
 refine ⟨?_,hk,by simp⟩
 simp only [eX,Nat.beq_refl,dn,List.headD_cons]
theorem qt {σ:PEnv} {G:List (Nat×GE)} {d:Nat} {gs:List Bool} {p:PV}:(tc σ G d gs p).1=eX σ d (pgv (gs.headD true) p):=by
 unfold tc;split
 ·rw [List.headD_nil,jx]
 rfl
structure RunR where
 σ:PEnv
 L:List Eqn
 R:List Eqn
def wO (i:Nat):List (Nat×Fct)→Option Fct
 | (k,f)::_=>cond (Nat.beq k i) (some f) none
 | []=>none
def nB (n:Nat) (ops:Array Oper) (ρ:List PRes):List Oper→Nat→List Nat→List (Nat×Fct)→PEnv→List (Nat×GE)→Option RunR
 | [],_,_,_,σ,_=>some ⟨σ,[],[]⟩
 | o::l,i,H,F,σ,G=>match o.dst with
  | some d=>cond (Nat.blt d n) (match s7 ops σ G o.guard with
   | some gs=>match zC σ G ρ gs (H.headD 0) (wO i F) o.op with
    | some (p,u,L,R)=>match nB n ops ρ l (i+1) (cond u H.tail H) (match wO i F with | some _=>F.tail | none=>F) (tc σ G d gs p).1 (tc σ G d gs p).2 with
     | some r=>cond (Nat.beq L.length R.length) (some ⟨r.σ,L++r.L,R++r.R⟩) none
     | none=>none
    | none=>none
   | none=>none) none
  | none=>none
theorem zG {i:Nat} {F:List (Nat×Fct)} (h:FOk F):∀ f,wO i F=some f→f.ok:=fun f hf=>by
 cases F with
 | nil=>cases hf
 | cons a l =>
  obtain ⟨k,g⟩:=a
  simp only [wO] at hf
  cases hk:Nat.beq k i
  ·rw [hk] at hf;cases hf
  rw [hk] at hf;simp only [dn,df] at hf;subst hf;exact h.1
theorem zH {F:List (Nat×Fct)} (h:FOk F) (b:Option Fct):FOk (match b with | some _=>F.tail | none=>F):=by
 cases b with
 | none=>exact h
 | some f=>cases F with
  | nil=>exact h
  | cons a l=>exact h.2
theorem qu {n:Nat} {ops:Array Oper} {ρ:List PRes} {o:Oper} {l:List Oper} {i:Nat} {H:List Nat} {F:List (Nat×Fct)} {σ:PEnv} {G:List (Nat×GE)} {r:RunR} (h:nB n ops ρ (o::l) i H F σ G=some r) (he:r.L=r.R) (hF:FOk F) (hi:GInv σ G) :
    ∃ d gs p H' F' r',o.dst=some d∧Nat.blt d n=true∧PGuardIs ops σ o (gs.headD true)∧StackOk gs∧((lP o.op=false∧POpQ (gs.headD true) o σ ρ p)∨(lP o.op=true∧POpG (gs.headD true) o σ p))∧nB n ops ρ l (i+1) H' F' (tc σ G d gs p).1 (tc σ G d gs p).2=some r'∧r'.σ=r.σ∧r'.L=r'.R∧FOk F':=by
  simp only [nB] at h
  split at h
  · rename_i d hd
    cases hlt:Nat.blt d n
    · rw [hlt] at h;cases h
    rw [hlt] at h;simp only [dn] at h
    split at h
    · rename_i gs hgs
      split at h
      · rename_i p u L R hst
        split at h
        · rename_i r' hr
          cases hlen:Nat.beq L.length R.length
          · rw [hlen] at h;cases h
          rw [hlen] at h;simp only [dn,df] at h;subst h
          obtain ⟨h1,h2⟩:=List.append_inj he (Nat.eq_of_beq_eq_true hlen)
          obtain ⟨hg,hk⟩:=xJ hi hgs
          exact ⟨d,gs,p,_,_,r',hd,hlt,hg,hk,zF hi hk hst h1 (zG hF),hr,rfl,h2,zH hF _⟩
        cases h
      cases h
    cases h
  cases h
theorem zI {n:Nat} {ops:Array Oper} {o:Oper} {rest:List Oper} {K:PPost} {σ:PEnv} {ρ:List PRes} {d:Nat} {c:Bool} {r:PV} (hg:PGuardIs ops σ o c) (hd:o.dst=some d) (hlt:Nat.blt d n=true) (h:POpG c o σ r) (hw:PWL n ops rest K (eX σ d (pgv c r)) ρ):PWL n ops (o::rest) K σ ρ:=fun β κ σ' ρ' g hs hr =>
 wl_g (hg κ σ' hs) hd hlt (h κ σ' ρ' _ g hs fun v κ' hk hv=>hw β κ' _ _ (g.mono hk) ((hs.mono hk).upd (wG hv)) (hr.mono hk))
theorem zJ {n:Nat} {ops:Array Oper} {o:Oper} {lo:List (Nat×Oper)} {K:PPost} {σ:PEnv} {ρd ρs:List PRes} {d:Nat} {c:Bool} {r:PV} (hg:PGuardIs ops σ o c) (hd:o.dst=some d) (hlt:Nat.blt d n=true) (h:POpG c o σ r) (hw:PWD n ops K lo (eX σ d (pgv c r)) ρd ρs):PWD n ops K ((1,o)::lo) σ ρd ρs:=fun β κ σ' rd rs g hs h1 h2 =>
 wd_g (hg κ σ' hs) hd hlt fun κ1 hk=>h κ1 σ' _ _ (g.mono hk) (hs.mono hk) fun v κ' hk' hv=>hw β κ' _ rd rs ((g.mono hk).mono hk') (((hs.mono hk).mono hk').upd (wG hv)) ((h1.mono hk).mono hk') ((h2.mono hk).mono hk')
theorem tf {n:Nat} {ops:Array Oper} {rest:List Oper} {K:PPost} {ρ:List PRes}:∀ {l:List Oper} {i:Nat} {H:List Nat} {F:List (Nat×Fct)} {σ:PEnv} {G:List (Nat×GE)} {r:RunR},nB n ops ρ l i H F σ G=some r→r.L=r.R→FOk F→GInv σ G→PWL n ops rest K r.σ ρ→PWL n ops (l++rest) K σ ρ
 | [],i,H,F,σ,G,r,h,_,_,_,hw=>by simp only [nB,df] at h;subst h;exact hw
 | o::l,i,H,F,σ,G,r,h,he,hF,hi,hw=>by
  obtain ⟨d,gs,p,H',F',r',h1,h2,h3,h4,h5,h6,h7,h8,h9⟩:=qu h he hF hi
  have hrec:=tf (rest:=rest) (K:=K) h6 h8 h9 (qr hi h4) (by rw [h7];exact hw)
  rw [qt] at hrec
  rcases h5 with ⟨_,hq⟩ | ⟨_,hq⟩
  ·exact p6 h3 h1 h2 hq hrec
  exact zI h3 h1 h2 hq hrec
def zK (ks D:List Nat):List Oper→Bool
 | []=>true
 | o::l=>(match o.dst with | some d=>zt d ks||zt d D | none=>true)&&zK ks D l
theorem rY {n:Nat} {ops:Array Oper} {ρ:List PRes} {ks D:List Nat}:∀ {l:List Oper} {i:Nat} {H:List Nat} {F:List (Nat×Fct)} {σ:PEnv} {G:List (Nat×GE)} {r:RunR},nB n ops ρ l i H F σ G=some r→r.L=r.R→FOk F→GInv σ G→zK ks D l=true→∀ t,t ∉ ks→t ∉ D→r.σ t=σ t
 | [],i,H,F,σ,G,r,h,_,_,_,_,t,_,_=>by simp only [nB,df] at h;subst h;rfl
 | o::l,i,H,F,σ,G,r,h,he,hF,hi,hd,t,g1,g2=>by
  obtain ⟨d,gs,p,H',F',r',h1,h2,h3,h4,h5,h6,h7,h8,h9⟩:=qu h he hF hi
  simp only [zK,Bool.and_eq_true] at hd
  rw [h1] at hd
  simp only [Bool.or_eq_true,pq] at hd
  have hne:t≠d:=fun e=>by subst e;rcases hd.1 with h | h;exact g1 h;exact g2 h
  rw [← h7,rY h6 h8 h9 (qr hi h4) hd.2 t g1 g2,qt]
  exact te hne
abbrev RunO:=Option (List PV×List Eqn)
def lH (n:Nat) (ops:Array Oper) (ρ:List PRes) (l:List Oper) (H:List Nat) (F:List (Nat×Fct)) (σ:PEnv) (ks D:List Nat):RunO :=
 match nB n ops ρ l 0 H F σ [] with
 | some r=>cond (zK ks D l) (some (ks.map r.σ,r.L)) none
 | none=>none
def jE (n:Nat) (ops:Array Oper) (ρ:List PRes) (l:List Oper) (H:List Nat) (F:List (Nat×Fct)) (σ:PEnv) (vs:List PV):RunO :=
 match nB n ops ρ l 0 H F σ [] with
 | some r=>some (vs,r.R)
 | none=>some ([],[])
def pdel (σ:PEnv) (D:List Nat):PEnv:=fun t=>cond (zt t D) .any (σ t)
def jX (σ:PEnv) (D:List Nat) (X:List (Nat×PV)):PEnv:=az (pdel σ D) X
def uC (t:Nat):List (Nat×PV)→Option PV
 | []=>none
 | (d,v)::l=>cond (Nat.beq t d) (some v) (uC t l)
theorem qv {σ:PEnv} {t:Nat}:∀ {X:List (Nat×PV)},az σ X t=(uC t X).getD (σ t)
 | []=>rfl
 | (d,v)::l=>by
  simp only [az,eX,uC]
  cases Nat.beq t d
  ·exact qv (X:=l)
  rfl
theorem rZ {t:Nat} {v:PV} {σ:PEnv}:∀ {X:List (Nat×PV)},uC t X=some v→(X.map (·.1)).map σ=X.map (·.2)→σ t=v
 | (d,w)::l,h,e=>by
  simp only [List.map_cons,List.cons.injEq] at e
  simp only [uC] at h
  cases hb:Nat.beq t d
  ·rw [hb] at h;exact rZ h e.2
  rw [hb] at h;simp only [dn,df] at h
  rw [Nat.eq_of_beq_eq_true hb,e.1,h]
theorem r4 {t:Nat}:∀ {X:List (Nat×PV)},uC t X=none→t ∉ X.map (·.1)
 | [],_=>by simp
 | (d,v)::l,h=>by
  simp only [uC] at h
  cases hb:Nat.beq t d
  ·rw [hb] at h
   have:t≠d:=fun e=>by rw [e] at hb;simp at hb
   simp only [List.map_cons,List.mem_cons,not_or]
   exact ⟨this,r4 h⟩
  rw [hb] at h;cases h
def PWeak (σ σ1:PEnv):Prop:=∀ t,σ1 t=σ t∨σ1 t=.any
theorem Sim.weak {κ:Kr} {σ σ1:PEnv} {σ':Env} (h:Sim κ σ σ') (hw:PWeak σ σ1):Sim κ σ1 σ':=fun t=>by
 rcases hw t with e | e
 ·rw [e];exact h t
 rw [e];exact .any
theorem wP {σ:PEnv}:GInv σ []:=fun t e h=>by cases h
theorem tg {n:Nat} {ops:Array Oper} {ρ:List PRes} {l:List Oper} {H D:List Nat} {F:List (Nat×Fct)} {σ:PEnv} {X:List (Nat×PV)} (hF:FOk F) (h:lH n ops ρ l H F σ (X.map (·.1)) D=jE n ops ρ l H F σ (X.map (·.2))):∃ r,nB n ops ρ l 0 H F σ []=some r∧r.L=r.R∧PWeak r.σ (jX σ D X):=by
 unfold lH jE at h
 cases hr:nB n ops ρ l 0 H F σ [] with
 | none=>rw [hr] at h;cases h
 | some r =>
  rw [hr] at h
  simp only at h
  cases hd:zK (X.map (·.1)) D l
  ·rw [hd] at h;cases h
  rw [hd] at h
  simp only [dn,df,Prod.mk.injEq] at h
  obtain ⟨h1,h2⟩:=h
  refine ⟨r,rfl,h2,fun t=>?_⟩
  unfold jX
  rw [qv]
  cases hl:uC t X with
  | some v=>exact .inl (by rw [Option.getD_some,rZ hl h1])
  | none =>
   rw [Option.getD_none]
   unfold pdel
   cases hi:zt t D
   ·have h3':t ∉ D:=fun hm=>by rw [pq.2 hm] at hi;cases hi
    exact .inl (by rw [cT,rY hr h2 hF wP hd t (r4 hl) h3'])
   exact .inr rfl
section
variable {n:Nat} {ops:Array Oper} {l:List Oper} {K:PPost} {KC:Exit→PPost} {σ:PEnv} {ρ:List PRes} {id:Nat} {F:List (Nat×Fct)}
theorem uD {σ1:PEnv} (hw:PWeak σ σ1) (h:PWL n ops l K σ1 ρ):PWL n ops l K σ ρ:=fun β κ σ' ρ' g hs hr=>h β κ σ' ρ' g (hs.weak hw) hr
theorem aS (k:Nat) (H D:List Nat) (X:List (Nat×PV)) (hF:FOk F) (h:lH n ops ρ (l.take k) H F σ (X.map (·.1)) D=jE n ops ρ (l.take k) H F σ (X.map (·.2))) (hw:PWL n ops (l.drop k) K (jX σ D X) ρ):PWL n ops l K σ ρ:=by
 obtain ⟨r,h1,h2,h3⟩:=tg hF h
 have:=tf h1 h2 hF wP (uD h3 hw)
 rwa [List.take_append_drop] at this
theorem je (H D:List Nat) (X:List (Nat×PV)) (hF:FOk F) (h:lH n ops ρ l H F σ (X.map (·.1)) D=jE n ops ρ l H F σ (X.map (·.2))) (hw:K (jX σ D X) ρ):PWL n ops l K σ ρ:=by
 obtain ⟨r,h1,h2,h3⟩:=tg hF h
 have:=tf (rest:=[]) h1 h2 hF wP (uD h3 (aB (ops:=ops) hw))
 rwa [List.append_nil] at this
theorem aw (H D:List Nat) (X:List (Nat×PV)) (hF:FOk F) (h:lH n l.toArray ρ l H F σ (X.map (·.1)) D=jE n l.toArray ρ l H F σ (X.map (·.2))) (hw:KC .normal (jX σ D X) ρ):PWC n (.region id l.toArray false) KC σ ρ:=aa (je H D X hF h hw)
end
def uE:List (Nat×Oper)→Bool
 | []=>true
 | (k,o)::l=>cond (lP o.op) (Nat.beq k 1) (Nat.beq k 0)&&uE l
theorem uF {n:Nat} {ops:Array Oper} {rest:List (Nat×Oper)} {K:PPost} {ρd ρ:List PRes}:∀ {l:List (Nat×Oper)} {i:Nat} {H:List Nat} {F:List (Nat×Fct)} {σ:PEnv} {G:List (Nat×GE)} {r:RunR},uE l=true→nB n ops ρ (l.map (·.2)) i H F σ G=some r→r.L=r.R→FOk F→GInv σ G→PWD n ops K rest r.σ ρd ρ→PWD n ops K (l++rest) σ ρd ρ
 | [],i,H,F,σ,G,r,_,h,_,_,_,hw=>by simp only [List.map_nil,nB,df] at h;subst h;exact hw
 | (k,o)::l,i,H,F,σ,G,r,ht,h,he,hF,hi,hw=>by
  simp only [uE,Bool.and_eq_true] at ht
  obtain ⟨d,gs,p,H',F',r',h1,h2,h3,h4,h5,h6,h7,h8,h9⟩:=qu h he hF hi
  have hrec:=uF (rest:=rest) (K:=K) (ρd:=ρd) ht.2 h6 h8 h9 (qr hi h4) (by rw [h7];exact hw)
  rw [qt] at hrec
  rcases h5 with ⟨hc,hq⟩ | ⟨hc,hq⟩
  ·rw [hc] at ht;have:=Nat.eq_of_beq_eq_true ht.1;subst this
   exact pwd_qg h3 h1 h2 hq hrec
  rw [hc] at ht;have:=Nat.eq_of_beq_eq_true ht.1;subst this
  exact zJ h3 h1 h2 hq hrec
section
variable {n:Nat} {ops:Array Oper} {l:List (Nat×Oper)} {K:PPost} {σ:PEnv} {ρd ρs:List PRes} {F:List (Nat×Fct)}
theorem zL {σ1:PEnv} (hw:PWeak σ σ1) (h:PWD n ops K l σ1 ρd ρs):PWD n ops K l σ ρd ρs:=fun β κ σ' rd rs g hs h1 h2=>h β κ σ' rd rs g (hs.weak hw) h1 h2
def r5 (n:Nat) (ops:Array Oper) (ρ:List PRes) (l:List (Nat×Oper)) (H:List Nat) (F:List (Nat×Fct)) (σ:PEnv) (ks D:List Nat):RunO:=cond (uE l) (lH n ops ρ (l.map (·.2)) H F σ ks D) none
theorem bR (k:Nat) (H D:List Nat) (X:List (Nat×PV)) (hF:FOk F) (h:r5 n ops ρs (l.take k) H F σ (X.map (·.1)) D=jE n ops ρs ((l.take k).map (·.2)) H F σ (X.map (·.2))) (hw:PWD n ops K (l.drop k) (jX σ D X) ρd ρs):PWD n ops K l σ ρd ρs:=by
 unfold r5 at h
 cases ht:uE (l.take k)
 ·rw [ht] at h;unfold jE at h;split at h <;> cases h
 rw [ht] at h
 obtain ⟨r,h1,h2,h3⟩:=tg hF h
 have:=uF ht h1 h2 hF wP (zL h3 hw)
 rwa [List.take_append_drop] at this
end
def Found (v:Value) (es:List MapEntry) (r:Option (Nat×Value)):Prop:=(r=none∧∀ e∈es,e.key≠v)∨∃ i e,r=some (i,e.val)∧es[i]?=some e∧e.key=v
structure KeyLaw (kt:Nat) (P:Value→Prop):Prop where
 chk:∀ v,P v→∀ e w,(Instr.checkKey e 10000 kt v).run Tryz.prog w=.ok () w
 find:∀ v es,P v→(∀ e∈es,P e.key)→∀ w,∃ r,(Instr.findKey kt v es).run Tryz.prog w=.ok r w∧Found v es r
 same:∀ v,P v→Instr.sameBits 10000 v v=true
def PairKey (v:Value):Prop:=∃ a b,v=.agg #[.int .i64 a,.int .i64 b]
theorem ru {kt:Nat} {P:Value→Prop} (he:∀ v u,P v→P u→∀ w,∃ b,(Op.equal kt v u).run Tryz.prog w=.ok b w∧(b=true↔v=u)) {v:Value} (hv:P v):∀ (es:List MapEntry) (i:Nat),(∀ e∈es,P e.key)→∀ w,∃ r,(Instr.findAsking kt v es i).run Tryz.prog w=.ok r w∧((r=none∧∀ e∈es,e.key≠v)∨∃ j e,r=some (i+j,e.val)∧es[j]?=some e∧e.key=v):=by
 intro es
 induction es with
 | nil=>intro i _ w;exact ⟨none,by simp [Instr.findAsking],.inl ⟨rfl,fun e h=>by cases h⟩⟩
 | cons e es ih =>
  intro i h w
  obtain ⟨b,h1,h2⟩:=he v e.key hv (h e (by simp)) w
  unfold Instr.findAsking
  simp only [Sem.run_bind,h1,Result.andThen_ok]
  cases b with
  | true =>
   refine ⟨some (i,e.val),by simp,.inr ⟨0,e,by simp,rfl,(h2.1 rfl).symm⟩⟩
  | false =>
   obtain ⟨r,g1,g2⟩:=ih (i+1) (fun x hx=>h x (by simp [hx])) w
   refine ⟨r,by simpa using g1,?_⟩
   rcases g2 with ⟨g2,g3⟩ | ⟨j,x,g2,g3,g4⟩
   ·left
    refine ⟨g2,fun x hx=>?_⟩
    rcases List.mem_cons.1 hx with rfl | hx
    ·intro hh;have:=h2.2 hh.symm;cases this
    exact g3 x hx
   right;exact ⟨j+1,x,by rw [g2];congr 2;omega,g3,g4⟩
theorem zM {kt:Nat} (f1 f2:Field) (hu:dw kt=some (.struct #[f1,f2])) (h1:Tryz.prog.underlying kt=some (.struct (Tryz.prog.fieldsOf kt))) (h2:Tryz.prog.stoodInHeld kt=false) (n1:f1.name ≠ "_") (n2:f2.name ≠ "_") (o1:f1.offset=0) (o2:f2.offset=1) (t1:dw f1.type=some (.int .i64)) (t2:dw f2.type=some (.int .i64)):KeyLaw kt PairKey:=by
 have hf:Tryz.prog.fieldsOf kt=#[f1,f2]:=by
  have:=(bt hu).symm.trans h1
  injection this with this;injection this with this;exact this.symm
 have pt:∀ (cs:Array Value) (f:Field) (v:Value) (w:World),dw f.type=some (.int .i64)→cs[f.offset]?=some v→(part f.type cs f.offset).run Tryz.prog w=.ok v w:=fun cs f v w ht hv=>by
  simp [part,ie ht,iW,hv]
 have ck:∀ e n t a w,dw t=some (.int .i64)→(Instr.checkKey e (n+1) t (.int .i64 a)).run Tryz.prog w=.ok () w:=fun e n t a w ht=>by simp [Instr.checkKey,run_underlying (bt ht)]
 have eq:∀ v u,PairKey v→PairKey u→∀ w,∃ b,(Op.equal kt v u).run Tryz.prog w=.ok b w∧(b=true↔v=u):=by
  rintro v u ⟨a,b,rfl⟩ ⟨c,d,rfl⟩ w
  refine ⟨(a == c)&&(b == d),?_,?_⟩
  ·show (Op.equalIn (9999+1) kt _ _).run Tryz.prog w=_
   rw [run_equalIn_struct w 9999 kt _ _ h1 h2,hf]
   have e1:=pt #[.int .i64 a,.int .i64 b] f1 (.int .i64 a) w t1 (by rw [o1];rfl)
   have e2:=pt #[.int .i64 c,.int .i64 d] f1 (.int .i64 c) w t1 (by rw [o1];rfl)
   have e3:=pt #[.int .i64 a,.int .i64 b] f2 (.int .i64 b) w t2 (by rw [o2];rfl)
   have e4:=pt #[.int .i64 c,.int .i64 d] f2 (.int .i64 d) w t2 (by rw [o2];rfl)
   have q1:(Op.equalIn 9999 f1.type (.int .i64 a) (.int .i64 c)).run Tryz.prog w=.ok (a == c) w:=run_equalIn_int w 9998 f1.type .i64 .i64 a c (bt t1)
   have q2:(Op.equalIn 9999 f2.type (.int .i64 b) (.int .i64 d)).run Tryz.prog w=.ok (b == d) w:=run_equalIn_int w 9998 f2.type .i64 .i64 b d (bt t2)
   show (Op.eqFields 9999 _ _ [f1,f2]).run Tryz.prog w=_
   simp only [Op.eqFields,if_pos n1,if_pos n2,Sem.run_bind,e1,e2,Result.andThen_ok,q1]
   cases (a == c)
   ·simp
   simp only [Bool.not_true,Bool.false_eq_true,if_false,Sem.run_bind,e3,e4,Result.andThen_ok,q2,if_true]
   cases (b == d) <;> simp
  simp only [Bool.and_eq_true,beq_iff_eq]
  constructor
  ·rintro ⟨rfl,rfl⟩;rfl
  intro h;injection h with h;simp at h;exact h
 refine ⟨?_,?_,?_⟩
 ·rintro v ⟨a,b,rfl⟩ e w
  have e1:=pt #[.int .i64 a,.int .i64 b] f1 (.int .i64 a) w t1 (by rw [o1];rfl)
  have e3:=pt #[.int .i64 a,.int .i64 b] f2 (.int .i64 b) w t2 (by rw [o2];rfl)
  have:∀ n,(Instr.checkKey e (n+1+1) kt (.agg #[.int .i64 a,.int .i64 b])).run Tryz.prog w=.ok () w:=fun n=>by
   rw [Instr.checkKey]
   simp only [Sem.run_bind,run_underlying (bt hu),Result.andThen_ok]
   rw [← Array.forIn_toList]
   simp [List.forIn_cons,n1,n2,e1,e3,ck e n f1.type a w t1,ck e n f2.type b w t2]
  exact this 9998
 ·intro v es hv hes w
  cases es with
  | nil =>
   refine ⟨none,?_,.inl ⟨rfl,fun e h=>by cases h⟩⟩
   simp [Instr.findKey,Instr.findNow,run_underlying (bt hu)]
  | cons e es =>
   obtain ⟨r,g1,g2⟩:=ru eq hv (e::es) 0 hes w
   refine ⟨r,?_,?_⟩
   ·have:Instr.findNow (.struct #[f1,f2]) v (e::es) 0=none:=by
     obtain ⟨a,b,rfl⟩:=hv
     simp [Instr.findNow,Instr.sameNow]
    simp [Instr.findKey,run_underlying (bt hu),this,g1]
   ·rcases g2 with g2 | ⟨j,x,g2,g3⟩
    ·exact .inl g2
    exact .inr ⟨j,x,by rw [g2,Nat.zero_add],g3⟩
 rintro v ⟨a,b,rfl⟩
 have:∀ n,Instr.sameBits (n+1+1) (.agg #[.int .i64 a,.int .i64 b]) (.agg #[.int .i64 a,.int .i64 b])=true:=fun n=>by simp [Instr.sameBits]
 exact this 9998
section
variable {K V:Type} [DecidableEq K]
def jF:List (K×V)→K→Option V
 | [],_=>none
 | (a,v)::r,k=>if a=k then some v else jF r k
def mS:List (K×V)→K→V→List (K×V)
 | [],k,v=>[(k,v)]
 | (a,w)::r,k,v=>if a=k then (k,v)::r else (a,w)::mS r k v
def mpos:List (K×V)→K→Nat
 | [],_=>0
 | (a,_)::r,k=>if a=k then 0 else mpos r k+1
def MND (xs:List (K×V)):Prop:=xs.Pairwise fun a b=>a.1≠b.1
theorem xQ {xs:List (K×V)} {k:K} (h:∀ p∈xs,p.1≠k):jF xs k=none:=by
 induction xs with
 | nil=>rfl
 | cons p r ih =>
  obtain ⟨a,v⟩:=p
  unfold jF
  rw [if_neg (h (a,v) (by simp)),ih (fun p hp=>h p (by simp [hp]))]
theorem xR {xs:List (K×V)} {k:K} (h:∀ p∈xs,p.1≠k) (v:V):mS xs k v=xs++[(k,v)]:=by
 induction xs with
 | nil=>rfl
 | cons p r ih =>
  obtain ⟨a,w⟩:=p
  unfold mS
  rw [if_neg (h (a,w) (by simp)),ih (fun p hp=>h p (by simp [hp]))];rfl
theorem wQ {xs:List (K×V)} (nd:MND xs) {k:K} {v:V}:∀ {i:Nat},xs[i]?=some (k,v)→jF xs k=some v∧mpos xs k=i∧∀ u,mS xs k u=xs.set i (k,u):=by
 induction xs with
 | nil=>intro i h;simp at h
 | cons p r ih =>
  obtain ⟨a,w⟩:=p
  intro i h
  unfold MND at nd
  rw [List.pairwise_cons] at nd
  cases i with
  | zero =>
   simp only [List.getElem?_cons_zero,df,Prod.mk.injEq] at h
   obtain ⟨rfl,rfl⟩:=h
   unfold jF mpos mS
   simp
  | succ i =>
   simp only [List.getElem?_cons_succ] at h
   have hne:a≠k:=nd.1 (k,v) (List.mem_of_getElem? h)
   obtain ⟨h1,h2,h3⟩:=ih nd.2 h
   unfold jF mpos mS
   rw [if_neg hne,if_neg hne]
   refine ⟨h1,by rw [h2],fun u=>?_⟩
   rw [if_neg hne,h3];rfl
def gc (ek:K→Value) (ev:V→PV) (xs:List (K×V)):List (Value×PV):=xs.map fun p=>(ek p.1,ev p.2)
structure KEnc (kt:Nat) (ek:K→Value):Prop where
 law:∃ P,KeyLaw kt P∧∀ a,P (ek a)
 inj:∀ a b,ek a=ek b→a=b
end
section
variable {κ:Kr}
theorem KVs.get:∀ {kvs:List (Value×PV)} {es:List MapEntry} {i:Nat} {e:MapEntry},KVs κ kvs es→es[i]?=some e→∃ p,kvs[i]?=some (e.key,p)∧Rp κ p e.val
 | _,_,0,_,.cons h _,g=>by simp only [List.getElem?_cons_zero,df] at g;subst g;exact ⟨_,rfl,h⟩
 | _,_,i+1,_,.cons _ hs,g=>by simp only [List.getElem?_cons_succ] at g ⊢;exact hs.get g
theorem KVs.get':∀ {kvs:List (Value×PV)} {es:List MapEntry} {i:Nat} {k:Value} {p:PV},KVs κ kvs es→kvs[i]?=some (k,p)→∃ e,es[i]?=some e∧e.key=k∧Rp κ p e.val
 | _,_,0,_,_,.cons h _,g=>by simp only [List.getElem?_cons_zero,df,Prod.mk.injEq] at g;obtain ⟨rfl,rfl⟩:=g;exact ⟨_,rfl,rfl,h⟩
 | _,_,i+1,_,_,.cons _ hs,g=>by simp only [List.getElem?_cons_succ] at g ⊢;exact hs.get' g
theorem KVs.keys:∀ {kvs:List (Value×PV)} {es:List MapEntry},KVs κ kvs es→kvs.map (·.1)=es.map (·.key)
 | _,_,.nil=>rfl
 | _,_,.cons _ hs=>by simp [hs.keys]
theorem KVs.app:∀ {ps qs:List (Value×PV)} {es fs:List MapEntry},KVs κ ps es→KVs κ qs fs→KVs κ (ps++qs) (es++fs)
 | _,_,_,_,.nil,h=>h
 | _,_,_,_,.cons h hs,g=>.cons h (hs.app g)
theorem KVs.set:∀ {kvs:List (Value×PV)} {es:List MapEntry} {i:Nat} {e e':MapEntry} {p:PV},KVs κ kvs es→es[i]?=some e→e'.key=e.key→Rp κ p e'.val→KVs κ (kvs.set i (e.key,p)) (es.set i e')
 | _,_,0,_,_,_,.cons h hs,g,hk,hp=>by simp only [List.getElem?_cons_zero,df] at g;subst g;rw [← hk];exact .cons hp hs
 | _,_,i+1,_,_,_,.cons h hs,g,hk,hp=>by simp only [List.getElem?_cons_succ] at g;exact .cons h (hs.set g hk hp)
theorem vN {α:Type} {R:α→α→Prop}:∀ {l:List α} {i:Nat} {a a':α},l.Pairwise R→l[i]?=some a→(∀ x,R x a→R x a')→(∀ x,R a x→R a' x)→(l.set i a').Pairwise R
 | _::l,0,a,a',h,g,h1,h2=>by
  simp only [List.getElem?_cons_zero,df] at g;subst g
  rw [List.pairwise_cons] at h
  exact List.pairwise_cons.2 ⟨fun x hx=>h2 x (h.1 x hx),h.2⟩
 | b::l,i+1,a,a',h,g,h1,h2=>by
  simp only [List.getElem?_cons_succ] at g
  rw [List.pairwise_cons] at h
  refine List.pairwise_cons.2 ⟨fun x hx=>?_,vN h.2 g h1 h2⟩
  rcases List.mem_or_eq_of_mem_set hx with hx | rfl
  ·exact h.1 x hx
  exact h1 b (h.1 a (List.mem_of_getElem? g))
theorem MapWf.set {es:List MapEntry} {clock i:Nat} {e e':MapEntry} (h:MapWf es clock) (g:es[i]?=some e) (hk:e'.key=e.key) (hb:e'.born=e.born):MapWf (es.set i e') clock where
 nd:=vN h.nd g (fun x hx=>by rw [hk];exact hx) (fun x hx=>by rw [hk];exact hx)
 bn:=vN h.bn g (fun x hx=>by rw [hb];exact hx) (fun x hx=>by rw [hb];exact hx)
 lt:=fun x hx=>by
  rcases List.mem_or_eq_of_mem_set hx with hx | rfl
  ·exact h.lt x hx
  rw [hb];exact h.lt e (List.mem_of_getElem? g)
theorem MapWf.push {es:List MapEntry} {clock:Nat} (h:MapWf es clock) {k v:Value} (hk:∀ e∈es,e.key≠k):MapWf (es++[⟨k,v,clock⟩]) (clock+1) where
 nd:=List.pairwise_append.2 ⟨h.nd,by simp,fun a ha b hb=>by simp at hb;subst hb;exact hk a ha⟩
 bn:=List.pairwise_append.2 ⟨h.bn,by simp,fun a ha b hb=>by simp at hb;subst hb;have:=h.lt a ha;show a.born≠clock;omega⟩
 lt:=fun x hx=>by
  rcases List.mem_append.1 hx with hx | hx
  ·have:=h.lt x hx;omega
  simp at hx;subst hx;show clock<clock+1;omega
end
section
variable {K V:Type} {ek:K→Value} {ev:V→PV} {xs:List (K×V)} {κ:Kr} {es:List MapEntry} {clock kt:Nat}
theorem uG {i:Nat} {k':Value} {p:PV} (h:(gc ek ev xs)[i]?=some (k',p)):∃ k v,xs[i]?=some (k,v)∧k'=ek k∧p=ev v:=by
 unfold gc at h
 rw [List.getElem?_map] at h
 cases e:xs[i]? with
 | none=>rw [e] at h;cases h
 | some q=>rw [e] at h;simp only [Option.map_some,df,Prod.mk.injEq] at h;exact ⟨q.1,q.2,rfl,h.1.symm,h.2.symm⟩
theorem wR (h:KVs κ (gc ek ev xs) es) (hw:MapWf es clock):MND xs:=by
 have h1:(es.map (·.key)).Pairwise (· ≠ ·):=List.pairwise_map.2 hw.nd
 rw [← h.keys,gc,List.map_map,List.pairwise_map] at h1
 exact h1.imp fun hab e=>hab (by simp [e])
theorem vO {P:Value→Prop} (hP:∀ a,P (ek a)) (h:KVs κ (gc ek ev xs) es):∀ e∈es,P e.key:=by
 intro e he
 obtain ⟨i,hi,rfl⟩:=List.getElem_of_mem he
 obtain ⟨p,h1,_⟩:=h.get (List.getElem?_eq_getElem hi)
 obtain ⟨k,v,_,h2,_⟩:=uG h1
 rw [h2];exact hP k
theorem oa (hinj:∀ a b,ek a=ek b→a=b) (h:KVs κ (gc ek ev xs) es) (hw:MapWf es clock) {k:K} {r:Option (Nat×Value)} (hf:Found (ek k) es r):(r=none∧(∀ p∈xs,p.1≠k)∧∀ e∈es,e.key≠ek k)∨∃ i e v,r=some (i,e.val)∧es[i]?=some e∧e.key=ek k∧xs[i]?=some (k,v)∧Rp κ (ev v) e.val:=by
 rcases hf with ⟨h1,h2⟩ | ⟨i,e,h1,h2,h3⟩
 ·left
  refine ⟨h1,fun p hp hpk=>?_,h2⟩
  obtain ⟨i,hi,rfl⟩:=List.getElem_of_mem hp
  have:(gc ek ev xs)[i]?=some (ek k,ev xs[i].2):=by unfold gc;rw [List.getElem?_map,List.getElem?_eq_getElem hi];simp [hpk]
  obtain ⟨e,g1,g2,_⟩:=h.get' this
  exact h2 e (List.mem_of_getElem? g1) g2
 right
 obtain ⟨p,g1,g2⟩:=h.get h2
 obtain ⟨k',v,g3,g4,g5⟩:=uG g1
 have:k'=k:=hinj _ _ (g4.symm.trans h3)
 subst this
 exact ⟨i,e,v,h1,h2,h3,g3,by rw [← g5];exact g2⟩
end
section
variable {κ:Kr} {σ:Env} {ρ:List Res} {o:Oper} {K:Value→List Res→Kr→Prop}
theorem vP {t:Nat} (ho:o.op=.makeMap t none) (h:∀ b κ',Kle κ κ'→K (.map (some b)) (Res.mp (some b) [] 0::ρ) κ'):OpL o σ ρ κ K:=fun β hi Nx hk=>by
 unfold execOp
 simp only [ho,Option.map_none,Instr.makeMap,Sem.run_bind,run_newObj_alloc,Result.andThen_ok,Sem.run_pure,OutV]
 exact hk _ _ _ (hi.alloc _ (Res.mp (some κ.w.heap.size) [] 0) rfl rfl) (dD hi.fin _) (h _ _ (dD hi.fin _))
end
theorem qw {b clock:Nat} {es:Array MapEntry} {w:World} (hb:w.heap[b]?=some (.map es clock)):(getObj b).run Tryz.prog w=.ok (.map es clock) w:=by simp [getObj,Sem.run,hb]
theorem uH {b clock:Nat} {es:Array MapEntry} {w:World} (o:Obj) (hb:w.heap[b]?=some (.map es clock)):(setObj b o).run Tryz.prog w=.ok () { w with heap:=w.heap.setIfInBounds b o }:=by simp [setObj,Sem.run,hb]
theorem r6 {α:Type} {f:α→α}:∀ {l:List α} {i:Nat} {e:α},l[i]?=some e→l.modify i f=l.set i (f e)
 | _::_,0,_,h=>by simp only [List.getElem?_cons_zero,df] at h;subst h;rfl
 | _::l,i+1,_,h=>by simp only [List.getElem?_cons_succ] at h;simp [r6 h]
theorem vQ {t kt et b clock:Nat} {z v:Value} {sz by':Nat} {P:Value→Prop} (ht:dw t=some (.map kt et)) (hz:eE et=some (z,sz,by')) (L:KeyLaw kt P) (hv:P v) {es:List MapEntry} (hes:∀ e∈es,P e.key) {w:World} (hb:w.heap[b]?=some (.map es.toArray clock)) (c:Bool):∃ r,Found v es r∧(Instr.lookup t (.map (some b)) v c).run Tryz.prog w=.ok (if c then .tuple #[(r.map (·.2)).getD z,.bool r.isSome] else (r.map (·.2)).getD z) w:=by
 obtain ⟨r,h1,h2⟩:=L.find v es hv hes w
 refine ⟨r,h2,?_⟩
 simp only [Instr.lookup,Sem.run_bind,run_underlying (bt ht),Result.andThen_ok,qw hb,Sem.run_pure,L.chk v hv,h1]
 cases r with
 | none=>simp [dt hz]
 | some q=>simp
theorem qy {t kt et:Nat} {z v:Value} {sz by':Nat} {P:Value→Prop} (ht:dw t=some (.map kt et)) (hz:eE et=some (z,sz,by')) (L:KeyLaw kt P) (hv:P v) {w:World} (c:Bool):(Instr.lookup t (.map none) v c).run Tryz.prog w=.ok (if c then .tuple #[z,.bool false] else z) w:=by
 obtain ⟨r,h1,h2⟩:=L.find v [] hv (fun e h=>by cases h) w
 have hr:r=none:=by
  rcases h2 with h2 | ⟨i,e,_,h2,_⟩
  ·exact h2.1
  simp at h2
 subst hr
 simp [Instr.lookup,run_underlying (bt ht),L.chk v hv,h1,dt hz]
theorem rx {t kt et b clock:Nat} {v u:Value} {P:Value→Prop} (ht:dw t=some (.map kt et)) (L:KeyLaw kt P) (hv:P v) {es:List MapEntry} (hes:∀ e∈es,P e.key) {w:World} (hb:w.heap[b]?=some (.map es.toArray clock)):∃ r es' clock',Found v es r∧(Instr.mapUpdate t (.map (some b)) v u).run Tryz.prog w=.ok () { w with heap:=w.heap.setIfInBounds b (.map es'.toArray clock') }∧((r=none∧es'=es++[⟨v,u,clock⟩]∧clock'=clock+1)∨∃ i e,es[i]?=some e∧e.key=v∧r=some (i,e.val)∧es'=es.set i ⟨v,u,e.born⟩∧clock'=clock):=by
 obtain ⟨r,h1,h2⟩:=L.find v es hv hes w
 have h2':=h2
 rcases h2 with ⟨rfl,h3⟩ | ⟨i,e,rfl,h3,h4⟩
 ·refine ⟨none,es++[⟨v,u,clock⟩],clock+1,h2',?_,.inl ⟨rfl,rfl,rfl⟩⟩
  simp only [Instr.mapUpdate,Sem.run_bind,run_underlying (bt ht),Result.andThen_ok,qw hb,L.chk v hv,h1,uH _ hb]
  simp
 refine ⟨some (i,e.val),es.set i ⟨v,u,e.born⟩,clock,h2',?_,.inr ⟨i,e,h3,h4,rfl,rfl,rfl⟩⟩
 have hk:((es.toArray[i]?).map (·.key)).getD v=v:=by simp [h3,h4]
 have hst:(Instr.keyThatStays v v).run Tryz.prog w=.ok v w:=by simp [Instr.keyThatStays,L.same v hv]
 have hm:es.toArray.modify i (fun x=>({ x with key:=v,val:=u }:MapEntry))=(es.set i ⟨v,u,e.born⟩).toArray:=by
  apply Array.ext'
  simp only [Array.toList_modify]
  rw [r6 h3]
 simp only [Instr.mapUpdate,Sem.run_bind,run_underlying (bt ht),Result.andThen_ok,qw hb,L.chk v hv,h1,hk,hst,hm,uH _ hb]
section
variable {K V:Type} [DecidableEq K] {ek:K→Value} {vv:V→PV} {xs:List (K×V)} {κ:Kr} {es:List MapEntry} {clock kt:Nat}
theorem zN {es':List MapEntry} {clock':Nat} {k:K} {v:V} {u:Value} {r:Option (Nat×Value)} (hinj:∀ a b,ek a=ek b→a=b) (hw:MapWf es clock) (h:KVs κ (gc ek vv xs) es) (hf:Found (ek k) es r) (hv:Rp κ (vv v) u)
    (hc:(r=none∧es'=es++[⟨ek k,u,clock⟩]∧clock'=clock+1)∨∃ i e,es[i]?=some e∧e.key=ek k∧r=some (i,e.val)∧es'=es.set i ⟨ek k,u,e.born⟩∧clock'=clock):MapWf es' clock'∧KVs κ (gc ek vv (mS xs k v)) es':=by
  rcases hc with ⟨rfl,rfl,rfl⟩ | ⟨i,e,h1,h2,rfl,rfl,rfl⟩
  · rcases oa hinj h hw hf with ⟨_,h3,h4⟩ | ⟨i,e,v,h3,_⟩
    · refine ⟨hw.push h4,?_⟩
      rw [xR h3,gc,List.map_append]
      exact h.app (.cons (e:=⟨ek k,u,clock⟩) hv .nil)
    cases h3
  rcases oa hinj h hw hf with ⟨h3,_⟩ | ⟨i',e',v',h3,h4,h5,h6,h7⟩
  · cases h3
  have hi:i'=i:=by injection h3 with h3;injection h3 with h3 _;exact h3.symm
  subst hi
  refine ⟨hw.set h1 h2.symm rfl,?_⟩
  rw [(wQ (wR h hw) h6).2.2 v,gc,List.map_set]
  have:=h.set h1 (e':=⟨ek k,u,e.born⟩) h2.symm hv
  rw [h2] at this
  exact this
theorem zO {k:K} {z0:V} {z:Value} {r:Option (Nat×Value)} (hinj:∀ a b,ek a=ek b→a=b) (hw:MapWf es clock) (h:KVs κ (gc ek vv xs) es) (hf:Found (ek k) es r) (hz:Rp κ (vv z0) z):Rp κ (vv ((jF xs k).getD z0)) ((r.map (·.2)).getD z)∧r.isSome=(jF xs k).isSome:=by
 rcases oa hinj h hw hf with ⟨rfl,h3,h4⟩ | ⟨i,e,v,rfl,h4,h5,h6,h7⟩
 ·rw [xQ h3];exact ⟨hz,rfl⟩
 rw [(wQ (wR h hw) h6).1];exact ⟨h7,rfl⟩
end
theorem oB {w:World} {b i:Nat} {o:Obj} (h:i≠b):({ w with heap:=w.heap.setIfInBounds b o }:World).heap[i]?=w.heap[i]?:=by
 show (w.heap.setIfInBounds b o)[i]?=_
 rw [Array.getElem?_setIfInBounds_ne (fun e=>h e.symm)]
theorem oC {w:World} {b:Nat} {o o':Obj} (h:w.heap[b]?=some o'):({ w with heap:=w.heap.setIfInBounds b o }:World).heap[b]?=some o:=by
 show (w.heap.setIfInBounds b o)[b]?=_
 have:b<w.heap.size:=by
  rcases Nat.lt_or_ge b w.heap.size with h1 | h1
  ·exact h1
  rw [Array.getElem?_eq_none h1] at h;cases h
 rw [Array.getElem?_setIfInBounds_self_of_lt this]
theorem Zk.mapTurn {β:Base} {l1 l2:List Res} {κ:Kr} {b clock clock':Nat} {es es':List MapEntry} (h:Zk β (l1++Res.mp (some b) es clock::l2) κ):Zk β (l1++Res.mp (some b) es' clock'::l2) ⟨{ κ.w with heap:=κ.w.heap.setIfInBounds b (.map es'.toArray clock') },κ.S⟩∧Kle κ ⟨{ κ.w with heap:=κ.w.heap.setIfInBounds b (.map es'.toArray clock') },κ.S⟩:=by
 have hb:κ.w.heap[b]?=some (.map es.toArray clock):=h.own (Res.mp (some b) es clock) (by simp)
 exact h.turn (r:=Res.mp (some b) es clock) (r':=Res.mp (some b) es' clock') (b:=b) rfl rfl rfl (fun i hi=>oB hi) (by simp) (oC hb) rfl rfl rfl (Nat.le_refl _)
section
variable {K V:Type} [DecidableEq K] {ek:K→Value} {vv:V→PV} {xs:List (K×V)} {o:Oper} {σ:PEnv} {ρ ρ':List PRes} {c:Bool} {x y y2:Operand} {t kt et:Nat} {KK:PV→List PRes→Prop} {k:K} {v z0:V} {z:Value} {sz by' b:Nat} {pk:PV} {mo:Option Nat}
theorem vR (ho:o.op=.makeMap t none) (h:∀ b,KK (.v (.map (some b))) (.mp (some b) []::ρ)):POpL o σ ρ KK:=fun κ σ' ρ' g hs hr =>
 vP ho fun b κ' hk=>⟨_,_,.v rfl,.cons (.mp (fun h=>by cases h) ⟨.nil,.nil,fun e h=>by cases h⟩ .nil) (hr.mono hk),h b⟩
def MapIs (ρ:List PRes) (mo:Option Nat) (kvs:List (Value×PV)):Prop:=∀ κ rs,RRels κ ρ rs→∃ es clock,Res.mp mo es clock∈rs∧(mo=none→es=[])∧MapWf es clock∧KVs κ kvs es
theorem zP {kvs:List (Value×PV)} (h:PRes.mp mo kvs∈ρ):MapIs ρ mo kvs:=fun κ rs hr=>by
 obtain ⟨r,h1,h2⟩:=hr.mem h
 cases h2 with
 | mp hn hw hk=>exact ⟨_,_,h1,hn,hw,hk⟩
theorem vS {es:List MapEntry} {clock:Nat} (hw:MapWf es clock) {u:Value} {r r':Option (Nat×Value)} (h:Found u es r) (h':Found u es r'):r=r':=by
 rcases h with ⟨rfl,h1⟩ | ⟨i,e,rfl,h1,h2⟩ <;> rcases h' with ⟨rfl,h3⟩ | ⟨j,f,rfl,h3,h4⟩
 ·rfl
 ·exact absurd h4 (h1 f (List.mem_of_getElem? h3))
 ·exact absurd h2 (h3 e (List.mem_of_getElem? h1))
 have hij:i=j:=by
  obtain ⟨li,ei⟩:=List.getElem?_eq_some_iff.1 h1
  obtain ⟨lj,ej⟩:=List.getElem?_eq_some_iff.1 h3
  have pw:=List.pairwise_iff_getElem.1 hw.nd
  rcases Nat.lt_trichotomy i j with h | h | h
  ·exact absurd (by rw [ei,ej,h2,h4]) (pw i j li lj h)
  ·exact h
  exact absurd (by rw [ei,ej,h2,h4]) (pw j i lj li h)
 subst hij
 rw [h1] at h3;injection h3 with h3;rw [h3]
theorem look_q (cm:Bool) (ho:o.op=.lookup t x y cm) (ht:dw t=some (.map kt et)) (hz:eE et=some (z,sz,by')) (hzp:∀ κ,Rp κ (vv z0) z) (L:KEnc kt ek) (hx:PEv σ c x (.v (.map mo))) (hy:PEv σ c y pk) (hk:∀ κ u,Rp κ pk u→u=ek k) (hm:MapIs ρ mo (gc ek vv xs)) {κ:Kr} {σ':Env} {ρ':List Res} (hs:Sim κ σ σ') (hr:RRels κ ρ ρ'):c=true→∃ u,Rp κ (vv ((jF xs k).getD z0)) u∧∀ w,Stab ρ' κ w→(execOp (SX.ev σ') o).run Tryz.prog w=.ok (.value (if cm then .tuple #[u,.bool (jF xs k).isSome] else u)) w:=by
 intro hc
 obtain ⟨P,hL,hP⟩:=L.law
 have e1:SX.ev σ' x=.map mo:=hs.ve hx hc
 have e2:SX.ev σ' y=ek k:=hk κ _ (hs.pe hy hc)
 obtain ⟨es,clock,h1,hn,h2,h3⟩:=hm κ ρ' hr
 obtain ⟨r,g1,g2⟩:=hL.find (ek k) es (hP k) (vO hP h3) κ.w
 obtain ⟨l1,l2⟩:=zO L.inj h2 h3 g2 (hzp κ)
 refine ⟨_,l1,fun w hw=>?_⟩
 cases mo with
 | none =>
  have:=hn rfl;subst this
  have hr0:r=none:=by
   rcases g2 with g2 | ⟨i,e,_,g2,_⟩
   ·exact g2.1
   simp at g2
  subst hr0
  rw [← l2]
  simp only [execOp,ho,e1,e2,Sem.run_bind,qy ht hz hL (hP k) cm,Result.andThen_ok,Sem.run_pure]
  rfl
 | some b =>
  have hb:w.heap[b]?=some (.map es.toArray clock):=hw.own _ h1
  obtain ⟨r',f1,f2⟩:=vQ ht hz hL (hP k) (vO hP h3) hb cm
  have:=vS h2 f1 g2;subst this
  rw [← l2]
  simp only [execOp,ho,e1,e2,Sem.run_bind,f2,Result.andThen_ok,Sem.run_pure]
theorem xS (ho:o.op=.lookup t x y false) (ht:dw t=some (.map kt et)) (hz:eE et=some (z,sz,by')) (hzp:∀ κ,Rp κ (vv z0) z) (L:KEnc kt ek) (hx:PEv σ c x (.v (.map mo))) (hy:PEv σ c y pk) (hk:∀ κ u,Rp κ pk u→u=ek k) (hm:MapIs ρ mo (gc ek vv xs)):POpQ c o σ ρ (vv ((jF xs k).getD z0)):=fun κ σ' ρ' g hs hr=>by
 cases c with
 | false=>exact vy
 | true =>
  obtain ⟨u,h1,h2⟩:=look_q false ho ht hz hzp L hx hy hk hm hs hr rfl
  exact ⟨u,fun _=>h1,fun _ w hw=>h2 w hw⟩
theorem th (ho:o.op=.mapUpdate t x y y2) (ht:dw t=some (.map kt et)) (L:KEnc kt ek) (hx:bi σ x=.v (.map (some b))) (hy:bi σ y=pk) (hk:∀ κ u,Rp κ pk u→u=ek k) (hv:bi σ y2=vv v) (hu:PUpd ρ (.mp (some b) (gc ek vv xs)) (.mp (some b) (gc ek vv (mS xs k v))) ρ') (h:KK (.v undef) ρ'):POpL o σ ρ KK:=fun κ σ' rr g hs hr=>by
 obtain ⟨P,hL,hP⟩:=L.law
 obtain ⟨r0,l1,l2,rfl,h4,h5⟩:=hr.upd hu
 cases h4 with
 | mp hn hw hkv =>
  rename_i es clock
  intro β hi Nx hnx
  have hb:κ.w.heap[b]?=some (.map es.toArray clock):=hi.own (Res.mp (some b) es clock) (by simp)
  have e1:SX.ev σ' x=.map (some b):=hs.v1 hx
  have e2:SX.ev σ' y=ek k:=hk κ _ (by have:=hs.ev y;rwa [hy] at this)
  have rv:Rp κ (vv v) (SX.ev σ' y2):=by have:=hs.ev y2;rwa [hv] at this
  obtain ⟨r,es',clock',f1,f2,f3⟩:=rx (u:=SX.ev σ' y2) ht hL (hP k) (vO hP hkv) hb
  obtain ⟨w1,w2⟩:=zN (v:=v) L.inj hw hkv f1 rv f3
  obtain ⟨i1,i2⟩:=hi.mapTurn (es':=es') (clock':=clock')
  simp only [execOp,ho,e1,e2,Sem.run_bind,f2,Result.andThen_ok,Sem.run_pure,OutV]
  exact hnx _ _ _ i1 i2 ⟨.v undef,ρ',.v rfl,h5 _ _ i2 (.mp (fun h=>by cases h) w1 (w2.mono i2)),h⟩
end
def kP (a b:Int):Value:=.agg #[.int .i64 a,.int .i64 b]
def vT (a:Bool):PV:=.v (.bool a)
theorem zQ {a b:Int}:∀ (κ:Kr) (u:Value),Rp κ (.agg [.v (.int .i64 a),.v (.int .i64 b)]) u→u=kP a b:=fun κ u h=>by
 cases h with
 | agg ho hc =>
  have:=pn (xs:=[.int .i64 a,.int .i64 b]) rfl hc
  rw [this];rfl
theorem uI {K V:Type} {o:Oper} {σ:PEnv} {ρ:List PRes} {t:Nat} {KK:PV→List PRes→Prop} (ek:K→Value) (vv:V→PV) (ho:o.op=.makeMap t none) (h:∀ b,KK (.v (.map (some b))) (.mp (some b) (gc ek vv [])::ρ)):POpL o σ ρ KK:=vR ho h
theorem wl_gT {β:Base} {n:Nat} {ops:Array Oper} {o:Oper} {rest:List Oper} {K:Post} {σ:Env} {ρ:List Res} {κ:Kr} {d:Nat} (hg:GuardIs ops σ o true) (hd':o.dst=some d) (hlt:Nat.blt d n=true) (h:OpL o σ ρ κ fun v ρ' κ'=>WL β n ops rest K (upd σ d v) ρ' κ'):WL β n ops (o::rest) K σ ρ κ:=fun hi a hr Q hk=>by
 simp only [← dY hd'] at h
 have hd:=eW hd' hlt
 unfold wpList
 rw [gr hr,hg]
 exact .inl (ic hr.eval (h β hi (fun v w=>wpList Tryz.prog ops Q rest (a.put o.dst v) w) fun v ρ' κ' hi' hle hw=>hw hi' _ (hr.put hd v) Q fun a' σ' ρ'' κ'' h1 h2 h3 h4=>hk a' σ' ρ'' κ'' h1 h2 (hle.trans h3) h4) fun _ _ h=>h)
section
variable {n:Nat} {ops:Array Oper} {o:Oper} {rest:List Oper} {K:PPost} {σ:PEnv} {ρ:List PRes} {d:Nat}
theorem pwl_gT (hg:PGuardIs ops σ o true) (hd:o.dst=some d) (hlt:Nat.blt d n=true) (h:POpL o σ ρ fun p ρ'=>PWL n ops rest K (eX σ d p) ρ'):PWL n ops (o::rest) K σ ρ:=fun β κ σ' ρ' g hs hr =>
 wl_gT (hg κ σ' hs) hd hlt ((h κ σ' ρ' g hs hr).mono fun v ρ1 κ1 hk ⟨pv,ρp,h1,h2,h3⟩=>h3 β κ1 _ _ (g.mono hk) ((hs.mono hk).upd h1) h2)
theorem pwl_gF {p:PV} (hg:PGuardIs ops σ o false) (hd:o.dst=some d) (hlt:Nat.blt d n=true) (h:PWL n ops rest K (eX σ d (pgv false p)) ρ):PWL n ops (o::rest) K σ ρ :=
 p6 (p:=p) hg hd hlt (fun κ σ' ρ' g hs hr=>vy) h
theorem zR {ρ':List PRes} (hp:ρ.Perm ρ') (h:PWL n ops rest K σ ρ'):PWL n ops rest K σ ρ:=fun β κ σ' r g hs hr=>by
 obtain ⟨rs',h1,h2⟩:=hr.perm hp
 exact fun hi=>h β κ σ' rs' g hs h2 (hi.perm h1)
theorem qz {c:Bool} {f:Nat} {ags:List Operand} {ts:Array Nat} {pargs:List PV} {r:PV} {r0 r1:PRes} {l0:List PRes} (hg:PGuardIs ops σ o c) (hd:o.dst=some d) (hlt:Nat.blt d n=true) (ho:o.op=.call { callee:=.value (.func f),args:=ags.toArray,argTypes:=ts }) (hp:PPick ρ r0 l0) (ha:c=true→ags.map (bi σ)=pargs) (hc:c=true→PCall f pargs [r0] (fun pv ρ'=>pv=r∧ρ'=[r1])) (hn:c=false→r1=r0) (hw:PWL n ops rest K (eX σ d (pgv c r)) (r1::l0)):PWL n ops (o::rest) K σ ρ:=by
 cases c with
 | true =>
  refine pwl_gT hg hd hlt (ba ho (ha rfl) (ρ1:=[r0]) (ρ2:=l0) hp (hc rfl) ?_)
  rintro _ _ ⟨rfl,rfl⟩
  rw [jx] at hw;exact hw
 | false =>
  have:=hn rfl;subst this
  exact pwl_gF (p:=r) hg hd hlt (zR hp hw)
end
def gdp {α β:Type} [Inhabited α] (c:Bool) (x:Option (α×β)) (m:β):Option (α×β):=cond c x (some (default,m))
theorem gdp_t {α β:Type} [Inhabited α] {c:Bool} {x:Option (α×β)} {m:β} {v:α×β} (h:gdp c x m=some v) (hc:c=true):x=some v:=by subst hc;exact h
theorem gdp_f {α β:Type} [Inhabited α] {c:Bool} {x:Option (α×β)} {m:β} {v:α×β} (h:gdp c x m=some v) (hc:c=false):v.2=m:=by subst hc;simp only [gdp,cT,df] at h;rw [← h]
def zS (by':Nat) (n:Int):Option Unit:=if 0≤n∧by'*n.toNat≤140737488355328∧n.toNat≤140737488355328 then some () else none
theorem vU {o:Oper} {σ:Env} {x:Operand} {t E sz by' n:Nat} {z:Value} {zs:List Value} (hg:o.guard=none) (ho:o.op=.makeSlice t (.const (.int .i64 0)) x) (hx:ev σ x=.int .i64 (n:Int)) (hu:dw t=some (.slice E)) (hi:eE E=some (z,sz,by')) (hz:bw z=zs) (hzl:zs.length=sz) (h0:Nat.blt 0 sz=true) (hb:by'*n≤140737488355328∧n≤140737488355328):LateRun o σ E (List.replicate n zs).flatten (fun b=>.slice (some ⟨b,0,none⟩) 0 n) :=
 ⟨hg,fun w=>by
  obtain ⟨i,hinf,hz0,hsz,hby⟩:=mt hi
  have hr:=run_make (P:=Tryz.prog) w t E i z (bt hu) hinf hz0 .i64 .i64 0 n (by omega) (by omega) (by rw [hby];have:=hb.1;omega) (by omega)
  simp only [Int.toNat_natCast,Int.toNat_zero] at hr
  have hcs:z.cells=zs.toArray:=by rw [← hz,← fM]
  have hsz':z.cells.size=sz:=by rw [hcs];simpa using hzl
  have h0':0<z.cells.size:=by rw [hsz'];have h:=h0;simp [Nat.blt] at h;omega
  rw [hsz,← hsz',wE h0',hcs] at hr
  have e0:ev σ (.const (.int .i64 0))=.int .i64 0:=rfl
  simp only [execOp,ho,hx,e0,Sem.run_bind,hr,Result.andThen_ok,Sem.run_pure]⟩
theorem xU {b T sz m:Nat} {cs:List Value} (hl:cs.length=m*sz) (hm:m≤140737488355328):∀ o,(Res.b b T cs).says o→(Res.row (some ⟨b,0,none⟩) 0 m T sz []).says o:=fun o h=>by
 have ho:o=some (.cells cs.toArray T (0,0)):=h
 exact ⟨rfl,rfl,fun _ h=>(by cases h),Nat.zero_le _,by unfold maxLen;omega,cs.toArray,ho,by simpa using hl,by simp⟩
theorem zT {o:Oper} {σ:PEnv} {ρ:List PRes} {x:Operand} {t T sz by':Nat} {K:PV→List PRes→Prop} {z:Value} {n:Int} {u:Unit} (hg:o.guard=none) (ho:o.op=.makeSlice t (.const (.int .i64 0)) x) (hx:bi σ x=.v (.int .i64 n)) (hu:dw t=some (.slice T)) (hi:eE T=some (z,sz,by')) (hzl:Nat.beq (bw z).length sz=true) (h0:Nat.blt 0 sz=true) (hm:zS by' n=some u)
    (h:∀ b,K (.v (.slice (some ⟨b,0,none⟩) 0 n.toNat)) (.row (some ⟨b,0,none⟩) 0 n.toNat T sz []::ρ)):POpL o σ ρ K:=fun κ σ' ρ' g hs hr=>by
  unfold zS at hm
  split at hm
  · rename_i hb
    obtain ⟨h1,h2,h3⟩:=hb
    have hn:n=((n.toNat:Nat):Int):=by omega
    have hlr:=vU (o:=o) (σ:=σ') (n:=n.toNat) hg ho (by rw [hs.v1 hx,← hn]) hu hi rfl (Nat.eq_of_beq_eq_true hzl) h0 ⟨h2,h3⟩
    intro β hinv Nx hk
    refine wF hlr (K:=fun v ρ1 κ1=>∃ b,v=.slice (some ⟨b,0,none⟩) 0 n.toNat∧ρ1=Res.b b T (List.replicate n.toNat (bw z)).flatten::ρ'∧Kle κ κ1) (fun b κ' hk=>⟨b,rfl,rfl,hk⟩) β hinv Nx fun v ρ1 κ1 g1 g2 g3=>?_
    obtain ⟨b,rfl,rfl,h4⟩:=g3
    have hlen:(List.replicate n.toNat (bw z)).flatten.length=n.toNat * sz:=by simp [Nat.eq_of_beq_eq_true hzl]
    have hv:=g1.view (r':=Res.row (some ⟨b,0,none⟩) 0 n.toNat T sz []) Pick.h rfl (xU hlen h3)
    exact hk _ _ κ1 hv g2 ⟨_,_,.v rfl,.cons (.row (by omega) (fun _ h=>by cases h) .nil) (hr.mono h4),h b⟩
  cases hm
theorem zU {a:Option Addr} {n c T sz k:Nat} {css:List (List Value)} (hk:k≤n):∀ o,(Res.row a n c T sz css).says o→(Res.row a k c T sz (css.take k)).says o:=fun o h=>by
 cases a with
 | none=>obtain ⟨rfl,rfl,rfl⟩:=h;exact ⟨by omega,rfl,by simp⟩
 | some ad =>
  obtain ⟨h1,h2,h3,h4,h5,cur,h6,h7,h8⟩:=h
  refine ⟨h1,by rw [List.length_take];omega,fun cs hcs=>h3 cs (List.mem_of_mem_take hcs),by omega,h5,cur,h6,h7,?_⟩
  have hle:k*sz≤n*sz:=Nat.mul_le_mul_right _ hk
  have e:cur.toList.take (k*sz)=(css.flatten).take (k*sz):=by rw [← h8,List.take_take,Nat.min_eq_left hle]
  rw [e]
  have hw:∀ cs∈css.take k,cs.length=sz:=fun cs hcs=>h3 cs (List.mem_of_mem_take hcs)
  have hl:((css.take k).flatten).length=k*sz:=by rw [dx hw,List.length_take];congr 1;omega
  have hsplit:css.flatten=(css.take k).flatten++(css.drop k).flatten:=by rw [← List.flatten_append,List.take_append_drop]
  rw [hsplit,List.take_append_of_le_length (by omega),List.take_of_length_le (by omega)]
theorem row_blk {a:Option Addr} {n c T sz k:Nat} {css dss:List (List Value)}:(Res.row a k c T sz dss).blk=(Res.row a n c T sz css).blk:=by cases a <;> rfl
theorem r7 {o:Oper} {σ:PEnv} {ρ l:List PRes} {x y:Operand} {t T T2 sz by' n c:Nat} {a:Option Addr} {kd:IntKind} {i:Int} {z:Value} {K:PV→List PRes→Prop} {α:Type} {enc:α→List PV} {xs zs:List α} (ho:o.op=.slice t x none (some y) none) (hu:dw t=some (.slice T)) (hi:eE T=some (z,sz,by')) (hx:bi σ x=.v (.slice a n c)) (hy:bi σ y=.v (.int kd i)) (hp:PPick ρ (.row a n c T2 sz (xs.map enc)) l) (hm:sub xs 0 i=some zs) (h:K (.v (.slice a zs.length c)) (.row a zs.length c T2 sz (zs.map enc)::l)):POpL o σ ρ K:=fun κ σ' ρ' g hs hr β hinv Nx hk=>by
 obtain ⟨⟨h0,h1,h2⟩,hz⟩:=fE hm
 have hz:zs=xs.take i.toNat:=by rw [hz];rfl
 obtain ⟨r,l',k1,k2,k3⟩:=hr.pick hp
 cases k2 with
 | row hb ho1 hc =>
  rename_i dss
  have hi2:=hinv.perm k1
  have hown:=fD (hi2.own (Res.row a n c T2 sz dss) (by simp))
  have hl:xs.length=n:=by have e:=hc.len;rw [List.length_map] at e;omega
  have hcap:n≤c:=by
   have hh:=hi2.own (Res.row a n c T2 sz dss) (by simp)
   cases a with
   | none=>obtain ⟨e1,e2,_⟩:=hh;omega
   | some ad=>exact hh.2.2.2.1
  have hq:OpQ true o σ' ρ' κ (.slice a i.toNat c):=mM (c:=true) (k:=i.toNat) ho hu hi (.p (hs.v1 hx)) (.p (hs.v1 hy)) (fun _=>by omega) (fun _=>by omega)
  have hzl:zs.length=i.toNat:=by rw [hz,List.length_take];omega
  have hv:=hinv.view (r':=Res.row a i.toNat c T2 sz (dss.take i.toNat)) k1 row_blk (zU (by omega))
  rw [hq rfl κ.w hinv.stab]
  refine hk _ (Res.row a i.toNat c T2 sz (dss.take i.toNat)::l') κ hv (.refl _) ⟨.v (.slice a zs.length c),.row a zs.length c T2 sz (zs.map enc)::l,by rw [hzl];exact .v rfl,.cons ?_ k3,h⟩
  rw [hzl]
  refine .row (by omega) (fun d hd=>ho1 d (List.mem_of_mem_take hd)) ?_
  rw [hz,List.map_take]
  exact hc.take _
abbrev pQ (a:Option Addr) (n c k sz:Nat):PV:=.v (.slice (if c=k then a else a.map (·.add (k*sz))) (n - k) (c - k))
section
variable {o:Oper} {σ:PEnv} {ρ ρ':List PRes} {x y:Operand} {t T T2 sz by' n c:Nat} {a:Option Addr} {kd:IntKind} {i j:Int} {z:Value} {α:Type} {enc:α→List PV} {xs zs:List α} {m:α} {K:PV→List PRes→Prop}
theorem ln (ho:o.op=.slice t x (some y) none none) (hu:dw t=some (.slice T)) (hi:eE T=some (z,sz,by')) (hx:bi σ x=.v (.slice a n c)) (hy:bi σ y=.v (.int kd i)) (hm2:PRes.row a n c T2 sz (xs.map enc)∈ρ) (hm:sub xs i (xs.length:Int)=some zs):POpQ true o σ ρ (pQ a n c i.toNat sz):=fun κ σ' ρ' g hs hrr=>by
 obtain ⟨⟨h0,h1,h2⟩,_⟩:=fE hm
 refine ⟨_,fun _=>.v rfl,fun _ w hst=>?_⟩
 obtain ⟨r,hr1,hr2⟩:=hrr.mem hm2
 cases hr2 with
 | row hb ho1 hc =>
  have hl:xs.length=n:=by have e1:=(fD (hst.own _ hr1)).2.1;have e2:=hc.len;rw [List.length_map] at e2;omega
  exact pZ (c:=true) (ρ:=ρ') (κ:=κ) (k:=i.toNat) ho hu hi (.p (hs.v1 hx)) (.p (hs.v1 hy)) (fun _=>by omega) (fun _=>by omega) rfl w hst
theorem wS {B k sz c n:Nat} (h:k<n) (hc:n≤c):(if c=k then some (⟨B,0,none⟩:Addr) else (some (⟨B,0,none⟩:Addr)).map (·.add (k*sz)))=some ⟨B,k*sz,none⟩:=by
 rw [if_neg (by omega)]
 simp only [Option.map_some,Addr.add,df]
 split
 ·rename_i e;rw [e]
 simp
theorem wT {a:Option Addr} {n c T sz:Nat} {css:List (List Value)} {w:World} (h:(Res.row a n c T sz css).holds w):n≤c:=by
 cases a with
 | none=>obtain ⟨e1,e2,_⟩:=h;omega
 | some ad=>exact h.2.2.2.1
theorem im (ho:o.op=.indexAddr t x y) (hu:dw t=some (.slice T)) (hi:eE T=some (z,sz,by')) (hx:bi σ x=pQ a n c i.toNat sz) (hy:bi σ y=.v (.int kd j)) (hi0:0≤i) (hj:0≤j) (hm2:PRes.row a n c T2 sz (xs.map enc)∈ρ) (hm:idx xs (i+j)=some m):POpQ true o σ ρ (.v (.pointer (some ⟨qe a,(i+j).toNat * sz,none⟩))):=fun κ σ' ρ' g hs hrr=>by
 refine ⟨_,fun _=>.v rfl,fun _ w hst=>?_⟩
 obtain ⟨h0,hmm⟩:=iJ hm
 have hlt:=(List.getElem?_eq_some_iff.1 hmm).1
 obtain ⟨r,hr1,hr2⟩:=hrr.mem hm2
 cases hr2 with
 | row hb ho1 hc2 =>
  have hw:=hst.own _ hr1
  have hn:xs.length=n:=by have e1:=(fD hw).2.1;have e2:=hc2.len;rw [List.length_map] at e2;omega
  have ha:=ky hw (by omega)
  have hcap:=wT hw
  have e1:ev σ' x=.slice (some ⟨qe a,i.toNat * sz,none⟩) (n - i.toNat) (c - i.toNat):=by
   rw [hs.v1 hx]
   generalize qe a=B at ha ⊢
   subst ha
   rw [wS (n:=n) (by omega) hcap]
  have h:=nq (c:=true) (ρ:=ρ') (κ:=κ) (j:=j.toNat) ho hu hi (fun _=>e1) (fun _=>hs.v1 hy) (fun _=>by omega) (fun _=>by omega) rfl w hst
  have e:i.toNat * sz+j.toNat * sz=(i+j).toNat * sz:=by rw [← Nat.add_mul];congr 1;omega
  rwa [e] at h
theorem zc_flat {z:Value} {sz m:Nat} (h0:0<sz) (hz:(bw z).length=sz):(Builtin.zeroCells z.cells m).toList=(List.replicate m (bw z)).flatten:=by
 have hsz:z.cells.size=sz:=by rw [← hz,← fM];simp
 have:=wE (z:=z.cells) (n:=m) (by omega)
 show (madeCells z.cells (m*z.cells.size)).toList=_
 rw [this,fM]
theorem r8 {z0:α} (ho:o.op=.call { callee:=.builtin .clear,args:=#[x],argTypes:=#[t] }) (hu:dw t=some (.slice T)) (hi:eE T=some (z,sz,by')) (hx:bi σ x=pQ a n c i.toNat sz) (hm:sub xs i (xs.length:Int)=some zs) (hzc:enc z0=vB z) (hz1:(bw z).all Value.oneCell'=true) (hzl:Nat.beq (bw z).length sz=true) (h0:Nat.blt 0 sz=true) (hp:PUpd ρ (.row a n c T2 sz (xs.map enc)) (.row a n c T2 sz ((xs.take i.toNat++List.replicate (n - i.toNat) z0).map enc)) ρ') (h:K (.tup []) ρ'):POpL o σ ρ K:=fun κ σ' rr g hs hr β hinv Nx hkk=>by
 obtain ⟨⟨hi0,hi1,hi2⟩,_⟩:=fE hm
 generalize hkk':i.toNat=k at *
 have hsz0:0<sz:=by have:=h0;simp [Nat.blt] at this;omega
 have hzlen:=Nat.eq_of_beq_eq_true hzl
 have hr0:=hr
 obtain ⟨r0,l1,l2,rfl,h4,h5⟩:=hr.upd hp
 cases h4 with
 | row hb ho1 hc =>
  rename_i dss
  have hw:=hinv.own (Res.row a n c T2 sz dss) (by simp)
  have hdl:dss.length=n:=(fD hw).2.1
  have hdw:=(fD hw).2.2
  have hxl:xs.length=n:=by have e:=hc.len;rw [List.length_map] at e;omega
  have hcap:=wT hw
  have e1:ev σ' x=_:=hs.v1 hx
  have hun:=run_underlying (w:=κ.w) (bt hu)
  have fin:∀ κ',Kle κ κ'→RRel κ' (.row a n c T2 sz ((xs.take k++List.replicate (n - k) z0).map enc)) (Res.row a n c T2 sz (dss.take k++List.replicate (n - k) (bw z))):=fun κ' hk'=>by
   refine .row hb (fun d hd=>?_) ?_
   ·rcases List.mem_append.1 hd with hd | hd
    ·exact ho1 d (List.mem_of_mem_take hd)
    rw [(List.mem_replicate.1 hd).2];exact fun u hu=>List.all_eq_true.1 hz1 u hu
   rw [List.map_append,List.map_take,List.map_replicate]
   refine ((hc.take k).app ?_).mono hk'
   rw [hzc]
   generalize n - k=q
   induction q with
   | zero=>exact .nil
   | succ q ih=>rw [List.replicate_succ,List.replicate_succ];exact .cons (ij _) ih
  rcases Nat.eq_zero_or_pos (n - k) with hz | hz
  ·have hkn:k=n:=by omega
   have hrun:(execOp (ev σ') o).run Tryz.prog κ.w=.ok (.value (.tuple #[])) κ.w:=by
    rw [show n - k=0 from hz] at e1
    unfold execOp
    simp only [ho,resolve,Sem.run_bind,Sem.run_pure,Result.andThen_ok,invoke,builtin,List.map_toArray,Array.map,e1]
    generalize (if c=k then a else a.map (·.add (k*sz)))=q at e1
    cases q <;> simp [Builtin.clear_,hun,e1]
   rw [hrun]
   have e2:dss.take k++List.replicate (n - k) (bw z)=dss:=by rw [hz,hkn,← hdl];simp
   have:=fin κ (.refl _)
   rw [e2] at this
   exact hkk _ _ κ hinv (.refl _) ⟨.tup [],ρ',.tup (ws:=[]) .nil,h5 κ _ (.refl _) this,h⟩
  have ha:=ky hw (by omega)
  generalize qe a=B at ha
  subst ha
  rw [wS (n:=n) (by omega) hcap] at e1
  obtain ⟨g0,g1,g2,g3,g4,cur,g5,g6,g7⟩:=hw
  have hbk:κ.w.heap[B]?=some (.cells cur.toList.toArray T2 (0,0)):=by simpa using g5
  have hfl:((List.replicate (n - k) (bw z)).flatten).length=(n - k)*sz:=by simp [hzlen]
  have hmul:k*sz+(n - k)*sz=n*sz:=by rw [← Nat.add_mul];congr 1;omega
  have hnc:n*sz≤c*sz:=Nat.mul_le_mul_right _ g3
  have hone:((List.replicate (n - k) (bw z)).flatten).all Value.oneCell'=true:=by
   rw [List.all_eq_true];intro u hu
   obtain ⟨d,hd,hu⟩:=List.mem_flatten.1 hu
   rw [(List.mem_replicate.1 hd).2] at hu
   exact List.all_eq_true.1 hz1 u hu
  obtain ⟨w',hrun,q1,q2,q3,q4,q5,q6⟩:=kg (off:=k*sz) (vs:=(List.replicate (n - k) (bw z)).flatten) hbk (by simp only [Array.length_toList,g6,hfl];omega) hone
  have hzc2:=zc_flat (z:=z) (m:=n - k) hsz0 hzlen
  have hrun2:(execOp (ev σ') o).run Tryz.prog κ.w=.ok (.value (.tuple #[])) w':=by
   obtain ⟨q,hq⟩:∃ q,n - k=q+1:=⟨n - k - 1,by omega⟩
   rw [hq] at e1 hrun hzc2
   unfold execOp
   simp only [ho,resolve,Sem.run_bind,Sem.run_pure,Result.andThen_ok,invoke,builtin,List.map_toArray,Array.map,e1]
   simp [Builtin.clear_,hun,e1,dt hi,hzc2,hrun]
  rw [hrun2]
  have hsays:(Res.row (some ⟨B,0,none⟩) n c T2 sz (dss.take k++List.replicate (n - k) (bw z))).says w'.heap[B]?:=by
   refine ⟨rfl,by simp [List.length_take];omega,fun d hd=>?_,g3,g4,_,q3,?_,?_⟩
   ·rcases List.mem_append.1 hd with hd | hd
    ·exact g2 d (List.mem_of_mem_take hd)
    rw [(List.mem_replicate.1 hd).2];exact hzlen
   ·simp only [List.size_toArray,List.length_append,List.length_take,List.length_drop,Array.length_toList,g6,hfl];omega
   have hA:(List.take (k*sz) cur.toList).length=k*sz:=by rw [List.length_take,Array.length_toList,g6];omega
   rw [List.toList_toArray,List.take_left' (by rw [List.length_append,hA,hfl];exact hmul)]
   rw [List.flatten_append]
   congr 1
   have hw2:∀ d∈dss.take k,d.length=sz:=fun d hd=>g2 d (List.mem_of_mem_take hd)
   have hl2:((dss.take k).flatten).length=k*sz:=by rw [dx hw2,List.length_take];congr 1;omega
   have:List.take (k*sz) cur.toList=List.take (k*sz) (List.take (n*sz) cur.toList):=by rw [List.take_take,Nat.min_eq_left (by omega)]
   rw [this,g7]
   have hsplit:dss.flatten=(dss.take k).flatten++(dss.drop k).flatten:=by rw [← List.flatten_append,List.take_append_drop]
   rw [hsplit,List.take_append_of_le_length (by omega),List.take_of_length_le (by omega)]
  obtain ⟨hi',hk'⟩:=hinv.turn (r:=Res.row (some ⟨B,0,none⟩) n c T2 sz dss) (r':=Res.row (some ⟨B,0,none⟩) n c T2 sz (dss.take k++List.replicate (n - k) (bw z))) rfl rfl rfl q1 q2 hsays q4 q5 q6 (kr _ _ _ _ _ hrun)
  exact hkk _ _ _ hi' hk' ⟨.tup [],ρ',.tup (ws:=[]) .nil,h5 _ _ hk' (fin _ hk'),h⟩
end
section
variable {α:Type} (lt:α→α→Bool)
def ins (x:α):List α→List α
 | []=>[x]
 | y::l=>cond (lt y x) (y::ins x l) (x::y::l)
def iK:List α→List α
 | []=>[]
 | x::l=>ins lt x (iK l)
variable {lt}
theorem qA {x:α}:∀ {l:List α},(ins lt x l).Perm (x::l)
 | []=>List.Perm.refl _
 | y::l=>by
  unfold ins
  cases lt y x
  ·exact List.Perm.refl _
  exact (List.Perm.cons y qA).trans (List.Perm.swap x y l)
theorem ip:∀ {l:List α},(iK lt l).Perm l
 | []=>List.Perm.refl _
 | x::l=>qA.trans (List.Perm.cons x ip)
theorem qB (htr:∀ x y z,lt x y=true→lt y z=true→lt x z=true) (hnt:∀ x y z,lt x y=false→lt y z=false→lt x z=false) (hir:∀ x,lt x x=false) {x:α}:∀ {l:List α},l.Pairwise (fun a b=>lt b a=false)→(ins lt x l).Pairwise (fun a b=>lt b a=false)
 | [],_=>List.pairwise_singleton _ _
 | y::l,h=>by
  unfold ins
  obtain ⟨h1,h2⟩:=List.pairwise_cons.1 h
  have asym:∀ a b,lt a b=true→lt b a=false:=fun a b hab=>by
   cases hba:lt b a
   ·rfl
   have:=htr a b a hab hba;rw [hir] at this;cases this
  cases hy:lt y x
  ·refine List.pairwise_cons.2 ⟨fun z hz=>?_,h⟩
   rcases List.mem_cons.1 hz with rfl | hz
   ·exact hy
   exact hnt z y x (h1 z hz) hy
  refine List.pairwise_cons.2 ⟨fun z hz=>?_,qB htr hnt hir h2⟩
  rcases List.mem_cons.1 (qA.mem_iff.1 hz) with rfl | hz
  ·exact asym y z hy
  exact h1 z hz
theorem jf (htr:∀ x y z,lt x y=true→lt y z=true→lt x z=true) (hnt:∀ x y z,lt x y=false→lt y z=false→lt x z=false) (hir:∀ x,lt x x=false):∀ (l:List α),(iK lt l).Pairwise (fun a b=>lt b a=false)
 | []=>List.Pairwise.nil
 | x::l=>qB htr hnt hir (jf htr hnt hir l)
theorem lQ (ha:∀ x y,lt x y=false→lt y x=false→x=y):∀ {l m:List α},l.Pairwise (fun a b=>lt b a=false)→m.Pairwise (fun a b=>lt b a=false)→l.Perm m→l=m
 | [],m,_,_,hp=>(List.nil_perm.1 hp).symm
 | x::l,m,h1,h2,hp=>by
  obtain ⟨g1,g2⟩:=List.pairwise_cons.1 h1
  match m,h2,hp with
  | [],_,hp=>exact absurd (List.perm_nil.1 hp) (by simp)
  | y::m,h2,hp =>
   obtain ⟨k1,k2⟩:=List.pairwise_cons.1 h2
   have hxy:x=y:=by
    have hx:x∈y::m:=hp.mem_iff.1 (by simp)
    have hy:y∈x::l:=hp.mem_iff.2 (by simp)
    rcases List.mem_cons.1 hx with e | hx
    ·exact e
    rcases List.mem_cons.1 hy with e | hy
    ·exact e.symm
    exact ha x y (k1 x hx) (g1 y hy)
   subst hxy
   rw [lQ ha g2 k2 ((List.perm_cons x).1 hp)]
end
theorem nT {α β:Type} {x:Option α} {f:α→Option β} {a:α} (h:x=some a):x.bind f=f a:=by rw [h];rfl
theorem cg {r:Int} (h1 : -9223372036854775808≤r) (h2:r≤9223372036854775807):IntKind.i64.wrap r=r:=tS ⟨h1,h2⟩
theorem u64s {r:Int} (h1:0≤r) (h2:r≤18446744073709551615):IntKind.u64.wrap r=r:=by simp [IntKind.wrap,IntKind.signed,IntKind.bits];omega
theorem iM {n:Nat} (h:n≤1267650600228229401496703205000):n<FUEL:=Nat.lt_of_le_of_lt h (by unfold FUEL;omega)
theorem bh {α:Type} {xs:List α} {k:Nat} (h:k<xs.length):idx xs (k:Int)=some xs[k]:=by
 unfold idx;rw [if_pos (by omega)];simp [h]
theorem fF {α:Type} [Inhabited α] {x:Option α}:gd true x=x:=rfl
theorem lR {α:Type} [Inhabited α] {x:Option α}:gd false x=some default:=rfl
theorem uJ {α:Type} {l:List α} {k:Nat} (h:0<k) (hk:k<l.length) (hl:l.length≤4611686018427387904):idx l (IntKind.i64.wrap ((k:Int) - 1))=some (l[k - 1]'(by omega)):=by
 rw [cg (by omega) (by omega),show (k:Int) - 1=((k - 1:Nat):Int) by omega]
 exact bh (by omega)
theorem dq {k:Nat} {n:Nat} (hk:k<n) (hn:n≤4611686018427387904):IntKind.i64.wrap ((k:Int)+1)=((k+1:Nat):Int):=by rw [cg (by omega) (by omega)];omega
theorem lp {k n:Nat} (h:k<n):decide ((k:Int)<(n:Int))=true:=by simp;omega
theorem fu (n:Nat):decide ((n:Int)<(n:Int))=false:=by simp
theorem d0k {k:Nat}:decide ((0:Int)<(k:Int))=decide (0<k):=by by_cases h:0<k <;> simp [h] <;> omega
theorem dy {α:Type} {by':Nat} {xs ys:List α} (h:(xs.length+ys.length)*by'≤140737488355328) (h2:xs.length+ys.length≤140737488355328):app by' xs ys=some (xs++ys):=by unfold app;rw [if_pos ⟨h,h2⟩]
theorem lq {α:Type} {xs:List α} {a b:Nat} (h:a≤b) (h2:b≤xs.length):sub xs (a:Int) (b:Int)=some ((xs.take b).drop a):=by
 unfold sub;rw [if_pos (by omega)];simp
theorem wU {α:Type} (l:List α) (n:Int) (hn:0≤n):sub l 0 (mO (l.length:Int) n)=some (l.take n.toNat):=by
 unfold sub
 have:mO (l.length:Int) n=((min l.length n.toNat:Nat):Int):=by unfold mO;split <;> omega
 rw [this,if_pos (by omega)];simp [Nat.min_comm]
theorem zV {b:Nat} {n:Nat} (h:b*n≤140737488355328) (h2:n≤140737488355328):zS b (n:Int)=some ():=by unfold zS;rw [if_pos (by simp;omega)]
theorem zW {b:Int} (h:b≠0):nz b=some ():=by unfold nz;rw [if_neg h]
def bindR {A B R:Type} (p:A⊕R) (g:A→B⊕R):B⊕R:=match p with | .inl a=>g a | .inr r=>.inr r
def run {α A R:Type} (f:Nat→α→A→A⊕R):List α→Nat→A→A⊕R
 | [],_,a=>.inl a
 | x::xs,k,a=>bindR (f k x a) (fun a'=>run f xs (k+1) a')
theorem kA {α A R:Type} (f:Nat→α→A→A⊕R) (x:α) (xs:List α) (k:Nat) (a:A):run f (x::xs) k a=bindR (f k x a) (run f xs (k+1)):=rfl
def xV {S T A R:Type} (g:A→S) (e:R→T):A⊕R→S⊕T
 | .inl a=>.inl (g a)
 | .inr r=>.inr (e r)
def tj {T A R:Type} (g:A→T) (e:R→T):A⊕R→T
 | .inl a=>g a
 | .inr r=>e r
theorem uK {S T α A R:Type} {l:List α} (hl:l.length≤4611686018427387904) {body:S→Option (S⊕T)} (pack:Int→A→S) (f:Nat→α→A→A⊕R) (fin:A→T) (exit:R→T) (P:Nat→A→Prop)
    (hstep:∀ (k:Nat) (hk:k<l.length) (a:A),P k a→body (pack (k:Int) a)=some (xV (pack ((k+1:Nat):Int)) exit (f k l[k] a))∧∀ a',f k l[k] a=.inl a'→P (k+1) a')
    (hend:∀ a,P l.length a→body (pack (l.length:Int) a)=some (.inr (fin a))) (a:A) (h0:P 0 a):bf body FUEL (pack 0 a)=some (tj fin exit (run f l 0 a))∧∀ a',run f l 0 a=.inl a'→P l.length a':=by
  have main:∀ (xs:List α) (k N:Nat) (a:A),l.drop k=xs→k≤l.length→P k a→xs.length<N→bf body N (pack (k:Int) a)=some (tj fin exit (run f xs k a))∧∀ a',run f xs k a=.inl a'→P l.length a':=by
    intro xs
    induction xs with
    | nil =>
      intro k N a hd hk hp hN
      have:k=l.length:=by
        have:=congrArg List.length hd;simp at this;omega
      subst this
      obtain ⟨N,rfl⟩:∃ M,N=M+1:=⟨N - 1,by omega⟩
      rw [ik,hend a hp]
      exact ⟨rfl,fun a' h=>by injection h with h;exact h ▸ hp⟩
    | cons x xs ih =>
      intro k N a hd hk hp hN
      have hk':k<l.length:=by
        have:=congrArg List.length hd;simp at this;omega
      have hx:l[k]=x∧l.drop (k+1)=xs:=by
        rw [List.drop_eq_getElem_cons hk'] at hd;injection hd with h1 h2;exact ⟨h1,h2⟩
      obtain ⟨N,rfl⟩:∃ M,N=M+1:=⟨N - 1,by omega⟩
      obtain ⟨e1,e2⟩:=hstep k hk' a hp
      rw [hx.1] at e1 e2
      rw [ik,e1]
      rw [kA]
      cases hf:f k x a with
      | inl a'=>exact ih (k+1) N a' hx.2 (by omega) (e2 a' hf) (by simp at hN;omega)
      | inr r=>exact ⟨rfl,fun a' h=>by change Sum.inr r=_ at h;cases h⟩
  exact main l 0 FUEL a rfl (by omega) h0 (iM (by omega))
theorem lS {S T α A R β:Type} {l:List α} (hl:l.length≤4611686018427387904) {body:S→Option (S⊕T)} {k:T→Option β} (pack:Int→A→S) (f:Nat→α→A→A⊕R) (fin:A→T) (exit:R→T) (P:Nat→A→Prop) (a:A) (h0:P 0 a)
    (hstep:∀ (k:Nat) (hk:k<l.length) (a:A),P k a→body (pack (k:Int) a)=some (xV (pack ((k+1:Nat):Int)) exit (f k l[k] a))∧∀ a',f k l[k] a=.inl a'→P (k+1) a')
    (hend:∀ a,P l.length a→body (pack (l.length:Int) a)=some (.inr (fin a))):Option.bind (bf body FUEL (pack 0 a)) k=k (tj fin exit (run f l 0 a)):=nT (uK hl pack f fin exit P hstep hend a h0).1
def dX {α T:Type} (g:Nat→α→Option T):List α→Nat→Option T
 | [],_=>none
 | x::xs,k=>match g k x with | some t=>some t | none=>dX g xs (k+1)
def outg {T:Type} (k:Nat):Option T→Int⊕T
 | some t=>.inr t
 | none=>.inl ((k+1:Nat):Int)
theorem dF {T α β:Type} {l:List α} (hl:l.length≤4611686018427387904) {body:Int→Option (Int⊕T)} {k:T→Option β} (g:Nat→α→Option T) (e:T)
    (hstep:∀ (k:Nat) (hk:k<l.length),body (k:Int)=some (outg k (g k l[k]))) (hend:body (l.length:Int)=some (.inr e)):Option.bind (bf body FUEL 0) k=k ((dX g l 0).getD e):=by
  refine (lS hl (fun i (_:Unit)=>i) (fun k x _=>match g k x with | some t=>.inr t | none=>.inl ()) (fun _=>e) (fun (t:T)=>t) (fun _ _=>True) () trivial (fun k hk a _=>⟨by
    rw [hstep k hk];cases g k l[k] <;> rfl,fun _ _=>trivial⟩) (fun a _=>hend)).trans ?_
  congr 1
  generalize 0=i
  induction l generalizing i with
  | nil=>rfl
  | cons x xs ih =>
    clear hstep hend
    have ih2:∀ j,tj (fun _=>e) (fun t=>t) (run (fun k x (_:Unit)=>match g k x with | some t=>Sum.inr t | none=>Sum.inl ()) xs j ())=(dX g xs j).getD e:=by
      clear ih hl
      induction xs with
      | nil=>intro j;rfl
      | cons y ys ih=>intro j;rw [kA,dX];cases g j y with | some t=>rfl | none=>exact ih (j+1)
    rw [kA,dX]
    cases g i x with
    | some t=>rfl
    | none=>exact ih2 (i+1)
theorem od {α T:Type} (p:α→Bool) (t:T):∀ (l:List α) (k:Nat),dX (fun _ x=>cond (p x) (some t) none) l k=cond (l.any p) (some t) none
 | [],_=>rfl
 | x::xs,k=>by
  rw [dX,List.any_cons,od p t xs]
  cases p x <;> rfl
theorem r9 {α T:Type} (p:α→Bool) (t:T):∀ (l:List α) (k:Nat),dX (fun _ x=>cond (p x) none (some t)) l k=cond (l.all p) none (some t)
 | [],_=>rfl
 | x::xs,k=>by
  rw [dX,List.all_cons,r9 p t xs]
  cases p x <;> rfl
theorem iq {α T:Type} (p:α→Bool) (f:α→T):∀ (l:List α) (k:Nat),dX (fun _ x=>cond (p x) (some (f x)) none) l k=(l.find? p).map f
 | [],_=>rfl
 | x::xs,k=>by
  rw [dX,List.find?_cons,iq p f xs]
  cases p x <;> rfl
theorem jG {α T:Type} {g:Nat→α→Option T}:∀ {l:List α} {k:Nat},dX g l k=none↔∀ i x,l[i]?=some x→g (k+i) x=none
 | [],k=>by simp [dX]
 | x::xs,k=>by
  rw [dX]
  constructor
  ·intro h i y hy
   cases hg:g k x with
   | some t=>rw [hg] at h;cases h
   | none =>
    rw [hg] at h
    cases i with
    | zero=>simp at hy;subst hy;exact hg
    | succ i=>have:=jG.1 h i y (by simpa using hy);rw [show k+(i+1)=k+1+i by omega];exact this
  intro h
  have h0:=h 0 x rfl
  rw [Nat.add_zero] at h0
  rw [h0]
  exact jG.2 fun i y hy=>by have:=h (i+1) y (by simpa using hy);rw [show k+1+i=k+(i+1) by omega];exact this
theorem dZ {S T α A β:Type} {l:List α} (hl:l.length≤4611686018427387904) {body:S→Option (S⊕T)} {k:T→Option β} (pack:Int→A→S) (f:A→α→A) (fin:A→T) (P:Nat→A→Prop) (a:A) (h0:P 0 a)
    (hstep:∀ (k:Nat) (hk:k<l.length) (a:A),P k a→body (pack (k:Int) a)=some (.inl (pack ((k+1:Nat):Int) (f a l[k])))∧P (k+1) (f a l[k]))
    (hend:∀ a,P l.length a→body (pack (l.length:Int) a)=some (.inr (fin a))):Option.bind (bf body FUEL (pack 0 a)) k=k (fin (l.foldl f a))∧P l.length (l.foldl f a):=by
  have e:=uK hl pack (fun _ x a=>(.inl (f a x):A⊕Empty)) fin (fun r=>nomatch r) P (fun k hk a hp=>⟨(hstep k hk a hp).1,fun a' h=>by injection h with h;exact h ▸ (hstep k hk a hp).2⟩) hend a h0
  have e2:∀ (xs:List α) (i:Nat) (b:A),run (fun _ x a=>(.inl (f a x):A⊕Empty)) xs i b=.inl (xs.foldl f b):=by
    intro xs
    induction xs with
    | nil=>intro i b;rfl
    | cons x xs ih=>intro i b;rw [kA,List.foldl_cons];exact ih _ _
  rw [e2] at e
  exact ⟨nT e.1,e.2 _ rfl⟩
theorem iB {α:Type} {l:List α} {k:Nat} (h:k<l.length) (d:α):l.getD k d=l[k]:=by simp [List.getD,h]
theorem u8tri (a b:UInt8):a<b∨a=b∨b<a:=by
 rcases Nat.lt_trichotomy a.toNat b.toNat with h | h | h
 ·exact .inl h
 ·exact .inr (.inl (UInt8.toNat_inj.1 h))
 exact .inr (.inr h)
theorem sa:∀ (x y:List UInt8),(Op.bytesLess x y||(x == y)) = !Op.bytesLess y x
 | [],[]=>by simp [Op.bytesLess]
 | _::_,[]=>by simp [Op.bytesLess]
 | [],_::_=>by simp [Op.bytesLess]
 | a::x,b::y=>by
  rw [Op.bytesLess,Op.bytesLess]
  have ih:=sa x y
  rcases u8tri a b with h | h | h
  ·have h1:¬ b<a:=fun h'=>by have:a.toNat<b.toNat:=h;have:b.toNat<a.toNat:=h';omega
   have h2:¬ b=a:=fun h'=>by subst h';have:b.toNat<b.toNat:=h;omega
   have h3:¬ a=b:=fun h'=>h2 h'.symm
   simp [h,h1,h2]
  ·subst h
   have h1:¬ a<a:=fun h'=>by have:a.toNat<a.toNat:=h';omega
   simp [h1] at ih ⊢
   rw [← ih]
  have h1:¬ a<b:=fun h'=>by have:a.toNat<b.toNat:=h';have:b.toNat<a.toNat:=h;omega
  have h3:¬ a=b:=fun h'=>by subst h';have:a.toNat<a.toNat:=h;omega
  simp [h,h1,h3]
theorem str_ext {x y:ByteArray}:x=y↔x.data.toList=y.data.toList:=by
 constructor
 ·rintro rfl;rfl
 intro h;cases x;cases y;congr 1;exact Array.toList_inj.1 h
theorem wV (x y:ByteArray):(Op.bytesLess x.toList y.toList||decide (x=y)) = !Op.bytesLess y.toList x.toList:=by
 rw [← sD];exact sa _ _
structure Za where
 Product:Int
 Agreement:Int
 deriving Inhabited,DecidableEq
def Za.enc (m:Za):List PV:=[pI m.Product,pI m.Agreement]
def Za.eqb (a b:Za):Bool:=((a.Product == b.Product)&&((a.Agreement == b.Agreement)&&true))
theorem Za.eqb_iff {a b:Za}:Za.eqb a b=true↔a=b:=by cases a;cases b;simp [Za.eqb]
theorem Za.eqok28:EqOk 28 [0,0]:=⟨by kernel_rfl,by kernel_rfl,by kernel_rfl,by kernel_rfl⟩
structure Zi where
 Code:ByteArray
 Value:Int
 Originating:Bool
 deriving Inhabited,DecidableEq
def Zi.enc (m:Zi):List PV:=[pS m.Code,pI m.Value,pB m.Originating]
def Zi.eqb (a b:Zi):Bool:=((decide (a.Code=b.Code))&&((a.Value == b.Value)&&((a.Originating == b.Originating)&&true)))
theorem Zi.eqb_iff {a b:Zi}:Zi.eqb a b=true↔a=b:=by cases a;cases b;simp [Zi.eqb]
theorem Zi.eqok103:EqOk 103 [2,0,1]:=⟨by kernel_rfl,by kernel_rfl,by kernel_rfl,by kernel_rfl⟩
structure Zp where
 Code:ByteArray
 Price:Int
 Obtained:Bool
 Processes:(List ByteArray)
 Inputs:(List Zi)
 deriving Inhabited,DecidableEq
def Zp.enc (m:Zp):List PV:=[pS m.Code,pI m.Price,pB m.Obtained,pL eS m.Processes,pL Zi.enc m.Inputs]
structure Zu where
 Claim:Za
 Path:(List Int)
 Premises:(List Za)
 deriving Inhabited,DecidableEq
def Zu.enc (m:Zu):List PV:=[pI m.Claim.Product,pI m.Claim.Agreement,pL eI m.Path,pL Za.enc m.Premises]
structure Zh where
 L:(List Int)
 I:Int
 deriving Inhabited,DecidableEq
def Zh.enc (m:Zh):List PV:=[pL eI m.L,pI m.I]
structure Zg where
 Product:Int
 Value:Int
 deriving Inhabited,DecidableEq
def Zg.enc (m:Zg):List PV:=[pI m.Product,pI m.Value]
def Zg.eqb (a b:Zg):Bool:=((a.Product == b.Product)&&((a.Value == b.Value)&&true))
theorem Zg.eqb_iff {a b:Zg}:Zg.eqb a b=true↔a=b:=by cases a;cases b;simp [Zg.eqb]
structure Ze where
 ID:Int
 Code:ByteArray
 Country:ByteArray
 Price:Int
 Obtained:Bool
 Processes:(List ByteArray)
 Inputs:(List Zg)
 deriving Inhabited,DecidableEq
def Ze.enc (m:Ze):List PV:=[pI m.ID,pS m.Code,pS m.Country,pI m.Price,pB m.Obtained,pL eS m.Processes,pL Zg.enc m.Inputs]
structure Zd where
 Kind:Int
 Digits:Int
 Except:(List ByteArray)
 Tolerance:Int
 Limit:Int
 Name:ByteArray
 Args:(List Zd)
 deriving Inhabited
mutual
def Zd.enc:Zd→List PV
 | ⟨Kind0,Digits0,Except0,Tolerance0,Limit0,Name0,Args0⟩=>[pI Kind0,pI Digits0,pL eS Except0,pI Tolerance0,pI Limit0,pS Name0,.slc Args0.length (Zd.encs Args0)]
def Zd.encs:List Zd→List (List PV)
 | []=>[]
 | r::l=>r.enc::Zd.encs l
end
theorem Zd.encs_eq:∀ (l:List Zd),Zd.encs l=List.map Zd.enc l
 | []=>by rw [Zd.encs];rfl
 | r::l=>by rw [Zd.encs,Zd.encs_eq l];rfl
theorem Zd.enc_eq (m:Zd):m.enc=[pI m.Kind,pI m.Digits,pL eS m.Except,pI m.Tolerance,pI m.Limit,pS m.Name,pL Zd.enc m.Args]:=by cases m;rw [Zd.enc,Zd.encs_eq]
structure Zf where
 Prefix:ByteArray
 Rule:Zd
 deriving Inhabited
def Zf.enc (m:Zf):List PV:=[pS m.Prefix,pI m.Rule.Kind,pI m.Rule.Digits,pL eS m.Rule.Except,pI m.Rule.Tolerance,pI m.Rule.Limit,pS m.Rule.Name,pL Zd.enc m.Rule.Args]
structure Zb where
 ID:Int
 Kind:Int
 Parties:(List ByteArray)
 Rules:(List Zf)
 deriving Inhabited
def Zb.enc (m:Zb):List PV:=[pI m.ID,pI m.Kind,pL eS m.Parties,pL Zf.enc m.Rules]
structure Zq where
 partners:(List Int)
 set_:(List (Za×Bool))
 deriving Inhabited
structure Zn where
 use:Zi
 premise:Za
 deriving Inhabited,DecidableEq
def Zn.enc (m:Zn):List PV:=[pS m.use.Code,pI m.use.Value,pB m.use.Originating,pI m.premise.Product,pI m.premise.Agreement]
structure Zs where
 claims:(List (Za×Bool))
 deriving Inhabited
structure Zv where
 known:Zs
 plan:(List Ze)
 list:(List Zb)
 importer:ByteArray
 deriving Inhabited
structure Zt where
 claim:Za
 rule:Zd
 deriving Inhabited
def Zt.enc (m:Zt):List PV:=[pI m.claim.Product,pI m.claim.Agreement,pI m.rule.Kind,pI m.rule.Digits,pL eS m.rule.Except,pI m.rule.Tolerance,pI m.rule.Limit,pS m.rule.Name,pL Zd.enc m.rule.Args]
structure Zj where
 Hi:Int
 Lo:Int
 deriving Inhabited,DecidableEq
def Zj.enc (m:Zj):List PV:=[pU m.Hi,pU m.Lo]
def Zj.eqb (a b:Zj):Bool:=((a.Hi == b.Hi)&&((a.Lo == b.Lo)&&true))
theorem Zj.eqb_iff {a b:Zj}:Zj.eqb a b=true↔a=b:=by cases a;cases b;simp [Zj.eqb]
structure Zo where
 use:Zi
 deriving Inhabited,DecidableEq
def Zo.enc (m:Zo):List PV:=[pS m.use.Code,pI m.use.Value,pB m.use.Originating]
structure Zr where
 rule:Zd
 deriving Inhabited
def Zr.enc (m:Zr):List PV:=[pI m.rule.Kind,pI m.rule.Digits,pL eS m.rule.Except,pI m.rule.Tolerance,pI m.rule.Limit,pS m.rule.Name,pL Zd.enc m.rule.Args]
structure Zm where
 Hi:Int
 Lo:Int
 deriving Inhabited,DecidableEq
def Zm.enc (m:Zm):List PV:=[pU m.Hi,pU m.Lo]
def Zm.eqb (a b:Zm):Bool:=((a.Hi == b.Hi)&&((a.Lo == b.Lo)&&true))
theorem Zm.eqb_iff {a b:Zm}:Zm.eqb a b=true↔a=b:=by cases a;cases b;simp [Zm.eqb]
def Za.key (m:Za):Value:=kP m.Product m.Agreement
theorem Za.kenc28:KEnc 28 Za.key:=⟨⟨PairKey,zM _ _ rfl (by kernel_rfl) (by kernel_rfl) (by decide) (by decide) rfl rfl rfl rfl,fun a=>⟨_,_,rfl⟩⟩,fun a b h=>by cases a;cases b;simp only [Za.key,kP] at h;injection h with h;simp at h;simp [h]⟩
inductive Zc where
 | plain_ (a:Zo)
 | proved_ (a:Zn)
 deriving Inhabited
def Zc.tag:Zc→Nat
 | .plain_ _=>195
 | .proved_ _=>106
def Zc.val:Zc→PV
 | .plain_ a=>.agg [pS a.use.Code,pI a.use.Value,pB a.use.Originating]
 | .proved_ a=>.agg [pS a.use.Code,pI a.use.Value,pB a.use.Originating,pI a.premise.Product,pI a.premise.Agreement]
def Zc.pv (m:Zc):PV:=.ifc m.tag m.val
def Zc.enc (m:Zc):List PV:=[m.pv]
def Zc.is_proved_:Zc→Bool
 | .proved_ _=>true
 | _=>false
def Zc.as_proved_:Zc→Zn
 | .proved_ a=>a
 | _=>(⟨(⟨ByteArray.empty,(0:Int),false⟩:Zi),(⟨(0:Int),(0:Int)⟩:Za)⟩:Zn)
theorem Zc.ta_proved_ (m:Zc):ta 106 m.pv=some (.tup [.agg [pS ((((Zc.as_proved_ m)).use).Code),pI ((((Zc.as_proved_ m)).use).Value),pB ((((Zc.as_proved_ m)).use).Originating),pI ((((Zc.as_proved_ m)).premise).Product),pI ((((Zc.as_proved_ m)).premise).Agreement)],pB (Zc.is_proved_ m)]):=by cases m <;> rfl
inductive Zl where
 | single_ (a:Zr)
 | every_ (a:(List Zl))
 | some_ (a:(List Zl))
 deriving Inhabited
def Zl.tag:Zl→Nat
 | .single_ _=>226
 | .every_ _=>223
 | .some_ _=>224
mutual
def Zl.val:Zl→PV
 | .single_ a=>.agg [pI a.rule.Kind,pI a.rule.Digits,pL eS a.rule.Except,pI a.rule.Tolerance,pI a.rule.Limit,pS a.rule.Name,pL Zd.enc a.rule.Args]
 | .every_ a=>.slc a.length (Zl.encs a)
 | .some_ a=>.slc a.length (Zl.encs a)
def Zl.encs:List Zl→List (List PV)
 | []=>[]
 | r::l=>[.ifc r.tag r.val]::Zl.encs l
end
def Zl.pv (m:Zl):PV:=.ifc m.tag m.val
def Zl.enc (m:Zl):List PV:=[m.pv]
theorem Zl.encs_eq:∀ (l:List Zl),Zl.encs l=List.map Zl.enc l
 | []=>by rw [Zl.encs];rfl
 | r::l=>by rw [Zl.encs,Zl.encs_eq l];rfl
abbrev eV (m:Zp):List PV:=[pS m.Code,pI m.Price,pB m.Obtained,pL eS m.Processes,pL Zi.enc m.Inputs]
abbrev aK (m:Ze):List PV:=[pI m.ID,pS m.Code,pS m.Country,pI m.Price,pB m.Obtained,pL eS m.Processes,pL Zg.enc m.Inputs]
abbrev aR (m:Zd):List PV:=[pI m.Kind,pI m.Digits,pL eS m.Except,pI m.Tolerance,pI m.Limit,pS m.Name,pL Zd.enc m.Args]
abbrev cM (m:Zf):List PV:=[pS m.Prefix,pI m.Rule.Kind,pI m.Rule.Digits,pL eS m.Rule.Except,pI m.Rule.Tolerance,pI m.Rule.Limit,pS m.Rule.Name,pL Zd.enc m.Rule.Args]
abbrev al (m:Zb):List PV:=[pI m.ID,pI m.Kind,pL eS m.Parties,pL Zf.enc m.Rules]

section
variable {o:Oper} {σ:PEnv} {ρ:List PRes} {f:Nat} {l:List Operand} {ts:Array Nat} {pargs caps:List PV} {x:Operand} {KV:PV→List PRes→Prop}
end
theorem oe {P:Program} (w:World) (t tx ty e:TypeId) (i:TypeInfo) (z:Value) (ht:P.underlying t=some (.slice e)) (hx:P.underlying tx=some (.int .i64)) (hi:P.info? e=some i) (hz:i.zero=some z) (n:Nat) (hn:0<n) (hs:0<i.size) (hb:n*i.bytes≤140737488355328) (hm:n≤140737488355328) :
    (Builtin.append_ #[t,tx] ty #[.slice none 0 0,.int .i64 (n:Int)]).run P w=.ok (.slice (some ⟨w.heap.size,0,none⟩) n (grownCap w n 0 e)) (w.drew.alloc (.cells (Builtin.zeroCells z.cells n++Builtin.zeroCells z.cells (grownCap w n 0 e - n)) e)):=by
  have hw:IntKind.i64.wrap (n:Int)=n:=by simp [IntKind.wrap,IntKind.signed,IntKind.bits];omega
  have h1:¬ ((n:Int)<0):=by omega
  have h2:¬ (281474976710656<(n:Int)*(i.bytes:Int)):=by
    have:(n:Int)*(i.bytes:Int)=((n*i.bytes:Nat):Int):=by simp
    omega
  have h3:¬ n=0:=by omega
  have h4:¬ i.size=0:=by omega
  have h5:¬ (281474976710656<Builtin.nextslicecap n 0*i.bytes):=by
    have:Builtin.nextslicecap n 0=n:=by unfold Builtin.nextslicecap;rw [if_pos (by omega)]
    rw [this];omega
  have h6:¬ (9223372036854775807<(n:Int)):=by omega
  simp [Builtin.append_,run_underlying ht,run_underlying hx,sizeOf,typeInfo,zeroValue,hi,hz,asInt,asIntOf,hw,h1,h2,h3,h4,h5,h6,Question.forced,newRow,grownCap,Builtin.firstCells]
  exact fun h=>absurd h (Nat.mul_ne_zero h3 h4)
theorem zX {o:Oper} {σ:Env} {ρ l:List Res} {κ:Kr} {K:Value→List Res→Kr→Prop} {s x:Operand} {t ti T n sz by':Nat} {z:Value} (ho:o.op=.call { callee:=.builtin .append,args:=#[s,x],argTypes:=#[t,ti] }) (hu:dw t=some (.slice T)) (hui:dw ti=some (.int .i64)) (hi:eE T=some (z,sz,by')) (hz:Nat.beq z.cells.size sz=true) (h0:Nat.blt 0 sz=true) (hs:ev σ s=.slice none 0 0) (hx:ev σ x=.int .i64 (n:Int)) (hn:0<n) (hb:n*by'≤140737488355328∧n≤140737488355328)
    (hp:Pick ρ (Res.row none 0 0 T sz []) l) (h:∀ a c κ',Kle κ κ'→n≤c→K (.slice a n c) (Res.row a 0 c T sz []::l) κ'):OpL o σ ρ κ K:=fun β hinv Nx hk=>by
  obtain ⟨i,hinf,hz0,hsz,hby⟩:=mt hi
  have hsz0:0<sz:=by have h:=h0;simp [Nat.blt] at h;omega
  have hr:=oe (P:=Tryz.prog) κ.w t ti o.type T i z (bt hu) (bt hui) hinf hz0 n hn (by rw [hsz];exact hsz0) (by rw [hby];exact hb.1) hb.2
  have hge:=grownCap_ge κ.w n 0 T
  have hcm:grownCap κ.w n 0 T≤maxLen:=grownCap_le_maxLen κ.w n 0 T (by unfold maxLen;omega)
  have hi2:=hinv.perm hp
  have hzs:=Nat.eq_of_beq_eq_true hz
  have hhold:(Res.row (some ⟨κ.w.heap.size,0,none⟩) 0 (grownCap κ.w n 0 T) T sz []).holds (κ.w.drew.alloc (.cells (Builtin.zeroCells z.cells n++Builtin.zeroCells z.cells (grownCap κ.w n 0 T - n)) T)):=by
    refine ⟨rfl,rfl,fun _ h=>(by cases h),Nat.zero_le _,hcm,_,heap_alloc_new κ.w.drew _,?_,by simp⟩
    simp only [Array.size_append,size_zeroCells,hzs,← Nat.add_mul]
    congr 1;omega
  obtain ⟨hi3,hk3⟩:=hi2.grow (r':=Res.row (some ⟨κ.w.heap.size,0,none⟩) 0 (grownCap κ.w n 0 T) T sz []) (w':=κ.w.drew.alloc (.cells (Builtin.zeroCells z.cells n++Builtin.zeroCells z.cells (grownCap κ.w n 0 T - n)) T)) ⟨rfl,rfl,rfl,by simp,fun k hk _=>by first | exact Go.heap_alloc_old κ.w.drew _ k hk | exact heap_alloc_old κ.w.drew _ hk⟩ (.inr (.inr rfl)) hhold (vt hhold) (kr _ _ _ _ _ hr)
  unfold execOp
  simp only [ho,resolve,invoke,builtin,Sem.run_bind,Sem.run_pure,Result.andThen_ok,List.map_toArray,List.map_cons,List.map_nil,hs,hx,hr,OutV]
  exact hk _ _ _ hi3 hk3 (h _ _ _ hk3 hge)
theorem zY {o:Oper} {σ:PEnv} {ρ l:List PRes} {K:PV→List PRes→Prop} {s x:Operand} {t ti T sz by':Nat} {n:Int} {z:Value} {u:Unit} (ho:o.op=.call { callee:=.builtin .append,args:=#[s,x],argTypes:=#[t,ti] }) (hu:dw t=some (.slice T)) (hui:dw ti=some (.int .i64)) (hi:eE T=some (z,sz,by')) (hz:Nat.beq z.cells.size sz=true) (h0:Nat.blt 0 sz=true) (hs:bi σ s=.v (.slice none 0 0)) (hx:bi σ x=.v (.int .i64 n)) (hn:0<n) (hm:zS by' n=some u)
    (hp:PPick ρ (.row none 0 0 T sz []) l) (h:∀ a c,n.toNat≤c→K (.v (.slice a n.toNat c)) (.row a 0 c T sz []::l)):POpL o σ ρ K:=fun κ σ' ρ' g hm' hrr=>by
  unfold zS at hm
  split at hm
  · rename_i hb
    obtain ⟨h1,h2,h3⟩:=hb
    have hn':n=((n.toNat:Nat):Int):=by omega
    obtain ⟨r,l',k1,k2,k3⟩:=hrr.pick hp
    cases k2 with
    | row hbn ho1 hc =>
      rename_i dss
      have:=hc.nil_inv;subst this
      exact zX ho hu hui hi hz h0 (hm'.v1 hs) (by rw [hm'.v1 hx,← hn']) (by omega) ⟨by rw [Nat.mul_comm];exact h2,h3⟩ k1 fun a c κ' hk hge=>⟨_,_,.v rfl,.cons (.row (by omega) (fun _ h=>by cases h) .nil) (k3.mono hk),h a c hge⟩
  cases hm
theorem mk0_le {by':Nat} {n:Int} {u:Unit} (h:zS by' n=some u):0≤n∧n≤140737488355328:=by
 unfold zS at h
 split at h
 ·rename_i hb;omega
 cases h
theorem xW {n:Int} (h0:0≤n) (h1:n≤140737488355328):IntKind.i64.wrap (n - IntKind.i64.wrap (((0:Nat):Int) - ((0:Nat):Int)))=n:=by
 simp [IntKind.wrap,IntKind.signed,IntKind.bits];omega
theorem oq_cap {o:Oper} {σ:Env} {ρ:List Res} {κ:Kr} {c:Bool} {x:Operand} {t n cp E:Nat} {a:Option Addr} (ho:o.op=.call { callee:=.builtin .cap,args:=#[x],argTypes:=#[t] }) (hu:dw t=some (.slice E)) (hx:Ev σ c x (.slice a n cp)):OpQ c o σ ρ κ (.int .i64 (cp:Int)):=fun hc w _=>by
 simp [execOp,ho,resolve,invoke,builtin,Builtin.cap_,hx hc,run_underlying (bt hu),goInt]
theorem wW {o:Oper} {σ:PEnv} {ρ:List PRes} {c:Bool} {x:Operand} {t E nn cp:Nat} {ad:Option Addr} (ho:o.op=.call { callee:=.builtin .cap,args:=#[x],argTypes:=#[t] }) (hu:dw t=some (.slice E)) (hx:PEv σ c x (.v (.slice ad nn cp))):POpQ c o σ ρ (.v (.int .i64 (cp:Int))):=fun κ σ' ρ' g hs hrr=>⟨_,fun _=>.v rfl,oq_cap ho hu (hs.ve hx)⟩
theorem sb {o:Oper} {σ:PEnv} {ρ:List PRes} {c:Bool} {x y:Operand} {t E sz by' nn cp k:Nat} {z:Value} {ad:Option Addr} {kd:IntKind} {i:Int} (ho:o.op=.slice t x none (some y) none) (hu:dw t=some (.slice E)) (hi:eE E=some (z,sz,by')) (hx:PEv σ c x (.v (.slice ad nn cp))) (hy:PEv σ c y (.v (.int kd i))) (hik:i=(k:Int)) (hk:k≤cp):POpQ c o σ ρ (.v (.slice ad k cp)):=fun κ σ' ρ' g hs hrr=>⟨_,fun _=>.v rfl,mM ho hu hi (hs.ve hx) (hs.ve hy) (fun _=>hik) (fun _=>hk)⟩
end SX
namespace SX
open Go
attribute [local irreducible] PWL PWC PWD POpL POpQ PEv PGuardIs PSub PPick PUpd PSplice PFill PLit PF PFV PCall FOk ec dE jy kx il jz Cov PHolds bf idx app mk gd lb nz i5 yt sub ll co kQ ro dT bQ mO rq IntKind.wrap Int.tmod Int.tdiv Op.bytesLess strOfNums
theorem aU {n:Nat} {l:List Oper} {KC:Exit→PPost} {σ:PEnv} {ρ:List PRes} {id:Nat} (D:List Nat) (h:lH n l.toArray ρ l [] [] σ [] D=jE n l.toArray ρ l [] [] σ []) (hw:KC .normal (jX σ D []) ρ):PWC n (.region id l.toArray false) KC σ ρ:=aw [] D [] bx h hw
theorem bj {n:Nat} {l:List Oper} {KC:Exit→PPost} {σ:PEnv} {ρ:List PRes} {id:Nat} (H D:List Nat) (X:List (Nat×PV)) (h:lH n l.toArray ρ l H [] σ (X.map (·.1)) D=jE n l.toArray ρ l H [] σ (X.map (·.2))) (hw:KC .normal (jX σ D X) ρ):PWC n (.region id l.toArray false) KC σ ρ:=aw H D X bx h hw
theorem an {n:Nat} {l:List Oper} {KC:Exit→PPost} {σ:PEnv} {ρ:List PRes} {id:Nat} (X:List (Nat×PV)) (h:lH n l.toArray ρ l [] [] σ (X.map (·.1)) []=jE n l.toArray ρ l [] [] σ (X.map (·.2))) (hw:KC .normal (jX σ [] X) ρ):PWC n (.region id l.toArray false) KC σ ρ:=aw [] [] X bx h hw
theorem af {n:Nat} {l:List Oper} {KC:Exit→PPost} {σ:PEnv} {ρ:List PRes} {id:Nat} (D:List Nat) (X:List (Nat×PV)) (h:lH n l.toArray ρ l [] [] σ (X.map (·.1)) D=jE n l.toArray ρ l [] [] σ (X.map (·.2))) (hw:KC .normal (jX σ D X) ρ):PWC n (.region id l.toArray false) KC σ ρ:=aw [] D X bx h hw
theorem zZ {n:Nat} {ops:Array Oper} {l:List (Nat×Oper)} {K:PPost} {σ:PEnv} {ρd ρs:List PRes} (k:Nat) (H:List Nat) (X:List (Nat×PV)) (h:r5 n ops ρs (l.take k) H [] σ (X.map (·.1)) []=jE n ops ρs ((l.take k).map (·.2)) H [] σ (X.map (·.2))) (hw:PWD n ops K (l.drop k) (jX σ [] X) ρd ρs):PWD n ops K l σ ρd ρs:=bR k H [] X bx h hw
theorem uM {n:Nat} {ops:Array Oper} {l:List (Nat×Oper)} {K:PPost} {σ:PEnv} {ρd ρs:List PRes} (k:Nat) (H D:List Nat) (X:List (Nat×PV)) (h:r5 n ops ρs (l.take k) H [] σ (X.map (·.1)) D=jE n ops ρs ((l.take k).map (·.2)) H [] σ (X.map (·.2))) (hw:PWD n ops K (l.drop k) (jX σ D X) ρd ρs):PWD n ops K l σ ρd ρs:=bR k H D X bx h hw
theorem fG {n:Nat} {ops:Array Oper} {l:List (Nat×Oper)} {K:PPost} {σ:PEnv} {ρd ρs:List PRes} (k:Nat) (X:List (Nat×PV)) (h:r5 n ops ρs (l.take k) [] [] σ (X.map (·.1)) []=jE n ops ρs ((l.take k).map (·.2)) [] [] σ (X.map (·.2))) (hw:PWD n ops K (l.drop k) (jX σ [] X) ρd ρs):PWD n ops K l σ ρd ρs:=bR k [] [] X bx h hw
theorem jH {n:Nat} {ops:Array Oper} {l:List (Nat×Oper)} {K:PPost} {σ:PEnv} {ρd ρs:List PRes} (k:Nat) (D:List Nat) (X:List (Nat×PV)) (h:r5 n ops ρs (l.take k) [] [] σ (X.map (·.1)) D=jE n ops ρs ((l.take k).map (·.2)) [] [] σ (X.map (·.2))) (hw:PWD n ops K (l.drop k) (jX σ D X) ρd ρs):PWD n ops K l σ ρd ρs:=bR k [] D X bx h hw
theorem bm {n:Nat} {ops:Array Oper} {l:List Oper} {K:PPost} {σ:PEnv} {ρ:List PRes} (D:List Nat) (h:lH n ops ρ l [] [] σ [] D=jE n ops ρ l [] [] σ []) (hw:K (jX σ D []) ρ):PWL n ops l K σ ρ:=je [] D [] bx h hw
theorem aG {n:Nat} {ops:Array Oper} {l:List Oper} {K:PPost} {σ:PEnv} {ρ:List PRes} (X:List (Nat×PV)) (h:lH n ops ρ l [] [] σ (X.map (·.1)) []=jE n ops ρ l [] [] σ (X.map (·.2))) (hw:K (jX σ [] X) ρ):PWL n ops l K σ ρ:=je [] [] X bx h hw
theorem iN {n:Nat} {ops:Array Oper} {l:List Oper} {K:PPost} {σ:PEnv} {ρ:List PRes} (D:List Nat) (X:List (Nat×PV)) (h:lH n ops ρ l [] [] σ (X.map (·.1)) D=jE n ops ρ l [] [] σ (X.map (·.2))) (hw:K (jX σ D X) ρ):PWL n ops l K σ ρ:=je [] D X bx h hw
theorem e9 {n:Nat} {ops:Array Oper} {l:List Oper} {K:PPost} {σ:PEnv} {ρ:List PRes} (k:Nat) (H:List Nat) (X:List (Nat×PV)) (h:lH n ops ρ (l.take k) H [] σ (X.map (·.1)) []=jE n ops ρ (l.take k) H [] σ (X.map (·.2))) (hw:PWL n ops (l.drop k) K (jX σ [] X) ρ):PWL n ops l K σ ρ:=aS k H [] X bx h hw
theorem cw {n:Nat} {ops:Array Oper} {l:List Oper} {K:PPost} {σ:PEnv} {ρ:List PRes} (k:Nat) (H D:List Nat) (X:List (Nat×PV)) (h:lH n ops ρ (l.take k) H [] σ (X.map (·.1)) D=jE n ops ρ (l.take k) H [] σ (X.map (·.2))) (hw:PWL n ops (l.drop k) K (jX σ D X) ρ):PWL n ops l K σ ρ:=aS k H D X bx h hw
theorem av {n:Nat} {ops:Array Oper} {l:List Oper} {K:PPost} {σ:PEnv} {ρ:List PRes} (k:Nat) (X:List (Nat×PV)) (h:lH n ops ρ (l.take k) [] [] σ (X.map (·.1)) []=jE n ops ρ (l.take k) [] [] σ (X.map (·.2))) (hw:PWL n ops (l.drop k) K (jX σ [] X) ρ):PWL n ops l K σ ρ:=aS k [] [] X bx h hw
theorem bS {n:Nat} {ops:Array Oper} {l:List Oper} {K:PPost} {σ:PEnv} {ρ:List PRes} (k:Nat) (D:List Nat) (X:List (Nat×PV)) (h:lH n ops ρ (l.take k) [] [] σ (X.map (·.1)) D=jE n ops ρ (l.take k) [] [] σ (X.map (·.2))) (hw:PWL n ops (l.drop k) K (jX σ D X) ρ):PWL n ops l K σ ρ:=aS k [] D X bx h hw
theorem ai {n:Nat} {ops:Array Oper} {o:Oper} {rest:List Oper} {K:PPost} {σ:PEnv} {ρ:List PRes} {d:Nat} (hg:(o.guard,o.dst,Nat.blt d n)=(none,some d,true)) (h:POpL o σ ρ fun p ρ'=>PWL n ops rest K (eX σ d p) ρ'):PWL n ops (o::rest) K σ ρ:=za (Prod.mk.inj hg).1 (Prod.mk.inj (Prod.mk.inj hg).2).1 (Prod.mk.inj (Prod.mk.inj hg).2).2 h
theorem zz {α:Type} {t:Nat} {enc:α→PV} {σ:PEnv} {ρ:List PRes} {v:α} (r:α) (h:some v=some r) (e:σ t=enc v):jz [.tmp t] (fun pv ρ'=>pv=enc r∧ρ'=[]) .ret σ ρ:=by cases h;exact aQ (cL (aX e)) bL ⟨rfl,rfl⟩
theorem bO {x y1:Code} {K1:Exit→PPost} {ρ1:List PRes} {n1:Nat} {σ1:PEnv} (h1:PWC n1 x (ec n1 y1 K1) σ1 ρ1):ec n1 (.seq x y1) K1 .normal σ1 ρ1:=aT (ag h1)
theorem em {K1:Exit→PPost} {ρ1:List PRes} {n1:Nat} {σ1:PEnv} (h1:K1 .ret σ1 ρ1):ec n1 .ret K1 .normal σ1 ρ1:=aT (bU h1)
theorem bT {p:Bool} {x y1:Code} {K1:Exit→PPost} {ρ1:List PRes} {n1:Nat} {c:Operand} {σ1:PEnv} {α:Type} {a b r:α} (hc:bi σ1 c=.v (.bool p)) (h1:cond p a b=r) (ht:p=true→a=r→PWC n1 x K1 σ1 ρ1) (hf:p=false→b=r→PWC n1 y1 K1 σ1 ρ1):ec n1 (.cond c x y1) K1 .normal σ1 ρ1:=aT (kq hc h1 ht hf)
theorem cY {y1 x1 y:Code} {K1:Exit→PPost} {ρ:List PRes} {n:Nat} {σ:PEnv} (h:PWC n x1 (ec n y (ec n y1 K1)) σ ρ):ec n (.seq (.seq x1 y) y1) K1 .normal σ ρ:=bO (ag h)
theorem cU {x y1:Code} {K1:Exit→PPost} {ρ1:List PRes} {n1:Nat} {σ1:PEnv} {α β:Type} {x1:Option α} {f:α→Option β} {r:β} (h:x1.bind f=some r) (k:∀ a,x1=some a→f a=some r→(PWC n1 x (ec n1 y1 K1) σ1 ρ1)):ec n1 (.seq x y1) K1 .normal σ1 ρ1:=bO (ae h k)
theorem gG {x1 y:Code} {K:Exit→PPost} {ρ1:List PRes} {id n1:Nat} {σ1:PEnv} (h1:PWC n1 x1 (ec n1 y (dE id K)) σ1 ρ1):PWC n1 (.block id (.seq x1 y)) K σ1 ρ1:=aC (ag h1)
theorem ed {x y:Code} {fn:Func} {ρ:List PRes} {pargs:List PV} {rs:List ResultVar} {f n1:Nat} {R:PV→List PRes→Prop} (hf:Tryz.prog.funcs[f]?=some fn) (hb:fn.body=some (.seq x y)) (hn:fn.ntmps=n1) (hres:fn.results=rs.toArray) (hsz:Nat.ble pargs.length n1=true) (h1:PWC n1 x (ec n1 y (jz rs R)) (uf pargs) ρ):PCall f pargs ρ R:=lh hf hb hn hres hsz (ag h1)
theorem fm {K1:Exit→PPost} {l:List Oper} {ρ1:List PRes} {n id n1:Nat} {σ:PEnv} (X:List (Nat×PV)) (h:lH n l.toArray ρ1 l [] [] σ (X.map (·.1)) []=jE n l.toArray ρ1 l [] [] σ (X.map (·.2))) (h1:K1 .ret (jX σ [] X) ρ1):PWC n (.region id l.toArray false) (ec n1 .ret K1) σ ρ1:=an X h (em h1)
theorem iX {y:Code} {K1:Exit→PPost} {ρ1:List PRes} {id n:Nat} {σ1:PEnv} (h1:K1 .ret σ1 ρ1):dE id (ec n y K1) .ret σ1 ρ1:=aL (aA h1)
theorem gn {y:Code} {K:Exit→PPost} {ρ:List PRes} {n:Nat} {σ:PEnv} {α β:Type} {x:Option α} {f:α→Option β} {r:β} (h1:x.bind f=some r) (k:∀ a,x=some a→f a=some r→(PWC n y K σ ρ)):ec n y K .normal σ ρ:=aT (ae h1 k)
theorem dU {y x1 y1:Code} {K:Exit→PPost} {ρ1:List PRes} {n1:Nat} {σ1:PEnv} (h1:PWC n1 x1 (ec n1 y1 (ec n1 y K)) σ1 ρ1):PWC n1 (.seq (.seq x1 y1) y) K σ1 ρ1:=ag (ag h1)
theorem fw {y:Code} {K1:Exit→PPost} {ρ1:List PRes} {id n:Nat} {σ1:PEnv} (h1:PWC n y K1 σ1 ρ1):dE id (ec n y K1) .normal σ1 ρ1:=aD (aT h1)
def jI (p0:(List Int)) (p1:Int):Option (List Int):=cond (decide (p1<(p0.length:Int))) ((sub p0 0 p1).bind fun l2=>some l2) (some p0)
theorem oD {p0:(List Int)} {p1:Int} {r:(List Int)}  (h:jI p0 p1=some r):PF 38 [pL eI p0,pI p1] (pL eI r):=by
 unfold jI at h
 refine bk ?_
 refine ed Tryz.func38 rfl Tryz.ntmps38 Tryz.results38 rfl (aU [4] (by kernel_rfl) (cY (af [5,6,7] [(8,pB (decide (p1<(p0.length:Int))))] (by kernel_rfl) (bT rfl h (fun hc1 h=>?_) fun hc1 h=>?_))))
 ·refine ag ?_
  refine ae h fun l2 hl2 h=>aw [] [9,10,11] [(4,pL eI l2)] (uz 2 eI 1 (fun _=>rfl) hl2 bx) (by kernel_rfl) (em (aA ?_))
  exact zz r h rfl
 refine ah ?_
 refine bO (af [12] [(4,pL eI p0)] (by kernel_rfl) (em ?_))
 exact zz r h rfl
def eF (p0:Int) (p1:Int):Option Int:=(nz p1).bind fun u1=>(nz p1).bind fun u2=>lb ((Int.tmod (IntKind.i64.wrap ((Int.tmod p0 p1)+p1)) p1)) (fun w3=>some w3)
theorem gO {p0:Int} {p1:Int} {r:Int}  (h:eF p0 p1=some r):PF 34 [pI p0,pI p1] (pI r):=by
 unfold eF at h
 refine bk ?_
 refine ed Tryz.func34 rfl Tryz.ntmps34 Tryz.results34 rfl (aU [4] (by kernel_rfl) (cU h fun u1 hu1 h=>ae h fun u2 hu2 h=>?_))
 refine cZ h ?_;clear h;intro w3 hw3 h
 refine aa (aS 7 [] (rg 5 6) [(11,pI (Int.tmod (IntKind.i64.wrap ((Int.tmod p0 p1)+p1)) p1))] (xL 2 hu1 (xL 6 hu2 bx)) (by kernel_rfl) (bK rfl rfl rfl (bv rfl (.p (congrArg (fun z=>PV.v (Value.int .i64 z)) hw3))) (aB (em ?_))))
 exact zz r h rfl
def aH (p0:Zh) (p1:Int):Option (Int×Zh):=cond (decide ((p0.L.length:Int)≤p0.I)) (some ((0:Int),p0)) ((idx p0.L (IntKind.i64.wrap ((IntKind.i64.wrap (p0.I+1)) - 1))).bind fun m2=>(eF m2 p1).bind fun x3=>some (x3,(⟨p0.L,(IntKind.i64.wrap (p0.I+1))⟩:Zh)))
theorem aF {p0:Zh} {p1:Int} {b0:Nat} {r:(Int×Zh)}  (h:aH p0 p1=some r):PCall 39 [pP b0 0,pI p1] [PRes.b b0 71 [pL eI p0.L,pI p0.I]] (fun pv ρ'=>pv=pI r.1∧ρ'=[PRes.b b0 71 [pL eI r.2.L,pI r.2.I]]):=by
 unfold aH at h
 refine ed Tryz.func39 rfl Tryz.ntmps39 Tryz.results39 rfl (aU [4] (by kernel_rfl) (cY (bJ (ρd:=[]) [(0,0),(1,0),(2,0),(3,0),(4,0),(5,0),(6,0),(7,0),(8,0),(9,0)] _ (List.Perm.refl _) (by kernel_rfl) rfl (uM 10 [0,0] (rg 5 9) [(14,pB (decide ((p0.L.length:Int)≤p0.I)))] (by kernel_rfl) (bW (bT rfl h (fun hc1 h=>?_) fun hc1 h=>?_))))))
 ·refine ag ?_
  refine fm [(4,pI 0)] (by kernel_rfl) (aA ?_)
  obtain rfl:=osi h
  exact aQ (cL (aX rfl)) cI ⟨rfl,rfl⟩
 refine ah ?_
 refine bO (aa (cw 7 [0] [15,16,17,18,20] [(19,pI (IntKind.i64.wrap (p0.I+1))),(21,pP b0 1)] (by kernel_rfl) (aN rfl rfl (aj (vs:=[pI (IntKind.i64.wrap (p0.I+1))]) rfl rfl rfl rfl rfl bV (cX kR) (aB (bO (bJ (ρd:=[]) [(0,0),(1,0),(2,0),(3,0),(4,0),(5,0),(6,0),(7,0),(8,0),(9,0),(10,0),(11,0),(12,1),(13,0)] _ (List.Perm.refl _) (by kernel_rfl) rfl (ae h fun m2 hm2 h=>ae h fun x3 hx3 h=>bR 14 [0,0] (rg 22 13) [(4,pI x3)] (db 9 eI hm2 (bG 12 (gO hx3) bx)) (by kernel_rfl) (bW (em ?_))))))))))
 obtain rfl:=osi h
 exact aQ (cL (aX rfl)) cI ⟨rfl,rfl⟩
def fa (p0:Zh) (p1:Int):Option (ByteArray×Zh):=(aH p0 2).bind fun x1=>(bf (S:=(List Int)×(List Int)×Int) (T:=((List Int)×(List Int)×Int)) (fun (l5,l8,v9)=>cond (decide (((l5.length:Nat):Int)<p1)) ((aH (⟨l8,v9⟩:Zh) 3).bind fun x19=>(app 1 l5 [48,(IntKind.u8.wrap (IntKind.i64.wrap (49+x19.1)))]).bind fun l22=>some (.inl (l22,x19.2.L,x19.2.I))) (some (.inr (l5,l8,v9)))) FUEL ([57,(IntKind.u8.wrap (IntKind.i64.wrap (52+x1.1)))],x1.2.L,x1.2.I)).bind fun (l13,l14,v15)=>some ((strOfNums l13),(⟨l14,v15⟩:Zh))
theorem mE {p0:Zh} {p1:Int} {b0:Nat} {r:(ByteArray×Zh)}  (h:fa p0 p1=some r):PCall 40 [pP b0 0,pI p1] [PRes.b b0 71 [pL eI p0.L,pI p0.I]] (fun pv ρ'=>pv=pS r.1∧ρ'=[PRes.b b0 71 [pL eI r.2.L,pI r.2.I]]):=by
 unfold fa at h
 refine ed Tryz.func40 rfl Tryz.ntmps40 Tryz.results40 rfl (aU [4] (by kernel_rfl) (cU h fun x1 hx1 h=>aa (av 1 [(6,pP b0 0)] (by kernel_rfl) ?_)))
 refine ai rfl (ba rfl rfl (ρ1:=[_]) (aO (by exact aI) (List.Perm.refl _)) (aF hx1) ?_);rintro _ _ ⟨rfl,rfl⟩
 refine bS 2 [8] [(9,pY (IntKind.u8.wrap (IntKind.i64.wrap (52+x1.1))))] (by kernel_rfl) (ai rfl (bB rfl rfl rfl rfl rfl (eZ rfl (eZ rfl hY)) rfl rfl rfl rfl (fun b2=>aG [(5,pO (some ⟨b2,0,none⟩) 2 2)] (by kernel_rfl) (cU h fun q17 hq17 h=>?_))))
 refine ar (Y:=(Option Addr×Nat)×((List Int)×(List Int)×Int)) (fun ((a11,c12),(l13,l14,v15))=>[(5,pO a11 l13.length c12)]) (fun ((a11,c12),(l13,l14,v15))=>[PRes.b b0 71 [pL eI l14,pI v15],PRes.row a11 l13.length c12 5 1 (List.map eB l13)]) (fun ((a11,c12),(l13,l14,v15))=>q17=(l13,l14,v15)) ?_ ?_
 ·refine aC ?_
  refine aJ (Y:=Option Addr×Nat) (S:=(List Int)×(List Int)×Int) _ hq17 (fun (a6,c7) (l5,l8,v9)=>[(0,pP b0 0),(1,pI p1),(5,pO a6 l5.length c7)]) (fun (a6,c7) (l5,l8,v9)=>[PRes.b b0 71 [pL eI l8,pI v9],PRes.row a6 l5.length c7 5 1 (List.map eB l5)]) ((some ⟨b2,0,none⟩),2) (lF rfl) (aZ (ap aI) cI) ?_
  rintro ⟨a6,c7⟩ ⟨l5,l8,v9⟩ o τ hb16;(try dsimp only at hb16);dsimp only [az]
  refine dU (af [11,12,13] [(14,pB (decide (((l5.length:Nat):Int)<p1)))] (by kernel_rfl) (bT rfl hb16 (fun hc18 hb16=>?_) fun hc18 hb16=>?_))
  ·refine ah ?_
   refine aT (aC (ae hb16 fun x19 hx19 hb16=>aa (av 2 [(15,pO a6 l5.length c7),(16,pP b0 0)] (by kernel_rfl) ?_)))
   refine ai rfl (ba rfl rfl (ρ1:=[_]) (aO (by exact aI) (List.Perm.refl _)) (aF hx19) ?_);rintro _ _ ⟨rfl,rfl⟩
   refine bS 2 [18] [(19,pY (IntKind.u8.wrap (IntKind.i64.wrap (49+x19.1))))] (by kernel_rfl) (ai rfl (bB rfl rfl rfl rfl rfl (eZ rfl (eZ rfl hY)) rfl rfl rfl rfl (fun b20=>ae hb16 fun l22 hl22 hb16=>?_)))
   refine ai rfl (bN (enc:=eB) rfl rfl rfl rfl rfl rfl rfl rfl rfl eP (by exact ap (ap aI)) hl22 (fun a23 c24=>?_))
   refine aG [(5,pO a23 l22.length c24)] (by kernel_rfl) (aD ?_)
   exact aY hb16 (a23,c24) (lF rfl) (aZ (ap (ap aI)) cI)
  refine aP ?_
  refine aq (ak hb16 (fun ht=>am rfl ?_))
  exact au ((a6,c7),(l5,l8,v9)) (tN rfl) oA ht.symm
 rintro ⟨⟨a11,c12⟩,⟨l13,l14,v15⟩⟩ τ hz;(try dsimp only at hz);subst q17;(try dsimp only at h);dsimp only [az]
 refine ag (aa (av 1 [(22,pO a11 l13.length c12)] (by kernel_rfl) (ai rfl (zi rfl rfl rfl rfl rfl (xs:=l13) rV rfl (aG [(4,pS (strOfNums l13))] (by kernel_rfl) (em ?_))))))
 obtain rfl:=osi h
 exact aQ (cL (aX rfl)) cI ⟨rfl,rfl⟩
def fb  : Option (List ByteArray):=some [(⟨#[65,65]⟩:ByteArray),(⟨#[66,66]⟩:ByteArray),(⟨#[67,67]⟩:ByteArray),(⟨#[68,68]⟩:ByteArray),(⟨#[69,69]⟩:ByteArray),(⟨#[70,70]⟩:ByteArray)]
theorem gP  {r:(List ByteArray)}  (h:fb  = some r):PF 41 [] (pL eS r):=by
 unfold fb at h
 refine bk ?_
 refine ed Tryz.func41 rfl Tryz.ntmps41 Tryz.results41 rfl (aU [0] (by kernel_rfl) (bO (aa (ai rfl (bB rfl rfl rfl rfl rfl (eZ rfl (eZ rfl (eZ rfl (eZ rfl (eZ rfl (eZ rfl hY)))))) rfl rfl rfl rfl (fun b1=>aG [(0,pO (some ⟨b1,0,none⟩) 6 6)] (by kernel_rfl) (aT ?_)))))))
 refine eY (enc:=eS) (xs:=[(⟨#[65,65]⟩:ByteArray),(⟨#[66,66]⟩:ByteArray),(⟨#[67,67]⟩:ByteArray),(⟨#[68,68]⟩:ByteArray),(⟨#[69,69]⟩:ByteArray),(⟨#[70,70]⟩:ByteArray)]) 0 rfl (by exact aI) ?_
 refine bU ?_
 exact zz r h rfl
def dc (p0:Zh):Option ((List ByteArray)×Zh):=(aH p0 32).bind fun x1=>(bf (S:=(List ByteArray)×Int) (T:=((List ByteArray))) (fun (l3,v6)=>cond (decide (v6<5)) (((i5 v6).bind fun u20=>cond ((co .i64 (bQ .i64 x1.1 v6) 1) == 1) ((idx [(⟨#[97,110,100]⟩:ByteArray),(⟨#[99,117,116]⟩:ByteArray),(⟨#[111,114]⟩:ByteArray),(⟨#[115,101,119]⟩:ByteArray),(⟨#[115,112,105,110]⟩:ByteArray)] v6).bind fun m24=>(app 16 l3 [m24]).bind fun l27=>some l27) (some l3)).bind fun l18=>some (.inl (l18,(IntKind.i64.wrap (v6+1))))) (some (.inr l3))) FUEL (([]:List ByteArray),0)).bind fun l10=>some (l10,x1.2)
theorem ki {p0:Zh} {b0:Nat} {r:((List ByteArray)×Zh)}  (h:dc p0=some r):PCall 42 [pP b0 0] [PRes.b b0 71 [pL eI p0.L,pI p0.I]] (fun pv ρ'=>pv=pL eS r.1∧ρ'=[PRes.b b0 71 [pL eI r.2.L,pI r.2.I]]):=by
 unfold dc at h
 refine ed Tryz.func42 rfl Tryz.ntmps42 Tryz.results42 rfl (aU [2] (by kernel_rfl) (bO (an [(3,pN)] (by kernel_rfl) (cU h fun x1 hx1 h=>aa (av 1 [(6,pP b0 0)] (by kernel_rfl) ?_)))))
 refine ai rfl (ba rfl rfl (ρ1:=[_]) (aO (by exact aI) (List.Perm.refl _)) (aF hx1) ?_);rintro _ _ ⟨rfl,rfl⟩
 refine aG [(4,pI x1.1)] (by kernel_rfl) (cY (an [(5,pI 0)] (by kernel_rfl) (aT (cF 9 1 (ae h fun q12 hq12 h=>?_)))))
 refine ar (Y:=(Option Addr×Nat)×((List ByteArray))) (fun ((a8,c9),l10)=>[(3,pO a8 l10.length c9)]) (fun ((a8,c9),l10)=>[PRes.b b0 71 [pL eI x1.2.L,pI x1.2.I],PRes.row a8 l10.length c9 9 1 (List.map eS l10)]) (fun ((a8,c9),l10)=>q12=l10) ?_ ?_
 ·refine aC ?_
  refine aJ (Y:=Option Addr×Nat) (S:=(List ByteArray)×Int) _ hq12 (fun (a4,c5) (l3,v6)=>[(3,pO a4 l3.length c5),(4,pI x1.1),(5,pI v6)]) (fun (a4,c5) (l3,v6)=>[PRes.b b0 71 [pL eI x1.2.L,pI x1.2.I],PRes.row a4 l3.length c5 9 1 (List.map eS l3)]) (none,0) (lF rfl) (aZ (ap aI) cI) ?_
  rintro ⟨a4,c5⟩ ⟨l3,v6⟩ o τ hb11;(try dsimp only at hb11);dsimp only [az]
  refine dU (af [8] [(9,pB (decide (v6<5)))] (by kernel_rfl) (bT rfl hb11 (fun hc14 hb11=>?_) fun hc14 hb11=>?_))
  ·refine ah ?_
   refine cU hb11 fun q19 hq19 hb11=>?_
   refine ar (Y:=(Option Addr×Nat)×((List ByteArray))) (fun ((a16,c17),l18)=>[(3,pO a16 l18.length c17),(4,pI x1.1),(5,pI v6)]) (fun ((a16,c17),l18)=>[PRes.b b0 71 [pL eI x1.2.L,pI x1.2.I],PRes.row a16 l18.length c17 9 1 (List.map eS l18)]) (fun ((a16,c17),l18)=>q19=l18) ?_ ?_
   ·skip
    refine gG (ae hq19 fun u20 hu20 hq19=>aw [] [12,13,14,15] [(16,pB ((co .i64 (bQ .i64 x1.1 v6) 1) == 1))] (oU 2 hu20 bx) (by kernel_rfl) (bT rfl hq19 (fun hc21 hq19=>?_) fun hc21 hq19=>?_))
    ·refine aa ?_
     refine av 1 [(17,pO a4 l3.length c5)] (by kernel_rfl) (ai rfl (bB rfl rfl rfl rfl rfl (eZ rfl (eZ rfl (eZ rfl (eZ rfl (eZ rfl hY))))) rfl rfl rfl rfl (fun b22=>ae hq19 fun m24 hm24 hq19=>av 1 [(19,pI v6)] (by kernel_rfl) (bK rfl rfl rfl (e7 (enc:=eS) (xs:=[(⟨#[97,110,100]⟩:ByteArray),(⟨#[99,117,116]⟩:ByteArray),(⟨#[111,114]⟩:ByteArray),(⟨#[115,101,119]⟩:ByteArray),(⟨#[115,112,105,110]⟩:ByteArray)]) rfl rfl rfl (.p rfl) eP (.p rfl) (fun _=>hm24)) (bK rfl rfl rfl (dg (sz:=1) (p:=pS m24) (enc:=eS) (xs:=[(⟨#[97,110,100]⟩:ByteArray),(⟨#[99,117,116]⟩:ByteArray),(⟨#[111,114]⟩:ByteArray),(⟨#[115,101,119]⟩:ByteArray),(⟨#[115,112,105,110]⟩:ByteArray)]) (a:=(some ⟨b22,0,none⟩)) v6 0 m24 rfl (.p rfl) rfl eP (fun _=>hm24) rfl) (ai rfl (bB rfl rfl rfl rfl rfl (eZ rfl hY) rfl rfl rfl rfl (fun b25=>ae hq19 fun l27 hl27 hq19=>?_))))))))
     refine ai rfl (bN (enc:=eS) rfl rfl rfl rfl rfl rfl rfl rfl rfl eP (by exact ap (ap (ap aI))) hl27 (fun a28 c29=>?_))
     refine aG [(3,pO a28 l27.length c29)] (by kernel_rfl) (aD ?_)
     obtain rfl:=osi hq19
     exact au ((a28,c29),l27) (lF rfl) (aZ (ap (ap (ap aI))) cI) rfl
    refine ah ?_
    refine aD ?_
    obtain rfl:=osi hq19
    exact au ((a4,c5),l3) (lF rfl) oA rfl
   rintro ⟨⟨a16,c17⟩,l18⟩ τ hz;(try dsimp only at hz);subst q19;(try dsimp only at hb11);dsimp only [az]
   refine af [10,11] [(5,pI (IntKind.i64.wrap (v6+1)))] (by kernel_rfl) ?_
   exact aY hb11 (a16,c17) (lF rfl) oA
  refine aP ?_
  refine aq (ak hb11 (fun ht=>am rfl ?_))
  exact au ((a4,c5),l3) (tN rfl) oA ht.symm
 rintro ⟨⟨a8,c9⟩,l10⟩ τ hz;(try dsimp only at hz);subst q12;(try dsimp only at h);dsimp only [az]
 refine ag (af [24] [(2,pO a8 l10.length c9)] (by kernel_rfl) (aT ?_))
 refine eY (enc:=eS) (xs:=l10) 2 rfl (by exact ap aI) ?_
 refine bU ?_
 obtain rfl:=osi h
 exact aQ (cL (aX rfl)) (aZ (ap aI) bL) ⟨rfl,rfl⟩
def kB (p0:(List Int)):Option (List Ze):=(jI p0 300).bind fun x1=>(aH (⟨x1,0⟩:Zh) 10).bind fun x3=>(bf (S:=(List Ze)×Int×(List Int)×Int) (T:=((List Ze))) (fun (l5,v8,l9,v10)=>cond (decide (v8≤(IntKind.i64.wrap (1+x3.1)))) ((aH (⟨l9,v10⟩:Zh) 2).bind fun x19=>(fa x19.2 (IntKind.i64.wrap (6+(IntKind.i64.wrap (2*x19.1))))).bind fun x20=>(fb).bind fun x21=>(aH x20.2 4).bind fun x22=>(idx x21 x22.1).bind fun m23=>(aH x22.2 200).bind fun x24=>(dc x24.2).bind fun x25=>(aH x25.2 4).bind fun x26=>(aH x26.2 1024).bind fun x28=>(bf (S:=Int×(List Int)×Int×(List Zg)) (T:=((List Int)×Int×(List Zg))) (fun (v29,l30,v31,l33)=>cond (((decide (v29≤(IntKind.i64.wrap (1+x3.1))))&&(decide (((l33.length:Nat):Int)<4)))&&(!(x26.1 == 1))) (((i5 (IntKind.i64.wrap (v29 - 1))).bind fun u55=>(gdp (((co .i64 (bQ .i64 x28.1 (IntKind.i64.wrap (v29 - 1))) 1) == 1)&&(!(decide (v29<v8)))) (aH (⟨l30,v31⟩:Zh) 3) (⟨l30,v31⟩:Zh)).bind fun x56=>cond (((co .i64 (bQ .i64 x28.1 (IntKind.i64.wrap (v29 - 1))) 1) == 1)&&((decide (v29<v8))||(x56.1 == 1))) ((aH x56.2 100).bind fun x58=>(app 16 l33 [(⟨(IntKind.i64.wrap (3*v29)),x58.1⟩:Zg)]).bind fun l61=>some (x58.2.L,x58.2.I,l61)) (some (x56.2.L,x56.2.I,l33))).bind fun (l48,v49,l53)=>some (.inl ((IntKind.i64.wrap (v29+1)),l48,v49,l53))) (some (.inr (l30,v31,l33)))) FUEL (1,x28.2.L,x28.2.I,([]:List Zg))).bind fun (l37,v38,l42)=>(app 104 l5 [(⟨(IntKind.i64.wrap (3*v8)),x20.1,m23,(IntKind.i64.wrap (1+x24.1)),(x26.1 == 1),x25.1,l42⟩:Ze)]).bind fun l68=>some (.inl (l68,(IntKind.i64.wrap (v8+1)),l37,v38))) (some (.inr l5))) FUEL (([]:List Ze),1,x3.2.L,x3.2.I)).bind fun l14=>some l14
theorem tk {p0:(List Int)} {r:(List Ze)}  (h:kB p0=some r):PCall 12 [pL eI p0] [] (fun pv ρ'=>∃ a c,pv=.v (.slice a r.length c)∧ρ'=[PRes.row a r.length c 76 7 (List.map Ze.enc r)]):=by
 unfold kB at h
 refine ed Tryz.func12 rfl Tryz.ntmps12 Tryz.results12 rfl (aU [2] (by kernel_rfl) (cU h fun x1 hx1 h=>aa (aS 3 [] [10,11] [(12,.agg [pL eI x1,pI 0])] (bG 1 (oD hx1) bx) (by kernel_rfl) (ai rfl (bM (cs:=[pL eI x1,pI 0]) rfl rfl (fun b2=>aG [(3,pP b2 0)] (by kernel_rfl) (cU h fun x3 hx3 h=>aa (av 1 [(14,pP b2 0)] (by kernel_rfl) ?_))))))))
 refine ai rfl (ba rfl rfl (ρ1:=[_]) (aO (by exact aI) (List.Perm.refl _)) (aF hx3) ?_);rintro _ _ ⟨rfl,rfl⟩
 refine iN [16] [(4,pI (IntKind.i64.wrap (1+x3.1)))] (by kernel_rfl) (bO (an [(5,pN)] (by kernel_rfl) (cY (an [(6,pI 1)] (by kernel_rfl) (aT (cF 76 7 (ae h fun q16 hq16 h=>?_)))))))
 refine ar (Y:=(Option Addr×Nat)×((List Ze))) (fun ((a12,c13),l14)=>[(5,pO a12 l14.length c13)]) (fun ((a12,c13),l14)=>[PRes.row a12 l14.length c13 76 7 (List.map Ze.enc l14)]) (fun ((a12,c13),l14)=>q16=l14) ?_ ?_
 ·refine aC ?_
  refine aJ (Y:=Option Addr×Nat) (S:=(List Ze)×Int×(List Int)×Int) _ hq16 (fun (a6,c7) (l5,v8,l9,v10)=>[(3,pP b2 0),(4,pI (IntKind.i64.wrap (1+x3.1))),(5,pO a6 l5.length c7),(6,pI v8)]) (fun (a6,c7) (l5,v8,l9,v10)=>[PRes.b b2 71 [pL eI l9,pI v10],PRes.row a6 l5.length c7 76 7 (List.map Ze.enc l5)]) (none,0) (jW rfl) (aZ (ap aI) cI) ?_
  rintro ⟨a6,c7⟩ ⟨l5,v8,l9,v10⟩ o τ hb15;(try dsimp only at hb15);dsimp only [az]
  refine dU (af [17,18] [(19,pB (decide (v8≤(IntKind.i64.wrap (1+x3.1)))))] (by kernel_rfl) (bT rfl hb15 (fun hc18 hb15=>?_) fun hc18 hb15=>?_))
  ·refine ah ?_
   refine bO (gG (bJ (ρd:=[PRes.b b2 _ _]) [(0,0),(1,0),(2,0),(3,0),(9,0),(13,0),(16,0),(18,0),(4,1),(5,0),(6,0),(7,1),(8,1),(10,1),(11,0),(12,0),(14,1),(15,0),(17,1),(19,1),(20,0),(21,0),(22,2),(23,1)] _ (List.Perm.refl _) (by kernel_rfl) rfl (ae hb15 fun x19 hx19 hb15=>jH 8 [22] [(23,pI (IntKind.i64.wrap (3*v8))),(24,pP b2 0),(25,pP b2 0),(31,pP b2 0),(35,pP b2 0),(38,pP b2 0),(40,pP b2 0)] (by kernel_rfl) ?_)))
   refine gb rfl rfl rfl (ba rfl rfl (ρ1:=[_]) (aO (by exact aI) (List.Perm.refl _)) (aF hx19) ?_);rintro _ _ ⟨rfl,rfl⟩
   refine ae hb15 fun x20 hx20 hb15=>jH 2 [27] [(28,pI (IntKind.i64.wrap (6+(IntKind.i64.wrap (2*x19.1)))))] (by kernel_rfl) ?_
   refine gb rfl rfl rfl (ba rfl rfl (ρ1:=[_]) (aO (by exact aI) (List.Perm.refl _)) (mE hx20) ?_);rintro _ _ ⟨rfl,rfl⟩
   refine ae hb15 fun x21 hx21 hb15=>ae hb15 fun x22 hx22 hb15=>bR 1 [] [] [(30,pL eS x21)] (bG 0 (gP hx21) bx) (by kernel_rfl) ?_
   refine gb rfl rfl rfl (ba rfl rfl (ρ1:=[_]) (aO (by exact aI) (List.Perm.refl _)) (aF hx22) ?_);rintro _ _ ⟨rfl,rfl⟩
   refine ae hb15 fun m23 hm23 hb15=>ae hb15 fun x24 hx24 hb15=>bR 2 [] [33] [(34,pS m23)] (db 0 eS hm23 bx) (by kernel_rfl) ?_
   refine gb rfl rfl rfl (ba rfl rfl (ρ1:=[_]) (aO (by exact aI) (List.Perm.refl _)) (aF hx24) ?_);rintro _ _ ⟨rfl,rfl⟩
   refine ae hb15 fun x25 hx25 hb15=>fG 1 [(37,pI (IntKind.i64.wrap (1+x24.1)))] (by kernel_rfl) ?_
   refine gb rfl rfl rfl (ba rfl rfl (ρ1:=[_]) (aO (by exact aI) (List.Perm.refl _)) (ki hx25) ?_);rintro _ _ ⟨rfl,rfl⟩
   refine ae hb15 fun x26 hx26 hb15=>?_
   refine gb rfl rfl rfl (ba rfl rfl (ρ1:=[_]) (aO (by exact aI) (List.Perm.refl _)) (aF hx26) ?_);rintro _ _ ⟨rfl,rfl⟩
   refine jH 2 [42] [(43,.agg [pI (IntKind.i64.wrap (3*v8)),pS x20.1,pS m23,pI (IntKind.i64.wrap (1+x24.1)),pB (x26.1 == 1),pL eS x25.1,pN])] (by kernel_rfl) (qg (un rfl rfl rfl rfl rfl) (fun _=>rfl) rfl (fun b27=>vC rfl rfl (aj (vs:=[pI (IntKind.i64.wrap (3*v8)),pS x20.1,pS m23,pI (IntKind.i64.wrap (1+x24.1)),pB (x26.1 == 1),pL eS x25.1,pN]) rfl rfl rfl rfl rfl bV mA (bW (cU hb15 fun x28 hx28 hb15=>aa (av 1 [(44,pP b2 0)] (by kernel_rfl) ?_))))))
   refine ai rfl (ba rfl rfl (ρ1:=[_]) (aO (by exact ap aI) (List.Perm.refl _)) (aF hx28) ?_);rintro _ _ ⟨rfl,rfl⟩
   refine aG [(8,pI x28.1)] (by kernel_rfl) (cY (an [(9,pI 1)] (by kernel_rfl) (aT (cF 78 2 (ae hb15 fun q44 hq44 hb15=>?_)))))
   refine ar (Y:=(Option Addr×Nat)×((List Int)×Int×(List Zg))) (fun ((a40,c41),(l37,v38,l42))=>[(3,pP b2 0),(4,pI (IntKind.i64.wrap (1+x3.1))),(5,pO a6 l5.length c7),(6,pI v8),(7,pP b27 0)]) (fun ((a40,c41),(l37,v38,l42))=>[PRes.b b2 71 [pL eI l37,pI v38],PRes.b b27 76 [pI (IntKind.i64.wrap (3*v8)),pS x20.1,pS m23,pI (IntKind.i64.wrap (1+x24.1)),pB (x26.1 == 1),pL eS x25.1,pO a40 l42.length c41],PRes.row a6 l5.length c7 76 7 (List.map Ze.enc l5),PRes.row a40 l42.length c41 78 2 (List.map Zg.enc l42)]) (fun ((a40,c41),(l37,v38,l42))=>q44=(l37,v38,l42)) ?_ ?_
   ·refine aC ?_
    refine aJ (Y:=Option Addr×Nat) (S:=Int×(List Int)×Int×(List Zg)) _ hq44 (fun (a34,c35) (v29,l30,v31,l33)=>[(3,pP b2 0),(4,pI (IntKind.i64.wrap (1+x3.1))),(5,pO a6 l5.length c7),(6,pI v8),(7,pP b27 0),(8,pI x28.1),(9,pI v29)]) (fun (a34,c35) (v29,l30,v31,l33)=>[PRes.b b2 71 [pL eI l30,pI v31],PRes.b b27 76 [pI (IntKind.i64.wrap (3*v8)),pS x20.1,pS m23,pI (IntKind.i64.wrap (1+x24.1)),pB (x26.1 == 1),pL eS x25.1,pO a34 l33.length c35],PRes.row a34 l33.length c35 78 2 (List.map Zg.enc l33),PRes.row a6 l5.length c7 76 7 (List.map Ze.enc l5)]) (none,0) (n7 rfl) (aZ (ap aI) (aZ (ap aI) oA)) ?_
    rintro ⟨a34,c35⟩ ⟨v29,l30,v31,l33⟩ o τ hb43;(try dsimp only at hb43);dsimp only [az]
    refine dU (bj [1,1] (rg 46 13) [(59,pB (((decide (v29≤(IntKind.i64.wrap (1+x3.1))))&&(decide (((l33.length:Nat):Int)<4)))&&(!(x26.1 == 1))))] (by kernel_rfl) (bT rfl hb43 (fun hc46 hb43=>?_) fun hc46 hb43=>?_))
    ·refine ah ?_
     refine cU hb43 fun q54 hq54 hb43=>?_
     refine ar (Y:=(Option Addr×Nat)×((List Int)×Int×(List Zg))) (fun ((a51,c52),(l48,v49,l53))=>[(3,pP b2 0),(4,pI (IntKind.i64.wrap (1+x3.1))),(5,pO a6 l5.length c7),(6,pI v8),(7,pP b27 0),(8,pI x28.1),(9,pI v29)]) (fun ((a51,c52),(l48,v49,l53))=>[PRes.b b2 71 [pL eI l48,pI v49],PRes.b b27 76 [pI (IntKind.i64.wrap (3*v8)),pS x20.1,pS m23,pI (IntKind.i64.wrap (1+x24.1)),pB (x26.1 == 1),pL eS x25.1,pO a51 l53.length c52],PRes.row a6 l5.length c7 76 7 (List.map Ze.enc l5),PRes.row a51 l53.length c52 78 2 (List.map Zg.enc l53)]) (fun ((a51,c52),(l48,v49,l53))=>q54=(l48,v49,l53)) ?_ ?_
     ·skip
      refine gG (ae hq54 fun u55 hu55 hq54=>ae hq54 fun x56 hx56 hq54=>aa (aS 12 [] ((rg 62 6)++[69,70,71]) [(68,pB ((co .i64 (bQ .i64 x28.1 (IntKind.i64.wrap (v29 - 1))) 1) == 1)),(72,pgv ((co .i64 (bQ .i64 x28.1 (IntKind.i64.wrap (v29 - 1))) 1) == 1) (pB (decide (v29<v8)))),(73,pgv (((co .i64 (bQ .i64 x28.1 (IntKind.i64.wrap (v29 - 1))) 1) == 1)&&(!(decide (v29<v8)))) (pP b2 0))] (oU 3 hu55 bx) (by kernel_rfl) ?_))
      refine qz (nZ rfl rfl rfl) rfl rfl rfl (by exact aI) (lm (.g rfl) (lm (.p rfl) rT)) (fun hc=>aF (gdp_t hx56 hc)) (fun hc=>by rw [gdp_f hx56 hc]) ?_
      refine p6 (nZ rfl rfl rfl) rfl rfl (vA rfl (.g rfl) (.p rfl) rfl) (p6 (nv rfl rfl rfl) rfl rfl (pq_or rfl (.g rfl) (.p rfl) (.g rfl)) (bK rfl rfl rfl (vz rfl (.p rfl) (.p rfl) (.g rfl)) (aB (bT rfl hq54 (fun hc57 hq54=>?_) fun hc57 hq54=>?_))))
      ·refine ae hq54 ?_;clear hq54;intro x58 hx58 hq54
       refine ae hq54 fun l61 hl61 hq54=>?_
       refine iI (Y:=Option Addr×Nat) (fun (a62,c63)=>[(3,pP b2 0),(4,pI (IntKind.i64.wrap (1+x3.1))),(5,pO a6 l5.length c7),(6,pI v8),(7,pP b27 0),(8,pI x28.1),(9,pI v29)]) (fun (a62,c63)=>[PRes.b b2 71 [pL eI x58.2.L,pI x58.2.I],PRes.b b27 76 [pI (IntKind.i64.wrap (3*v8)),pS x20.1,pS m23,pI (IntKind.i64.wrap (1+x24.1)),pB (x26.1 == 1),pL eS x25.1,pO a62 l61.length c63],PRes.row a6 l5.length c7 76 7 (List.map Ze.enc l5),PRes.row a62 l61.length c63 78 2 (List.map Zg.enc l61)]) (fun _=>True) ?_ ?_
       ·refine kz (ρd:=[PRes.b b2 _ _,PRes.row a34 _ _ _ _ _,PRes.b b27 _ _]) _ (aO aI (aO (ap aI) (List.Perm.refl _))) ?_
        refine cu 0 (by kernel_rfl) rfl rfl rfl rfl (br rfl rfl rfl rfl rfl (.p rfl)) (cu 2 (by kernel_rfl) rfl rfl rfl rfl (ft (p:=pI v29) rfl (.p rfl)) (cu 3 (by kernel_rfl) rfl rfl rfl rfl (p9 rfl (.p rfl) (.p rfl) rfl) (cu 4 (by kernel_rfl) rfl rfl rfl rfl (ft (p:=pP b2 0) rfl (.p rfl)) ?_)))
        refine gN 1 5 (by kernel_rfl) ?_ ?_
        ·skip
         refine bd rfl rfl rfl rfl (lE (ce (p:=pO a34 l33.length c35) rfl (.p rfl) rn rfl) (bg 5 (by kernel_rfl) ?_))
         refine bd rfl rfl rfl rfl (ba rfl rfl (ρ1:=[_]) (aO (by exact aI) (List.Perm.refl _)) (aF hx58) ?_);rintro _ _ ⟨rfl,rfl⟩
         refine cu 6 (by kernel_rfl) rfl rfl rfl rfl (qc (cs:=[pI (IntKind.i64.wrap (3*v29)),pI x58.1]) rfl rfl rfl rfl rfl rfl rfl (xF rfl rfl rfl rfl kR (xF rfl rfl rfl rfl (cX kR) zfn))) (bg 7 (by kernel_rfl) (bd rfl rfl rfl rfl (bB rfl rfl rfl rfl rfl (eZ rfl hY) rfl rfl rfl rfl (fun b59=>bg 8 (by kernel_rfl) ?_))))
         refine bd rfl rfl rfl rfl (bN (enc:=Zg.enc) rfl rfl rfl rfl rfl rfl rfl rfl rfl eP (by exact ap (ap aI)) hl61 (fun a62 c63=>?_))
         refine cu 9 (by kernel_rfl) rfl rfl rfl rfl (br rfl rfl rfl rfl rfl (.p rfl)) (bg 10 (by kernel_rfl) (dR rfl rfl rfl (aj (vs:=[pO a62 l61.length c63]) rfl rfl rfl rfl rfl (cG (cG (cG bV))) (cX (cX (cX (cX (cX (cX kR)))))) (dQ (by kernel_rfl) ?_))))
         exact fR (a62,c63) (n7 rfl) (aZ (ap (ap aI)) (aZ (ap (ap aI)) (aZ (ap (ap aI)) cI))) trivial
        skip
        refine bd rfl rfl rfl rfl (ba rfl rfl (ρ1:=[_]) (aO (by exact aI) (List.Perm.refl _)) (aF hx58) ?_);rintro _ _ ⟨rfl,rfl⟩
        refine cu 6 (by kernel_rfl) rfl rfl rfl rfl (qc (cs:=[pI (IntKind.i64.wrap (3*v29)),pI x58.1]) rfl rfl rfl rfl rfl rfl rfl (xF rfl rfl rfl rfl kR (xF rfl rfl rfl rfl (cX kR) zfn))) ?_
        refine gN 1 7 (by kernel_rfl) ?_ ?_
        ·skip
         refine bd rfl rfl rfl rfl (lE (ce (p:=pO a34 l33.length c35) rfl (.p rfl) rn rfl) (bg 7 (by kernel_rfl) (bd rfl rfl rfl rfl (bB rfl rfl rfl rfl rfl (eZ rfl hY) rfl rfl rfl rfl (fun b59=>bg 8 (by kernel_rfl) ?_)))))
         refine bd rfl rfl rfl rfl (bN (enc:=Zg.enc) rfl rfl rfl rfl rfl rfl rfl rfl rfl eP (by exact ap (ap aI)) hl61 (fun a62 c63=>?_))
         refine cu 9 (by kernel_rfl) rfl rfl rfl rfl (br rfl rfl rfl rfl rfl (.p rfl)) (bg 10 (by kernel_rfl) (dR rfl rfl rfl (aj (vs:=[pO a62 l61.length c63]) rfl rfl rfl rfl rfl (cG (cG (cG bV))) (cX (cX (cX (cX (cX (cX kR)))))) (dQ (by kernel_rfl) ?_))))
         exact fR (a62,c63) (n7 rfl) (aZ (ap (ap aI)) (aZ (ap (ap aI)) (aZ (ap (ap aI)) cI))) trivial
        skip
        refine bd rfl rfl rfl rfl (bB rfl rfl rfl rfl rfl (eZ rfl hY) rfl rfl rfl rfl (fun b59=>bg 1 (by kernel_rfl) (bd rfl rfl rfl rfl (lE (ce (p:=pO a34 l33.length c35) rfl (.p rfl) zm3 rfl) (bg 8 (by kernel_rfl) ?_)))))
        refine bd rfl rfl rfl rfl (bN (enc:=Zg.enc) rfl rfl rfl rfl rfl rfl rfl rfl rfl eP (by exact ap (ap aI)) hl61 (fun a62 c63=>?_))
        refine cu 9 (by kernel_rfl) rfl rfl rfl rfl (br rfl rfl rfl rfl rfl (.p rfl)) (bg 10 (by kernel_rfl) (dR rfl rfl rfl (aj (vs:=[pO a62 l61.length c63]) rfl rfl rfl rfl rfl (cG (cG (cG bV))) (cX (cX (cX (cX (cX (cX kR)))))) (dQ (by kernel_rfl) ?_))))
        exact fR (a62,c63) (n7 rfl) (aZ (ap (ap aI)) (aZ (ap (ap aI)) (aZ (ap (ap aI)) cI))) trivial
       rintro ⟨a62,c63⟩ τ ρ1 hsub65 _;(try dsimp only at hsub65);dsimp only [az]
       refine aD ?_
       obtain rfl:=osi hq54
       exact au ((a62,c63),(x58.2.L,x58.2.I,l61)) (n7 rfl) (PSub.trans yu hsub65) rfl
      refine ah ?_
      refine aD ?_
      obtain rfl:=osi hq54
      exact au ((a34,c35),(x56.2.L,x56.2.I,l33)) (n7 rfl) (aZ aI (aZ aI (aZ (ap aI) cI))) rfl
     rintro ⟨⟨a51,c52⟩,⟨l48,v49,l53⟩⟩ τ hz;(try dsimp only at hz);subst q54;(try dsimp only at hb43);dsimp only [az]
     refine af [60,61] [(9,pI (IntKind.i64.wrap (v29+1)))] (by kernel_rfl) ?_
     exact aY hb43 (a51,c52) (n7 rfl) (aZ aI (aZ aI (aZ (ap aI) cI)))
    refine aP ?_
    refine aq (ak hb43 (fun ht=>am rfl ?_))
    exact au ((a34,c35),(l30,v31,l33)) (mz rfl) (aZ aI (aZ aI (aZ (ap aI) cI))) ht.symm
   rintro ⟨⟨a40,c41⟩,⟨l37,v38,l42⟩⟩ τ hz;(try dsimp only at hz);subst q44;(try dsimp only at hb15);dsimp only [az]
   refine aa (av 1 [(88,pO a6 l5.length c7)] (by kernel_rfl) ?_)
   refine jc (css:=List.map Zg.enc l42) (a:=a40) (by exact ap (ap (ap aI))) ?_
   refine gB (k:=6) (enc:=Zg.enc) (xs:=l42) (b:=b27) (a:=a40) rfl eP (cG (cG bV)) (e9 1 [2] [(89,.agg [pI (IntKind.i64.wrap (3*v8)),pS x20.1,pS m23,pI (IntKind.i64.wrap (1+x24.1)),pB (x26.1 == 1),pL eS x25.1,pL Zg.enc l42])] (by kernel_rfl) (ai rfl (bB rfl rfl rfl rfl rfl (eZ rfl hY) rfl rfl rfl rfl (fun b66=>ae hb15 fun l68 hl68 hb15=>?_))))
   refine ai rfl (bN (enc:=Ze.enc) rfl rfl rfl rfl rfl rfl rfl rfl rfl eP (by exact ap (ap (ap (ap aI)))) hl68 (fun a69 c70=>?_))
   refine aG [(5,pO a69 l68.length c70)] (by kernel_rfl) (fw (af [20,21] [(6,pI (IntKind.i64.wrap (v8+1)))] (by kernel_rfl) ?_))
   exact aY hb15 (a69,c70) (jW rfl) (aZ (ap (ap (ap aI))) cI)
  refine aP ?_
  refine aq (ak hb15 (fun ht=>am rfl ?_))
  exact au ((a6,c7),l5) (tN rfl) (aZ (ap aI) bL) ht.symm
 rintro ⟨⟨a12,c13⟩,l14⟩ τ hz;(try dsimp only at hz);subst q16;(try dsimp only at h);dsimp only [az]
 refine ag (af [92] [(2,pO a12 l14.length c13)] (by kernel_rfl) (em ?_))
 obtain rfl:=osi h
 exact aQ (cL (aX rfl)) cI ⟨_,_,rfl,rfl⟩
def d9 (p0:Zh):Option (Int×Zh):=(aH p0 4).bind fun x1=>cond (decide (0<x1.1)) ((aH x1.2 101).bind fun x3=>some ((IntKind.i64.wrap (10000*x3.1)),x3.2)) ((aH x1.2 1000001).bind fun x4=>some (x4.1,x4.2))
theorem i6 {p0:Zh} {b0:Nat} {r:(Int×Zh)}  (h:d9 p0=some r):PCall 87 [pP b0 0] [PRes.b b0 71 [pL eI p0.L,pI p0.I]] (fun pv ρ'=>pv=pI r.1∧ρ'=[PRes.b b0 71 [pL eI r.2.L,pI r.2.I]]):=by
 unfold d9 at h
 refine ed Tryz.func87 rfl Tryz.ntmps87 Tryz.results87 rfl (aU [2] (by kernel_rfl) (cY (ae h fun x1 hx1 h=>aa (av 1 [(3,pP b0 0)] (by kernel_rfl) ?_))))
 refine ai rfl (ba rfl rfl (ρ1:=[_]) (aO (by exact aI) (List.Perm.refl _)) (aF hx1) ?_);rintro _ _ ⟨rfl,rfl⟩
 refine aG [(5,pB (decide (0<x1.1)))] (by kernel_rfl) (bT rfl h (fun hc2 h=>?_) fun hc2 h=>?_)
 ·refine ag ?_
  refine ae h fun x3 hx3 h=>aa (av 1 [(6,pP b0 0)] (by kernel_rfl) ?_)
  refine ai rfl (ba rfl rfl (ρ1:=[_]) (aO (by exact aI) (List.Perm.refl _)) (aF hx3) ?_);rintro _ _ ⟨rfl,rfl⟩
  refine iN [8] [(2,pI (IntKind.i64.wrap (10000*x3.1)))] (by kernel_rfl) (em (aA ?_))
  obtain rfl:=osi h
  exact aQ (cL (aX rfl)) cI ⟨rfl,rfl⟩
 refine ah ?_
 refine cU h fun x4 hx4 h=>aa (av 1 [(9,pP b0 0)] (by kernel_rfl) ?_)
 refine ai rfl (ba rfl rfl (ρ1:=[_]) (aO (by exact aI) (List.Perm.refl _)) (aF hx4) ?_);rintro _ _ ⟨rfl,rfl⟩
 refine aG [(2,pI x4.1)] (by kernel_rfl) (em ?_)
 obtain rfl:=osi h
 exact aQ (cL (aX rfl)) cI ⟨rfl,rfl⟩
def ee (rec:Zh→Int→Int→Option (Zd×Zh)) (p0:Zh) (p1:Int) (p2:Int):Option (Zd×Zh):=(aH p0 8).bind fun x2=>cond ((decide (5≤x2.1))&&(decide (0<p2))) (Option.bind (cond ((IntKind.i64.wrap (5+(Int.tmod x2.1 2))) == p1) (some (IntKind.i64.wrap (11 - p1))) (some (IntKind.i64.wrap (5+(Int.tmod x2.1 2))))) (fun v5=>(aH x2.2 2).bind fun x8=>(bf (S:=Int×(List Int)×Int×(List Zd)) (T:=((List Int)×Int×(List Zd))) (fun (v9,l10,v11,l13)=>cond (decide (0<v9)) ((rec (⟨l10,v11⟩:Zh) v5 (IntKind.i64.wrap (p2 - 1))).bind fun x26=>(app 96 l13 [x26.1]).bind fun l29=>some (.inl ((IntKind.i64.wrap (v9 - 1)),x26.2.L,x26.2.I,l29))) (some (.inr (l10,v11,l13)))) FUEL ((IntKind.i64.wrap (2+x8.1)),x8.2.L,x8.2.I,([]:List Zd))).bind fun (l16,v17,l21)=>some ((⟨v5,0,[],0,0,ByteArray.empty,l21⟩:Zd),(⟨l16,v17⟩:Zh)))) (Option.bind (α:=((List Int)×Int)⊕_) (cond ((Int.tmod x2.1 4) == 1) ((d9 x2.2).bind fun x38=>some (.inr ((⟨3,0,[],0,x38.1,ByteArray.empty,[]⟩:Zd),x38.2))) (cond ((Int.tmod x2.1 4) == 2) ((aH x2.2 5).bind fun x42=>(idx [(⟨#[97,110,100]⟩:ByteArray),(⟨#[99,117,116]⟩:ByteArray),(⟨#[111,114]⟩:ByteArray),(⟨#[115,101,119]⟩:ByteArray),(⟨#[115,112,105,110]⟩:ByteArray)] x42.1).bind fun m43=>some (.inr ((⟨4,0,[],0,0,m43,[]⟩:Zd),x42.2))) (cond ((Int.tmod x2.1 4) == 3) ((aH x2.2 3).bind fun x45=>cond (x45.1 == 1) (some (.inr ((⟨1,0,[],0,0,ByteArray.empty,[]⟩:Zd),x45.2))) (some (.inl (x45.2.L,x45.2.I)))) (some (.inl (x2.2.L,x2.2.I)))))) (fun q=>match q with | .inl (l34,v35)=>(aH (⟨l34,v35⟩:Zh) 3).bind (fun x47=>(aH x47.2 3).bind fun x49=>Option.bind (cond (x49.1 == 1) ((aH x49.2 2).bind fun x57=>(sub [(⟨#[57,52,48,49]⟩:ByteArray),(⟨#[57,53,48,50]⟩:ByteArray)] x57.1 ([(⟨#[57,52,48,49]⟩:ByteArray),(⟨#[57,53,48,50]⟩:ByteArray)].length:Int)).bind fun l58=>some (x57.2.L,x57.2.I,l58)) (some (x49.2.L,x49.2.I,[]))) (fun (l50,v51,l52)=>(aH (⟨l50,v51⟩:Zh) 3).bind fun x59=>Option.bind (cond (x59.1 == 1) ((d9 x59.2).bind fun x65=>some (x65.2.L,x65.2.I,x65.1)) (some (x59.2.L,x59.2.I,0))) (fun (l60,v61,v62)=>some ((⟨2,(IntKind.i64.wrap (2+(IntKind.i64.wrap (2*x47.1)))),l52,v62,0,ByteArray.empty,[]⟩:Zd),(⟨l60,v61⟩:Zh))))) | .inr e=>some e))
theorem lI {rec:Zh→Int→Int→Option (Zd×Zh)} (hrec:∀ {p0:Zh} {p1:Int} {p2:Int} {b0:Nat} {r:(Zd×Zh)},rec p0 p1 p2=some r→PCall 43 [pP b0 0,pI p1,pI p2] [PRes.b b0 71 [pL eI p0.L,pI p0.I]] (fun pv ρ'=>pv=.agg (aR r.1)∧ρ'=[PRes.b b0 71 [pL eI r.2.L,pI r.2.I]])) {p0:Zh} {p1:Int} {p2:Int} {b0:Nat} {r:(Zd×Zh)} (h:ee rec p0 p1 p2=some r):PCall 43 [pP b0 0,pI p1,pI p2] [PRes.b b0 71 [pL eI p0.L,pI p0.I]] (fun pv ρ'=>pv=.agg (aR r.1)∧ρ'=[PRes.b b0 71 [pL eI r.2.L,pI r.2.I]]):=by
 unfold ee at h
 refine ed Tryz.func43 rfl Tryz.ntmps43 Tryz.results43 rfl (aa (ai rfl (aM (cs:=[pI 0,pI 0,pN,pI 0,pI 0,pS ByteArray.empty,pN]) rfl rfl rfl rfl (fun b1=>aB (cU h fun x2 hx2 h=>aa (av 1 [(11,pP b0 0)] (by kernel_rfl) ?_))))))
 refine ai rfl (ba rfl rfl (ρ1:=[_]) (aO (by exact ap aI) (List.Perm.refl _)) (aF hx2) ?_);rintro _ _ ⟨rfl,rfl⟩
 refine aG [(7,pI x2.1)] (by kernel_rfl) (cY (af (rg 13 5) [(18,pB ((decide (5≤x2.1))&&(decide (0<p2))))] (by kernel_rfl) (bT rfl h (fun hc3 h=>?_) fun hc3 h=>?_)))
 ·refine ag ?_
  refine aa (bS 4 [19,20,21] [(22,.agg [pI (IntKind.i64.wrap (5+(Int.tmod x2.1 2))),pI 0,pN,pI 0,pI 0,pS ByteArray.empty,pN])] (by kernel_rfl) (ai rfl (aM (cs:=[pI 0,pI 0,pN,pI 0,pI 0,pS ByteArray.empty,pN]) rfl rfl rfl rfl (fun b4=>aN rfl rfl (aj (vs:=[pI (IntKind.i64.wrap (5+(Int.tmod x2.1 2))),pI 0,pN,pI 0,pI 0,pS ByteArray.empty,pN]) rfl rfl rfl rfl rfl bV mA (aB (cY (bj [0] [23,24,25] [(26,pB ((IntKind.i64.wrap (5+(Int.tmod x2.1 2))) == p1))] (by kernel_rfl) (gn h fun q6 hq6 h=>?_)))))))))
  refine ar (Y:=Unit×Int) (fun (_,v5)=>[(0,pP b0 0),(2,pI p2),(6,pP b1 0),(8,pP b4 0)]) (fun (_,v5)=>[PRes.b b0 71 [pL eI x2.2.L,pI x2.2.I],PRes.b b1 84 [pI 0,pI 0,pN,pI 0,pI 0,pS ByteArray.empty,pN],PRes.b b4 84 [pI v5,pI 0,pN,pI 0,pI 0,pS ByteArray.empty,pN]]) (fun (_,v5)=>q6=v5) ?_ ?_
  ·skip
   refine kq rfl hq6 (fun hc7 hq6=>?_) fun hc7 hq6=>?_
   ·refine aa ?_
    refine bS 3 [27] [(28,pI (IntKind.i64.wrap (11 - p1))),(29,pP b4 0)] (by kernel_rfl) (aN rfl rfl (aj (vs:=[pI (IntKind.i64.wrap (11 - p1))]) rfl rfl rfl rfl rfl bV kR (aB ?_)))
    obtain rfl:=osi hq6
    exact au ((),(IntKind.i64.wrap (11 - p1))) (jW rfl) (aZ (ap aI) (aZ (ap aI) cI)) rfl
   refine ah ?_
   obtain rfl:=osi hq6
   exact au ((),(IntKind.i64.wrap (5+(Int.tmod x2.1 2)))) (jW rfl) (aZ (ap aI) (aZ (ap aI) cI)) rfl
  rintro ⟨_,v5⟩ τ hz;(try dsimp only at hz);subst q6;(try dsimp only at h);dsimp only [az]
  refine dU (ae h fun x8 hx8 h=>aa (av 1 [(30,pP b0 0)] (by kernel_rfl) ?_))
  refine ai rfl (ba rfl rfl (ρ1:=[_]) (aO (by exact aI) (List.Perm.refl _)) (aF hx8) ?_);rintro _ _ ⟨rfl,rfl⟩
  refine iN [32] [(9,pI (IntKind.i64.wrap (2+x8.1)))] (by kernel_rfl) (aT (cF 84 7 (ae h fun q23 hq23 h=>?_)))
  refine ar (Y:=(Option Addr×Nat)×((List Int)×Int×(List Zd))) (fun ((a19,c20),(l16,v17,l21))=>[(6,pP b1 0),(8,pP b4 0)]) (fun ((a19,c20),(l16,v17,l21))=>[PRes.b b0 71 [pL eI l16,pI v17],PRes.b b1 84 [pI 0,pI 0,pN,pI 0,pI 0,pS ByteArray.empty,pN],PRes.b b4 84 [pI v5,pI 0,pN,pI 0,pI 0,pS ByteArray.empty,pO a19 l21.length c20],PRes.row a19 l21.length c20 84 7 (List.map Zd.enc l21)]) (fun ((a19,c20),(l16,v17,l21))=>q23=(l16,v17,l21)) ?_ ?_
  ·refine aC ?_
   refine aJ (Y:=Option Addr×Nat) (S:=Int×(List Int)×Int×(List Zd)) _ hq23 (fun (a14,c15) (v9,l10,v11,l13)=>[(0,pP b0 0),(2,pI p2),(6,pP b1 0),(8,pP b4 0),(9,pI v9)]) (fun (a14,c15) (v9,l10,v11,l13)=>[PRes.b b0 71 [pL eI l10,pI v11],PRes.b b1 84 [pI 0,pI 0,pN,pI 0,pI 0,pS ByteArray.empty,pN],PRes.b b4 84 [pI v5,pI 0,pN,pI 0,pI 0,pS ByteArray.empty,pO a14 l13.length c15],PRes.row a14 l13.length c15 84 7 (List.map Zd.enc l13)]) (none,0) (mz rfl) (aZ (ap aI) (aZ (ap aI) (aZ (ap aI) cI))) ?_
   rintro ⟨a14,c15⟩ ⟨v9,l10,v11,l13⟩ o τ hb22;(try dsimp only at hb22);dsimp only [az]
   refine dU (af [33] [(34,pB (decide (0<v9)))] (by kernel_rfl) (bT rfl hb22 (fun hc25 hb22=>?_) fun hc25 hb22=>?_))
   ·refine ah ?_
    refine bO (aC (ae hb22 fun x26 hx26 hb22=>ae hb22 fun l29 hl29 hb22=>?_))
    refine iI (Y:=Option Addr×Nat) (fun (a30,c31)=>[(0,pP b0 0),(2,pI p2),(6,pP b1 0),(8,pP b4 0),(9,pI v9)]) (fun (a30,c31)=>[PRes.b b0 71 [pL eI x26.2.L,pI x26.2.I],PRes.b b1 84 [pI 0,pI 0,pN,pI 0,pI 0,pS ByteArray.empty,pN],PRes.b b4 84 [pI v5,pI 0,pN,pI 0,pI 0,pS ByteArray.empty,pO a30 l29.length c31],PRes.row a30 l29.length c31 84 7 (List.map Zd.enc l29)]) (fun _=>True) ?_ ?_
    ·refine kz (ρd:=[PRes.b b0 _ _,PRes.row a14 _ _ _ _ _,PRes.b b4 _ _]) _ (aO aI (aO (ap (ap aI)) (aO (ap aI) (List.Perm.refl _)))) ?_
     refine cu 0 (by kernel_rfl) rfl rfl rfl rfl (br rfl rfl rfl rfl rfl (.p rfl)) (cu 2 (by kernel_rfl) rfl rfl rfl rfl (ft (p:=pP b0 0) rfl (.p rfl)) (cu 3 (by kernel_rfl) rfl rfl rfl rfl (br rfl rfl rfl rfl rfl (.p rfl)) (cu 5 (by kernel_rfl) rfl rfl rfl rfl (ft (p:=pI p2) rfl (.p rfl)) (cu 6 (by kernel_rfl) rfl rfl rfl rfl (p9 rfl (.p rfl) (.p rfl) rfl) ?_))))
     refine gN 1 4 (by kernel_rfl) ?_ ?_
     ·skip
      refine bd rfl rfl rfl rfl (lE (ce (p:=pO a14 l13.length c15) rfl (.p rfl) rn rfl) (bg 4 (by kernel_rfl) (bd rfl rfl rfl rfl (lE (ce (p:=pI v5) rfl (.p rfl) rn rfl) (bg 7 (by kernel_rfl) ?_)))))
      refine bd rfl rfl rfl rfl (ba rfl rfl (ρ1:=[_]) (aO (by exact aI) (List.Perm.refl _)) (hrec hx26) ?_);rintro _ _ ⟨rfl,rfl⟩
      refine bg 8 (by kernel_rfl) ?_
      refine bd rfl rfl rfl rfl (bB (css:=List.map Zd.enc [x26.1]) rfl rfl rfl rfl rfl (by (simp only [List.map_cons,List.map_nil,Zd.enc_eq];(repeat (first | exact hY | apply eZ rfl)))) rfl (by (simp only [List.map_cons,List.map_nil,Zd.enc_eq];rfl)) rfl rfl (fun b27=>?_))
      refine bg 9 (by kernel_rfl) ?_
      refine bd rfl rfl rfl rfl (bN (enc:=Zd.enc) rfl rfl rfl rfl rfl rfl rfl rfl rfl eP (by exact ap (ap aI)) hl29 (fun a30 c31=>?_))
      refine cu 10 (by kernel_rfl) rfl rfl rfl rfl (br rfl rfl rfl rfl rfl (.p rfl)) (bg 11 (by kernel_rfl) (dR rfl rfl rfl (aj (vs:=[pO a30 l29.length c31]) rfl rfl rfl rfl rfl (cG (cG (cG bV))) (cX (cX (cX (cX (cX (cX kR)))))) (dQ (by kernel_rfl) ?_))))
      exact fR (a30,c31) (mz rfl) (aZ (ap (ap aI)) (aZ (ap (ap (ap aI))) (aZ (ap (ap aI)) cI))) trivial
     skip
     refine bd rfl rfl rfl rfl (lE (ce (p:=pI v5) rfl (.p rfl) rn rfl) ?_)
     refine gN 1 7 (by kernel_rfl) ?_ ?_
     ·skip
      refine bd rfl rfl rfl rfl (lE (ce (p:=pO a14 l13.length c15) rfl (.p rfl) rn rfl) (bg 7 (by kernel_rfl) ?_))
      refine bd rfl rfl rfl rfl (ba rfl rfl (ρ1:=[_]) (aO (by exact aI) (List.Perm.refl _)) (hrec hx26) ?_);rintro _ _ ⟨rfl,rfl⟩
      refine bg 8 (by kernel_rfl) ?_
      refine bd rfl rfl rfl rfl (bB (css:=List.map Zd.enc [x26.1]) rfl rfl rfl rfl rfl (by (simp only [List.map_cons,List.map_nil,Zd.enc_eq];(repeat (first | exact hY | apply eZ rfl)))) rfl (by (simp only [List.map_cons,List.map_nil,Zd.enc_eq];rfl)) rfl rfl (fun b27=>?_))
      refine bg 9 (by kernel_rfl) ?_
      refine bd rfl rfl rfl rfl (bN (enc:=Zd.enc) rfl rfl rfl rfl rfl rfl rfl rfl rfl eP (by exact ap (ap aI)) hl29 (fun a30 c31=>?_))
      refine cu 10 (by kernel_rfl) rfl rfl rfl rfl (br rfl rfl rfl rfl rfl (.p rfl)) (bg 11 (by kernel_rfl) (dR rfl rfl rfl (aj (vs:=[pO a30 l29.length c31]) rfl rfl rfl rfl rfl (cG (cG (cG bV))) (cX (cX (cX (cX (cX (cX kR)))))) (dQ (by kernel_rfl) ?_))))
      exact fR (a30,c31) (mz rfl) (aZ (ap (ap aI)) (aZ (ap (ap (ap aI))) (aZ (ap (ap aI)) cI))) trivial
     skip
     refine bd rfl rfl rfl rfl (ba rfl rfl (ρ1:=[_]) (aO (by exact aI) (List.Perm.refl _)) (hrec hx26) ?_);rintro _ _ ⟨rfl,rfl⟩
     refine gN 1 8 (by kernel_rfl) ?_ ?_
     ·skip
      refine bd rfl rfl rfl rfl (lE (ce (p:=pO a14 l13.length c15) rfl (.p rfl) rn rfl) (bg 8 (by kernel_rfl) ?_))
      refine bd rfl rfl rfl rfl (bB (css:=List.map Zd.enc [x26.1]) rfl rfl rfl rfl rfl (by (simp only [List.map_cons,List.map_nil,Zd.enc_eq];(repeat (first | exact hY | apply eZ rfl)))) rfl (by (simp only [List.map_cons,List.map_nil,Zd.enc_eq];rfl)) rfl rfl (fun b27=>?_))
      refine bg 9 (by kernel_rfl) ?_
      refine bd rfl rfl rfl rfl (bN (enc:=Zd.enc) rfl rfl rfl rfl rfl rfl rfl rfl rfl eP (by exact ap (ap aI)) hl29 (fun a30 c31=>?_))
      refine cu 10 (by kernel_rfl) rfl rfl rfl rfl (br rfl rfl rfl rfl rfl (.p rfl)) (bg 11 (by kernel_rfl) (dR rfl rfl rfl (aj (vs:=[pO a30 l29.length c31]) rfl rfl rfl rfl rfl (cG (cG (cG bV))) (cX (cX (cX (cX (cX (cX kR)))))) (dQ (by kernel_rfl) ?_))))
      exact fR (a30,c31) (mz rfl) (aZ (ap (ap aI)) (aZ (ap (ap (ap aI))) (aZ (ap (ap aI)) cI))) trivial
     skip
     refine bd rfl rfl rfl rfl (bB (css:=List.map Zd.enc [x26.1]) rfl rfl rfl rfl rfl (by (simp only [List.map_cons,List.map_nil,Zd.enc_eq];(repeat (first | exact hY | apply eZ rfl)))) rfl (by (simp only [List.map_cons,List.map_nil,Zd.enc_eq];rfl)) rfl rfl (fun b27=>?_))
     refine bg 1 (by kernel_rfl) (bd rfl rfl rfl rfl (lE (ce (p:=pO a14 l13.length c15) rfl (.p rfl) zm3 rfl) (bg 9 (by kernel_rfl) ?_)))
     refine bd rfl rfl rfl rfl (bN (enc:=Zd.enc) rfl rfl rfl rfl rfl rfl rfl rfl rfl eP (by exact ap (ap aI)) hl29 (fun a30 c31=>?_))
     refine cu 10 (by kernel_rfl) rfl rfl rfl rfl (br rfl rfl rfl rfl rfl (.p rfl)) (bg 11 (by kernel_rfl) (dR rfl rfl rfl (aj (vs:=[pO a30 l29.length c31]) rfl rfl rfl rfl rfl (cG (cG (cG bV))) (cX (cX (cX (cX (cX (cX kR)))))) (dQ (by kernel_rfl) ?_))))
     exact fR (a30,c31) (mz rfl) (aZ (ap (ap aI)) (aZ (ap (ap (ap aI))) (aZ (ap (ap aI)) cI))) trivial
    rintro ⟨a30,c31⟩ τ ρ1 hsub33 _;(try dsimp only at hsub33);dsimp only [az]
    refine fw (nw hsub33 (af [35,36] [(9,pI (IntKind.i64.wrap (v9 - 1)))] (by kernel_rfl) ?_))
    exact aY hb22 (a30,c31) (mz rfl) yu
   refine aP ?_
   refine aq (ak hb22 (fun ht=>am rfl ?_))
   exact au ((a14,c15),(l10,v11,l13)) (nS rfl) yu ht.symm
  rintro ⟨⟨a19,c20⟩,⟨l16,v17,l21⟩⟩ τ hz;(try dsimp only at hz);subst q23;(try dsimp only at h);dsimp only [az]
  refine ag (aa (uk (k:=2) (b:=b4) rfl (cG (cG bV)) ?_))
  refine jc (css:=List.map Zd.enc l21) (a:=a19) (by exact ap (ap (ap aI))) ?_
  refine gB (k:=6) (enc:=Zd.enc) (xs:=l21) (b:=b4) (a:=a19) rfl eP (cG (cG (cG bV))) (e9 1 [3] [(48,.agg [pI v5,pI 0,pL eS [],pI 0,pI 0,pS ByteArray.empty,pL Zd.enc l21])] (by kernel_rfl) (aN rfl rfl (aj (vs:=[pI v5,pI 0,pL eS [],pI 0,pI 0,pS ByteArray.empty,pL Zd.enc l21]) rfl rfl rfl rfl rfl (cG (cG bV)) mA (aB (em (aA ?_))))))
  obtain rfl:=osi h
  exact aQ (cL (cE rfl rn rfl)) (aZ (ap aI) bL) ⟨rfl,rfl⟩
 refine ah ?_
 refine cY (af [49] [(50,pI (Int.tmod x2.1 4))] (by kernel_rfl) (gn h fun q36 hq36 h=>?_))
 refine ar (Y:=Unit×((List Int)×Int)) (fun (_,(l34,v35))=>[(0,pP b0 0),(6,pP b1 0)]) (fun (_,(l34,v35))=>[PRes.b b0 71 [pL eI l34,pI v35],PRes.b b1 84 [pI 0,pI 0,pN,pI 0,pI 0,pS ByteArray.empty,pN]]) (fun (_,(l34,v35))=>q36=Sum.inl (l34,v35)) ?_ ?_
 ·skip
  refine gG (af [52] [(51,pB ((Int.tmod x2.1 4) == 1))] (by kernel_rfl) (bT rfl hq36 (fun hc37 hq36=>?_) fun hc37 hq36=>?_))
  ·refine ag ?_
   refine ae hq36 fun x38 hx38 hq36=>aa (av 1 [(53,pP b0 0)] (by kernel_rfl) ?_)
   refine ai rfl (ba rfl rfl (ρ1:=[_]) (aO (by exact aI) (List.Perm.refl _)) (i6 hx38) ?_);rintro _ _ ⟨rfl,rfl⟩
   refine av 1 [(55,.agg [pI 3,pI 0,pN,pI 0,pI x38.1,pS ByteArray.empty,pN])] (by kernel_rfl) (aN rfl rfl (aj (vs:=[pI 3,pI 0,pN,pI 0,pI x38.1,pS ByteArray.empty,pN]) rfl rfl rfl rfl rfl (cG bV) mA (aB (aT (cb (k:=2) (b:=b1) rfl (cG bV) (cb (k:=6) (b:=b1) rfl (cG bV) (bU (aL (aV ?_)))))))))
   obtain rfl:=osi hq36
   obtain rfl:=osi h
   exact aQ (cL (cE rfl rV rfl)) cI ⟨rfl,rfl⟩
  refine ag ?_
  refine af [57] [(56,pB ((Int.tmod x2.1 4) == 2))] (by kernel_rfl) (bT rfl hq36 (fun hc39 hq36=>?_) fun hc39 hq36=>?_)
  ·refine ag ?_
   refine aa (ai rfl (bB rfl rfl rfl rfl rfl (eZ rfl (eZ rfl (eZ rfl (eZ rfl (eZ rfl hY))))) rfl rfl rfl rfl (fun b40=>ae hq36 fun x42 hx42 hq36=>av 1 [(59,pP b0 0)] (by kernel_rfl) ?_)))
   refine ai rfl (ba rfl rfl (ρ1:=[_]) (aO (by exact ap aI) (List.Perm.refl _)) (aF hx42) ?_);rintro _ _ ⟨rfl,rfl⟩
   refine ae hq36 fun m43 hm43 hq36=>bK rfl rfl rfl (e7 (enc:=eS) (xs:=[(⟨#[97,110,100]⟩:ByteArray),(⟨#[99,117,116]⟩:ByteArray),(⟨#[111,114]⟩:ByteArray),(⟨#[115,101,119]⟩:ByteArray),(⟨#[115,112,105,110]⟩:ByteArray)]) rfl rfl rfl (.p rfl) rV (.p rfl) (fun _=>hm43)) (bK rfl rfl rfl (dg (sz:=1) (p:=pS m43) (enc:=eS) (xs:=[(⟨#[97,110,100]⟩:ByteArray),(⟨#[99,117,116]⟩:ByteArray),(⟨#[111,114]⟩:ByteArray),(⟨#[115,101,119]⟩:ByteArray),(⟨#[115,112,105,110]⟩:ByteArray)]) (a:=(some ⟨b40,0,none⟩)) x42.1 0 m43 rfl (.p rfl) rfl rV (fun _=>hm43) rfl) (av 1 [(63,.agg [pI 4,pI 0,pN,pI 0,pI 0,pS m43,pN])] (by kernel_rfl) (aN rfl rfl (aj (vs:=[pI 4,pI 0,pN,pI 0,pI 0,pS m43,pN]) rfl rfl rfl rfl rfl (cG (cG bV)) mA (aB (aT (cb (k:=2) (b:=b1) rfl (cG (cG bV)) (cb (k:=6) (b:=b1) rfl (cG (cG bV)) (bU (aL (aV ?_)))))))))))
   obtain rfl:=osi hq36
   obtain rfl:=osi h
   exact aQ (cL (cE rfl rn rfl)) cI ⟨rfl,rfl⟩
  refine ag ?_
  refine af [65] [(64,pB ((Int.tmod x2.1 4) == 3))] (by kernel_rfl) (bT rfl hq36 (fun hc44 hq36=>?_) fun hc44 hq36=>?_)
  ·refine ag ?_
   refine ae hq36 fun x45 hx45 hq36=>aa (av 1 [(66,pP b0 0)] (by kernel_rfl) ?_)
   refine ai rfl (ba rfl rfl (ρ1:=[_]) (aO (by exact aI) (List.Perm.refl _)) (aF hx45) ?_);rintro _ _ ⟨rfl,rfl⟩
   refine aG [(68,pB (x45.1 == 1))] (by kernel_rfl) (bT rfl hq36 (fun hc46 hq36=>?_) fun hc46 hq36=>?_)
   ·refine ag ?_
    refine aa (av 1 [(69,.agg [pI 1,pI 0,pN,pI 0,pI 0,pS ByteArray.empty,pN])] (by kernel_rfl) (aN rfl rfl (aj (vs:=[pI 1,pI 0,pN,pI 0,pI 0,pS ByteArray.empty,pN]) rfl rfl rfl rfl rfl (cG bV) mA (aB (aT (cb (k:=2) (b:=b1) rfl (cG bV) (cb (k:=6) (b:=b1) rfl (cG bV) (bU (aL (aV ?_))))))))))
    obtain rfl:=osi hq36
    obtain rfl:=osi h
    exact aQ (cL (cE rfl rV rfl)) cI ⟨rfl,rfl⟩
   refine ah ?_
   refine aD ?_
   obtain rfl:=osi hq36
   exact au ((),(x45.2.L,x45.2.I)) (nS rfl) oA rfl
  refine ah ?_
  refine aD ?_
  obtain rfl:=osi hq36
  exact au ((),(x2.2.L,x2.2.I)) (nS rfl) oA rfl
 rintro ⟨_,⟨l34,v35⟩⟩ τ hz;(try dsimp only at hz);subst q36;(try dsimp only at h);dsimp only [az]
 refine ag (ae h fun x47 hx47 h=>aa (av 1 [(70,pP b0 0)] (by kernel_rfl) ?_))
 refine ai rfl (ba rfl rfl (ρ1:=[_]) (aO (by exact aI) (List.Perm.refl _)) (aF hx47) ?_);rintro _ _ ⟨rfl,rfl⟩
 refine bS 3 [72,73] [(74,.agg [pI 2,pI (IntKind.i64.wrap (2+(IntKind.i64.wrap (2*x47.1)))),pN,pI 0,pI 0,pS ByteArray.empty,pN])] (by kernel_rfl) (ai rfl (aM (cs:=[pI 0,pI 0,pN,pI 0,pI 0,pS ByteArray.empty,pN]) rfl rfl rfl rfl (fun b48=>aN rfl rfl (aj (vs:=[pI 2,pI (IntKind.i64.wrap (2+(IntKind.i64.wrap (2*x47.1)))),pN,pI 0,pI 0,pS ByteArray.empty,pN]) rfl rfl rfl rfl rfl bV mA (aB (cY (ae h fun x49 hx49 h=>aa (av 1 [(75,pP b0 0)] (by kernel_rfl) ?_))))))))
 refine ai rfl (ba rfl rfl (ρ1:=[_]) (aO (by exact ap aI) (List.Perm.refl _)) (aF hx49) ?_);rintro _ _ ⟨rfl,rfl⟩
 refine aG [(77,pB (x49.1 == 1))] (by kernel_rfl) (gn h fun q53 hq53 h=>?_)
 refine ar (Y:=Unit×((List Int)×Int×(List ByteArray))) (fun (_,(l50,v51,l52))=>[(0,pP b0 0),(6,pP b1 0),(10,pP b48 0)]) (fun (_,(l50,v51,l52))=>[PRes.b b0 71 [pL eI l50,pI v51],PRes.b b1 84 [pI 0,pI 0,pN,pI 0,pI 0,pS ByteArray.empty,pN],PRes.b b48 84 [pI 2,pI (IntKind.i64.wrap (2+(IntKind.i64.wrap (2*x47.1)))),pL eS l52,pI 0,pI 0,pS ByteArray.empty,pN]]) (fun (_,(l50,v51,l52))=>q53=(l50,v51,l52)) ?_ ?_
 ·skip
  refine kq rfl hq53 (fun hc54 hq53=>?_) fun hc54 hq53=>?_
  ·refine aa ?_
   refine ai rfl (bB rfl rfl rfl rfl rfl (eZ rfl (eZ rfl hY)) rfl rfl rfl rfl (fun b55=>ae hq53 fun x57 hx57 hq53=>av 1 [(79,pP b0 0)] (by kernel_rfl) ?_))
   refine ai rfl (ba rfl rfl (ρ1:=[_]) (aO (by exact ap aI) (List.Perm.refl _)) (aF hx57) ?_);rintro _ _ ⟨rfl,rfl⟩
   refine fS (enc:=eS) (xs:=[(⟨#[57,52,48,49]⟩:ByteArray),(⟨#[57,53,48,50]⟩:ByteArray)]) 78 rfl (by exact ap aI) ?_
   refine ae hq53 fun l58 hl58 hq53=>aS 2 [] [] [(81,pL eS l58),(82,pP b48 2)] (uz 0 eS 1 (fun _=>rfl) hl58 bx) (by kernel_rfl) (aN rfl rfl (aj (vs:=[pL eS l58]) rfl rfl rfl rfl rfl (cG (cG bV)) (cX (cX kR)) (aB ?_)))
   obtain rfl:=osi hq53
   exact au ((),(x57.2.L,x57.2.I,l58)) (lF rfl) (aZ (ap aI) (aZ (ap (ap aI)) (aZ (ap aI) bL))) rfl
  refine ah ?_
  refine lf (zg (k:=2) (b:=b48) rfl (cG bV)) ?_
  obtain rfl:=osi hq53
  exact au ((),(x49.2.L,x49.2.I,[])) (lF rfl) (aZ aI (aZ (ap aI) cI)) rfl
 rintro ⟨_,⟨l50,v51,l52⟩⟩ τ hz;(try dsimp only at hz);subst q53;(try dsimp only at h);dsimp only [az]
 refine dU (ae h fun x59 hx59 h=>aa (av 1 [(83,pP b0 0)] (by kernel_rfl) ?_))
 refine ai rfl (ba rfl rfl (ρ1:=[_]) (aO (by exact aI) (List.Perm.refl _)) (aF hx59) ?_);rintro _ _ ⟨rfl,rfl⟩
 refine aG [(85,pB (x59.1 == 1))] (by kernel_rfl) (gn h fun q63 hq63 h=>?_)
 refine ar (Y:=Unit×((List Int)×Int×Int)) (fun (_,(l60,v61,v62))=>[(6,pP b1 0),(10,pP b48 0)]) (fun (_,(l60,v61,v62))=>[PRes.b b0 71 [pL eI l60,pI v61],PRes.b b1 84 [pI 0,pI 0,pN,pI 0,pI 0,pS ByteArray.empty,pN],PRes.b b48 84 [pI 2,pI (IntKind.i64.wrap (2+(IntKind.i64.wrap (2*x47.1)))),pL eS l52,pI v62,pI 0,pS ByteArray.empty,pN]]) (fun (_,(l60,v61,v62))=>q63=(l60,v61,v62)) ?_ ?_
 ·skip
  refine kq rfl hq63 (fun hc64 hq63=>?_) fun hc64 hq63=>?_
  ·refine ae hq63 ?_;clear hq63;intro x65 hx65 hq63
   refine aa (av 1 [(86,pP b0 0)] (by kernel_rfl) ?_)
   refine ai rfl (ba rfl rfl (ρ1:=[_]) (aO (by exact aI) (List.Perm.refl _)) (i6 hx65) ?_);rintro _ _ ⟨rfl,rfl⟩
   refine av 1 [(88,pP b48 3)] (by kernel_rfl) (aN rfl rfl (aj (vs:=[pI x65.1]) rfl rfl rfl rfl rfl (cG (cG bV)) (cX (cX (cX kR))) (aB ?_)))
   obtain rfl:=osi hq63
   exact au ((),(x65.2.L,x65.2.I,x65.1)) (nS rfl) zk rfl
  refine ah ?_
  obtain rfl:=osi hq63
  exact au ((),(x59.2.L,x59.2.I,0)) (nS rfl) zk rfl
 rintro ⟨_,⟨l60,v61,v62⟩⟩ τ hz;(try dsimp only at hz);subst q63;(try dsimp only at h);dsimp only [az]
 refine ag (aa (uk (k:=6) (b:=b48) rfl (cG (cG bV)) (e9 1 [2] [(89,.agg [pI 2,pI (IntKind.i64.wrap (2+(IntKind.i64.wrap (2*x47.1)))),pL eS l52,pI v62,pI 0,pS ByteArray.empty,pL Zd.enc []])] (by kernel_rfl) (aN rfl rfl (aj (vs:=[pI 2,pI (IntKind.i64.wrap (2+(IntKind.i64.wrap (2*x47.1)))),pL eS l52,pI v62,pI 0,pS ByteArray.empty,pL Zd.enc []]) rfl rfl rfl rfl rfl (cG bV) mA (aB (em ?_)))))))
 obtain rfl:=osi h
 exact aQ (cL (cE rfl rV rfl)) cI ⟨rfl,rfl⟩
def dh (n:Nat):Zh→Int→Int→Option (Zd×Zh):=Nat.rec (motive:=fun _=>Zh→Int→Int→Option (Zd×Zh)) (fun _ _ _=>none) (fun _ ih=>ee ih) n
def kC (p0:Zh) (p1:Int) (p2:Int):Option (Zd×Zh):=dh FUEL p0 p1 p2
theorem lT (n:Nat):∀ {p0:Zh} {p1:Int} {p2:Int} {b0:Nat} {r:(Zd×Zh)},dh n p0 p1 p2=some r→PCall 43 [pP b0 0,pI p1,pI p2] [PRes.b b0 71 [pL eI p0.L,pI p0.I]] (fun pv ρ'=>pv=.agg (aR r.1)∧ρ'=[PRes.b b0 71 [pL eI r.2.L,pI r.2.I]]):=by
 induction n with
 | zero=>intros;rename_i h;exact nomatch h
 | succ n ih=>intros;rename_i h;exact lI (fun hr=>ih hr) h
theorem i7 {p0:Zh} {p1:Int} {p2:Int} {b0:Nat} {r:(Zd×Zh)} (h:kC p0 p1 p2=some r):PCall 43 [pP b0 0,pI p1,pI p2] [PRes.b b0 71 [pL eI p0.L,pI p0.I]] (fun pv ρ'=>pv=.agg (aR r.1)∧ρ'=[PRes.b b0 71 [pL eI r.2.L,pI r.2.I]]):=lT FUEL h
def fH (p0:(List Int)):Option (List Zb):=(jI p0 200).bind fun x1=>(aH (⟨x1,0⟩:Zh) 4).bind fun x3=>(bf (S:=(List Zb)×Int×(List Int)×Int) (T:=((List Zb))) (fun (l5,v8,l9,v10)=>cond (decide (v8<(IntKind.i64.wrap (1+x3.1)))) ((aH (⟨l9,v10⟩:Zh) 3).bind fun x19=>(aH x19.2 64).bind fun x21=>(bf (S:=Int×(List ByteArray)) (T:=((List ByteArray))) (fun (v22,l24)=>cond (decide (v22<6)) (((i5 v22).bind fun u42=>cond ((co .i64 (bQ .i64 (kQ .i64 x21.1 3) v22) 1) == 1) ((fb).bind fun x44=>(idx x44 v22).bind fun m45=>(app 16 l24 [m45]).bind fun l48=>some l48) (some l24)).bind fun l40=>some (.inl ((IntKind.i64.wrap (v22+1)),l40))) (some (.inr l24))) FUEL (0,([]:List ByteArray))).bind fun l31=>(gdp (decide (0<v8)) (aH x21.2 2) x21.2).bind fun x53=>Option.bind (cond ((decide (0<v8))&&(x53.1 == 1)) ((idx l5 (IntKind.i64.wrap (v8 - 1))).bind fun m61=>some (x53.2.L,x53.2.I,m61.Rules)) ((aH x53.2 31).bind fun x64=>(bf (S:=Int×(List Int)×Int×(List Zf)) (T:=((List Int)×Int×(List Zf))) (fun (v65,l66,v67,l69)=>cond (decide (v65<5)) (((i5 v65).bind fun u94=>cond ((co .i64 (bQ .i64 (IntKind.i64.wrap (1+x64.1)) v65) 1) == 1) ((idx [(⟨#[57,52]⟩:ByteArray),(⟨#[57,52,48,49]⟩:ByteArray),(⟨#[57,52,48,49,48,50]⟩:ByteArray),(⟨#[57,53]⟩:ByteArray),(⟨#[57,53,48,50]⟩:ByteArray)] v65).bind fun m96=>(kC (⟨l66,v67⟩:Zh) 0 1).bind fun x97=>(app 112 l69 [(⟨m96,x97.1⟩:Zf)]).bind fun l100=>some (x97.2.L,x97.2.I,l100)) (some (l66,v67,l69))).bind fun (l86,v87,l92)=>some (.inl ((IntKind.i64.wrap (v65+1)),l86,v87,l92))) (some (.inr (l66,v67,l69)))) FUEL (0,x64.2.L,x64.2.I,([]:List Zf))).bind fun (l73,v74,l79)=>some (l73,v74,l79))) (fun (l55,v56,l58)=>(app 64 l5 [(⟨(IntKind.i64.wrap (2+(IntKind.i64.wrap (5*v8)))),(IntKind.i64.wrap (1+x19.1)),l31,l58⟩:Zb)]).bind fun l108=>some (.inl (l108,(IntKind.i64.wrap (v8+1)),l55,v56)))) (some (.inr l5))) FUEL (([]:List Zb),0,x3.2.L,x3.2.I)).bind fun l14=>some l14
theorem mT {p0:(List Int)} {r:(List Zb)}  (h:fH p0=some r):PCall 13 [pL eI p0] [] (fun pv ρ'=>∃ a c,pv=.v (.slice a r.length c)∧ρ'=[PRes.row a r.length c 81 4 (List.map Zb.enc r)]):=by
 unfold fH at h
 refine ed Tryz.func13 rfl Tryz.ntmps13 Tryz.results13 rfl (aU [2] (by kernel_rfl) (cU h fun x1 hx1 h=>aa (aS 3 [] [13,14] [(15,.agg [pL eI x1,pI 0])] (bG 1 (oD hx1) bx) (by kernel_rfl) (ai rfl (bM (cs:=[pL eI x1,pI 0]) rfl rfl (fun b2=>aG [(3,pP b2 0)] (by kernel_rfl) (bO (an [(4,pN)] (by kernel_rfl) (cY (ae h fun x3 hx3 h=>aa (av 1 [(17,pP b2 0)] (by kernel_rfl) ?_)))))))))))
 refine ai rfl (ba rfl rfl (ρ1:=[_]) (aO (by exact aI) (List.Perm.refl _)) (aF hx3) ?_);rintro _ _ ⟨rfl,rfl⟩
 refine iN [19] [(5,pI 0),(6,pI (IntKind.i64.wrap (1+x3.1)))] (by kernel_rfl) (aT (cF 81 4 (ae h fun q16 hq16 h=>?_)))
 refine ar (Y:=(Option Addr×Nat)×((List Zb))) (fun ((a12,c13),l14)=>[(4,pO a12 l14.length c13)]) (fun ((a12,c13),l14)=>[PRes.row a12 l14.length c13 81 4 (List.map Zb.enc l14)]) (fun ((a12,c13),l14)=>q16=l14) ?_ ?_
 ·refine aC ?_
  refine aJ (Y:=Option Addr×Nat) (S:=(List Zb)×Int×(List Int)×Int) _ hq16 (fun (a6,c7) (l5,v8,l9,v10)=>[(3,pP b2 0),(4,pO a6 l5.length c7),(5,pI v8),(6,pI (IntKind.i64.wrap (1+x3.1)))]) (fun (a6,c7) (l5,v8,l9,v10)=>[PRes.b b2 71 [pL eI l9,pI v10],PRes.row a6 l5.length c7 81 4 (List.map Zb.enc l5)]) (none,0) (jW rfl) (aZ (ap aI) cI) ?_
  rintro ⟨a6,c7⟩ ⟨l5,v8,l9,v10⟩ o τ hb15;(try dsimp only at hb15);dsimp only [az]
  refine dU (af [20,21] [(22,pB (decide (v8<(IntKind.i64.wrap (1+x3.1)))))] (by kernel_rfl) (bT rfl hb15 (fun hc18 hb15=>?_) fun hc18 hb15=>?_))
  ·refine ah ?_
   refine bO (gG (ae hb15 fun x19 hx19 hb15=>aa (bS 4 [25,26] [(27,pI (IntKind.i64.wrap (2+(IntKind.i64.wrap (5*v8))))),(28,pP b2 0)] (by kernel_rfl) ?_)))
   refine ai rfl (ba rfl rfl (ρ1:=[_]) (aO (by exact aI) (List.Perm.refl _)) (aF hx19) ?_);rintro _ _ ⟨rfl,rfl⟩
   refine bS 2 [30] [(31,.agg [pI (IntKind.i64.wrap (2+(IntKind.i64.wrap (5*v8)))),pI (IntKind.i64.wrap (1+x19.1)),pN,pN])] (by kernel_rfl) (ai rfl (aM (cs:=[pI 0,pI 0,pN,pN]) rfl rfl rfl rfl (fun b20=>aN rfl rfl (aj (vs:=[pI (IntKind.i64.wrap (2+(IntKind.i64.wrap (5*v8)))),pI (IntKind.i64.wrap (1+x19.1)),pN,pN]) rfl rfl rfl rfl rfl bV wK (aB (cU hb15 fun x21 hx21 hb15=>aa (av 1 [(32,pP b2 0)] (by kernel_rfl) ?_)))))))
   refine ai rfl (ba rfl rfl (ρ1:=[_]) (aO (by exact ap aI) (List.Perm.refl _)) (aF hx21) ?_);rintro _ _ ⟨rfl,rfl⟩
   refine iN [34] [(8,pI (kQ .i64 x21.1 3))] (by kernel_rfl) (cY (an [(9,pI 0)] (by kernel_rfl) (aT (cF 9 1 (ae hb15 fun q33 hq33 hb15=>?_)))))
   refine ar (Y:=(Option Addr×Nat)×((List ByteArray))) (fun ((a29,c30),l31)=>[(3,pP b2 0),(4,pO a6 l5.length c7),(5,pI v8),(6,pI (IntKind.i64.wrap (1+x3.1))),(7,pP b20 0)]) (fun ((a29,c30),l31)=>[PRes.b b2 71 [pL eI x21.2.L,pI x21.2.I],PRes.b b20 81 [pI (IntKind.i64.wrap (2+(IntKind.i64.wrap (5*v8)))),pI (IntKind.i64.wrap (1+x19.1)),pO a29 l31.length c30,pN],PRes.row a6 l5.length c7 81 4 (List.map Zb.enc l5),PRes.row a29 l31.length c30 9 1 (List.map eS l31)]) (fun ((a29,c30),l31)=>q33=l31) ?_ ?_
   ·refine aC ?_
    refine aJ (Y:=Option Addr×Nat) (S:=Int×(List ByteArray)) _ hq33 (fun (a25,c26) (v22,l24)=>[(3,pP b2 0),(4,pO a6 l5.length c7),(5,pI v8),(6,pI (IntKind.i64.wrap (1+x3.1))),(7,pP b20 0),(8,pI (kQ .i64 x21.1 3)),(9,pI v22)]) (fun (a25,c26) (v22,l24)=>[PRes.b b2 71 [pL eI x21.2.L,pI x21.2.I],PRes.b b20 81 [pI (IntKind.i64.wrap (2+(IntKind.i64.wrap (5*v8)))),pI (IntKind.i64.wrap (1+x19.1)),pO a25 l24.length c26,pN],PRes.row a25 l24.length c26 9 1 (List.map eS l24),PRes.row a6 l5.length c7 81 4 (List.map Zb.enc l5)]) (none,0) (n7 rfl) (aZ (ap aI) (aZ (ap aI) oA)) ?_
    rintro ⟨a25,c26⟩ ⟨v22,l24⟩ o τ hb32;(try dsimp only at hb32);dsimp only [az]
    refine dU (af [35] [(36,pB (decide (v22<6)))] (by kernel_rfl) (bT rfl hb32 (fun hc35 hb32=>?_) fun hc35 hb32=>?_))
    ·refine ah ?_
     refine cU hb32 fun q41 hq41 hb32=>?_
     refine ar (Y:=(Option Addr×Nat)×((List ByteArray))) (fun ((a38,c39),l40)=>[(3,pP b2 0),(4,pO a6 l5.length c7),(5,pI v8),(6,pI (IntKind.i64.wrap (1+x3.1))),(7,pP b20 0),(8,pI (kQ .i64 x21.1 3)),(9,pI v22)]) (fun ((a38,c39),l40)=>[PRes.b b2 71 [pL eI x21.2.L,pI x21.2.I],PRes.b b20 81 [pI (IntKind.i64.wrap (2+(IntKind.i64.wrap (5*v8)))),pI (IntKind.i64.wrap (1+x19.1)),pO a38 l40.length c39,pN],PRes.row a6 l5.length c7 81 4 (List.map Zb.enc l5),PRes.row a38 l40.length c39 9 1 (List.map eS l40)]) (fun ((a38,c39),l40)=>q41=l40) ?_ ?_
     ·skip
      refine gG (ae hq41 fun u42 hu42 hq41=>aw [] [39,40,41,42] [(43,pB ((co .i64 (bQ .i64 (kQ .i64 x21.1 3) v22) 1) == 1))] (oU 2 hu42 bx) (by kernel_rfl) (bT rfl hq41 (fun hc43 hq41=>?_) fun hc43 hq41=>?_))
      ·refine ae hq41 ?_;clear hq41;intro x44 hx44 hq41
       refine ae hq41 fun m45 hm45 hq41=>ae hq41 fun l48 hl48 hq41=>?_
       refine iI (Y:=Option Addr×Nat) (fun (a49,c50)=>[(3,pP b2 0),(4,pO a6 l5.length c7),(5,pI v8),(6,pI (IntKind.i64.wrap (1+x3.1))),(7,pP b20 0),(8,pI (kQ .i64 x21.1 3)),(9,pI v22)]) (fun (a49,c50)=>[PRes.b b2 71 [pL eI x21.2.L,pI x21.2.I],PRes.b b20 81 [pI (IntKind.i64.wrap (2+(IntKind.i64.wrap (5*v8)))),pI (IntKind.i64.wrap (1+x19.1)),pO a49 l48.length c50,pN],PRes.row a6 l5.length c7 81 4 (List.map Zb.enc l5),PRes.row a49 l48.length c50 9 1 (List.map eS l48)]) (fun _=>True) ?_ ?_
       ·refine kz (ρd:=[PRes.row a25 _ _ _ _ _,PRes.b b20 _ _]) _ (aO (ap (ap aI)) (aO (ap aI) (List.Perm.refl _))) ?_
        refine cu 0 (by kernel_rfl) rfl rfl rfl rfl (br rfl rfl rfl rfl rfl (.p rfl)) (cu 3 (by kernel_rfl) rfl rfl rfl rfl (ft (p:=pI v22) rfl (.p rfl)) ?_)
        refine gN 1 2 (by kernel_rfl) ?_ ?_
        ·skip
         refine bd rfl rfl rfl rfl (lE (ce (p:=pO a25 l24.length c26) rfl (.p rfl) rV rfl) (bg 2 (by kernel_rfl) (qj rfl rfl rfl rfl rfl rfl (gP hx44) (cu 4 (by kernel_rfl) rfl rfl rfl rfl (um (enc:=eS) rfl rfl rfl (fun _=>rfl) (.p rfl) (.p rfl) (fun _=>hm45)) (cu 5 (by kernel_rfl) rfl rfl rfl rfl (n4 (p:=pS m45) rfl (.p rfl) rfl) (bg 6 (by kernel_rfl) (bd rfl rfl rfl rfl (bB rfl rfl rfl rfl rfl (eZ rfl hY) rfl rfl rfl rfl (fun b46=>bg 7 (by kernel_rfl) ?_)))))))))
         refine bd rfl rfl rfl rfl (bN (enc:=eS) rfl rfl rfl rfl rfl rfl rfl rfl rfl eP (by exact ap aI) hl48 (fun a49 c50=>?_))
         refine cu 8 (by kernel_rfl) rfl rfl rfl rfl (br rfl rfl rfl rfl rfl (.p rfl)) (bg 9 (by kernel_rfl) (dR rfl rfl rfl (aj (vs:=[pO a49 l48.length c50]) rfl rfl rfl rfl rfl (cG (cG bV)) (cX (cX kR)) (dQ (by kernel_rfl) ?_))))
         exact fR (a49,c50) (n7 rfl) (aZ (ap (ap (ap aI))) (aZ (ap (ap aI)) (aZ (ap (ap aI)) cI))) trivial
        skip
        refine qj rfl rfl rfl rfl rfl rfl (gP hx44) (cu 4 (by kernel_rfl) rfl rfl rfl rfl (um (enc:=eS) rfl rfl rfl (fun _=>rfl) (.p rfl) (.p rfl) (fun _=>hm45)) (cu 5 (by kernel_rfl) rfl rfl rfl rfl (n4 (p:=pS m45) rfl (.p rfl) rfl) ?_))
        refine gN 1 6 (by kernel_rfl) ?_ ?_
        ·skip
         refine bd rfl rfl rfl rfl (lE (ce (p:=pO a25 l24.length c26) rfl (.p rfl) rV rfl) (bg 6 (by kernel_rfl) (bd rfl rfl rfl rfl (bB rfl rfl rfl rfl rfl (eZ rfl hY) rfl rfl rfl rfl (fun b46=>bg 7 (by kernel_rfl) ?_)))))
         refine bd rfl rfl rfl rfl (bN (enc:=eS) rfl rfl rfl rfl rfl rfl rfl rfl rfl eP (by exact ap aI) hl48 (fun a49 c50=>?_))
         refine cu 8 (by kernel_rfl) rfl rfl rfl rfl (br rfl rfl rfl rfl rfl (.p rfl)) (bg 9 (by kernel_rfl) (dR rfl rfl rfl (aj (vs:=[pO a49 l48.length c50]) rfl rfl rfl rfl rfl (cG (cG bV)) (cX (cX kR)) (dQ (by kernel_rfl) ?_))))
         exact fR (a49,c50) (n7 rfl) (aZ (ap (ap (ap aI))) (aZ (ap (ap aI)) (aZ (ap (ap aI)) cI))) trivial
        skip
        refine bd rfl rfl rfl rfl (bB rfl rfl rfl rfl rfl (eZ rfl hY) rfl rfl rfl rfl (fun b46=>bg 1 (by kernel_rfl) (bd rfl rfl rfl rfl (lE (ce (p:=pO a25 l24.length c26) rfl (.p rfl) rn rfl) (bg 7 (by kernel_rfl) ?_)))))
        refine bd rfl rfl rfl rfl (bN (enc:=eS) rfl rfl rfl rfl rfl rfl rfl rfl rfl eP (by exact ap aI) hl48 (fun a49 c50=>?_))
        refine cu 8 (by kernel_rfl) rfl rfl rfl rfl (br rfl rfl rfl rfl rfl (.p rfl)) (bg 9 (by kernel_rfl) (dR rfl rfl rfl (aj (vs:=[pO a49 l48.length c50]) rfl rfl rfl rfl rfl (cG (cG bV)) (cX (cX kR)) (dQ (by kernel_rfl) ?_))))
        exact fR (a49,c50) (n7 rfl) (aZ (ap (ap (ap aI))) (aZ (ap (ap aI)) (aZ (ap (ap aI)) cI))) trivial
       rintro ⟨a49,c50⟩ τ ρ1 hsub52 _;(try dsimp only at hsub52);dsimp only [az]
       refine aD ?_
       obtain rfl:=osi hq41
       exact au ((a49,c50),l48) (n7 rfl) (PSub.trans yu hsub52) rfl
      refine ah ?_
      refine aD ?_
      obtain rfl:=osi hq41
      exact au ((a25,c26),l24) (n7 rfl) (aZ aI (aZ aI (aZ (ap aI) cI))) rfl
     rintro ⟨⟨a38,c39⟩,l40⟩ τ hz;(try dsimp only at hz);subst q41;(try dsimp only at hb32);dsimp only [az]
     refine af [37,38] [(9,pI (IntKind.i64.wrap (v22+1)))] (by kernel_rfl) ?_
     exact aY hb32 (a38,c39) (n7 rfl) (aZ aI (aZ aI (aZ (ap aI) cI)))
    refine aP ?_
    refine aq (ak hb32 (fun ht=>am rfl ?_))
    exact au ((a25,c26),l24) (mz rfl) (aZ aI (aZ aI (aZ (ap aI) cI))) ht.symm
   rintro ⟨⟨a29,c30⟩,l31⟩ τ hz;(try dsimp only at hz);subst q33;(try dsimp only at hb15);dsimp only [az]
   refine dU (ae hb15 fun x53 hx53 hb15=>aa (bS 4 [53,54] [(55,pB (decide (0<v8))),(56,pgv (decide (0<v8)) (pP b2 0))] (by kernel_rfl) ?_))
   refine qz (nv rfl rfl rfl) rfl rfl rfl (by exact aI) (lm (.g rfl) (lm (.p rfl) rT)) (fun hc=>aF (gdp_t hx53 hc)) (fun hc=>by rw [gdp_f hx53 hc]) ?_
   refine p6 (nv rfl rfl rfl) rfl rfl (vA rfl (.g rfl) (.p rfl) rfl) (bK rfl rfl rfl (vz rfl (.p rfl) (.p rfl) (.g rfl)) (aB (gn hb15 fun q59 hq59 hb15=>?_)))
   refine ar (Y:=Unit×((List Int)×Int×(List Zf))) (fun (_,(l55,v56,l58))=>[(3,pP b2 0),(4,pO a6 l5.length c7),(5,pI v8),(6,pI (IntKind.i64.wrap (1+x3.1))),(7,pP b20 0)]) (fun (_,(l55,v56,l58))=>[PRes.b b2 71 [pL eI l55,pI v56],PRes.b b20 81 [pI (IntKind.i64.wrap (2+(IntKind.i64.wrap (5*v8)))),pI (IntKind.i64.wrap (1+x19.1)),pO a29 l31.length c30,pL Zf.enc l58],PRes.row a6 l5.length c7 81 4 (List.map Zb.enc l5),PRes.row a29 l31.length c30 9 1 (List.map eS l31)]) (fun (_,(l55,v56,l58))=>q59=(l55,v56,l58)) ?_ ?_
   ·skip
    refine kq rfl hq59 (fun hc60 hq59=>?_) fun hc60 hq59=>?_
    ·refine ae hq59 ?_;clear hq59;intro m61 hm61 hq59
     refine aa (bS 3 [61] [(60,pO a6 l5.length c7),(62,pI (IntKind.i64.wrap (v8 - 1)))] (by kernel_rfl) (bK rfl rfl rfl (e7 (enc:=Zb.enc) (xs:=l5) rfl rfl rfl (.p rfl) rn (.p rfl) (fun _=>hm61)) (av 1 [(64,pP (qe a6) ((IntKind.i64.wrap (v8 - 1)).toNat * 4+3))] (by kernel_rfl) (bK rfl rfl rfl (dg (sz:=4) (p:=pL Zf.enc m61.Rules) (enc:=Zb.enc) (xs:=l5) (a:=a6) (IntKind.i64.wrap (v8 - 1)) 3 m61 rfl (.p rfl) rfl rn (fun _=>hm61) rfl) (av 1 [(66,pP b20 3)] (by kernel_rfl) (aN rfl rfl (aj (vs:=[pL Zf.enc m61.Rules]) rfl rfl rfl rfl rfl (cG bV) (cX (cX (cX kR))) (aB ?_))))))))
     obtain rfl:=osi hq59
     exact au ((),(x53.2.L,x53.2.I,m61.Rules)) (mz rfl) yu rfl
    refine ag ?_
    refine aa (ai rfl (bB rfl rfl rfl rfl rfl (eZ rfl (eZ rfl (eZ rfl (eZ rfl (eZ rfl hY))))) rfl rfl rfl rfl (fun b62=>aG [(10,pO (some ⟨b62,0,none⟩) 5 5)] (by kernel_rfl) (cU hq59 fun x64 hx64 hq59=>aa (av 1 [(68,pP b2 0)] (by kernel_rfl) ?_)))))
    refine ai rfl (ba rfl rfl (ρ1:=[_]) (aO (by exact ap aI) (List.Perm.refl _)) (aF hx64) ?_);rintro _ _ ⟨rfl,rfl⟩
    refine iN [70] [(11,pI (IntKind.i64.wrap (1+x64.1)))] (by kernel_rfl) (bO (an [(12,pI 0)] (by kernel_rfl) (aT (cF 87 8 (ae hq59 fun q81 hq81 hq59=>?_)))))
    refine iI (Y:=(Option Addr×Nat)×((List Int)×Int×(List Zf))) (fun ((a77,c78),(l73,v74,l79))=>[(3,pP b2 0),(4,pO a6 l5.length c7),(5,pI v8),(6,pI (IntKind.i64.wrap (1+x3.1))),(7,pP b20 0)]) (fun ((a77,c78),(l73,v74,l79))=>[PRes.b b2 71 [pL eI l73,pI v74],PRes.b b20 81 [pI (IntKind.i64.wrap (2+(IntKind.i64.wrap (5*v8)))),pI (IntKind.i64.wrap (1+x19.1)),pO a29 l31.length c30,pO a77 l79.length c78],PRes.row a6 l5.length c7 81 4 (List.map Zb.enc l5),PRes.row a29 l31.length c30 9 1 (List.map eS l31),PRes.row a77 l79.length c78 87 8 (List.map Zf.enc l79)]) (fun ((a77,c78),(l73,v74,l79))=>q81=(l73,v74,l79)) ?_ ?_
    ·refine aC ?_
     refine aJ (Y:=Option Addr×Nat) (S:=Int×(List Int)×Int×(List Zf)) _ hq81 (fun (a70,c71) (v65,l66,v67,l69)=>[(3,pP b2 0),(4,pO a6 l5.length c7),(5,pI v8),(6,pI (IntKind.i64.wrap (1+x3.1))),(7,pP b20 0),(10,pO (some ⟨b62,0,none⟩) 5 5),(11,pI (IntKind.i64.wrap (1+x64.1))),(12,pI v65)]) (fun (a70,c71) (v65,l66,v67,l69)=>[PRes.b b2 71 [pL eI l66,pI v67],PRes.b b20 81 [pI (IntKind.i64.wrap (2+(IntKind.i64.wrap (5*v8)))),pI (IntKind.i64.wrap (1+x19.1)),pO a29 l31.length c30,pO a70 l69.length c71],PRes.row a6 l5.length c7 81 4 (List.map Zb.enc l5),PRes.row a29 l31.length c30 9 1 (List.map eS l31),PRes.row (some ⟨b62,0,none⟩) 5 5 9 1 (List.map eS [(⟨#[57,52]⟩:ByteArray),(⟨#[57,52,48,49]⟩:ByteArray),(⟨#[57,52,48,49,48,50]⟩:ByteArray),(⟨#[57,53]⟩:ByteArray),(⟨#[57,53,48,50]⟩:ByteArray)]),PRes.row a70 l69.length c71 87 8 (List.map Zf.enc l69)]) (none,0) (rW rfl) (aZ (ap aI) (aZ (ap (ap aI)) (aZ (ap (ap aI)) (aZ (ap (ap aI)) (aZ (ap aI) cI))))) ?_
     rintro ⟨a70,c71⟩ ⟨v65,l66,v67,l69⟩ o τ hb80;(try dsimp only at hb80);dsimp only [az]
     refine dU (af [71] [(72,pB (decide (v65<5)))] (by kernel_rfl) (bT rfl hb80 (fun hc83 hb80=>?_) fun hc83 hb80=>?_))
     ·refine ah ?_
      refine cU hb80 fun q93 hq93 hb80=>?_
      refine ar (Y:=(Option Addr×Nat)×((List Int)×Int×(List Zf))) (fun ((a90,c91),(l86,v87,l92))=>[(3,pP b2 0),(4,pO a6 l5.length c7),(5,pI v8),(6,pI (IntKind.i64.wrap (1+x3.1))),(7,pP b20 0),(10,pO (some ⟨b62,0,none⟩) 5 5),(11,pI (IntKind.i64.wrap (1+x64.1))),(12,pI v65)]) (fun ((a90,c91),(l86,v87,l92))=>[PRes.b b2 71 [pL eI l86,pI v87],PRes.b b20 81 [pI (IntKind.i64.wrap (2+(IntKind.i64.wrap (5*v8)))),pI (IntKind.i64.wrap (1+x19.1)),pO a29 l31.length c30,pO a90 l92.length c91],PRes.row a6 l5.length c7 81 4 (List.map Zb.enc l5),PRes.row (some ⟨b62,0,none⟩) 5 5 9 1 (List.map eS [(⟨#[57,52]⟩:ByteArray),(⟨#[57,52,48,49]⟩:ByteArray),(⟨#[57,52,48,49,48,50]⟩:ByteArray),(⟨#[57,53]⟩:ByteArray),(⟨#[57,53,48,50]⟩:ByteArray)]),PRes.row a29 l31.length c30 9 1 (List.map eS l31),PRes.row a90 l92.length c91 87 8 (List.map Zf.enc l92)]) (fun ((a90,c91),(l86,v87,l92))=>q93=(l86,v87,l92)) ?_ ?_
      ·skip
       refine gG (ae hq93 fun u94 hu94 hq93=>aw [] [75,76,77,78] [(79,pB ((co .i64 (bQ .i64 (IntKind.i64.wrap (1+x64.1)) v65) 1) == 1))] (oU 2 hu94 bx) (by kernel_rfl) (bT rfl hq93 (fun hc95 hq93=>?_) fun hc95 hq93=>?_))
       ·refine ae hq93 ?_;clear hq93;intro m96 hm96 hq93
        refine ae hq93 fun x97 hx97 hq93=>ae hq93 fun l100 hl100 hq93=>?_
        refine iI (Y:=Option Addr×Nat) (fun (a101,c102)=>[(3,pP b2 0),(4,pO a6 l5.length c7),(5,pI v8),(6,pI (IntKind.i64.wrap (1+x3.1))),(7,pP b20 0),(10,pO (some ⟨b62,0,none⟩) 5 5),(11,pI (IntKind.i64.wrap (1+x64.1))),(12,pI v65)]) (fun (a101,c102)=>[PRes.b b2 71 [pL eI x97.2.L,pI x97.2.I],PRes.b b20 81 [pI (IntKind.i64.wrap (2+(IntKind.i64.wrap (5*v8)))),pI (IntKind.i64.wrap (1+x19.1)),pO a29 l31.length c30,pO a101 l100.length c102],PRes.row a101 l100.length c102 87 8 (List.map Zf.enc l100),PRes.row a6 l5.length c7 81 4 (List.map Zb.enc l5),PRes.row a29 l31.length c30 9 1 (List.map eS l31),PRes.row (some ⟨b62,0,none⟩) 5 5 9 1 (List.map eS [(⟨#[57,52]⟩:ByteArray),(⟨#[57,52,48,49]⟩:ByteArray),(⟨#[57,52,48,49,48,50]⟩:ByteArray),(⟨#[57,53]⟩:ByteArray),(⟨#[57,53,48,50]⟩:ByteArray)])]) (fun _=>True) ?_ ?_
        ·refine kz (ρd:=[PRes.b b2 _ _,PRes.row a70 _ _ _ _ _,PRes.b b20 _ _]) _ (aO aI (aO (ap (ap (ap (ap aI)))) (List.Perm.refl _))) ?_
         refine cu 0 (by kernel_rfl) rfl rfl rfl rfl (br rfl rfl rfl rfl rfl (.p rfl)) (cu 2 (by kernel_rfl) rfl rfl rfl rfl (ft (p:=pO (some ⟨b62,0,none⟩) 5 5) rfl (.p rfl)) (cu 3 (by kernel_rfl) rfl rfl rfl rfl (ft (p:=pI v65) rfl (.p rfl)) (cu 4 (by kernel_rfl) rfl rfl rfl rfl (e7 (enc:=eS) (xs:=[(⟨#[57,52]⟩:ByteArray),(⟨#[57,52,48,49]⟩:ByteArray),(⟨#[57,52,48,49,48,50]⟩:ByteArray),(⟨#[57,53]⟩:ByteArray),(⟨#[57,53,48,50]⟩:ByteArray)]) rfl rfl rfl (.p rfl) rn (.p rfl) (fun _=>hm96)) (cu 5 (by kernel_rfl) rfl rfl rfl rfl (dg (sz:=1) (p:=pS m96) (enc:=eS) (xs:=[(⟨#[57,52]⟩:ByteArray),(⟨#[57,52,48,49]⟩:ByteArray),(⟨#[57,52,48,49,48,50]⟩:ByteArray),(⟨#[57,53]⟩:ByteArray),(⟨#[57,53,48,50]⟩:ByteArray)]) (a:=(some ⟨b62,0,none⟩)) v65 0 m96 rfl (.p rfl) rfl rn (fun _=>hm96) rfl) (cu 6 (by kernel_rfl) rfl rfl rfl rfl (ft (p:=pP b2 0) rfl (.p rfl)) ?_)))))
         refine gN 1 7 (by kernel_rfl) ?_ ?_
         ·skip
          refine bd rfl rfl rfl rfl (lE (ce (p:=pO a70 l69.length c71) rfl (.p rfl) rn rfl) (bg 7 (by kernel_rfl) ?_))
          refine bd rfl rfl rfl rfl (ba rfl rfl (ρ1:=[_]) (aO (by exact aI) (List.Perm.refl _)) (i7 hx97) ?_);rintro _ _ ⟨rfl,rfl⟩
          refine cu 8 (by kernel_rfl) rfl rfl rfl rfl (my (cs:=[pS m96,pI x97.1.Kind,pI x97.1.Digits,pL eS x97.1.Except,pI x97.1.Tolerance,pI x97.1.Limit,pS x97.1.Name,pL Zd.enc x97.1.Args]) rfl rfl rfl rfl rfl rfl rfl (xF rfl rfl rfl rfl kR (xF rfl rfl rfl rfl (cX mA) zfn))) (bg 9 (by kernel_rfl) (bd rfl rfl rfl rfl (bB rfl rfl rfl rfl rfl (eZ rfl hY) rfl rfl rfl rfl (fun b98=>bg 10 (by kernel_rfl) ?_))))
          refine bd rfl rfl rfl rfl (bN (enc:=Zf.enc) rfl rfl rfl rfl rfl rfl rfl rfl rfl eP (by exact ap (ap aI)) hl100 (fun a101 c102=>?_))
          refine cu 11 (by kernel_rfl) rfl rfl rfl rfl (br rfl rfl rfl rfl rfl (.p rfl)) (bg 12 (by kernel_rfl) (dR rfl rfl rfl (aj (vs:=[pO a101 l100.length c102]) rfl rfl rfl rfl rfl (cG (cG (cG bV))) (cX (cX (cX kR))) (dQ (by kernel_rfl) ?_))))
          exact fR (a101,c102) (rW rfl) (aZ (ap (ap aI)) (aZ (ap (ap aI)) (aZ aI (aZ (ap aI) (aZ (ap aI) (aZ (ap aI) bL)))))) trivial
         skip
         refine bd rfl rfl rfl rfl (ba rfl rfl (ρ1:=[_]) (aO (by exact aI) (List.Perm.refl _)) (i7 hx97) ?_);rintro _ _ ⟨rfl,rfl⟩
         refine cu 8 (by kernel_rfl) rfl rfl rfl rfl (my (cs:=[pS m96,pI x97.1.Kind,pI x97.1.Digits,pL eS x97.1.Except,pI x97.1.Tolerance,pI x97.1.Limit,pS x97.1.Name,pL Zd.enc x97.1.Args]) rfl rfl rfl rfl rfl rfl rfl (xF rfl rfl rfl rfl kR (xF rfl rfl rfl rfl (cX mA) zfn))) ?_
         refine gN 1 9 (by kernel_rfl) ?_ ?_
         ·skip
          refine bd rfl rfl rfl rfl (lE (ce (p:=pO a70 l69.length c71) rfl (.p rfl) rn rfl) (bg 9 (by kernel_rfl) (bd rfl rfl rfl rfl (bB rfl rfl rfl rfl rfl (eZ rfl hY) rfl rfl rfl rfl (fun b98=>bg 10 (by kernel_rfl) ?_)))))
          refine bd rfl rfl rfl rfl (bN (enc:=Zf.enc) rfl rfl rfl rfl rfl rfl rfl rfl rfl eP (by exact ap (ap aI)) hl100 (fun a101 c102=>?_))
          refine cu 11 (by kernel_rfl) rfl rfl rfl rfl (br rfl rfl rfl rfl rfl (.p rfl)) (bg 12 (by kernel_rfl) (dR rfl rfl rfl (aj (vs:=[pO a101 l100.length c102]) rfl rfl rfl rfl rfl (cG (cG (cG bV))) (cX (cX (cX kR))) (dQ (by kernel_rfl) ?_))))
          exact fR (a101,c102) (rW rfl) (aZ (ap (ap aI)) (aZ (ap (ap aI)) (aZ aI (aZ (ap aI) (aZ (ap aI) (aZ (ap aI) bL)))))) trivial
         skip
         refine bd rfl rfl rfl rfl (bB rfl rfl rfl rfl rfl (eZ rfl hY) rfl rfl rfl rfl (fun b98=>bg 1 (by kernel_rfl) (bd rfl rfl rfl rfl (lE (ce (p:=pO a70 l69.length c71) rfl (.p rfl) zm3 rfl) (bg 10 (by kernel_rfl) ?_)))))
         refine bd rfl rfl rfl rfl (bN (enc:=Zf.enc) rfl rfl rfl rfl rfl rfl rfl rfl rfl eP (by exact ap (ap aI)) hl100 (fun a101 c102=>?_))
         refine cu 11 (by kernel_rfl) rfl rfl rfl rfl (br rfl rfl rfl rfl rfl (.p rfl)) (bg 12 (by kernel_rfl) (dR rfl rfl rfl (aj (vs:=[pO a101 l100.length c102]) rfl rfl rfl rfl rfl (cG (cG (cG bV))) (cX (cX (cX kR))) (dQ (by kernel_rfl) ?_))))
         exact fR (a101,c102) (rW rfl) (aZ (ap (ap aI)) (aZ (ap (ap aI)) (aZ aI (aZ (ap aI) (aZ (ap aI) (aZ (ap aI) bL)))))) trivial
        rintro ⟨a101,c102⟩ τ ρ1 hsub104 _;(try dsimp only at hsub104);dsimp only [az]
        refine aD ?_
        obtain rfl:=osi hq93
        exact au ((a101,c102),(x97.2.L,x97.2.I,l100)) (rW rfl) (PSub.trans (aZ aI (aZ aI (aZ (ap aI) (aZ (ap (ap aI)) (aZ (ap aI) cI))))) hsub104) rfl
       refine ah ?_
       refine aD ?_
       obtain rfl:=osi hq93
       exact au ((a70,c71),(l66,v67,l69)) (rW rfl) (aZ aI (aZ aI (aZ aI (aZ (ap aI) oA)))) rfl
      rintro ⟨⟨a90,c91⟩,⟨l86,v87,l92⟩⟩ τ hz;(try dsimp only at hz);subst q93;(try dsimp only at hb80);dsimp only [az]
      refine af [73,74] [(12,pI (IntKind.i64.wrap (v65+1)))] (by kernel_rfl) ?_
      exact aY hb80 (a90,c91) (rW rfl) (aZ aI (aZ aI (aZ aI (aZ (ap aI) oA))))
     refine aP ?_
     refine aq (ak hb80 (fun ht=>am rfl ?_))
     exact fR ((a70,c71),(l66,v67,l69)) (mz rfl) (aZ aI (aZ aI (aZ aI (aZ aI (aZ (ap aI) bL))))) ht.symm
    rintro ⟨⟨a77,c78⟩,⟨l73,v74,l79⟩⟩ τ ρ1 hsub105 hz;(try dsimp only at hz hsub105);subst q81;(try dsimp only at hq59);dsimp only [az]
    refine lf (cov_sub hsub105) ?_
    refine lf (cov_frz (css:=List.map Zf.enc l79) (a:=a77) (by exact ap (ap (ap (ap aI))))) ?_
    refine lf (xH (k:=3) (enc:=Zf.enc) (xs:=l79) (b:=b20) (a:=a77) rfl eP (cG (cG bV))) ?_
    obtain rfl:=osi hq59
    exact au ((),(l73,v74,l79)) (mz rfl) (aZ (ap aI) (aZ (ap aI) (aZ (ap aI) (aZ (ap aI) bL)))) rfl
   rintro ⟨_,⟨l55,v56,l58⟩⟩ τ hz;(try dsimp only at hz);subst q59;(try dsimp only at hb15);dsimp only [az]
   refine aa (av 1 [(92,pO a6 l5.length c7)] (by kernel_rfl) ?_)
   refine jc (css:=List.map eS l31) (a:=a29) (by exact ap (ap (ap aI))) ?_
   refine gB (k:=2) (enc:=eS) (xs:=l31) (b:=b20) (a:=a29) rfl eP (cG (cG bV)) (e9 1 [2] [(93,.agg [pI (IntKind.i64.wrap (2+(IntKind.i64.wrap (5*v8)))),pI (IntKind.i64.wrap (1+x19.1)),pL eS l31,pL Zf.enc l58])] (by kernel_rfl) (ai rfl (bB rfl rfl rfl rfl rfl (eZ rfl hY) rfl rfl rfl rfl (fun b106=>ae hb15 fun l108 hl108 hb15=>?_))))
   refine ai rfl (bN (enc:=Zb.enc) rfl rfl rfl rfl rfl rfl rfl rfl rfl eP (by exact ap (ap (ap (ap aI)))) hl108 (fun a109 c110=>?_))
   refine aG [(4,pO a109 l108.length c110)] (by kernel_rfl) (fw (af [23,24] [(5,pI (IntKind.i64.wrap (v8+1)))] (by kernel_rfl) ?_))
   exact aY hb15 (a109,c110) (jW rfl) (aZ (ap (ap (ap aI))) cI)
  refine aP ?_
  refine aq (ak hb15 (fun ht=>am rfl ?_))
  exact au ((a6,c7),l5) (tN rfl) (aZ (ap aI) bL) ht.symm
 rintro ⟨⟨a12,c13⟩,l14⟩ τ hz;(try dsimp only at hz);subst q16;(try dsimp only at h);dsimp only [az]
 refine ag (af [96] [(2,pO a12 l14.length c13)] (by kernel_rfl) (em ?_))
 obtain rfl:=osi h
 exact aQ (cL (aX rfl)) cI ⟨_,_,rfl,rfl⟩
def iO (p0:(List Ze)) (p1:(List Zb)) (p2:Int) (p3:Int):Option Za:=(eF p2 (p0.length:Int)).bind fun x2=>(idx p0 x2).bind fun m3=>(eF p3 (p1.length:Int)).bind fun x4=>(idx p1 x4).bind fun m5=>some (⟨m3.ID,m5.ID⟩:Za)
theorem qC {p0:(List Ze)} {p1:(List Zb)} {p2:Int} {p3:Int} {r:Za}  (h:iO p0 p1 p2 p3=some r):PF 14 [pL Ze.enc p0,pL Zb.enc p1,pI p2,pI p3] (.agg [pI r.Product,pI r.Agreement]):=by
 unfold iO at h
 refine bk ?_
 refine ed Tryz.func14 rfl Tryz.ntmps14 Tryz.results14 rfl (aa (ai rfl (aM (cs:=[pI 0,pI 0]) rfl rfl rfl rfl (fun b1=>aB (bO (bJ (ρd:=[PRes.b b1 _ _]) [(0,0),(1,0),(2,0),(3,0),(8,0),(9,0),(10,0),(11,0),(4,1),(5,0),(6,0),(7,0),(12,1),(13,0),(14,0),(15,0),(16,0),(17,1)] _ (List.Perm.refl _) (by kernel_rfl) rfl (ae h fun x2 hx2 h=>ae h fun m3 hm3 h=>ae h fun x4 hx4 h=>ae h fun m5 hm5 h=>bR 16 [] [9,10,11,12,17,18,19,20,13,14,15,21,22,23] [(16,pI m3.ID),(24,pI m5.ID)] (bG 8 (gO hx2) (db 9 Ze.enc hm3 (bG 12 (gO hx4) (db 13 Zb.enc hm5 bx)))) (by kernel_rfl) (hZ rfl rfl rfl (my (cs:=[pI m3.ID,pI m5.ID]) rfl rfl rfl rfl rfl rfl rfl (xF rfl rfl rfl rfl kR (xF rfl rfl rfl rfl (cX kR) zfn))) (vC rfl rfl (aj (vs:=[pI m3.ID,pI m5.ID]) rfl rfl rfl rfl rfl bV oT (bW (em ?_))))))))))))
 obtain rfl:=osi h
 exact aQ (cL (cE rfl eP rfl)) bL ⟨rfl,rfl⟩
def gf (p0:Int):Option ByteArray:=(eF p0 8).bind fun x3=>(idx [(⟨#[66,66]⟩:ByteArray),(⟨#[66,66]⟩:ByteArray),(⟨#[66,66]⟩:ByteArray),(⟨#[65,65]⟩:ByteArray),(⟨#[67,67]⟩:ByteArray),(⟨#[68,68]⟩:ByteArray),(⟨#[69,69]⟩:ByteArray),(⟨#[70,70]⟩:ByteArray)] x3).bind fun m4=>some m4
theorem og {p0:Int} {r:ByteArray}  (h:gf p0=some r):PF 15 [pI p0] (pS r):=by
 unfold gf at h
 refine bk ?_
 refine ed Tryz.func15 rfl Tryz.ntmps15 Tryz.results15 rfl (aU [2] (by kernel_rfl) (bO (aa (ai rfl (bB rfl rfl rfl rfl rfl (eZ rfl (eZ rfl (eZ rfl (eZ rfl (eZ rfl (eZ rfl (eZ rfl (eZ rfl hY)))))))) rfl rfl rfl rfl (fun b1=>ae h fun x3 hx3 h=>ae h fun m4 hm4 h=>aS 2 [] [4] [(5,pI x3)] (bG 1 (gO hx3) bx) (by kernel_rfl) (bK rfl rfl rfl (e7 (enc:=eS) (xs:=[(⟨#[66,66]⟩:ByteArray),(⟨#[66,66]⟩:ByteArray),(⟨#[66,66]⟩:ByteArray),(⟨#[65,65]⟩:ByteArray),(⟨#[67,67]⟩:ByteArray),(⟨#[68,68]⟩:ByteArray),(⟨#[69,69]⟩:ByteArray),(⟨#[70,70]⟩:ByteArray)]) rfl rfl rfl (.p rfl) eP (.p rfl) (fun _=>hm4)) (bK rfl rfl rfl (dg (sz:=1) (p:=pS m4) (enc:=eS) (xs:=[(⟨#[66,66]⟩:ByteArray),(⟨#[66,66]⟩:ByteArray),(⟨#[66,66]⟩:ByteArray),(⟨#[65,65]⟩:ByteArray),(⟨#[67,67]⟩:ByteArray),(⟨#[68,68]⟩:ByteArray),(⟨#[69,69]⟩:ByteArray),(⟨#[70,70]⟩:ByteArray)]) (a:=(some ⟨b1,0,none⟩)) x3 0 m4 rfl (.p rfl) rfl eP (fun _=>hm4) rfl) (aG [(2,pS m4)] (by kernel_rfl) (em ?_))))))))))
 exact zz r h rfl
def eG (p0:(List Ze)) (p1:(List Zb)) (p2:(List Int)):Option (List Za):=(bf (S:=(List Za)×Int) (T:=((List Za))) (fun (l2,v5)=>cond (decide (v5<(p0.length:Int))) ((bf (S:=(List Za)×Int) (T:=((List Za))) (fun (l15,v18)=>cond (decide (v18<(p1.length:Int))) ((lb ((IntKind.i64.wrap ((IntKind.i64.wrap (v5*(p1.length:Int)))+v18))) (fun w31=>(gd (decide (w31<(p2.length:Int))) (idx p2 w31)).bind fun m32=>cond ((decide (w31<(p2.length:Int)))&&((co .i64 m32 1) == 1)) ((idx p0 v5).bind fun m34=>(idx p1 v18).bind fun m35=>(app 16 l15 [(⟨m34.ID,m35.ID⟩:Za)]).bind fun l38=>some l38) (some l15))).bind fun l29=>some (.inl (l29,(IntKind.i64.wrap (v18+1))))) (some (.inr l15))) FUEL (l2,0)).bind fun l22=>some (.inl (l22,(IntKind.i64.wrap (v5+1))))) (some (.inr l2))) FUEL (([]:List Za),0)).bind fun l9=>some l9
theorem lU {p0:(List Ze)} {p1:(List Zb)} {p2:(List Int)} {r:(List Za)}  (h:eG p0 p1 p2=some r):PF 16 [pL Ze.enc p0,pL Zb.enc p1,pL eI p2] (pL Za.enc r):=by
 unfold eG at h
 refine bk ?_
 refine ed Tryz.func16 rfl Tryz.ntmps16 Tryz.results16 rfl (aU [6] (by kernel_rfl) (bO (an [(7,pN)] (by kernel_rfl) (cY (an [(8,pI 0)] (by kernel_rfl) (aT (cF 28 2 (ae h fun q11 hq11 h=>?_))))))))
 refine ar (Y:=(Option Addr×Nat)×((List Za))) (fun ((a7,c8),l9)=>[(7,pO a7 l9.length c8)]) (fun ((a7,c8),l9)=>[PRes.row a7 l9.length c8 28 2 (List.map Za.enc l9)]) (fun ((a7,c8),l9)=>q11=l9) ?_ ?_
 ·refine aC ?_
  refine aJ (Y:=Option Addr×Nat) (S:=(List Za)×Int) _ hq11 (fun (a3,c4) (l2,v5)=>[(0,pL Ze.enc p0),(1,pL Zb.enc p1),(2,pL eI p2),(7,pO a3 l2.length c4),(8,pI v5)]) (fun (a3,c4) (l2,v5)=>[PRes.row a3 l2.length c4 28 2 (List.map Za.enc l2)]) (none,0) (mz rfl) cI ?_
  rintro ⟨a3,c4⟩ ⟨l2,v5⟩ o τ hb10;(try dsimp only at hb10);dsimp only [az]
  refine dU (af [11,12,13] [(14,pB (decide (v5<(p0.length:Int))))] (by kernel_rfl) (bT rfl hb10 (fun hc13 hb10=>?_) fun hc13 hb10=>?_))
  ·refine ah ?_
   refine bO (gG (an [(9,pI 0)] (by kernel_rfl) (gn hb10 fun q24 hq24 hb10=>?_)))
   refine iI (Y:=(Option Addr×Nat)×((List Za))) (fun ((a20,c21),l22)=>[(0,pL Ze.enc p0),(1,pL Zb.enc p1),(2,pL eI p2),(7,pO a20 l22.length c21),(8,pI v5)]) (fun ((a20,c21),l22)=>[PRes.row a20 l22.length c21 28 2 (List.map Za.enc l22)]) (fun ((a20,c21),l22)=>q24=l22) ?_ ?_
   ·refine aC ?_
    refine aJ (Y:=Option Addr×Nat) (S:=(List Za)×Int) _ hq24 (fun (a16,c17) (l15,v18)=>[(0,pL Ze.enc p0),(1,pL Zb.enc p1),(2,pL eI p2),(7,pO a16 l15.length c17),(8,pI v5),(9,pI v18)]) (fun (a16,c17) (l15,v18)=>[PRes.row a16 l15.length c17 28 2 (List.map Za.enc l15)]) (a3,c4) (rt rfl) cI ?_
    rintro ⟨a16,c17⟩ ⟨l15,v18⟩ o τ hb23;(try dsimp only at hb23);dsimp only [az]
    refine dU (af [17,18,19] [(20,pB (decide (v18<(p1.length:Int))))] (by kernel_rfl) (bT rfl hb23 (fun hc25 hb23=>?_) fun hc25 hb23=>?_))
    ·refine ah ?_
     refine cU hb23 fun q30 hq30 hb23=>?_
     refine ar (Y:=(Option Addr×Nat)×((List Za))) (fun ((a27,c28),l29)=>[(0,pL Ze.enc p0),(1,pL Zb.enc p1),(2,pL eI p2),(7,pO a27 l29.length c28),(8,pI v5),(9,pI v18)]) (fun ((a27,c28),l29)=>[PRes.row a27 l29.length c28 28 2 (List.map Za.enc l29)]) (fun ((a27,c28),l29)=>q30=l29) ?_ ?_
     ·skip
      refine gG ?_
      refine cZ hq30 ?_;clear hq30;intro w31 hw31 hq30
      refine aa (bS 6 (rg 23 5) [(28,pI (IntKind.i64.wrap ((IntKind.i64.wrap (v5*(p1.length:Int)))+v18)))] (by kernel_rfl) (bK rfl rfl rfl (bv rfl (.p (congrArg (fun z=>PV.v (Value.int .i64 z)) hw31))) (aB (cU hq30 fun m32 hm32 hq30=>aw [] (rg 29 11) [(40,pB ((decide (w31<(p2.length:Int)))&&((co .i64 m32 1) == 1)))] (ia 7 eI (dB hm32) bx) (by kernel_rfl) (bT rfl hq30 (fun hc33 hq30=>?_) fun hc33 hq30=>?_)))))
      ·refine bJ (ρd:=[PRes.row a16 _ _ _ _ _]) [(0,0),(1,0),(2,0),(3,0),(4,0),(5,0),(6,0),(7,0),(8,0),(9,0),(10,0),(11,0),(12,1),(13,1),(14,0)] _ (List.Perm.refl _) (by kernel_rfl) rfl ?_
       refine ae hq30 fun m34 hm34 hq30=>ae hq30 fun m35 hm35 hq30=>bR 11 [] [42,43,44,45,47,48,49,50] [(41,pO a16 l15.length c17),(46,pI m34.ID),(51,pI m35.ID)] (db 3 Ze.enc hm34 (db 8 Zb.enc hm35 bx)) (by kernel_rfl) (hZ rfl rfl rfl (my (cs:=[pI m34.ID,pI m35.ID]) rfl rfl rfl rfl rfl rfl rfl (xF rfl rfl rfl rfl kR (xF rfl rfl rfl rfl (cX kR) zfn))) (gb rfl rfl rfl (bB rfl rfl rfl rfl rfl (eZ rfl hY) rfl rfl rfl rfl (fun b36=>ae hq30 fun l38 hl38 hq30=>?_))))
       refine gb rfl rfl rfl (bN (enc:=Za.enc) rfl rfl rfl rfl rfl rfl rfl rfl rfl eP (by exact ap aI) hl38 (fun a39 c40=>?_))
       refine fG 1 [(7,pO a39 l38.length c40)] (by kernel_rfl) (bW (aD ?_))
       obtain rfl:=osi hq30
       exact au ((a39,c40),l38) (rt rfl) cI rfl
      refine ah ?_
      refine aD ?_
      obtain rfl:=osi hq30
      exact au ((a16,c17),l15) (rt rfl) cI rfl
     rintro ⟨⟨a27,c28⟩,l29⟩ τ hz;(try dsimp only at hz);subst q30;(try dsimp only at hb23);dsimp only [az]
     refine af [21,22] [(9,pI (IntKind.i64.wrap (v18+1)))] (by kernel_rfl) ?_
     exact aY hb23 (a27,c28) (rt rfl) cI
    refine aP ?_
    refine aq (ak hb23 (fun ht=>am rfl ?_))
    exact fR ((a16,c17),l15) (mz rfl) cI ht.symm
   rintro ⟨⟨a20,c21⟩,l22⟩ τ ρ1 hsub42 hz;(try dsimp only at hz hsub42);subst q24;(try dsimp only at hb10);dsimp only [az]
   refine fw (nw hsub42 (af [15,16] [(8,pI (IntKind.i64.wrap (v5+1)))] (by kernel_rfl) ?_))
   exact aY hb10 (a20,c21) (mz rfl) cI
  refine aP ?_
  refine aq (ak hb10 (fun ht=>am rfl ?_))
  exact au ((a3,c4),l2) (tN rfl) cI ht.symm
 rintro ⟨⟨a7,c8⟩,l9⟩ τ hz;(try dsimp only at hz);subst q11;(try dsimp only at h);dsimp only [az]
 refine ag (af [55] [(6,pO a7 l9.length c8)] (by kernel_rfl) (aT ?_))
 refine eY (enc:=Za.enc) (xs:=l9) 6 rfl (by exact aI) ?_
 refine bU ?_
 exact zz r h rfl
def bq (p0:(List Ze)) (p1:Int) (p2:(Ze→Int→Option Int)):Option (Int×Bool):=(bf (S:=Int×Int) (T:=(Int×Int)) (fun (v1,v2)=>cond (decide (v1<v2)) (lb ((IntKind.i64.wrap (bQ .u64 (IntKind.u64.wrap (IntKind.i64.wrap (v1+v2))) 1))) (fun w8=>(idx p0 w8).bind fun m9=>(p2 m9 p1).bind fun x10=>cond (decide (x10<0)) (some (.inl ((IntKind.i64.wrap (w8+1)),v2))) (some (.inl (v1,w8))))) (some (.inr (p1,v1)))) FUEL (0,(p0.length:Int))).bind fun (v3,v4)=>(gd (decide (v4<(p0.length:Int))) (idx p0 v4)).bind fun m12=>(gd (decide (v4<(p0.length:Int))) (p2 m12 v3)).bind fun x13=>some (v4,((decide (v4<(p0.length:Int)))&&(x13 == 0)))
theorem dM {p0:(List Ze)} {p1:Int} {p2:(Ze→Int→Option Int)} {r:(Int×Bool)} {g2:PV} (hg2:∀ {y0:Ze} {y1:Int} {w:Int},p2 y0 y1=some w→PFV g2 [.agg (aK y0),pI y1] (pI w)) (h:bq p0 p1 p2=some r):PF 132 [pL Ze.enc p0,pI p1,g2] (.tup [pI r.1,pB r.2]):=by
 unfold bq at h
 refine bk ?_
 refine ed Tryz.func132 rfl Tryz.ntmps132 Tryz.results132 rfl (aU [6,7] (by kernel_rfl) (bO (af [12,13] [(8,pI (p0.length:Int))] (by kernel_rfl) (bO (af [14] [(9,pI 0),(10,pI (p0.length:Int))] (by kernel_rfl) (cU h fun q6 hq6 h=>?_))))))
 refine ar (Y:=Unit×(Int×Int)) (fun (_,(v3,v4))=>[(0,pL Ze.enc p0),(1,pI v3),(2,g2),(8,pI (p0.length:Int)),(9,pI v4)]) (fun (_,(v3,v4))=>[]) (fun (_,(v3,v4))=>q6=(v3,v4)) ?_ ?_
 ·refine aC ?_
  refine aJ (Y:=Unit) (S:=Int×Int) _ hq6 (fun _ (v1,v2)=>[(0,pL Ze.enc p0),(1,pI p1),(2,g2),(8,pI (p0.length:Int)),(9,pI v1),(10,pI v2)]) (fun _ (v1,v2)=>[]) () (rt rfl) bL ?_
  rintro _ ⟨v1,v2⟩ o τ hb5;(try dsimp only at hb5);dsimp only [az]
  refine dU (af [15,16] [(17,pB (decide (v1<v2)))] (by kernel_rfl) (bT rfl hb5 (fun hc7 hb5=>?_) fun hc7 hb5=>?_))
  ·refine ah ?_
   refine aT (gG ?_)
   refine cZ hb5 ?_;clear hb5;intro w8 hw8 hb5
   refine aa (bS 6 (rg 18 5) [(23,pI (IntKind.i64.wrap (bQ .u64 (IntKind.u64.wrap (IntKind.i64.wrap (v1+v2))) 1)))] (by kernel_rfl) (bK rfl rfl rfl (bv rfl (.p (congrArg (fun z=>PV.v (Value.int .i64 z)) hw8))) (aB (cU hb5 fun m9 hm9 hb5=>ae hb5 fun x10 hx10 hb5=>aw [] (rg 24 7) [(31,pB (decide (x10<0)))] (db 3 Ze.enc hm9 (focv 6 (hg2 hx10) bx)) (by kernel_rfl) (bT rfl hb5 (fun hc11 hb5=>?_) fun hc11 hb5=>?_)))))
   ·refine af [32,33] [(9,pI (IntKind.i64.wrap (w8+1)))] (by kernel_rfl) ?_
    refine aD ?_
    exact aY hb5 () (rt rfl) bL
   refine af [34] [(10,pI w8)] (by kernel_rfl) ?_
   refine aD ?_
   exact aY hb5 () (rt rfl) bL
  refine aP ?_
  refine aq (ak hb5 (fun ht=>am rfl ?_))
  exact au ((),(p1,v1)) (mz rfl) bL ht.symm
 rintro ⟨_,⟨v3,v4⟩⟩ τ hz;(try dsimp only at hz);subst q6;(try dsimp only at h);dsimp only [az]
 refine ag (ae h fun m12 hm12 h=>ae h fun x13 hx13 h=>aw [] (rg 35 14) [(6,pI v4),(7,pB ((decide (v4<(p0.length:Int)))&&(x13 == 0)))] (ia 8 Ze.enc (dB hm12) (focvg 11 (fun hc=>hg2 (dB hx13 hc)) bx)) (by kernel_rfl) (em ?_))
 obtain rfl:=osi h
 exact aQ (dp (aX rfl) (aX rfl)) bL ⟨rfl,rfl⟩
def gg (p0:Int):Option Bool:=some (p0 != p0)
theorem kD {p0:Int} {r:Bool}  (h:gg p0=some r):PF 152 [pI p0] (pB r):=by
 unfold gg at h
 refine bk ?_
 refine ed Tryz.func152 rfl Tryz.ntmps152 Tryz.results152 rfl (aU [2] (by kernel_rfl) (bO (af [3,4,5] [(2,pB (p0 != p0))] (by kernel_rfl) (em ?_))))
 exact zz r h rfl
def dN (p0:Int) (p1:Int):Option Int:=(gg p0).bind fun x1=>(gg p1).bind fun x2=>cond x1 (cond x2 (some (0:Int)) (some (-1))) (cond x2 (some (1:Int)) (cond (decide (p0<p1)) (some (-1)) (cond (decide (p1<p0)) (some (1:Int)) (some (0:Int)))))
theorem gu {p0:Int} {p1:Int} {r:Int}  (h:dN p0 p1=some r):PF 103 [pI p0,pI p1] (pI r):=by
 unfold dN at h
 refine bk ?_
 refine ed Tryz.func103 rfl Tryz.ntmps103 Tryz.results103 rfl (aU [4] (by kernel_rfl) (cU h fun x1 hx1 h=>aw [] [7,8] [(5,pB x1)] (bG 1 (kD hx1) bx) (by kernel_rfl) (cU h fun x2 hx2 h=>aw [] [9,10] [(6,pB x2)] (bG 1 (kD hx2) bx) (by kernel_rfl) (cY (an [(11,pB x1)] (by kernel_rfl) (bT rfl h (fun hc3 h=>?_) fun hc3 h=>?_))))))
 ·refine ag ?_
  refine ag (an [(12,pB x2)] (by kernel_rfl) (bT rfl h (fun hc4 h=>?_) fun hc4 h=>?_))
  ·refine ag ?_
   refine fm [(4,pI 0)] (by kernel_rfl) (aA (aA ?_))
   exact zz r h rfl
  refine ah ?_
  refine bO (fm [(4,pI (-1))] (by kernel_rfl) (aA ?_))
  exact zz r h rfl
 refine ah ?_
 refine cY (an [(13,pB x2)] (by kernel_rfl) (bT rfl h (fun hc5 h=>?_) fun hc5 h=>?_))
 ·refine ag ?_
  refine fm [(4,pI 1)] (by kernel_rfl) (aA ?_)
  exact zz r h rfl
 refine ah ?_
 refine cY (af [14,15] [(16,pB (decide (p0<p1)))] (by kernel_rfl) (bT rfl h (fun hc6 h=>?_) fun hc6 h=>?_))
 ·refine ag ?_
  refine fm [(4,pI (-1))] (by kernel_rfl) (aA ?_)
  exact zz r h rfl
 refine ah ?_
 refine cY (af [17,18] [(19,pB (decide (p1<p0)))] (by kernel_rfl) (bT rfl h (fun hc7 h=>?_) fun hc7 h=>?_))
 ·refine ag ?_
  refine fm [(4,pI 1)] (by kernel_rfl) (aA ?_)
  exact zz r h rfl
 refine ah ?_
 refine bO (fm [(4,pI 0)] (by kernel_rfl) ?_)
 exact zz r h rfl
def cS (p0:Ze) (p1:Int):Option Int:=(dN p0.ID p1).bind fun x2=>some x2
theorem lr {p0:Ze} {p1:Int} {r:Int}  (h:cS p0 p1=some r):PF 133 [.agg (aK p0),pI p1] (pI r):=by
 unfold cS at h
 refine bk ?_
 refine ed Tryz.func133 rfl Tryz.ntmps133 Tryz.results133 rfl (aa (ai rfl (bM (cs:=(aK p0)) rfl rfl (fun b1=>bm [4] (by kernel_rfl) (cU h fun x2 hx2 h=>aw [0] [5,6,7,8] [(4,pI x2)] (bG 3 (gu hx2) bx) (by kernel_rfl) (em ?_))))))
 exact zz r h rfl
def eH (p0:(List Ze)) (p1:Int):Option (Int×Bool):=(bq p0 p1 (fun y1 y2=>cS y1 y2)).bind fun x3=>some (x3.1,x3.2)
theorem lV {p0:(List Ze)} {p1:Int} {r:(Int×Bool)}  (h:eH p0 p1=some r):PF 90 [pL Ze.enc p0,pI p1] (.tup [pI r.1,pB r.2]):=by
 unfold eH at h
 refine bk ?_
 refine ed Tryz.func90 rfl Tryz.ntmps90 Tryz.results90 rfl (aU [4,5] (by kernel_rfl) (cU h fun x3 hx3 h=>aw [] (rg 6 5) [(4,pI x3.1),(5,pB x3.2)] (bG 2 (dM (fun hr=>sT (lr hr)) hx3) bx) (by kernel_rfl) (em ?_)))
 obtain rfl:=osi h
 exact aQ (dp (aX rfl) (aX rfl)) bL ⟨rfl,rfl⟩
def bz (p0:(List ByteArray)):Option (List ByteArray):=app 16 ([]:List ByteArray) p0
theorem dz {p0:(List ByteArray)} {r:(List ByteArray)} (h:bz p0=some r):PCall 91 [pL eS p0] [] (fun pv ρ'=>∃ a c,pv=.v (.slice a r.length c)∧ρ'=[PRes.row a r.length c 9 1 (List.map eS r)]):=by
 unfold bz at h
 refine lh Tryz.func91 rfl Tryz.ntmps91 Tryz.results91 rfl ?_
 (repeat refine ag ?_)
 refine aa (bK rfl rfl rfl (bv (p:=.v (.slice none 0 0)) rfl (.p rfl)) (aB (aT ?_)))
 (repeat refine ag ?_)
 refine aa (bK rfl rfl rfl (ft (p:=pL eS p0) rfl (.p rfl)) (rU rfl rfl rfl rfl rfl rfl (fun b hb=>aB (aT ?_))))
 refine gM rfl (fun hc=>?_) (fun hc=>?_)
 ·have e0:p0=[]:=List.map_eq_nil_iff.1 (hb hc)
  subst e0;obtain ⟨rfl,_⟩:=lO h
  (repeat refine ag ?_)
  refine aa (bK rfl rfl rfl (bv (p:=.v (.slice none 0 0)) rfl (.p rfl)) (aB (aT (cF 9 1 (bU (aA ?_))))))
  exact aQ (cL (aX rfl)) cI ⟨_,_,rfl,rfl⟩
 refine ah ?_
 refine aT ?_
 (repeat refine ag ?_)
 refine aa (ai rfl (bB rfl rfl rfl rfl rfl hY rfl rfl rfl rfl (fun b1=>bK rfl rfl rfl (ft (p:=pL eS p0) rfl (.p rfl)) ?_)))
 refine ai rfl (jB (enc:=eS) (xs:=([]:List ByteArray)) rfl rfl rfl rfl rfl (fun _=>rfl) rfl rfl rfl (by exact aI) h (fun a c=>?_))
 refine bK rfl rfl rfl (bv (p:=.v (.slice a r.length c)) rfl (.p rfl)) (aB (em ?_))
 exact aQ (cL (aX rfl)) cI ⟨_,_,rfl,rfl⟩
def bF (p0:(List Zg)):Option (List Zg):=app 16 ([]:List Zg) p0
theorem eU {p0:(List Zg)} {r:(List Zg)} (h:bF p0=some r):PCall 92 [pL Zg.enc p0] [] (fun pv ρ'=>∃ a c,pv=.v (.slice a r.length c)∧ρ'=[PRes.row a r.length c 78 2 (List.map Zg.enc r)]):=by
 unfold bF at h
 refine lh Tryz.func92 rfl Tryz.ntmps92 Tryz.results92 rfl ?_
 (repeat refine ag ?_)
 refine aa (bK rfl rfl rfl (bv (p:=.v (.slice none 0 0)) rfl (.p rfl)) (aB (aT ?_)))
 (repeat refine ag ?_)
 refine aa (bK rfl rfl rfl (ft (p:=pL Zg.enc p0) rfl (.p rfl)) (rU rfl rfl rfl rfl rfl rfl (fun b hb=>aB (aT ?_))))
 refine gM rfl (fun hc=>?_) (fun hc=>?_)
 ·have e0:p0=[]:=List.map_eq_nil_iff.1 (hb hc)
  subst e0;obtain ⟨rfl,_⟩:=lO h
  (repeat refine ag ?_)
  refine aa (bK rfl rfl rfl (bv (p:=.v (.slice none 0 0)) rfl (.p rfl)) (aB (aT (cF 78 2 (bU (aA ?_))))))
  exact aQ (cL (aX rfl)) cI ⟨_,_,rfl,rfl⟩
 refine ah ?_
 refine aT ?_
 (repeat refine ag ?_)
 refine aa (ai rfl (bB rfl rfl rfl rfl rfl hY rfl rfl rfl rfl (fun b1=>bK rfl rfl rfl (ft (p:=pL Zg.enc p0) rfl (.p rfl)) ?_)))
 refine ai rfl (jB (enc:=Zg.enc) (xs:=([]:List Zg)) rfl rfl rfl rfl rfl (fun _=>rfl) rfl rfl rfl (by exact aI) h (fun a c=>?_))
 refine bK rfl rfl rfl (bv (p:=.v (.slice a r.length c)) rfl (.p rfl)) (aB (em ?_))
 exact aQ (cL (aX rfl)) cI ⟨_,_,rfl,rfl⟩
def cA (p0:(List Ze)) (p1:Int):Option (Ze×Bool):=(eH p0 p1).bind fun x2=>cond (!x2.2) (some ((⟨0,ByteArray.empty,ByteArray.empty,0,false,[],[]⟩:Ze),false)) ((idx p0 x2.1).bind fun m4=>(bz m4.Processes).bind fun x6=>(bF m4.Inputs).bind fun x10=>some ((⟨m4.ID,m4.Code,m4.Country,m4.Price,m4.Obtained,x6,x10⟩:Ze),true))
theorem fx {p0:(List Ze)} {p1:Int} {r:(Ze×Bool)}  (h:cA p0 p1=some r):PF 45 [pL Ze.enc p0,pI p1] (.tup [.agg (aK r.1),pB r.2]):=by
 unfold cA at h
 refine bk ?_
 refine ed Tryz.func45 rfl Tryz.ntmps45 Tryz.results45 rfl (aa (ai rfl (aM (cs:=[pI 0,pS ByteArray.empty,pS ByteArray.empty,pI 0,pB false,pN,pN]) rfl rfl rfl rfl (fun b1=>bm [5] (by kernel_rfl) (cU h fun x2 hx2 h=>aw [] [10,11,12,9,13,14] [(6,pI x2.1),(7,pB x2.2)] (bG 2 (lV hx2) bx) (by kernel_rfl) (cY (af [15] [(16,pB (!x2.2))] (by kernel_rfl) (bT rfl h (fun hc3 h=>?_) fun hc3 h=>?_))))))))
 ·refine ag ?_
  refine aa (av 1 [(17,.agg [pI 0,pS ByteArray.empty,pS ByteArray.empty,pI 0,pB false,pN,pN])] (by kernel_rfl) (aN rfl rfl (aj (vs:=[pI 0,pS ByteArray.empty,pS ByteArray.empty,pI 0,pB false,pN,pN]) rfl rfl rfl rfl rfl bV mA (aG [(5,pB false)] (by kernel_rfl) (aT (cb (k:=5) (b:=b1) rfl bV (cb (k:=6) (b:=b1) rfl bV (bU (aA ?_)))))))))
  obtain rfl:=osi h
  exact aQ (dp (cE rfl eP rfl) (aX rfl)) bL ⟨rfl,rfl⟩
 refine ah ?_
 refine cU h fun m4 hm4 h=>aa (aS 4 [] [18,19,20] [(21,.agg (aK m4))] (db 2 Ze.enc hm4 bx) (by kernel_rfl) (ai rfl (aM (cs:=[pI 0,pS ByteArray.empty,pS ByteArray.empty,pI 0,pB false,pN,pN]) rfl rfl rfl rfl (fun b5=>aN rfl rfl (aj (vs:=(aK m4)) rfl rfl rfl rfl rfl bV mA (aB (cU h fun x6 hx6 h=>aa (cw 2 [0] [22] [(23,pL eS m4.Processes)] (by kernel_rfl) ?_))))))))
 refine ai rfl (ba rfl rfl (ρ1:=[]) (List.Perm.refl _) (dz hx6) ?_);rintro _ _ ⟨a7,c8,rfl,rfl⟩
 refine av 1 [(25,pP b5 5)] (by kernel_rfl) (aN rfl rfl (aj (vs:=[pO a7 x6.length c8]) rfl rfl rfl rfl rfl (cG bV) (cX (cX (cX (cX (cX kR))))) (aB (cU h fun x10 hx10 h=>aa (cw 2 [1] [26] [(27,pL Zg.enc m4.Inputs)] (by kernel_rfl) ?_)))))
 refine ai rfl (ba rfl rfl (ρ1:=[]) (List.Perm.refl _) (eU hx10) ?_);rintro _ _ ⟨a11,c12,rfl,rfl⟩
 refine av 1 [(29,pP b5 6)] (by kernel_rfl) (aN rfl rfl (aj (vs:=[pO a11 x10.length c12]) rfl rfl rfl rfl rfl (cG (cG bV)) (cX (cX (cX (cX (cX (cX kR)))))) (aB (bO (aa ?_)))))
 refine jc (css:=List.map eS x6) (a:=a7) (by exact ap aI) ?_
 refine gB (k:=5) (enc:=eS) (xs:=x6) (b:=b5) (a:=a7) rfl eP (cG (cG bV)) ?_
 refine jc (css:=List.map Zg.enc x10) (a:=a11) (by exact ap aI) ?_
 refine gB (k:=6) (enc:=Zg.enc) (xs:=x10) (b:=b5) (a:=a11) rfl eP (cG (cG bV)) (e9 1 [2] [(30,.agg [pI m4.ID,pS m4.Code,pS m4.Country,pI m4.Price,pB m4.Obtained,pL eS x6,pL Zg.enc x10])] (by kernel_rfl) (aN rfl rfl (aj (vs:=[pI m4.ID,pS m4.Code,pS m4.Country,pI m4.Price,pB m4.Obtained,pL eS x6,pL Zg.enc x10]) rfl rfl rfl rfl rfl (cG (cG (cG bV))) mA (aG [(5,pB true)] (by kernel_rfl) (em ?_)))))
 obtain rfl:=osi h
 exact aQ (dp (cE rfl zm3 rfl) (aX rfl)) bL ⟨rfl,rfl⟩
def bo (p0:(List Zb)) (p1:(Zb→Option Bool)):Option Int:=(bf (S:=Int) (T:=(Unit)⊕(_)) (fun v1=>cond (decide (v1<(p0.length:Int))) ((idx p0 v1).bind fun m5=>(p1 m5).bind fun x6=>cond x6 (some (.inr (.inr v1))) (some (.inl (IntKind.i64.wrap (v1+1))))) (some (.inr (.inl ())))) FUEL 0).bind fun q=>match q with | .inl _=>some (-1) | .inr e=>some e
theorem eJ {p0:(List Zb)} {p1:(Zb→Option Bool)} {r:Int} {g1:PV} (hg1:∀ {y0:Zb} {w:Bool},p1 y0=some w→PFV g1 [.agg (al y0)] (pB w)) (h:bo p0 p1=some r):PF 93 [pL Zb.enc p0,g1] (pI r):=by
 unfold bo at h
 refine bk ?_
 refine ed Tryz.func93 rfl Tryz.ntmps93 Tryz.results93 rfl (aU [4] (by kernel_rfl) (cY (af [6] [(7,pI (p0.length:Int)),(8,pI 0)] (by kernel_rfl) (gn h fun q3 hq3 h=>?_))))
 refine ar (Y:=Unit×Unit) (fun (_,_)=>[]) (fun (_,_)=>[]) (fun (_,_)=>q3=Sum.inl ()) ?_ ?_
 ·refine aC ?_
  refine aJ (Y:=Unit) (S:=Int) _ hq3 (fun _ v1=>[(0,pL Zb.enc p0),(1,g1),(7,pI (p0.length:Int)),(8,pI v1)]) (fun _ v1=>[]) () (jW rfl) bL ?_
  rintro _ v1 o τ hb2;(try dsimp only at hb2);dsimp only [az]
  refine ag (an [(9,pB (decide (v1<(p0.length:Int))))] (by kernel_rfl) (bO (kq rfl hb2 (fun hc4 hb2=>?_) fun hc4 hb2=>?_)))
  ·refine ah ?_
   refine bO (gG (af [10] [(5,pI v1)] (by kernel_rfl) (cU hb2 fun m5 hm5 hb2=>ae hb2 fun x6 hx6 hb2=>aw [] (rg 11 5) [(16,pB x6)] (db 3 Zb.enc hm5 (focv 5 (hg1 hx6) bx)) (by kernel_rfl) (bT rfl hb2 (fun hc7 hb2=>?_) fun hc7 hb2=>?_))))
   ·refine ag ?_
    refine af [17] [(4,pI v1)] (by kernel_rfl) (em (iX ?_))
    refine aW hb2 (fun ht=>?_);subst ht
    refine aL (aV ?_)
    exact zz r h rfl
   refine ah ?_
   refine fw (af [18] [(8,pI (IntKind.i64.wrap (v1+1)))] (by kernel_rfl) ?_)
   exact aY hb2 () (jW rfl) bL
  refine aP ?_
  refine aq (ak hb2 (fun ht=>am rfl ?_))
  exact au ((),()) mN bL ht.symm
 rintro ⟨_,_⟩ τ hz;(try dsimp only at hz);subst q3;(try dsimp only at h);dsimp only [az]
 refine ag (fm [(4,pI (-1))] (by kernel_rfl) ?_)
 exact zz r h rfl
def eK (p0:Zb) (p1:Int):Option Bool:=some (p0.ID == p1)
theorem lW {p0:Zb} {p1:Int} {r:Bool}  (h:eK p0 p1=some r):PF 94 [.agg (al p0),.ref [pI p1] 0] (pB r):=by
 unfold eK at h
 refine bk ?_
 refine ed Tryz.func94 rfl Tryz.ntmps94 Tryz.results94 rfl (aa (ai rfl (bM (cs:=(al p0)) rfl rfl (fun b1=>bm [3] (by kernel_rfl) (bO (bj [0] [4,5,6,7] [(3,pB (p0.ID == p1))] (by kernel_rfl) (em ?_)))))))
 exact zz r h rfl
def dO (p0:(List Zb)) (p1:Int):Option (Zb×Bool):=(bo p0 (fun y3=>eK y3 p1)).bind fun x4=>cond (decide (x4<0)) (some ((⟨0,0,[],[]⟩:Zb),false)) ((idx p0 x4).bind fun m6=>some (m6,true))
theorem gw {p0:(List Zb)} {p1:Int} {r:(Zb×Bool)}  (h:dO p0 p1=some r):PF 46 [pL Zb.enc p0,pI p1] (.tup [.agg (al r.1),pB r.2]):=by
 unfold dO at h
 refine bk ?_
 refine ed Tryz.func46 rfl Tryz.ntmps46 Tryz.results46 rfl (aa (ai rfl (bM (cs:=[pI p1]) rfl rfl (fun b1=>ai rfl (aM (cs:=[pI 0,pI 0,pN,pN]) rfl rfl rfl rfl (fun b2=>bm [5] (by kernel_rfl) (bO (aa (av 1 [(7,pL Zb.enc p0)] (by kernel_rfl) ?_)))))))))
 refine pwl_frb 3 rfl (by exact ap aI) ?_
 refine ae h fun x4 hx4 h=>je [] [8,9] [(6,pI x4)] (bG 1 (eJ (fun hr=>sT (lW hr)) hx4) bx) (by kernel_rfl) (cY (af [10] [(11,pB (decide (x4<0)))] (by kernel_rfl) (bT rfl h (fun hc5 h=>?_) fun hc5 h=>?_)))
 ·refine ag ?_
  refine aa (av 1 [(12,.agg [pI 0,pI 0,pN,pN])] (by kernel_rfl) (aN rfl rfl (aj (vs:=[pI 0,pI 0,pN,pN]) rfl rfl rfl rfl rfl (cG bV) wK (aG [(5,pB false)] (by kernel_rfl) (aT (cb (k:=2) (b:=b2) rfl (cG bV) (cb (k:=3) (b:=b2) rfl (cG bV) (bU (aA ?_)))))))))
  obtain rfl:=osi h
  exact aQ (dp (cE rfl rV rfl) (aX rfl)) bL ⟨rfl,rfl⟩
 refine ah ?_
 refine cU h fun m6 hm6 h=>aa (aS 4 [] [13,14,15] [(16,.agg (al m6))] (db 2 Zb.enc hm6 bx) (by kernel_rfl) (aN rfl rfl (aj (vs:=(al m6)) rfl rfl rfl rfl rfl (cG bV) wK (aG [(5,pB true)] (by kernel_rfl) (em ?_)))))
 obtain rfl:=osi h
 exact aQ (dp (cE rfl rV rfl) (aX rfl)) bL ⟨rfl,rfl⟩
def cd (p0:(List ByteArray)) (p1:ByteArray):Option Int:=(bf (S:=Int) (T:=(Unit)⊕(_)) (fun v1=>cond (decide (v1<(p0.length:Int))) ((idx p0 v1).bind fun m5=>cond (decide (p1=m5)) (some (.inr (.inr v1))) (some (.inl (IntKind.i64.wrap (v1+1))))) (some (.inr (.inl ())))) FUEL 0).bind fun q=>match q with | .inl _=>some (-1) | .inr e=>some e
theorem iP {p0:(List ByteArray)} {p1:ByteArray} {r:Int}  (h:cd p0 p1=some r):PF 137 [pL eS p0,pS p1] (pI r):=by
 unfold cd at h
 refine bk ?_
 refine ed Tryz.func137 rfl Tryz.ntmps137 Tryz.results137 rfl (aU [4] (by kernel_rfl) (cY (af [6] [(7,pI (p0.length:Int)),(8,pI 0)] (by kernel_rfl) (gn h fun q3 hq3 h=>?_))))
 refine ar (Y:=Unit×Unit) (fun (_,_)=>[]) (fun (_,_)=>[]) (fun (_,_)=>q3=Sum.inl ()) ?_ ?_
 ·refine aC ?_
  refine aJ (Y:=Unit) (S:=Int) _ hq3 (fun _ v1=>[(0,pL eS p0),(1,pS p1),(7,pI (p0.length:Int)),(8,pI v1)]) (fun _ v1=>[]) () (jW rfl) bL ?_
  rintro _ v1 o τ hb2;(try dsimp only at hb2);dsimp only [az]
  refine ag (an [(9,pB (decide (v1<(p0.length:Int))))] (by kernel_rfl) (bO (kq rfl hb2 (fun hc4 hb2=>?_) fun hc4 hb2=>?_)))
  ·refine ah ?_
   refine bO (gG (af [10] [(5,pI v1)] (by kernel_rfl) (cU hb2 fun m5 hm5 hb2=>aw [] (rg 11 5) [(16,pB (decide (p1=m5)))] (db 3 eS hm5 bx) (by kernel_rfl) (bT rfl hb2 (fun hc6 hb2=>?_) fun hc6 hb2=>?_))))
   ·refine ag ?_
    refine af [17] [(4,pI v1)] (by kernel_rfl) (em (iX ?_))
    refine aW hb2 (fun ht=>?_);subst ht
    refine aL (aV ?_)
    exact zz r h rfl
   refine ah ?_
   refine fw (af [18] [(8,pI (IntKind.i64.wrap (v1+1)))] (by kernel_rfl) ?_)
   exact aY hb2 () (jW rfl) bL
  refine aP ?_
  refine aq (ak hb2 (fun ht=>am rfl ?_))
  exact au ((),()) mN bL ht.symm
 rintro ⟨_,_⟩ τ hz;(try dsimp only at hz);subst q3;(try dsimp only at h);dsimp only [az]
 refine ag (fm [(4,pI (-1))] (by kernel_rfl) ?_)
 exact zz r h rfl
def bA (p0:(List ByteArray)) (p1:ByteArray):Option Bool:=(cd p0 p1).bind fun x1=>some (decide (0≤x1))
theorem cN {p0:(List ByteArray)} {p1:ByteArray} {r:Bool}  (h:bA p0 p1=some r):PF 96 [pL eS p0,pS p1] (pB r):=by
 unfold bA at h
 refine bk ?_
 refine ed Tryz.func96 rfl Tryz.ntmps96 Tryz.results96 rfl (aU [4] (by kernel_rfl) (cU h fun x1 hx1 h=>aw [] [5,6,7,8] [(4,pB (decide (0≤x1)))] (bG 2 (iP hx1) bx) (by kernel_rfl) (em ?_)))
 exact zz r h rfl
end SX
end Go.Proofs.YtgmbmepakpcpaaaGreatDoor
