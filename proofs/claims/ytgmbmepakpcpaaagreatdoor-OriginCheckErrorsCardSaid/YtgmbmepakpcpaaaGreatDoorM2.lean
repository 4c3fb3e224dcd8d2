/- A part of the proof: texts of the walk and of the plain laws, merged. No condition. -/
import Derived.Test.YtgmbmepakpcpaaaGreatDoorM1
set_option linter.unusedVariables false
set_option linter.unusedSimpArgs false
set_option maxHeartbeats 4000000
set_option maxRecDepth 100000
namespace Go.Proofs.YtgmbmepakpcpaaaGreatDoor
namespace SX
open Go
theorem DB {t E:Nat} (hu:eY t=some (.slice E)) (a:Option Addr) (n c:Nat) (x y:Operand) (w:World):((eqGuard .eql t x y (.slice a n c) (.slice none 0 0)).run Tryz.prog w=.ok () w)∧(binOp .eql t (.slice a n c) (.slice none 0 0)).run Tryz.prog w=.ok (.bool a.isNone) w:=by
 constructor
 ·cases a <;> simp [eqGuard]
 simp only [binOp,Sem.run_bind,run_equal_slice_nil w t E a n c (bq hu),Result.andThen_ok,Sem.run_pure]
theorem xu {n:Nat} {ops:Array Oper} {o:Oper} {rest:List Oper} {K:PPost} {σ:PEnv} {ρ:List PRes} {d t t' E mm:Nat} {x:Operand} {xs:List (List PV)} (hg:o.guard=none) (hd:o.dst=some d) (hlt:Nat.blt d n=true) (ho:o.op=.binOp .eql t x (.const (.slice none 0 0)) t') (hu:eY t=some (.slice E)) (hx:bz σ x=.slc mm xs) (h:∀ b:Bool,(b=true→xs=[])→PWL n ops rest K (gh σ d (.v (.bool b))) ρ):PWL n ops (o::rest) K σ ρ:=fun β κ σ' ρ' g hs hr=>by
 have he:=hs.ev x
 rw [hx] at he
 generalize hw':ev σ' x=w at he
 cases he with
 | slc hsl hb h1 hss =>
  rename_i a c sz css
  have hq:OpQ true o σ' ρ' κ (.bool a.isNone):=fun _ w _=>by
   obtain ⟨g1,g2⟩:=DB hu a mm c x (.const (.slice none 0 0)) w
   have e2:ev σ' (.const (.slice none 0 0))=.slice none 0 0:=rfl
   simp only [execOp,ho,hw',e2,Sem.run_bind,g1,Result.andThen_ok,g2,Sem.run_pure]
  refine eZ hg hd hlt hq (h a.isNone (fun hn=>?_) β κ _ ρ' g (hs.upd (.v rfl)) hr)
  cases a with
  | some ad=>cases hn
  | none =>
   have:mm=0:=by
    rcases Nat.eq_zero_or_pos mm with h | h
    ·exact h
    obtain ⟨b,off,e,_⟩:=hsl.at_ h;cases e
   subst this
   have e1:=hss.len;have e2:=hsl.len
   exact List.eq_nil_of_length_eq_zero (by omega)
theorem Fh {α:Type} (l:List α) (k:Nat) (v:α) (h:l[k]?=some v):l.set k v=l:=by
 apply List.ext_getElem?;intro i;rw [List.getElem?_set];split
 ·rename_i hik;subst hik;rw [h];have:=(List.getElem?_eq_some_iff.1 h).1;simp [this]
 rfl
section
variable {n:Nat} {x:Code} {K:Exit→PPost} {KL:PPost} {σ:PEnv} {ρ:List PRes} {ops:Array Oper} {lo:List Oper} {cs:List PV} {a:Option Addr} {m c:Nat} {css:List (List PV)} {α:Type} {enc:α→List PV} {xs:List α}
theorem agg_nil {κ:Kr} {w:Value} {k:Nat} (h:Rp κ (.agg cs) w) (hk:cs[k]?=some (.v (.slice none 0 0))):Rp κ (.agg (cs.set k (.slc 0 []))) w:=by
 cases h with
 | agg ho hc =>
  obtain ⟨v,hv,hp⟩:=hc.get hk
  have hset:=hc.set (k:=k) (p:=.slc 0 []) (v:=v) (by rw [hp.val];exact s7)
  rw [Fh _ _ _ hv] at hset
  exact .agg ho hset
theorem iU (t k:Nat) (ht:σ t=.agg cs) (hk:cs[k]?=some (.v (.slice none 0 0))) (h:PWL n ops lo KL (gh σ t (.agg (cs.set k (.slc 0 [])))) ρ):PWL n ops lo KL σ ρ:=fun β κ σ' ρ' g hs hr=>h β κ σ' ρ' g (p6 hs (agg_nil (by have:=hs t;rwa [ht] at this) hk)) hr
end
def zpv:Value→PV
 | .slice none 0 0=>.slc 0 []
 | x=>cond (yt x) (.v x) .any
theorem CB {κ:Kr}:∀ (l:List Value),Rps κ (l.map zpv) l
 | []=>.nil
 | x::l=>.cons (by unfold zpv;split;exact s7;exact yu) (CB l)
theorem te {o:Oper} {σ:PEnv} {ρ:List PRes} {c:Bool} {t sz by':Nat} {parts:List (Nat×Operand)} {fl:List (Nat×Nat)} {zs:List Value} {zp cs:List PV} (hc:c=true) (ho:o.op=.build t parts.toArray) (hz:gr t=some (.agg zs.toArray,sz,by')) (hf:sa t=some fl) (hall:(fl.all fun p=>(gr p.2).isSome)=true) (hzp:zs.map zpv=zp) (hz1:zs.all Value.oneCell'=true) (h:PFill σ fl zp parts cs):POpQ c o σ ρ (.agg cs):=fun κ σ' ρ' g hs hr=>by
 subst hc
 obtain ⟨cv,h1,h2,h3⟩:=h.real hs (zv:=zs) (by rw [← hzp];exact CB zs) (fun u hu=>List.all_eq_true.1 hz1 u hu)
 exact ⟨_,fun _=>.agg h3 h2,zG ho hz hf hall h1⟩
theorem gb {α:Type} {a:α} {l:List α}:a∈a::l:=List.Mem.head _
theorem wU {α:Type} {a b0:α} {l:List α}:a∈b0::a::l:=List.Mem.tail _ (List.Mem.head _)
theorem um {α:Type} {a b0 b1:α} {l:List α}:a∈b0::b1::a::l:=List.Mem.tail _ (List.Mem.tail _ (List.Mem.head _))
theorem zm3 {α:Type} {a b0 b1 b2:α} {l:List α}:a∈b0::b1::b2::a::l:=List.Mem.tail _ (List.Mem.tail _ (List.Mem.tail _ (List.Mem.head _)))
theorem zm4 {α:Type} {a b0 b1 b2 b3:α} {l:List α}:a∈b0::b1::b2::b3::a::l:=List.Mem.tail _ (List.Mem.tail _ (List.Mem.tail _ (List.Mem.tail _ (List.Mem.head _))))
theorem zm5 {α:Type} {a b0 b1 b2 b3 b4:α} {l:List α}:a∈b0::b1::b2::b3::b4::a::l:=List.Mem.tail _ (List.Mem.tail _ (List.Mem.tail _ (List.Mem.tail _ (List.Mem.tail _ (List.Mem.head _)))))
theorem zm6 {α:Type} {a b0 b1 b2 b3 b4 b5:α} {l:List α}:a∈b0::b1::b2::b3::b4::b5::a::l:=List.Mem.tail _ (List.Mem.tail _ (List.Mem.tail _ (List.Mem.tail _ (List.Mem.tail _ (List.Mem.tail _ (List.Mem.head _))))))
theorem zm7 {α:Type} {a b0 b1 b2 b3 b4 b5 b6:α} {l:List α}:a∈b0::b1::b2::b3::b4::b5::b6::a::l:=List.Mem.tail _ (List.Mem.tail _ (List.Mem.tail _ (List.Mem.tail _ (List.Mem.tail _ (List.Mem.tail _ (List.Mem.tail _ (List.Mem.head _)))))))
theorem zm8 {α:Type} {a b0 b1 b2 b3 b4 b5 b6 b7:α} {l:List α}:a∈b0::b1::b2::b3::b4::b5::b6::b7::a::l:=List.Mem.tail _ (List.Mem.tail _ (List.Mem.tail _ (List.Mem.tail _ (List.Mem.tail _ (List.Mem.tail _ (List.Mem.tail _ (List.Mem.tail _ (List.Mem.head _))))))))
theorem zm9 {α:Type} {a b0 b1 b2 b3 b4 b5 b6 b7 b8:α} {l:List α}:a∈b0::b1::b2::b3::b4::b5::b6::b7::b8::a::l:=List.Mem.tail _ (List.Mem.tail _ (List.Mem.tail _ (List.Mem.tail _ (List.Mem.tail _ (List.Mem.tail _ (List.Mem.tail _ (List.Mem.tail _ (List.Mem.tail _ (List.Mem.head _)))))))))
theorem zm10 {α:Type} {a b0 b1 b2 b3 b4 b5 b6 b7 b8 b9:α} {l:List α}:a∈b0::b1::b2::b3::b4::b5::b6::b7::b8::b9::a::l:=List.Mem.tail _ (List.Mem.tail _ (List.Mem.tail _ (List.Mem.tail _ (List.Mem.tail _ (List.Mem.tail _ (List.Mem.tail _ (List.Mem.tail _ (List.Mem.tail _ (List.Mem.tail _ (List.Mem.head _))))))))))
theorem zm11 {α:Type} {a b0 b1 b2 b3 b4 b5 b6 b7 b8 b9 b10:α} {l:List α}:a∈b0::b1::b2::b3::b4::b5::b6::b7::b8::b9::b10::a::l:=List.Mem.tail _ (List.Mem.tail _ (List.Mem.tail _ (List.Mem.tail _ (List.Mem.tail _ (List.Mem.tail _ (List.Mem.tail _ (List.Mem.tail _ (List.Mem.tail _ (List.Mem.tail _ (List.Mem.tail _ (List.Mem.head _)))))))))))
theorem zm12 {α:Type} {a b0 b1 b2 b3 b4 b5 b6 b7 b8 b9 b10 b11:α} {l:List α}:a∈b0::b1::b2::b3::b4::b5::b6::b7::b8::b9::b10::b11::a::l:=List.Mem.tail _ (List.Mem.tail _ (List.Mem.tail _ (List.Mem.tail _ (List.Mem.tail _ (List.Mem.tail _ (List.Mem.tail _ (List.Mem.tail _ (List.Mem.tail _ (List.Mem.tail _ (List.Mem.tail _ (List.Mem.tail _ (List.Mem.head _))))))))))))
theorem zm13 {α:Type} {a b0 b1 b2 b3 b4 b5 b6 b7 b8 b9 b10 b11 b12:α} {l:List α}:a∈b0::b1::b2::b3::b4::b5::b6::b7::b8::b9::b10::b11::b12::a::l:=List.Mem.tail _ (List.Mem.tail _ (List.Mem.tail _ (List.Mem.tail _ (List.Mem.tail _ (List.Mem.tail _ (List.Mem.tail _ (List.Mem.tail _ (List.Mem.tail _ (List.Mem.tail _ (List.Mem.tail _ (List.Mem.tail _ (List.Mem.tail _ (List.Mem.head _)))))))))))))
theorem zmv {n:Nat} {ops:Array Oper} {o:Oper} {rest:List Oper} {K:PPost} {σ:PEnv} {ρ:List PRes} {d:Nat} {x:Operand} {p:PV} (hg:o.guard=none) (hd:o.dst=some d) (hlt:Nat.blt d n=true) (ho:o.op=.move x) (hx:bz σ x=p) (hw:PWL n ops rest K (gh σ d p) ρ):PWL n ops (o::rest) K σ ρ:=bX hg hd hlt (ia ho (.p hx)) hw
theorem zas {n:Nat} {ops:Array Oper} {o:Oper} {rest:List Oper} {K:PPost} {σ:PEnv} {ρ:List PRes} {d:Nat} {x:Operand} {p:PV} (hg:o.guard=none) (hd:o.dst=some d) (hlt:Nat.blt d n=true) (ho:o.op=.assign x) (hx:bz σ x=p) (hw:PWL n ops rest K (gh σ d p) ρ):PWL n ops (o::rest) K σ ρ:=bX hg hd hlt (bV ho (.p hx)) hw
theorem zex {n:Nat} {ops:Array Oper} {o:Oper} {rest:List Oper} {K:PPost} {σ:PEnv} {ρ:List PRes} {d i:Nat} {vs:List PV} {x:Operand} {p:PV} (hg:o.guard=none) (hd:o.dst=some d) (hlt:Nat.blt d n=true) (ho:o.op=.extract x i) (hx:bz σ x=.tup vs) (hr:vs[i]?=some p) (hw:PWL n ops rest K (gh σ d p) ρ):PWL n ops (o::rest) K σ ρ:=bX hg hd hlt (vo ho (.p hx) hr) hw
def rg (a:Nat):Nat→List Nat
  | 0=>[]
  | n+1=>a::rg (a+1) n
theorem kq {n:Nat} {x y:Code} {K:Exit→PPost} {σ:PEnv} {ρ:List PRes} {α:Type} {c:Operand} {p:Bool} {a b r:α} (hc:bz σ c=.v (.bool p)) (h:cond p a b=r) (ht:p=true→a=r→PWC n x K σ ρ) (hf:p=false→b=r→PWC n y K σ ρ):PWC n (.cond c x y) K σ ρ:=km hc (fun e=>ht e (Bp e h)) (fun e=>hf e (Bq e h))
theorem rD {σ:PEnv} {d0:Nat} {v0:PV} (h:σ d0=v0):PHolds σ [(d0,v0)]:=by cases h;exact eF rfl (pz)
theorem oA {x0 v0:PV} {l:List PV}:PSplice (x0::l) 0 [v0] (v0::l):=ry (zln)
theorem cK {x0:PRes} {l:List PRes}:PSub [x0] (x0::l):=be aO (bB)
theorem mq {σ:PEnv} {d0 d1:Nat} {v0 v1:PV} (h:(σ d0,σ d1)=(v0,v1)):PHolds σ [(d0,v0),(d1,v1)]:=by cases h;exact eF rfl (eF rfl (pz))
theorem sQ {x0 v0 x1 v1:PV} {l:List PV}:PSplice (x0::x1::l) 0 [v0,v1] (v0::v1::l):=ry (ry (zln))
theorem n8 {x0 x1:PRes} {l:List PRes}:PSub [x0,x1] (x0::x1::l):=be aO (be aO (bB))
theorem nV {σ:PEnv} {d0 d1 d2:Nat} {v0 v1 v2:PV} (h:(σ d0,σ d1,σ d2)=(v0,v1,v2)):PHolds σ [(d0,v0),(d1,v1),(d2,v2)]:=by cases h;exact eF rfl (eF rfl (eF rfl (pz)))
theorem zl3 {x0 v0 x1 v1 x2 v2:PV} {l:List PV}:PSplice (x0::x1::x2::l) 0 [v0,v1,v2] (v0::v1::v2::l):=ry (ry (ry (zln)))
theorem A7 {x0 x1 x2:PRes} {l:List PRes}:PSub [x0,x1,x2] (x0::x1::x2::l):=be aO (be aO (be aO (bB)))
theorem iR {σ:PEnv} {d0 d1 d2 d3:Nat} {v0 v1 v2 v3:PV} (h:(σ d0,σ d1,σ d2,σ d3)=(v0,v1,v2,v3)):PHolds σ [(d0,v0),(d1,v1),(d2,v2),(d3,v3)]:=by cases h;exact eF rfl (eF rfl (eF rfl (eF rfl (pz))))
theorem xx {x0 v0 x1 v1 x2 v2 x3 v3:PV} {l:List PV}:PSplice (x0::x1::x2::x3::l) 0 [v0,v1,v2,v3] (v0::v1::v2::v3::l):=ry (ry (ry (ry (zln))))
theorem Es {x0 x1 x2 x3:PRes} {l:List PRes}:PSub [x0,x1,x2,x3] (x0::x1::x2::x3::l):=be aO (be aO (be aO (be aO (bB))))
theorem ns {σ:PEnv} {d0 d1 d2 d3 d4:Nat} {v0 v1 v2 v3 v4:PV} (h:(σ d0,σ d1,σ d2,σ d3,σ d4)=(v0,v1,v2,v3,v4)):PHolds σ [(d0,v0),(d1,v1),(d2,v2),(d3,v3),(d4,v4)]:=by cases h;exact eF rfl (eF rfl (eF rfl (eF rfl (eF rfl (pz)))))
theorem Fi {x0 v0 x1 v1 x2 v2 x3 v3 x4 v4:PV} {l:List PV}:PSplice (x0::x1::x2::x3::x4::l) 0 [v0,v1,v2,v3,v4] (v0::v1::v2::v3::v4::l):=ry (ry (ry (ry (ry (zln)))))
theorem zs5 {x0 x1 x2 x3 x4:PRes} {l:List PRes}:PSub [x0,x1,x2,x3,x4] (x0::x1::x2::x3::x4::l):=be aO (be aO (be aO (be aO (be aO (bB)))))
theorem p9 {σ:PEnv} {d0 d1 d2 d3 d4 d5:Nat} {v0 v1 v2 v3 v4 v5:PV} (h:(σ d0,σ d1,σ d2,σ d3,σ d4,σ d5)=(v0,v1,v2,v3,v4,v5)):PHolds σ [(d0,v0),(d1,v1),(d2,v2),(d3,v3),(d4,v4),(d5,v5)]:=by cases h;exact eF rfl (eF rfl (eF rfl (eF rfl (eF rfl (eF rfl (pz))))))
theorem zs6 {x0 x1 x2 x3 x4 x5:PRes} {l:List PRes}:PSub [x0,x1,x2,x3,x4,x5] (x0::x1::x2::x3::x4::x5::l):=be aO (be aO (be aO (be aO (be aO (be aO (bB))))))
theorem sR {σ:PEnv} {d0 d1 d2 d3 d4 d5 d6:Nat} {v0 v1 v2 v3 v4 v5 v6:PV} (h:(σ d0,σ d1,σ d2,σ d3,σ d4,σ d5,σ d6)=(v0,v1,v2,v3,v4,v5,v6)):PHolds σ [(d0,v0),(d1,v1),(d2,v2),(d3,v3),(d4,v4),(d5,v5),(d6,v6)]:=by cases h;exact eF rfl (eF rfl (eF rfl (eF rfl (eF rfl (eF rfl (eF rfl (pz)))))))
theorem mX {x0 v0 x1 v1 x2 v2 x3 v3 x4 v4 x5 v5 x6 v6:PV} {l:List PV}:PSplice (x0::x1::x2::x3::x4::x5::x6::l) 0 [v0,v1,v2,v3,v4,v5,v6] (v0::v1::v2::v3::v4::v5::v6::l):=ry (ry (ry (ry (ry (ry (ry (zln)))))))
theorem r8 {σ:PEnv} {d0 d1 d2 d3 d4 d5 d6 d7:Nat} {v0 v1 v2 v3 v4 v5 v6 v7:PV} (h:(σ d0,σ d1,σ d2,σ d3,σ d4,σ d5,σ d6,σ d7)=(v0,v1,v2,v3,v4,v5,v6,v7)):PHolds σ [(d0,v0),(d1,v1),(d2,v2),(d3,v3),(d4,v4),(d5,v5),(d6,v6),(d7,v7)]:=by cases h;exact eF rfl (eF rfl (eF rfl (eF rfl (eF rfl (eF rfl (eF rfl (eF rfl (pz))))))))
theorem zl8 {x0 v0 x1 v1 x2 v2 x3 v3 x4 v4 x5 v5 x6 v6 x7 v7:PV} {l:List PV}:PSplice (x0::x1::x2::x3::x4::x5::x6::x7::l) 0 [v0,v1,v2,v3,v4,v5,v6,v7] (v0::v1::v2::v3::v4::v5::v6::v7::l):=ry (ry (ry (ry (ry (ry (ry (ry (zln))))))))
theorem sS {σ:PEnv} {d0 d1 d2 d3 d4 d5 d6 d7 d8:Nat} {v0 v1 v2 v3 v4 v5 v6 v7 v8:PV} (h:(σ d0,σ d1,σ d2,σ d3,σ d4,σ d5,σ d6,σ d7,σ d8)=(v0,v1,v2,v3,v4,v5,v6,v7,v8)):PHolds σ [(d0,v0),(d1,v1),(d2,v2),(d3,v3),(d4,v4),(d5,v5),(d6,v6),(d7,v7),(d8,v8)]:=by cases h;exact eF rfl (eF rfl (eF rfl (eF rfl (eF rfl (eF rfl (eF rfl (eF rfl (eF rfl (pz)))))))))
theorem zq {t:Nat} {R:PV→List PRes→Prop} {σ:PEnv} {ρ:List PRes} {p:PV} (h:σ t=p) (hr:R p []):mn [.tmp t] R .ret σ ρ:=aM (dp (aK h)) bB hr
theorem osi {α:Type} {a b:α} (h:some a=some b):a=b:=Option.some.inj h
theorem cov_sub {σ:PEnv} {ρ ρ':List PRes} (h:PSub ρ' ρ):Cov σ ρ σ ρ':=fun _ _ _ h2=>oK h h2
def z6:TypeDesc→Bool
 | .interface _=>true
 | _=>false
section
variable {o:Oper} {σ:PEnv} {ρ:List PRes} {x:Operand} {t:Nat}
theorem Bt {σ:Env} {ρ:List Res} {κ:Kr} {d:TypeDesc} (ho:o.op=.makeInterface t x) (hu:eY t=some d) (hn:z6 d=false):OpQ true o σ ρ κ (.iface t (ev σ x)):=fun _ w _=>by
 have h:=run_underlying (w:=w) (bq hu)
 cases d <;> first | (cases hn;done) | simp [execOp,ho,Instr.makeInterface,h]
theorem Bu {d:TypeDesc} (ho:o.op=.makeInterface t x) (hu:eY t=some d) (hn:z6 d=false):POpQ true o σ ρ (.ifc t (bz σ x)):=fun κ σ' ρ' g hs hr=>⟨_,fun _=>.ifc (hs.ev x),Bt ho hu hn⟩
def ta (T:Nat) (p:PV):Option PV:=match p with
 | .ifc t q=>cond (Nat.beq t T) (some (.tup [q,.v (.bool true)])) (match gr T with
  | some (.agg ⟨zs⟩,_,_)=>cond (zs.all Value.oneCell') (some (.tup [.agg (zs.map fun x=>cond (yt x) (.v x) .any),.v (.bool false)])) none
  | _=>none)
 | _=>none
theorem oq_ta {σ:Env} {ρ:List Res} {κ:Kr} {xT T s:Nat} {v z:Value} {d:TypeDesc} {sz by':Nat} (ho:o.op=.typeAssert x xT T true) (hu:eY T=some d) (hn:z6 d=false) (hz:gr T=some (z,sz,by')) (hx:ev σ x=.iface s v):OpQ true o σ ρ κ (if s=T then .tuple #[v,.bool true] else .tuple #[z,.bool false]):=fun _ w _=>by
 have h:=run_underlying (w:=w) (bq hu)
 have hzv:=e7 hz w
 by_cases hst:s=T
 ·cases d <;> first | (cases hn;done) | simp [execOp,ho,hx,Instr.typeAssert,h,hst]
 cases d <;> first | (cases hn;done) | simp [execOp,ho,hx,Instr.typeAssert,h,hst,hzv]
theorem pq_ta {xT T:Nat} {d:TypeDesc} {p r:PV} (ho:o.op=.typeAssert x xT T true) (hu:eY T=some d) (hn:z6 d=false) (hi:(gr T).isSome=true) (hx:bz σ x=p) (hr:ta T p=some r):POpQ true o σ ρ r:=fun κ σ' ρ' g hs hrr=>by
 obtain ⟨⟨z,sz,by'⟩,hz⟩:=Option.isSome_iff_exists.1 hi
 have h:=hs.ev x
 rw [hx] at h
 generalize he:ev σ' x=w at h
 cases h with
 | ifc h =>
  rename_i s q v
  have hq:=oq_ta (ρ:=ρ') (κ:=κ) ho hu hn hz he
  simp only [ta] at hr
  cases hb:Nat.beq s T
  ·have hne:s≠T:=fun e=>by rw [e] at hb;simp at hb
   rw [hb,hz] at hr
   simp only [bv] at hr
   rw [if_neg hne] at hq
   split at hr
   ·rename_i zs s1 b1 heq
    simp only [eQ,Prod.mk.injEq] at heq
    obtain ⟨rfl,rfl,rfl⟩:=heq
    cases ho1:zs.all Value.oneCell'
    ·rw [ho1] at hr;cases hr
    rw [ho1] at hr;simp only [bL,eQ] at hr;subst hr
    exact ⟨_,fun _=>.tup (ws:=[_,_]) (.cons (.agg (ds:=zs) (fun u hu=>List.all_eq_true.1 ho1 u hu) (kT zs)) (.cons (.v rfl) .nil)),hq⟩
   cases hr
  ·have hst:=Nat.eq_of_beq_eq_true hb
   rw [hb] at hr;simp only [bL,eQ] at hr;subst hr
   rw [if_pos hst] at hq
   exact ⟨_,fun _=>.tup (ws:=[_,_]) (.cons h (.cons (.v rfl) .nil)),hq⟩
 | _=>simp only [ta] at hr;cases hr
end
structure MethOk (t:Nat) (name:String) (f:Nat):Prop where
 h:∀ (v:Value) (w:World),(method (Tryz.prog.types.size+Made.depth) t v name).run Tryz.prog w=.ok (f,v) w
theorem vu {o:Oper} {σ:Env} {ρ:List Res} {κ:Kr} {K:Value→List Res→Kr→Prop} {f t:Nat} {x:Operand} {name:String} {l:List Operand} {ts:Array Nat} {v:Value} {R:Value→Kr→Prop} (ho:o.op=.call { callee:=.invoke x name,args:=l.toArray,argTypes:=ts })
    (hx:ev σ x=.iface t v) (hm:MethOk t name f) (hc:CallP f (v::l.map (ev σ)) κ R) (h:∀ v κ',Kle κ κ'→R v κ'→K v ρ κ'):OpL o σ ρ κ K:=fun β hi Nx hk=>by
  have hi2:=hi.perm (List.Perm.refl ([]++ρ))
  have e1:(#[Value.iface t v]++(l.map (ev σ)).toArray)[0]?=some (.iface t v):=by simp
  have e2:(#[Value.iface t v]++(l.map (ev σ)).toArray).extract 1 (#[Value.iface t v]++(l.map (ev σ)).toArray).size=(l.map (ev σ)).toArray:=by simp;exact List.take_of_length_le (by simp)
  have e3:#[v]++(l.map (ev σ)).toArray=(v::l.map (ev σ)).toArray:=by simp
  have hp:(program).run Tryz.prog κ.w=.ok Tryz.prog κ.w:=rfl
  unfold execOp
  simp only [ho,resolve,Sem.run_bind,Sem.run_pure,Result.andThen_ok,invoke,List.map_toArray,hx,e1,e2,callMethod,hp,hm.h,e3,mw hc.1,OutV]
  exact (hc.2 hi2.split).mono fun e w' ⟨v,ρ',κ',h1,h2,h3,h4⟩=>by
    subst h2
    obtain ⟨rfl,h4⟩:=h4
    exact ⟨v,h1,hk v ρ κ' (hi2.join h3) h3.le.kle (h v κ' h3.le.kle h4)⟩
def PFI (p:PV) (name:String) (pargs:List PV) (r:PV):Prop:=∃ t q f,p=.ifc t q∧MethOk t name f∧PF f (q::pargs) r
theorem vw {t f:Nat} {name:String} {q:PV} {pargs:List PV} {r:PV} (hm:MethOk t name f) (h:PF f (q::pargs) r):PFI (.ifc t q) name pargs r:=⟨t,q,f,rfl,hm,h⟩
theorem xy {o:Oper} {σ:PEnv} {ρ:List PRes} {K:PV→List PRes→Prop} {x:Operand} {name:String} {l:List Operand} {ts:Array Nat} {pargs:List PV} {r:PV} (ho:o.op=.call { callee:=.invoke x name,args:=l.toArray,argTypes:=ts }) (ha:l.map (bz σ)=pargs) (hc:PFI (bz σ x) name pargs r) (h:K r ρ):POpL o σ ρ K:=fun κ σ' ρ' g hs hr=>by
 obtain ⟨t,q,f,e,hm,hf⟩:=hc
 have hx:=hs.ev x
 rw [e] at hx
 generalize he:ev σ' x=w at hx
 cases hx with
 | ifc hq=>exact vu ho he hm (hf κ _ g (.cons hq (by rw [← ha];exact lC hs l))) fun v κ' hk hv=>⟨r,ρ,hv,hr.mono hk,h⟩
abbrev pI (x:Int):PV:=.v (.int .i64 x)
abbrev pU (x:Int):PV:=.v (.int .u64 x)
abbrev pY (x:Int):PV:=.v (.int .u8 x)
abbrev pB (b:Bool):PV:=.v (.bool b)
abbrev pS (s:ByteArray):PV:=.v (.string s)
abbrev pP (b off:Nat):PV:=.v (.pointer (some ⟨b,off,none⟩))
abbrev pO (a:Option Addr) (n c:Nat):PV:=.v (.slice a n c)
abbrev pN:PV:=.v (.slice none 0 0)
abbrev pL {α:Type} (e:α→List PV) (xs:List α):PV:=.slc xs.length (List.map e xs)
def zl:IntKind→Nat
 | .i8=>0 | .i16=>1 | .i32=>2 | .i64=>3 | .u8=>4 | .u16=>5 | .u32=>6 | .u64=>7
theorem uM {a b:IntKind} (h:Nat.beq (zl a) (zl b)=true):a=b:=by cases a <;> cases b <;> first | rfl | cases h
def Fj:Int→Bool
 | .ofNat (_+1)=>true
 | _=>false
def ge0l:Int→Bool
 | .ofNat _=>true
 | _=>false
theorem CC {b:Int} (h:Fj b=true):b≠0:=by rintro rfl;cases h
theorem ge0l_ge {b:Int} (h:ge0l b=true):0≤b:=by cases b with | ofNat n=>exact Int.natCast_nonneg n | negSucc n=>cases h
def qcmp (op:BinOp) (a b:Int):Option Bool:=match op with | .eql=>some (a == b) | .neq=>some (a != b) | .lss=>some (decide (a<b)) | .leq=>some (decide (a≤b)) | .gtr=>some (decide (b<a)) | .geq=>some (decide (b≤a)) | _=>none
def qari (op:BinOp) (a b:Int):Option Int:=match op with | .add=>some (a+b) | .sub=>some (a - b) | .mul=>some (a*b) | _=>none
def qbit (op:BinOp) (k:IntKind) (a b:Int):Option Int:=match op with | .and=>some (dq k a b) | .or=>some (oz k a b) | .xor=>some (wQ k a b) | _=>none
def qshf (op:BinOp) (k:IntKind) (a b:Int):Option Int:=match op with | .shl=>some (fz k a b) | .shr=>some (cD k a b) | _=>none
def qeqb (op:BinOp) (p q:Bool):Option Bool:=match op with | .eql=>some (p == q) | .neq=>some (p != q) | _=>none
def qstr (op:BinOp) (s u:ByteArray):Option Bool:=match op with | .eql=>some (decide (s=u)) | .neq=>some (!decide (s=u)) | .lss=>some (Op.bytesLess s.toList u.toList) | .leq=>some (Op.bytesLess s.toList u.toList||decide (s=u)) | .gtr=>some (!(Op.bytesLess s.toList u.toList||decide (s=u))) | .geq=>some (!Op.bytesLess s.toList u.toList) | _=>none
def qint (op:BinOp) (k k':IntKind) (a b:Int):Option PV :=
 match qshf op k a b with
 | some r=>cond (ge0l b) (some (.v (.int k r))) none
 | none=>cond (Nat.beq (zl k) (zl k'))
  (match qcmp op a b with
   | some r=>some (.v (.bool r))
   | none=>match qari op a b with
    | some r=>some (.v (.int k (k.wrap r)))
    | none=>match qbit op k a b with
     | some r=>some (.v (.int k r))
     | none=>match op with
      | .quo=>cond (Fj b) (some (.v (.int k (k.wrap (a.tdiv b))))) none
      | .rem=>cond (Fj b) (some (.v (.int k (a.tmod b)))) none
      | _=>none) none
def qbin (op:BinOp) (t:Nat) (p q:PV):Option PV:=match p,q with
 | .v (.int k a),.v (.int k' b)=>qint op k k' a b
 | .v (.bool p),.v (.bool q)=>(match eY t with | some .bool=>(qeqb op p q).map fun r=>.v (.bool r) | _=>none)
 | .v (.string s),.v (.string u)=>(qstr op s u).map fun r=>.v (.bool r)
 | _,_=>none
def qlen (t:Nat) (p:PV):Option PV:=match eY t,p with
 | some (.slice _),.slc m _=>some (.v (.int .i64 (m:Int)))
 | some (.slice _),.v (.slice _ m _)=>some (.v (.int .i64 (m:Int)))
 | some .string,.v (.string s)=>some (.v (.int .i64 (s.size:Int)))
 | _,_=>none
def qmm (mx:Bool) (p q:PV):Option PV:=match p,q with
 | .v (.int k a),.v (.int k' b)=>cond (Nat.beq (zl k) (zl k')) (some (.v (.int k (cond mx (wT a b) (oM a b))))) none
 | _,_=>none
def z7 (σ:PEnv) (fl:List (Nat×Nat)):List PV→List (Nat×Operand)→Option (List PV)
 | zs,[]=>some zs
 | zs,(i,x)::r=>match fl[i]? with
  | some (k,ty)=>match gr ty,jR (bz σ x) with
   | some (_,sz,_),some vs=>cond (Nat.beq vs.length sz&&Nat.ble (k+vs.length) zs.length) (z7 σ fl (zs.take k++vs++zs.drop (k+vs.length)) r) none
   | _,_=>none
  | none=>none
theorem z8 {σ:PEnv} {fl:List (Nat×Nat)}:∀ {parts:List (Nat×Operand)} {zs cs:List PV},z7 σ fl zs parts=some cs→PFill σ fl zs parts cs
 | [],zs,cs,h=>by simp only [z7,eQ] at h;exact h
 | (i,x)::r,zs,cs,h=>by
  simp only [z7] at h
  split at h
  ·rename_i k ty h1
   split at h
   ·rename_i z sz by' vs h2 h3
    cases hb:(Nat.beq vs.length sz&&Nat.ble (k+vs.length) zs.length)
    ·rw [hb] at h;cases h
    rw [hb] at h
    simp only [Bool.and_eq_true] at hb
    exact Fc h1 h2 h3 hb.1 ⟨rfl,Nat.le_of_ble_eq_true hb.2⟩ (z8 h)
   cases h
  cases h
def qfa (s f:Nat) (p:PV):Option PV:=match sa s with
 | some l=>match l[f]? with
  | some (kk,ty)=>match gr ty with
   | some (_,sz,_)=>cond (Nat.blt 0 sz) (match p with
    | .v (.pointer (some ⟨b,off,none⟩))=>some (.v (.pointer (some ⟨b,off+kk,none⟩)))
    | .ref cs off=>some (.ref cs (off+kk))
    | _=>none) none
   | none=>none
  | none=>none
 | none=>none
def qfd (t f:Nat) (p:PV):Option PV:=match sa t with
 | some l=>match l[f]? with
  | some (kk,ty)=>match p with
   | .agg cs=>cond (Nat.ble kk cs.length) (kl ty (cs.drop kk)) none
   | _=>none
  | none=>none
 | none=>none
def qx (σ:PEnv) (ρ:List PRes) (at_:Nat):Op→Option (PV×Option (Nat×Nat))
 | .move x=>some (bz σ x,none)
 | .assign x=>some (bz σ x,none)
 | .binOp op t x y _=>(qbin op t (bz σ x) (bz σ y)).map fun p=>(p,none)
 | .unOp .not _ x=>(match bz σ x with | .v (.bool p)=>some (.v (.bool !p),none) | _=>none)
 | .unOp .neg _ x=>(match bz σ x with | .v (.int k a)=>some (.v (.int k (k.wrap (0 - a))),none) | _=>none)
 | .convert s d x=>(match eY s,eY d,bz σ x with | some _,some (.int k'),.v (.int _ a)=>some (.v (.int k' (k'.wrap a)),none) | _,_,_=>none)
 | .nilCheck x=>(match bz σ x with | .v (.pointer (some ad))=>some (.v (.pointer (some ad)),none) | .ref cs k=>some (.ref cs k,none) | .ifc t p=>some (.ifc t p,none) | _=>none)
 | .fieldAddr s x f=>(qfa s f (bz σ x)).map fun p=>(p,none)
 | .field t x f=>(qfd t f (bz σ x)).map fun p=>(p,none)
 | .extract x i=>(match bz σ x with | .tup vs=>(vs[i]?).map fun p=>(p,none) | _=>none)
 | .load t x=>(match bz σ x with
  | .ref cs off=>(kl t (cs.drop off)).map fun p=>(p,none)
  | .v (.pointer (some ⟨b,off,none⟩))=>(match ρ[at_]? with | some (.b b' _ cs)=>(kl t (cs.drop off)).map fun p=>(p,some (b,b')) | _=>none)
  | _=>none)
 | .call ⟨.builtin .len,⟨[x]⟩,⟨[t]⟩⟩=>(qlen t (bz σ x)).map fun p=>(p,none)
 | .call ⟨.builtin .min,⟨[x,y]⟩,_⟩=>(qmm false (bz σ x) (bz σ y)).map fun p=>(p,none)
 | .call ⟨.builtin .max,⟨[x,y]⟩,_⟩=>(qmm true (bz σ x) (bz σ y)).map fun p=>(p,none)
 | .makeFunc (.func f) ⟨[]⟩ ⟨l⟩=>some (.fn f (l.map (bz σ)),none)
 | .makeInterface t x=>(match eY t with | some d=>cond (z6 d) none (some (.ifc t (bz σ x),none)) | none=>none)
 | .build t ⟨parts⟩=>(match gr t,sa t with
  | some (.agg ⟨zs⟩,_,_),some fl=>cond ((fl.all fun p=>(gr p.2).isSome)&&zs.all Value.oneCell') ((z7 σ fl (zs.map fun x=>cond (yt x) (.v x) .any) parts).map fun cs=>(.agg cs,none)) none
  | _,_=>none)
 | _=>none
section
variable {o:Oper} {σ:PEnv} {ρ:List PRes} {x y:Operand} {t t':Nat} {p:PV}
theorem map_none {a:Option PV} {p:PV} {e:Option (Nat×Nat)} (h:(a.map fun q=>(q,(none:Option (Nat×Nat))))=some (p,e)):a=some p:=by
 cases a with
 | none=>cases h
 | some q=>simp only [Option.map_some,eQ,Prod.mk.injEq] at h;rw [h.1]
theorem qint_ok {op:BinOp} {k k':IntKind} {a b:Int} (ho:o.op=.binOp op t x y t') (hx:bz σ x=.v (.int k a)) (hy:bz σ y=.v (.int k' b)) (h:qint op k k' a b=some p):POpQ true o σ ρ p:=by
 unfold qint at h
 split at h
 ·rename_i r hr
  cases hb:ge0l b
  ·rw [hb] at h;cases h
  rw [hb] at h;simp only [bL,eQ] at h;subst h
  exact vn ho (.p hx) (.p hy) (fun _=>ge0l_ge hb) (by cases op <;> exact hr)
 cases hk:Nat.beq (zl k) (zl k')
 ·rw [hk] at h;cases h
 rw [hk] at h;simp only [bL] at h
 have:=uM hk;subst this
 split at h
 ·rename_i r hr;simp only [eQ] at h;subst h;exact Bn ho (.p hx) (.p hy) (by cases op <;> exact hr)
 split at h
 ·rename_i r hr;simp only [eQ] at h;subst h;exact vm ho (.p hx) (.p hy) (by cases op <;> exact hr)
 split at h
 ·rename_i r hr;simp only [eQ] at h;subst h;exact pq_bits ho (.p hx) (.p hy) (by cases op <;> exact hr)
 split at h
 ·cases hb:Fj b
  ·rw [hb] at h;cases h
  rw [hb] at h;simp only [bL,eQ] at h;subst h;exact E9 ho (.p hx) (.p hy) fun _=>CC hb
 ·cases hb:Fj b
  ·rw [hb] at h;cases h
  rw [hb] at h;simp only [bL,eQ] at h;subst h;exact Fa ho (.p hx) (.p hy) fun _=>CC hb
 cases h
theorem qbin_ok {op:BinOp} (ho:o.op=.binOp op t x y t') (h:qbin op t (bz σ x) (bz σ y)=some p):POpQ true o σ ρ p:=by
 unfold qbin at h
 split at h
 ·rename_i h1 h2;exact qint_ok ho h1 h2 h
 ·rename_i h1 h2
  split at h
  ·rename_i hu
   obtain ⟨r,hr,rfl⟩:=Option.map_eq_some_iff.1 h
   exact pq_eqB ho hu (.p h1) (.p h2) (by cases op <;> exact hr)
  cases h
 ·rename_i h1 h2
  obtain ⟨r,hr,rfl⟩:=Option.map_eq_some_iff.1 h
  exact pq_str ho (.p h1) (.p h2) (by cases op <;> exact hr)
 cases h
theorem qlen_ok (ho:o.op=.call { callee:=.builtin .len,args:=#[x],argTypes:=#[t] }) (h:qlen t (bz σ x)=some p):POpQ true o σ ρ p:=by
 unfold qlen at h
 split at h
 ·rename_i hu hx;simp only [eQ] at h;subst h;exact pq_len ho hu (.p hx)
 ·rename_i hu hx;simp only [eQ] at h;subst h;exact pq_lenO ho hu (.p hx)
 ·rename_i hu hx;simp only [eQ] at h;subst h;exact pq_lenS ho hu (.p hx)
 cases h
theorem Fk {mx:Bool} {ts:List Nat} (ho:o.op=.call { callee:=.builtin (cond mx .max .min),args:=#[x,y],argTypes:=ts.toArray }) (h:qmm mx (bz σ x) (bz σ y)=some p):POpQ true o σ ρ p:=by
 unfold qmm at h
 split at h
 ·rename_i k a k' b h1 h2
  cases hk:Nat.beq (zl k) (zl k')
  ·rw [hk] at h;cases h
  have:=uM hk;subst this
  rw [hk] at h
  simp only [bL,eQ] at h;subst h
  cases mx
  ·exact pq_min ho (.p h1) (.p h2)
  exact pq_max ho (.p h1) (.p h2)
 cases h
theorem qfa_ok {s f:Nat} (ho:o.op=.fieldAddr s x f) (h:qfa s f (bz σ x)=some p):POpQ true o σ ρ p:=by
 unfold qfa at h
 split at h
 ·rename_i l h1
  split at h
  ·rename_i kk ty h2
   split at h
   ·rename_i z sz by' h3
    cases h4:Nat.blt 0 sz
    ·rw [h4] at h;cases h
    rw [h4] at h;simp only [bL] at h
    split at h
    ·rename_i hx;simp only [eQ] at h;subst h;exact bK ho h1 h2 h3 h4 (.p hx)
    ·rename_i hx;simp only [eQ] at h;subst h;exact wR ho h1 h2 h3 h4 (.p hx)
    cases h
   cases h
  cases h
 cases h
theorem qfd_ok {f:Nat} (ho:o.op=.field t x f) (h:qfd t f (bz σ x)=some p):POpQ true o σ ρ p:=by
 unfold qfd at h
 split at h
 ·rename_i l h1
  split at h
  ·rename_i kk ty h2
   split at h
   ·rename_i cs hx
    cases h4:Nat.ble kk cs.length
    ·rw [h4] at h;cases h
    rw [h4] at h;exact Fb ho h1 h2 (.p hx) h4 h
   cases h
  cases h
 cases h
theorem yD {c:Bool} {tt:Nat} {pp:PV} (ho:o.op=.nilCheck x) (hx:PEv σ c x (.ifc tt pp)):POpQ c o σ ρ (.ifc tt pp):=fun κ σ' ρ' g hs _=>by
 refine ⟨ev σ' x,hs.pe hx,fun hc w _=>?_⟩
 have h:=hs.pe hx hc
 generalize he:ev σ' x=y at h
 cases h with
 | ifc h=>simp [execOp,ho,he]
theorem qx_ok {k:Nat} {e:Option (Nat×Nat)} (h:qx σ ρ k o.op=some (p,e)) (he:∀ b b',e=some (b,b')→b=b'):POpQ true o σ ρ p:=by
 generalize ho:o.op=op at h
 unfold qx at h
 split at h
 ·simp only [eQ,Prod.mk.injEq] at h;obtain ⟨rfl,_⟩:=h;exact ia ho (.p rfl)
 ·simp only [eQ,Prod.mk.injEq] at h;obtain ⟨rfl,_⟩:=h;exact bV ho (.p rfl)
 ·exact qbin_ok ho (map_none h)
 ·split at h
  ·rename_i hx;simp only [eQ,Prod.mk.injEq] at h;obtain ⟨rfl,_⟩:=h;exact pq_not ho (.p hx)
  cases h
 ·split at h
  ·rename_i hx;simp only [eQ,Prod.mk.injEq] at h;obtain ⟨rfl,_⟩:=h;exact pq_neg ho (.p hx)
  cases h
 ·split at h
  ·rename_i h1 h2 hx;simp only [eQ,Prod.mk.injEq] at h;obtain ⟨rfl,_⟩:=h;exact pq_conv ho h1 h2 (.p hx)
  cases h
 ·split at h
  ·rename_i hx;simp only [eQ,Prod.mk.injEq] at h;obtain ⟨rfl,_⟩:=h;exact zT ho (.p hx)
  ·rename_i hx;simp only [eQ,Prod.mk.injEq] at h;obtain ⟨rfl,_⟩:=h;exact yz ho (.p hx)
  ·rename_i hx;simp only [eQ,Prod.mk.injEq] at h;obtain ⟨rfl,_⟩:=h;exact yD ho (.p hx)
  cases h
 ·exact qfa_ok ho (map_none h)
 ·exact qfd_ok ho (map_none h)
 ·split at h
  ·rename_i hx;exact vo ho (.p hx) (map_none h)
  cases h
 ·split at h
  ·rename_i hx;exact s9 ho (.p hx) (map_none h)
  ·rename_i b off hx
   split at h
   ·rename_i b' T cs hr
    obtain ⟨q,hq,h2⟩:=Option.map_eq_some_iff.1 h
    simp only [Prod.mk.injEq] at h2
    obtain ⟨rfl,rfl⟩:=h2
    have:=he b b' rfl;subst this
    exact dr ho (.p hx) (List.mem_of_getElem? hr) hq
   cases h
  cases h
 ·exact qlen_ok ho (map_none h)
 ·exact Fk (mx:=false) (ts:=_) ho (map_none h)
 ·exact Fk (mx:=true) (ts:=_) ho (map_none h)
 ·simp only [eQ,Prod.mk.injEq] at h;obtain ⟨rfl,_⟩:=h;exact zX ho
 ·split at h
  ·rename_i d hu
   cases hn:z6 d
   ·rw [hn] at h;simp only [bv,eQ,Prod.mk.injEq] at h;obtain ⟨rfl,_⟩:=h;exact Bu ho hu hn
   rw [hn] at h;cases h
  cases h
 ·split at h
  ·rename_i zs sz by' fl h1 h2
   cases hc:((fl.all fun p=>(gr p.2).isSome)&&zs.all Value.oneCell')
   ·rw [hc] at h;cases h
   rw [hc] at h
   simp only [bL] at h
   obtain ⟨q,hq,h3⟩:=Option.map_eq_some_iff.1 h
   simp only [Prod.mk.injEq] at h3
   obtain ⟨rfl,_⟩:=h3
   simp only [Bool.and_eq_true] at hc
   exact vp rfl ho h1 h2 hc.1 rfl hc.2 (z8 hq)
  cases h
 cases h
end
structure GE where
 gs:List Bool
 p:PV
def gl (t:Nat):List (Nat×GE)→Option GE
 | []=>none
 | (d,e)::l=>cond (Nat.beq t d) (some e) (gl t l)
def Fl (t:Nat):List (Nat×GE)→List (Nat×GE)
 | []=>[]
 | (d,e)::l=>cond (Nat.beq t d) (Fl t l) ((d,e)::Fl t l)
def Fm (d:Nat):List Nat→Bool
 | []=>false
 | k::l=>cond (Nat.beq d k) true (Fm d l)
theorem uN {d:Nat}:∀ {l:List Nat},Fm d l=true↔d∈l
 | []=>by simp [Fm]
 | k::l=>by
  unfold Fm
  cases h:Nat.beq d k
  ·have:d≠k:=fun e=>by rw [e] at h;simp at h
   simp [uN (l:=l),this]
  simp [Nat.eq_of_beq_eq_true h]
def gM:List Operand→List Nat
 | []=>[]
 | .tmp t::l=>t::gM l
 | _::l=>gM l
def pH (σ:PEnv) (G:List (Nat×GE)) (ts:List Nat) (gs:List Bool):PEnv:=fun t=>match gl t G with
 | none=>σ t
 | some e=>cond (Fm t ts&&Nat.ble e.gs.length gs.length) e.p .any
def mz (G:List (Nat×GE)) (gs:List Bool):List Nat→List (Bool×Bool)
 | []=>[]
 | t::ts=>match gl t G with
  | none=>mz G gs ts
  | some e=>(e.gs.headD true,(gs.drop (gs.length - e.gs.length)).headD true)::mz G gs ts
def yE (ops:Array Oper) (σ:PEnv) (G:List (Nat×GE)):Option (Nat×Bool)→Option (List Bool)
 | none=>some []
 | some (j,pol)=>match (ops[j]?).bind (·.dst) with
  | none=>none
  | some d=>match gl d G with
   | none=>match σ d with | .v (.bool p)=>some [cond pol p (!p)] | _=>none
   | some e=>match e.p with | .v (.bool p)=>some ((e.gs.headD true&&cond pol p (!p))::e.gs) | _=>none
def StackOk (gs:List Bool):Prop:=gs.headD true=true→∀ b∈gs,b=true
def GInv (σ:PEnv) (G:List (Nat×GE)):Prop:=∀ t e,gl t G=some e→σ t=pgv (e.gs.headD true) e.p∧StackOk e.gs∧e.gs≠[]
def AllEq (l:List (Bool×Bool)):Prop:=l.map (·.1)=l.map (·.2)
theorem AllEq.nil:AllEq []:=rfl
theorem AllEq.cons {a b:Bool} {l:List (Bool×Bool)} (h:AllEq ((a,b)::l)):a=b∧AllEq l:=by
 unfold AllEq at h;simp only [List.map_cons,List.cons.injEq] at h;exact h
theorem AllEq.app {l m:List (Bool×Bool)} (h:AllEq (l++m)):AllEq l∧AllEq m:=by
 unfold AllEq at h;simp only [List.map_append] at h
 exact List.append_inj h (by simp)
theorem sm {G:List (Nat×GE)} {gs:List Bool} {t:Nat} {e:GE}:∀ {ts:List Nat},t∈ts→gl t G=some e→AllEq (mz G gs ts)→e.gs.headD true=(gs.drop (gs.length - e.gs.length)).headD true
 | u::ts,hm,hg,ha=>by
  simp only [mz] at ha
  rcases List.mem_cons.1 hm with rfl | hm
  ·rw [hg] at ha;exact ha.cons.1
  split at ha
  ·exact sm hm hg ha
  exact sm hm hg ha.cons.2
theorem vx {gs:List Bool} (h:StackOk gs) (hc:gs.headD true=true) (k:Nat):(gs.drop k).headD true=true:=by
 rw [List.headD_eq_head?_getD,List.head?_drop]
 cases e:gs[k]? with
 | none=>rfl
 | some b=>exact h hc b (List.mem_of_getElem? e)
theorem sn {κ:Kr} {σ:PEnv} {σ':Env} {G:List (Nat×GE)} {ts:List Nat} {gs:List Bool} (hs:Sim κ σ σ') (hi:GInv σ G) (ha:AllEq (mz G gs ts)) (hk:StackOk gs) (hc:gs.headD true=true):Sim κ (pH σ G ts gs) σ':=fun t=>by
 unfold pH
 cases hg:gl t G with
 | none=>exact hs t
 | some e =>
  simp only
  cases hb:(Fm t ts&&Nat.ble e.gs.length gs.length)
  ·exact .any
  simp only [Bool.and_eq_true,uN] at hb
  have h1:=sm hb.1 hg ha
  rw [vx hk hc] at h1
  have h2:=(hi t e hg).1
  rw [h1,mT] at h2
  have:=hs t
  rw [h2] at this
  exact this
theorem tf {o:Oper} {σ:PEnv} {ρ:List PRes} {G:List (Nat×GE)} {ts:List Nat} {gs:List Bool} {p:PV} (h:gs.headD true=true→POpQ true o (pH σ G ts gs) ρ p) (hi:GInv σ G) (ha:AllEq (mz G gs ts)) (hk:StackOk gs):POpQ (gs.headD true) o σ ρ p:=fun κ σ' ρ' g hs hr=>by
 cases hc:gs.headD true with
 | false=>exact Bl
 | true=>exact h hc κ σ' ρ' g (sn hs hi ha hk hc) hr
theorem DC {ops:Array Oper} {σ:PEnv} {G:List (Nat×GE)} {o:Oper} {gs:List Bool} (hi:GInv σ G) (h:yE ops σ G o.guard=some gs):PGuardIs ops σ o (gs.headD true)∧StackOk gs:=by
 cases hg:o.guard with
 | none =>
  rw [hg] at h;simp only [yE,eQ] at h;subst h
  exact ⟨fun κ σ' _=>Bb hg,fun _ b hb=>by cases hb⟩
 | some jp =>
  obtain ⟨j,pol⟩:=jp
  rw [hg] at h;simp only [yE] at h
  split at h
  ·cases h
  rename_i d hd
  split at h
  ·split at h
   ·rename_i p hp
    simp only [eQ] at h;subst h
    refine ⟨?_,fun hc b hb=>by rw [List.mem_singleton.1 hb];exact hc⟩
    cases pol
    ·exact zN hg hd hp
    exact sj hg hd hp
   cases h
  rename_i e hgl
  split at h
  ·rename_i p hp
   simp only [eQ] at h;subst h
   obtain ⟨h1,h2,h3⟩:=hi d e hgl
   rw [hp] at h1
   refine ⟨?_,fun hc b hb=>?_⟩
   ·cases pol
    ·exact sY hg hd h1
    exact Dv hg hd h1
   simp only [List.headD_cons,Bool.and_eq_true] at hc
   rcases List.mem_cons.1 hb with rfl | hb
   ·simp only [hc,Bool.and_self]
   exact h2 hc.1 b hb
  cases h
def CD (σ:PEnv) (G:List (Nat×GE)) (want:Bool):Operand→Option (PV×List (Bool×Bool))
 | .tmp t=>match gl t G with
  | some e=>some (e.p,[(e.gs.headD true,want)])
  | none=>some (σ t,[])
 | x=>some (bz σ x,[])
theorem Aa {σ:PEnv} {G:List (Nat×GE)} {want:Bool} {x:Operand} {p:PV} {l:List (Bool×Bool)} (hi:GInv σ G) (h:CD σ G want x=some (p,l)) (ha:AllEq l):PEv σ want x p:=by
 unfold CD at h
 split at h
 ·rename_i t
  split at h
  ·rename_i e hg
   simp only [eQ,Prod.mk.injEq] at h;obtain ⟨rfl,rfl⟩:=h
   have h1:=ha.cons.1
   have h2:=(hi t e hg).1
   rw [h1] at h2
   exact .g h2
  simp only [eQ,Prod.mk.injEq] at h;obtain ⟨rfl,rfl⟩:=h;exact .p rfl
 simp only [eQ,Prod.mk.injEq] at h;obtain ⟨rfl,rfl⟩:=h;exact .p rfl
def vy:PV→Option Bool
 | .v (.bool p)=>some p
 | _=>none
theorem tg {p:PV} {b:Bool} (h:vy p=some b):p=.v (.bool b):=by
 unfold vy at h;split at h
 ·simp only [eQ] at h;rw [h]
 cases h
def yF:Operand→Bool
 | .const (.bool true)=>true
 | _=>false
def uO:Operand→Bool
 | .const (.bool false)=>true
 | _=>false
theorem DD {x:Operand} {σ:PEnv} (h:yF x=true):bz σ x=.v (.bool true):=by
 unfold yF at h;split at h
 ·rfl
 cases h
theorem Bv {x:Operand} {σ:PEnv} (h:uO x=true):bz σ x=.v (.bool false):=by
 unfold uO at h;split at h
 ·rfl
 cases h
def Fo (σ:PEnv) (G:List (Nat×GE)) (gs:List Bool) (cc a b:Operand):Option (PV×List (Bool×Bool)) :=
 match vy (bz (pH σ G (gM [cc]) gs) cc) with
 | none=>none
 | some p=>cond (yF a)
  (match CD σ G (gs.headD true && !p) b with
   | some (q,l)=>match vy q with
    | some q=>some (.v (.bool (p||q)),mz G gs (gM [cc])++l)
    | none=>none
   | none=>none)
  (cond (uO b)
   (match CD σ G (gs.headD true&&p) a with
    | some (q,l)=>match vy q with
     | some q=>some (.v (.bool (p&&q)),mz G gs (gM [cc])++l)
     | none=>none
    | none=>none) none)
theorem CE {σ:PEnv} {G:List (Nat×GE)} {gs:List Bool} {x:Operand} {p:PV} (hi:GInv σ G) (hk:StackOk gs) (ha:AllEq (mz G gs (gM [x]))) (h:bz (pH σ G (gM [x]) gs) x=p) (hn:p≠.any):PEv σ (gs.headD true) x p:=fun hc=>by
 cases x with
 | tmp t =>
  simp only [bz,gM] at h ⊢
  unfold pH at h
  cases hg:gl t G with
  | none=>rw [hg] at h;exact h
  | some e =>
   rw [hg] at h
   simp only at h
   cases hb:(Fm t [t]&&Nat.ble e.gs.length gs.length)
   ·rw [hb] at h;exact absurd h.symm hn
   ·rw [hb] at h;simp only [bL] at h
    have h1:=sm (t:=t) (ts:=[t]) (by simp) hg ha
    rw [vx hk hc] at h1
    have h2:=(hi t e hg).1
    rw [h1,mT] at h2
    rw [h2,h]
 | const x=>exact h
 | global g=>exact h
 | func f=>exact h
theorem Fq {o:Oper} {σ:PEnv} {ρ:List PRes} {G:List (Nat×GE)} {gs:List Bool} {cc a b:Operand} {p:PV} {l:List (Bool×Bool)} (ho:o.op=.pick cc a b) (hi:GInv σ G) (hk:StackOk gs) (h:Fo σ G gs cc a b=some (p,l)) (ha:AllEq l):POpQ (gs.headD true) o σ ρ p:=by
 unfold Fo at h
 split at h
 ·cases h
 rename_i c hc
 have hc:=tg hc
 cases h1:yF a
 ·rw [h1] at h;simp only [bv] at h
  cases h2:uO b
  ·rw [h2] at h;cases h
  rw [h2] at h;simp only [bL] at h
  split at h
  ·rename_i q m hl
   split at h
   ·rename_i q' hq
    simp only [eQ,Prod.mk.injEq] at h;obtain ⟨rfl,rfl⟩:=h
    have hl':=Aa hi hl ha.app.2
    rw [tg hq] at hl'
    exact Bm ho (CE hi hk ha.app.1 hc (by simp)) (.p (Bv h2)) hl'
   cases h
  cases h
 rw [h1] at h;simp only [bL] at h
 split at h
 ·rename_i q m hl
  split at h
  ·rename_i q' hq
   simp only [eQ,Prod.mk.injEq] at h;obtain ⟨rfl,rfl⟩:=h
   have hl':=Aa hi hl ha.app.2
   rw [tg hq] at hl'
   exact E8 ho (CE hi hk ha.app.1 hc (by simp)) (.p (DD h1)) hl'
  cases h
 cases h
inductive Fct where
 | ix (c:Bool) (css:List (List PV)) (i:Int) (cs:List PV)
 | sx (c:Bool) (s:ByteArray) (i:Int) (u:UInt8)
 | nz (c:Bool) (b:Int)
 | ge (c:Bool) (b:Int)
 | sl (c:Bool) (css:List (List PV)) (lo hi:Int) (zss:List (List PV)) (m sz:Nat)
 | ss (c:Bool) (s:ByteArray) (lo hi:Int) (z:ByteArray)
 | ct (c:Bool) (s u z:ByteArray)
 | eq (t:Nat) (ks:List Nat)
 | cl (c:Bool) (f:Nat) (pargs:List PV) (r:PV)
 | cv (c:Bool) (pf:PV) (pargs:List PV) (r:PV)
 | ci (c:Bool) (p:PV) (name:String) (pargs:List PV) (r:PV)
 | ta (T:Nat) (p r:PV)
structure EqOk (t:Nat) (ks:List Nat):Prop where
 h1:Tryz.prog.underlying t=some (.struct (Tryz.prog.fieldsOf t))
 h2:Tryz.prog.stoodInHeld t=false
 h3:Tryz.prog.eqGuardType Tryz.prog.depth t=false
 h4:flatK (Tryz.prog.fieldsOf t).toList 0 ks=true
def Fct.ok:Fct→Prop
 | .ix c css i cs=>c=true→idx css i=some cs
 | .sx c s i u=>c=true→idx s.data.toList i=some u
 | .nz c b=>c=true→b≠0
 | .ge c b=>c=true→0≤b
 | .sl c css lo hi zss m sz=>(c=true→sub css lo hi=some zss)∧m=zss.length∧∀ cs∈css,cs.length=sz
 | .ss c s lo hi z=>c=true→ko s lo hi=some z
 | .ct c s u z=>c=true→Er s u=some z
 | .eq t ks=>EqOk t ks
 | .cl c f pargs r=>c=true→PF f pargs r
 | .cv c pf pargs r=>c=true→PFV pf pargs r
 | .ci c p name pargs r=>c=true→PFI p name pargs r
 | .ta T p r=>SX.ta T p=some r
def FOk:List (Nat×Fct)→Prop
 | []=>True
 | f::l=>f.2.ok∧FOk l
theorem bj:FOk []:=trivial
section
variable {F:List (Nat×Fct)} {c:Bool} {α:Type} {xs zs:List α} {i lo hi b:Int} {m:α}
theorem eK (k:Nat) (e:α→List PV) (hm:c=true→idx xs i=some m) (h:FOk F):FOk ((k,.ix c (List.map e xs) i (e m))::F):=⟨fun hc=>by
 obtain ⟨h0,hmm⟩:=lD (hm hc)
 unfold idx;rw [if_pos h0,List.getElem?_map,hmm];rfl,h⟩
theorem cL (k:Nat) (e:α→List PV) (hm:idx xs i=some m) (h:FOk F):FOk ((k,.ix true (List.map e xs) i (e m))::F):=eK k e (fun _=>hm) h
theorem foixrg (k:Nat) (e:α→List PV) {cs:List PV} (he:e m=cs) (hm:c=true→idx xs i=some m) (h:FOk F):FOk ((k,.ix c (List.map e xs) i cs)::F):=by subst he;exact eK k e hm h
theorem ny (k:Nat) (e:α→List PV) {cs:List PV} (he:e m=cs) (hm:idx xs i=some m) (h:FOk F):FOk ((k,.ix true (List.map e xs) i cs)::F):=by subst he;exact cL k e hm h
theorem tS (k:Nat) {s:ByteArray} {u:UInt8} (hm:c=true→idx s.data.toList i=some u) (h:FOk F):FOk ((k,.sx c s i u)::F):=⟨hm,h⟩
theorem fosx (k:Nat) {s:ByteArray} {u:UInt8} (hm:idx s.data.toList i=some u) (h:FOk F):FOk ((k,.sx true s i u)::F):=⟨fun _=>hm,h⟩
theorem DE (k:Nat) {u:Unit} (hm:SX.nz b=some u) (h:FOk F):FOk ((k,.nz true b)::F):=⟨fun _=>nz_some hm,h⟩
theorem un (k:Nat) {u:Unit} (hm:lF b=some u) (h:FOk F):FOk ((k,.ge true b)::F):=⟨fun _=>mW hm,h⟩
theorem foslg (k:Nat) (e:α→List PV) (sz:Nat) (hw:∀ m,(e m).length=sz) (hm:c=true→sub xs lo hi=some zs) (h:FOk F):FOk ((k,.sl c (List.map e xs) lo hi (List.map e zs) zs.length sz)::F):=⟨⟨fun hc=>by
 obtain ⟨h1,rfl⟩:=ir (hm hc)
 unfold sub;rw [if_pos (by rw [List.length_map];exact h1),List.map_drop,List.map_take],by rw [List.length_map],fun cs hcs=>by obtain ⟨x,_,rfl⟩:=List.mem_map.1 hcs;exact hw x⟩,h⟩
theorem vz (k:Nat) (e:α→List PV) (sz:Nat) (hw:∀ m,(e m).length=sz) (hm:sub xs lo hi=some zs) (h:FOk F):FOk ((k,.sl true (List.map e xs) lo hi (List.map e zs) zs.length sz)::F):=foslg k e sz hw (fun _=>hm) h
theorem fossg (k:Nat) {s z:ByteArray} (hm:c=true→ko s lo hi=some z) (h:FOk F):FOk ((k,.ss c s lo hi z)::F):=⟨hm,h⟩
theorem foss (k:Nat) {s z:ByteArray} (hm:ko s lo hi=some z) (h:FOk F):FOk ((k,.ss true s lo hi z)::F):=⟨fun _=>hm,h⟩
theorem DF (k:Nat) {t:Nat} {ks:List Nat} (hm:EqOk t ks) (h:FOk F):FOk ((k,.eq t ks)::F):=⟨hm,h⟩
theorem bg (k:Nat) {f:Nat} {pargs:List PV} {r:PV} (hm:PF f pargs r) (h:FOk F):FOk ((k,.cl true f pargs r)::F):=⟨fun _=>hm,h⟩
theorem eM (k:Nat) {f:Nat} {pargs:List PV} {r:PV} (hm:c=true→PF f pargs r) (h:FOk F):FOk ((k,.cl c f pargs r)::F):=⟨hm,h⟩
theorem foci (k:Nat) {p:PV} {name:String} {pargs:List PV} {r:PV} (hm:PFI p name pargs r) (h:FOk F):FOk ((k,.ci true p name pargs r)::F):=⟨fun _=>hm,h⟩
theorem fota (k:Nat) {T:Nat} {p r:PV} (hm:SX.ta T p=some r) (h:FOk F):FOk ((k,.ta T p r)::F):=⟨hm,h⟩
theorem DG (k:Nat) {pf:PV} {pargs:List PV} {r:PV} (hm:PFV pf pargs r) (h:FOk F):FOk ((k,.cv true pf pargs r)::F):=⟨fun _=>hm,h⟩
theorem focvg (k:Nat) {pf:PV} {pargs:List PV} {r:PV} (hm:c=true→PFV pf pargs r) (h:FOk F):FOk ((k,.cv c pf pargs r)::F):=⟨hm,h⟩
end
inductive Eqn where
 | n (a:Nat)
 | b (a:Bool)
 | i (a:Int)
 | p (a:PV)
 | l (a:List PV)
 | q (a:List (List PV))
 | s (a:ByteArray)
 | m (a:String)
abbrev StepR:=PV×List Eqn×List Eqn
def Bw (σ:PEnv) (c:Bool) (t:Nat) (p:PV) (lo hi:Option Operand):Fct→Option StepR
 | .sl c' css l h zss m sz=>(match eY t,p with
  | some (.slice E),.slc mm css'=>(match gr E with
   | some (_,sz',_)=>(match lo,hi with
    | none,some y=>(match bz σ y with | .v (.int _ b)=>some (.slc m zss,[.b c',.q css,.i l,.i h,.n sz],[.b c,.q css',.i 0,.i b,.n sz']) | _=>none)
    | some x,none=>(match bz σ x with | .v (.int _ a)=>some (.slc m zss,[.b c',.q css,.i l,.i h,.n sz],[.b c,.q css',.i a,.i (mm:Int),.n sz']) | _=>none)
    | _,_=>none)
   | none=>none)
  | _,_=>none)
 | .ss c' s l h z=>(match eY t,p with
  | some .string,.v (.string s')=>(match lo,hi with
   | none,some y=>(match bz σ y with | .v (.int _ b)=>some (.v (.string z),[.b c',.s s,.i l,.i h],[.b c,.s s',.i 0,.i b]) | _=>none)
   | some x,none=>(match bz σ x with | .v (.int _ a)=>some (.v (.string z),[.b c',.s s,.i l,.i h],[.b c,.s s',.i a,.i (s'.size:Int)]) | _=>none)
   | some x,some y=>(match bz σ x,bz σ y with | .v (.int _ a),.v (.int _ b)=>some (.v (.string z),[.b c',.s s,.i l,.i h],[.b c,.s s',.i a,.i b]) | _,_=>none)
   | none,none=>none)
  | _,_=>none)
 | _=>none
def Fr (σ:PEnv) (c:Bool):Op→Fct→Option StepR
 | .indexAddr t x y,.ix c' css i cs=>(match eY t,bz σ x,bz σ y with
  | some (.slice E),.slc _ css',.v (.int _ i')=>(match gr E with | some (_,sz,_)=>some (.ref cs 0,[.b c',.q css,.i i,.n cs.length],[.b c,.q css',.i i',.n sz]) | none=>none)
  | _,_,_=>none)
 | .index t x y,.sx c' s i u=>(match eY t,bz σ x,bz σ y with
  | some .string,.v (.string s'),.v (.int _ i')=>some (.v (.int .u8 (u.toNat:Int)),[.b c',.s s,.i i],[.b c,.s s',.i i'])
  | _,_,_=>none)
 | .binOp .quo _ x y _,.nz c' b=>(match bz σ x,bz σ y with
  | .v (.int k a),.v (.int k' b')=>cond (Nat.beq (zl k) (zl k')) (some (.v (.int k (k.wrap (a.tdiv b))),[.b c',.i b],[.b c,.i b'])) none
  | _,_=>none)
 | .binOp .rem _ x y _,.nz c' b=>(match bz σ x,bz σ y with
  | .v (.int k a),.v (.int k' b')=>cond (Nat.beq (zl k) (zl k')) (some (.v (.int k (a.tmod b)),[.b c',.i b],[.b c,.i b'])) none
  | _,_=>none)
 | .binOp .shl _ x y _,.ge c' b=>(match bz σ x,bz σ y with
  | .v (.int k a),.v (.int _ b')=>some (.v (.int k (fz k a b)),[.b c',.i b],[.b c,.i b'])
  | _,_=>none)
 | .binOp .shr _ x y _,.ge c' b=>(match bz σ x,bz σ y with
  | .v (.int k a),.v (.int _ b')=>some (.v (.int k (cD k a b)),[.b c',.i b],[.b c,.i b'])
  | _,_=>none)
 | .binOp .add _ x y _,.ct c' s u z=>(match bz σ x,bz σ y with
  | .v (.string s'),.v (.string u')=>some (.v (.string z),[.b c',.s s,.s u],[.b c,.s s',.s u'])
  | _,_=>none)
 | .binOp .eql t x y _,.eq t' ks=>(match bz σ x,bz σ y with
  | .agg cs,.agg ds=>(match Ff cs,Ff ds with
   | some xs,some ys=>(match z2 ks xs ys with | some r=>some (.v (.bool r),[.n t'],[.n t]) | none=>none)
   | _,_=>none)
  | _,_=>none)
 | .binOp .neq t x y _,.eq t' ks=>(match bz σ x,bz σ y with
  | .agg cs,.agg ds=>(match Ff cs,Ff ds with
   | some xs,some ys=>(match z2 ks xs ys with | some r=>some (.v (.bool !r),[.n t'],[.n t]) | none=>none)
   | _,_=>none)
  | _,_=>none)
 | .slice t x lo hi none,f=>Bw σ c t (bz σ x) lo hi f
 | .typeAssert x _ T true,.ta T' p r=>(match eY T with
  | some d=>cond (!z6 d&&(gr T).isSome) (some (r,[.n T',.p p],[.n T,.p (bz σ x)])) none
  | none=>none)
 | _,_=>none
section
variable {o:Oper} {σ:PEnv} {ρ:List PRes} {x y:Operand} {t:Nat} {k:IntKind} {a b:Int} {css zss:List (List PV)}
theorem DH {E sz by' mm:Nat} {z:Value} {cs:List PV} (ho:o.op=.indexAddr t x y) (hu:eY t=some (.slice E)) (hi:gr E=some (z,sz,by')) (hw:cs.length=sz) (hx:bz σ x=.slc mm css) (hy:bz σ y=.v (.int k a)) (hm:idx css a=some cs):POpQ true o σ ρ (.ref cs 0):=fun κ σ' ρ' g hs hrr=>by
 obtain ⟨h0,hcs⟩:=lD hm
 have h:=hs.ev x
 rw [hx] at h
 generalize he:ev σ' x=w at h
 cases h with
 | slc hsl hb h1 hss =>
  rename_i ad cp sz' dss
  obtain ⟨ds,hd,hds⟩:=hss.get hcs
  have hlt:a.toNat<mm:=by rw [← hsl.len];exact (List.getElem?_eq_some_iff.1 hd).1
  obtain ⟨bb,off,ha,hsh⟩:=hsl.at_ (by omega)
  have hwid:sz'=sz:=by
   have e1:=hsl.wid ds (List.mem_of_getElem? hd)
   have e2:=hds.len
   omega
  subst hwid
  have h2:=sc (c:=true) (ρ:=ρ') (κ:=κ) (j:=a.toNat) ho hu hi (.p (by rw [he,ha])) (.p (hs.v1 hy)) (fun _=>by omega) (fun _=>hlt)
  exact ⟨_,fun _=>by have:=Rp.ref (k:=0) (hsh _ _ hd) (h1 ds (List.mem_of_getElem? hd)) hds;rwa [Nat.add_zero] at this,h2⟩
theorem Ab {κ:Kr} {sz:Nat}:∀ {css:List (List PV)} {dss:List (List Value)},(∀ cs∈css,cs.length=sz)→Rpss κ css dss→∀ ds∈dss,ds.length=sz
 | _,_,_,.nil,ds,hd=>by cases hd
 | _,_,hw,.cons h hs,ds,hd=>by
  rcases List.mem_cons.1 hd with rfl | hd
  ·rw [← h.len];exact hw _ (by simp)
  exact Ab (fun c hc=>hw c (by simp [hc])) hs ds hd
theorem Bx {E sz by' mm:Nat} {z:Value} (ho:o.op=.slice t x none (some y) none) (hu:eY t=some (.slice E)) (hi:gr E=some (z,sz,by')) (hx:bz σ x=.slc mm css) (hy:bz σ y=.v (.int k b)) (hm:sub css 0 b=some zss):POpQ true o σ ρ (.slc zss.length zss):=fun κ σ' ρ' g hs hrr=>by
 obtain ⟨⟨h0,h1,h2⟩,rfl⟩:=ir hm
 have h:=hs.ev x
 rw [hx] at h
 generalize he:ev σ' x=w at h
 cases h with
 | slc hsl hb ho1 hss =>
  rename_i ad cp sz' dss
  have hl:css.length=mm:=by rw [← hsl.len,← hss.len]
  have hcap:=hsl.cap
  have hzl:((css.take b.toNat).drop (0:Int).toNat).length=b.toNat:=by simp;omega
  rw [hzl]
  refine ⟨.slice ad b.toNat cp,fun _=>?_,rx (c:=true) (k:=b.toNat) ho hu hi (.p he) (.p (hs.v1 hy)) (fun _=>by omega) (fun _=>by omega)⟩
  have:=Rp.slc (hsl.take (m:=b.toNat) (by omega)) (by omega) (zY ho1 fun d hd=>List.mem_of_mem_take hd) (hss.take b.toNat)
  simpa using this
theorem By {E sz by' mm:Nat} {z:Value} (ho:o.op=.slice t x (some y) none none) (hu:eY t=some (.slice E)) (hi:gr E=some (z,sz,by')) (hw:∀ cs∈css,cs.length=sz) (hx:bz σ x=.slc mm css) (hy:bz σ y=.v (.int k a)) (hm:sub css a (mm:Int)=some zss):POpQ true o σ ρ (.slc zss.length zss):=fun κ σ' ρ' g hs hrr=>by
 obtain ⟨⟨h0,h1,h2⟩,rfl⟩:=ir hm
 have h:=hs.ev x
 rw [hx] at h
 generalize he:ev σ' x=w at h
 cases h with
 | slc hsl hb ho1 hss =>
  rename_i ad cp sz' dss
  have hl:css.length=mm:=by rw [← hsl.len,← hss.len]
  have hcap:=hsl.cap
  have hq:=vk (c:=true) (ρ:=ρ') (κ:=κ) (k:=a.toNat) ho hu hi (.p he) (.p (hs.v1 hy)) (fun _=>by omega) (fun _=>by omega)
  have hd:=hsl.dropT (m:=a.toNat) (by omega)
  have e2:List.drop a.toNat (List.take (mm:Int).toNat css)=css.drop a.toNat:=by rw [Int.toNat_natCast,← hl,List.take_length]
  rw [e2]
  have hzl:(css.drop a.toNat).length=mm - a.toNat:=by simp [hl]
  rw [hzl]
  by_cases hz:mm - a.toNat=0
  ·refine ⟨_,fun _=>?_,hq⟩
   have e3:css.drop a.toNat=[]:=List.drop_of_length_le (by omega)
   rw [e3]
   exact .slc (sz:=sz) (css:=[]) ⟨by simp [hz],by omega,by simp,fun h=>absurd h (by omega)⟩ (by omega) (fun _ h=>by cases h) .nil
  have hszz:sz'=sz:=by
   have hlen:=hsl.len
   match dss,hlen with
   | [],hlen=>simp only [List.length_nil] at hlen;omega
   | d::ds,_=>rw [← hsl.wid d (by simp),Ab hw hss d (by simp)]
  subst hszz
  exact ⟨_,fun _=>Rp.slc hd (by omega) (zY ho1 fun d hd=>List.mem_of_mem_drop hd) (hss.drop a.toNat),hq⟩
end
theorem DI {o:Oper} {σ:PEnv} {ρ:List PRes} {c:Bool} {x:Operand} {t:Nat} {lo hi:Option Operand} {f:Fct} {p:PV} {L R:List Eqn} (ho:o.op=.slice t x lo hi none) (h:Bw σ c t (bz σ x) lo hi f=some (p,L,R)) (he:L=R) (hf:f.ok) (hc:c=true):POpQ true o σ ρ p:=by
 unfold Bw at h
 split at h
 ·rename_i c' css l hh zss m sz
  split at h
  ·rename_i E mm css' hu hx
   split at h
   ·rename_i z sz' by' hi'
    split at h
    ·rename_i y
     split at h
     ·rename_i k b hy
      simp only [eQ,Prod.mk.injEq] at h;obtain ⟨rfl,rfl,rfl⟩:=h
      simp only [List.cons.injEq,Eqn.b.injEq,Eqn.q.injEq,Eqn.i.injEq,Eqn.n.injEq,and_true] at he
      obtain ⟨rfl,rfl,rfl,rfl,rfl⟩:=he
      obtain ⟨h1,rfl,h3⟩:=hf
      exact Bx ho hu hi' hx hy (h1 hc)
     cases h
    ·rename_i y
     split at h
     ·rename_i k b hy
      simp only [eQ,Prod.mk.injEq] at h;obtain ⟨rfl,rfl,rfl⟩:=h
      simp only [List.cons.injEq,Eqn.b.injEq,Eqn.q.injEq,Eqn.i.injEq,Eqn.n.injEq,and_true] at he
      obtain ⟨rfl,rfl,rfl,rfl,rfl⟩:=he
      obtain ⟨h1,rfl,h3⟩:=hf
      exact By ho hu hi' h3 hx hy (h1 hc)
     cases h
    cases h
   cases h
  cases h
 ·rename_i c' s l hh z
  split at h
  ·rename_i s' hu hx
   split at h
   ·split at h
    ·rename_i hy
     simp only [eQ,Prod.mk.injEq] at h;obtain ⟨rfl,rfl,rfl⟩:=h
     simp only [List.cons.injEq,Eqn.b.injEq,Eqn.s.injEq,Eqn.i.injEq,and_true] at he
     obtain ⟨rfl,rfl,rfl,rfl⟩:=he
     exact Br ho hu (.p hx) (.p hy) (fun _=>hf hc)
    cases h
   ·split at h
    ·rename_i hy
     simp only [eQ,Prod.mk.injEq] at h;obtain ⟨rfl,rfl,rfl⟩:=h
     simp only [List.cons.injEq,Eqn.b.injEq,Eqn.s.injEq,Eqn.i.injEq,and_true] at he
     obtain ⟨rfl,rfl,rfl,rfl⟩:=he
     exact Bs ho hu (.p hx) (.p hy) (fun _=>hf hc)
    cases h
   ·split at h
    ·rename_i hy hy2
     simp only [eQ,Prod.mk.injEq] at h;obtain ⟨rfl,rfl,rfl⟩:=h
     simp only [List.cons.injEq,Eqn.b.injEq,Eqn.s.injEq,Eqn.i.injEq,and_true] at he
     obtain ⟨rfl,rfl,rfl,rfl⟩:=he
     exact zZ ho hu (.p hx) (.p hy) (.p hy2) (fun _=>hf hc)
    cases h
   cases h
  cases h
 cases h
theorem Fs {o:Oper} {σ:PEnv} {ρ:List PRes} {c:Bool} {f:Fct} {p:PV} {L R:List Eqn} (h:Fr σ c o.op f=some (p,L,R)) (he:L=R) (hf:f.ok) (hc:c=true):POpQ true o σ ρ p:=by
 generalize ho:o.op=op at h
 unfold Fr at h
 split at h
 ·split at h
  ·rename_i hu hx hy
   split at h
   ·rename_i hi
    simp only [eQ,Prod.mk.injEq] at h;obtain ⟨rfl,rfl,rfl⟩:=h
    simp only [List.cons.injEq,Eqn.b.injEq,Eqn.q.injEq,Eqn.i.injEq,Eqn.n.injEq,and_true] at he
    obtain ⟨rfl,rfl,rfl,h4⟩:=he
    exact DH ho hu hi h4 hx hy (hf hc)
   cases h
  cases h
 ·split at h
  ·rename_i hu hx hy
   simp only [eQ,Prod.mk.injEq] at h;obtain ⟨rfl,rfl,rfl⟩:=h
   simp only [List.cons.injEq,Eqn.b.injEq,Eqn.s.injEq,Eqn.i.injEq,and_true] at he
   obtain ⟨rfl,rfl,rfl⟩:=he
   exact Dy ho hu (.p hx) (.p hy) (fun _=>hf hc)
  cases h
 ·split at h
  ·rename_i k a k' b' hx hy
   cases hk:Nat.beq (zl k) (zl k')
   ·rw [hk] at h;cases h
   rw [hk] at h;have:=uM hk;subst this
   simp only [bL,eQ,Prod.mk.injEq] at h;obtain ⟨rfl,rfl,rfl⟩:=h
   simp only [List.cons.injEq,Eqn.b.injEq,Eqn.i.injEq,and_true] at he
   obtain ⟨rfl,rfl⟩:=he
   exact E9 ho (.p hx) (.p hy) (fun _=>hf hc)
  cases h
 ·split at h
  ·rename_i k a k' b' hx hy
   cases hk:Nat.beq (zl k) (zl k')
   ·rw [hk] at h;cases h
   rw [hk] at h;have:=uM hk;subst this
   simp only [bL,eQ,Prod.mk.injEq] at h;obtain ⟨rfl,rfl,rfl⟩:=h
   simp only [List.cons.injEq,Eqn.b.injEq,Eqn.i.injEq,and_true] at he
   obtain ⟨rfl,rfl⟩:=he
   exact Fa ho (.p hx) (.p hy) (fun _=>hf hc)
  cases h
 ·split at h
  ·rename_i hx hy
   simp only [eQ,Prod.mk.injEq] at h;obtain ⟨rfl,rfl,rfl⟩:=h
   simp only [List.cons.injEq,Eqn.b.injEq,Eqn.i.injEq,and_true] at he
   obtain ⟨rfl,rfl⟩:=he
   exact vn ho (.p hx) (.p hy) (fun _=>hf hc) rfl
  cases h
 ·split at h
  ·rename_i hx hy
   simp only [eQ,Prod.mk.injEq] at h;obtain ⟨rfl,rfl,rfl⟩:=h
   simp only [List.cons.injEq,Eqn.b.injEq,Eqn.i.injEq,and_true] at he
   obtain ⟨rfl,rfl⟩:=he
   exact vn ho (.p hx) (.p hy) (fun _=>hf hc) rfl
  cases h
 ·split at h
  ·rename_i hx hy
   simp only [eQ,Prod.mk.injEq] at h;obtain ⟨rfl,rfl,rfl⟩:=h
   simp only [List.cons.injEq,Eqn.b.injEq,Eqn.s.injEq,and_true] at he
   obtain ⟨rfl,rfl,rfl⟩:=he
   exact pq_catT ho (.p hx) (.p hy) (fun _=>hf hc)
  cases h
 ·split at h
  ·rename_i hx hy
   split at h
   ·rename_i h5 h6
    split at h
    ·rename_i r hr
     simp only [eQ,Prod.mk.injEq] at h;obtain ⟨rfl,rfl,rfl⟩:=h
     simp only [List.cons.injEq,Eqn.n.injEq,and_true] at he
     subst he
     exact CA _ ho hf.h1 hf.h2 hf.h3 hf.h4 (.p hx) (.p hy) h5 h6 hr rfl
    cases h
   cases h
  cases h
 ·split at h
  ·rename_i hx hy
   split at h
   ·rename_i h5 h6
    split at h
    ·rename_i r hr
     simp only [eQ,Prod.mk.injEq] at h;obtain ⟨rfl,rfl,rfl⟩:=h
     simp only [List.cons.injEq,Eqn.n.injEq,and_true] at he
     subst he
     exact CA _ ho hf.h1 hf.h2 hf.h3 hf.h4 (.p hx) (.p hy) h5 h6 hr rfl
    cases h
   cases h
  cases h
 ·exact DI ho h he hf hc
 ·split at h
  ·rename_i d hu
   cases hb:(!z6 d&&(gr _).isSome)
   ·rw [hb] at h;cases h
   rw [hb] at h
   simp only [bL,eQ,Prod.mk.injEq] at h;obtain ⟨rfl,rfl,rfl⟩:=h
   simp only [List.cons.injEq,Eqn.n.injEq,Eqn.p.injEq,and_true] at he
   obtain ⟨rfl,h2⟩:=he
   simp only [Bool.and_eq_true,Bool.not_eq_true'] at hb
   exact pq_ta ho hu hb.1 hb.2 h2.symm hf
  cases h
 cases h
def gL (l:List (Bool×Bool)):List Eqn:=l.map fun z=>.b z.1
def gR (l:List (Bool×Bool)):List Eqn:=l.map fun z=>.b z.2
theorem gLR:∀ {l:List (Bool×Bool)},gL l=gR l→AllEq l
 | [],_=>AllEq.nil
 | (a,b)::l,h=>by
  simp only [gL,gR,List.map_cons,List.cons.injEq,Eqn.b.injEq] at h
  have:=gLR (l:=l) h.2
  unfold AllEq at this ⊢
  simp only [List.map_cons,h.1,this]
theorem Ft {l:List (Bool×Bool)}:(gL l).length=(gR l).length:=by simp [gL,gR]
def qa:Op→Bool
 | .call ⟨.value _,_,_⟩=>true
 | .call ⟨.invoke _ _,_,_⟩=>true
 | _=>false
abbrev StepO:=Option (PV×Bool×List Eqn×List Eqn)
def vA (σ:PEnv) (G:List (Nat×GE)) (ρ:List PRes) (gs:List Bool) (at_:Nat) (op:Op):StepO :=
 match qx (pH σ G (gM op.operands.toList) gs) ρ at_ op with
 | some (p,none)=>some (p,false,gL (mz G gs (gM op.operands.toList)),gR (mz G gs (gM op.operands.toList)))
 | some (p,some (b,b'))=>some (p,true,gL (mz G gs (gM op.operands.toList))++[.n b],gR (mz G gs (gM op.operands.toList))++[.n b'])
 | none=>none
def Fu (σ:PEnv) (G:List (Nat×GE)) (gs:List Bool) (op:Op) (cal:Operand) (ags:List Operand):Fct→StepO
 | .cl c f pargs r=>(match cal with
  | .func f'=>some (r,false,gL (mz G gs (gM op.operands.toList))++[.b c,.n f,.l pargs],gR (mz G gs (gM op.operands.toList))++[.b (gs.headD true),.n f',.l (ags.map (bz (pH σ G (gM op.operands.toList) gs)))])
  | _=>none)
 | .cv c pf pargs r=>some (r,false,gL (mz G gs (gM op.operands.toList))++[.b c,.p pf,.l pargs],gR (mz G gs (gM op.operands.toList))++[.b (gs.headD true),.p (bz (pH σ G (gM op.operands.toList) gs) cal),.l (ags.map (bz (pH σ G (gM op.operands.toList) gs)))])
 | _=>none
def invx (σ:PEnv) (G:List (Nat×GE)) (gs:List Bool) (op:Op) (x:Operand) (name:String) (ags:List Operand):Fct→StepO
 | .ci c p name' pargs r=>some (r,false,gL (mz G gs (gM op.operands.toList))++[.b c,.p p,.m name',.l pargs],gR (mz G gs (gM op.operands.toList))++[.b (gs.headD true),.p (bz (pH σ G (gM op.operands.toList) gs) x),.m name,.l (ags.map (bz (pH σ G (gM op.operands.toList) gs)))])
 | _=>none
def Fv (σ:PEnv) (G:List (Nat×GE)) (ρ:List PRes) (gs:List Bool) (at_:Nat) (fo:Option Fct) (op:Op):StepO :=
 match fo with
 | some f=>(match op with
  | .call ⟨.value cal,⟨ags⟩,ts⟩=>Fu σ G gs (.call ⟨.value cal,⟨ags⟩,ts⟩) cal ags f
  | .call ⟨.invoke x name,⟨ags⟩,ts⟩=>invx σ G gs (.call ⟨.invoke x name,⟨ags⟩,ts⟩) x name ags f
  | op=>(match Fr (pH σ G (gM op.operands.toList) gs) (gs.headD true) op f with
   | some (p,L,R)=>some (p,false,gL (mz G gs (gM op.operands.toList))++L,gR (mz G gs (gM op.operands.toList))++R)
   | none=>none))
 | none=>(match op with
  | .pick cc a b=>(match Fo σ G gs cc a b with | some (p,l)=>some (p,false,gL l,gR l) | none=>none)
  | op=>vA σ G ρ gs at_ op)
def POpG (c:Bool) (o:Oper) (σ:PEnv) (r:PV):Prop:=∀ κ σ' ρ' (KK:Value→Kr→Prop),GOK κ→Sim κ σ σ'→(∀ v κ',Kle κ κ'→(c=true→Rp κ' r v)→KK v κ')→OpG c o σ' ρ' κ KK
theorem Ac {a b l m:List Eqn} (h:a++l=b++m) (hl:a.length=b.length):a=b∧l=m:=List.append_inj h hl
theorem popg_cl {o:Oper} {σ:PEnv} {G:List (Nat×GE)} {gs:List Bool} {ts:List Nat} {f:Nat} {ags:List Operand} {at_:Array Nat} {pargs:List PV} {r:PV} (ho:o.op=.call { callee:=.value (.func f),args:=ags.toArray,argTypes:=at_ }) (hi:GInv σ G) (ha:AllEq (mz G gs ts)) (hk:StackOk gs) (hp:pargs=ags.map (bz (pH σ G ts gs))) (hc:gs.headD true=true→PF f pargs r):POpG (gs.headD true) o σ r:=fun κ σ' ρ' KK g hs h =>
 zw ho (fun _=>rfl) (fun hct=>hc hct κ _ g (by rw [hp];exact lC (sn hs hi ha hk hct) ags)) h
theorem popg_cv {o:Oper} {σ:PEnv} {G:List (Nat×GE)} {gs:List Bool} {ts:List Nat} {x:Operand} {ags:List Operand} {at_:Array Nat} {pf:PV} {pargs:List PV} {r:PV} (ho:o.op=.call { callee:=.value x,args:=ags.toArray,argTypes:=at_ }) (hi:GInv σ G) (ha:AllEq (mz G gs ts)) (hk:StackOk gs) (hx:pf=bz (pH σ G ts gs) x) (hp:pargs=ags.map (bz (pH σ G ts gs))) (hc:gs.headD true=true→PFV pf pargs r):POpG (gs.headD true) o σ r:=fun κ σ' ρ' KK g hs h=>by
 refine ⟨fun hct=>?_,fun hcf=>h undef κ (.refl _) fun h=>by rw [hcf] at h;cases h⟩
 have hs':=sn hs hi ha hk hct
 obtain ⟨f,first,cap,h1,h2⟩:=hc hct κ _ _ g (by rw [hx];exact hs'.ev x) (by rw [hp];exact lC hs' ags)
 exact Dl ho h1 rfl h2 fun v κ' hk hv=>⟨rfl,h v κ' hk fun _=>hv⟩
theorem popg_ci {o:Oper} {σ:PEnv} {G:List (Nat×GE)} {gs:List Bool} {ts:List Nat} {x:Operand} {name:String} {ags:List Operand} {at_:Array Nat} {p:PV} {pargs:List PV} {r:PV} (ho:o.op=.call { callee:=.invoke x name,args:=ags.toArray,argTypes:=at_ }) (hi:GInv σ G) (ha:AllEq (mz G gs ts)) (hk:StackOk gs) (hx:p=bz (pH σ G ts gs) x) (hp:pargs=ags.map (bz (pH σ G ts gs))) (hc:gs.headD true=true→PFI p name pargs r):POpG (gs.headD true) o σ r:=fun κ σ' ρ' KK g hs h=>by
 refine ⟨fun hct=>?_,fun hcf=>h undef κ (.refl _) fun h=>by rw [hcf] at h;cases h⟩
 have hs':=sn hs hi ha hk hct
 obtain ⟨t,q,f,e1,hm,hf⟩:=hc hct
 have hv:=hs'.ev x
 rw [← hx,e1] at hv
 generalize he:ev σ' x=w at hv
 cases hv with
 | ifc hv=>exact vu ho he hm (hf κ _ g (.cons hv (by rw [hp];exact lC hs' ags))) fun v κ' hk hv=>⟨rfl,h v κ' hk fun _=>hv⟩
theorem DJ {o:Oper} {σ:PEnv} {G:List (Nat×GE)} {ρ:List PRes} {gs:List Bool} {k:Nat} {p:PV} {u:Bool} {L R:List Eqn} (hi:GInv σ G) (hk:StackOk gs) (h:vA σ G ρ gs k o.op=some (p,u,L,R)) (he:L=R):POpQ (gs.headD true) o σ ρ p:=by
 unfold vA at h
 split at h
 ·rename_i p' hq
  simp only [eQ,Prod.mk.injEq] at h;obtain ⟨rfl,_,rfl,rfl⟩:=h
  exact tf (fun _=>qx_ok hq (fun _ _ e=>by cases e)) hi (gLR he) hk
 ·rename_i p' b b' hq
  simp only [eQ,Prod.mk.injEq] at h;obtain ⟨rfl,_,rfl,rfl⟩:=h
  obtain ⟨h1,h2⟩:=Ac he Ft
  simp only [List.cons.injEq,Eqn.n.injEq,and_true] at h2
  exact tf (fun _=>qx_ok hq (fun _ _ e=>by simp only [eQ,Prod.mk.injEq] at e;rw [← e.1,← e.2];exact h2)) hi (gLR h1) hk
 cases h
theorem Fw {o:Oper} {σ:PEnv} {G:List (Nat×GE)} {gs:List Bool} {cal:Operand} {ags:List Operand} {ts:Array Nat} {f:Fct} {p:PV} {u:Bool} {L R:List Eqn} (ho:o.op=.call ⟨.value cal,⟨ags⟩,ts⟩) (hi:GInv σ G) (hk:StackOk gs) (h:Fu σ G gs (.call ⟨.value cal,⟨ags⟩,ts⟩) cal ags f=some (p,u,L,R)) (he:L=R) (hf:f.ok):POpG (gs.headD true) o σ p:=by
 unfold Fu at h
 split at h
 ·split at h
  ·simp only [eQ,Prod.mk.injEq] at h;obtain ⟨rfl,_,rfl,rfl⟩:=h
   obtain ⟨h1,h2⟩:=Ac he Ft
   simp only [List.cons.injEq,Eqn.n.injEq,Eqn.b.injEq,Eqn.l.injEq,and_true] at h2
   obtain ⟨h3,h4,h5⟩:=h2
   subst h4
   exact popg_cl ho hi (gLR h1) hk h5 (fun hc=>hf (by rw [h3];exact hc))
  cases h
 ·simp only [eQ,Prod.mk.injEq] at h;obtain ⟨rfl,_,rfl,rfl⟩:=h
  obtain ⟨h1,h2⟩:=Ac he Ft
  simp only [List.cons.injEq,Eqn.p.injEq,Eqn.b.injEq,Eqn.l.injEq,and_true] at h2
  obtain ⟨h3,h4,h5⟩:=h2
  exact popg_cv ho hi (gLR h1) hk h4 h5 (fun hc=>hf (by rw [h3];exact hc))
 cases h
theorem invx_ok {o:Oper} {σ:PEnv} {G:List (Nat×GE)} {gs:List Bool} {x:Operand} {name:String} {ags:List Operand} {ts:Array Nat} {f:Fct} {p:PV} {u:Bool} {L R:List Eqn} (ho:o.op=.call ⟨.invoke x name,⟨ags⟩,ts⟩) (hi:GInv σ G) (hk:StackOk gs) (h:invx σ G gs (.call ⟨.invoke x name,⟨ags⟩,ts⟩) x name ags f=some (p,u,L,R)) (he:L=R) (hf:f.ok):POpG (gs.headD true) o σ p:=by
 unfold invx at h
 split at h
 ·simp only [eQ,Prod.mk.injEq] at h;obtain ⟨rfl,_,rfl,rfl⟩:=h
  obtain ⟨h1,h2⟩:=Ac he Ft
  simp only [List.cons.injEq,Eqn.p.injEq,Eqn.b.injEq,Eqn.l.injEq,Eqn.m.injEq,and_true] at h2
  obtain ⟨h3,h4,h5,h6⟩:=h2
  subst h5
  exact popg_ci ho hi (gLR h1) hk h4 h6 (fun hc=>hf (by rw [h3];exact hc))
 cases h
theorem Fx {o:Oper} {σ:PEnv} {G:List (Nat×GE)} {ρ:List PRes} {gs:List Bool} {k:Nat} {fo:Option Fct} {p:PV} {u:Bool} {L R:List Eqn} (hi:GInv σ G) (hk:StackOk gs) (h:Fv σ G ρ gs k fo o.op=some (p,u,L,R)) (he:L=R) (hf:∀ f,fo=some f→f.ok):(qa o.op=false∧POpQ (gs.headD true) o σ ρ p)∨(qa o.op=true∧POpG (gs.headD true) o σ p):=by
 unfold Fv at h
 split at h
 ·rename_i f
  split at h
  ·rename_i cal ags ts ho
   exact .inr ⟨by rw [ho];rfl,Fw ho hi hk h he (hf f rfl)⟩
  ·rename_i x name ags ts ho
   exact .inr ⟨by rw [ho];rfl,invx_ok ho hi hk h he (hf f rfl)⟩
  rename_i hnc hnc2
  split at h
  ·rename_i p' L' R' hq
   simp only [eQ,Prod.mk.injEq] at h;obtain ⟨rfl,_,rfl,rfl⟩:=h
   obtain ⟨h1,h2⟩:=Ac he Ft
   refine .inl ⟨?_,tf (fun hc=>Fs hq h2 (hf f rfl) hc) hi (gLR h1) hk⟩
   unfold qa
   split
   ·rename_i cal ags ts ho;exact absurd ho (hnc cal ags.toList ts)
   ·rename_i x name ags ts ho;exact absurd ho (hnc2 x name ags.toList ts)
   rfl
  cases h
 split at h
 ·rename_i cc a b ho
  split at h
  ·rename_i p' l' hp
   simp only [eQ,Prod.mk.injEq] at h;obtain ⟨rfl,_,rfl,rfl⟩:=h
   exact .inl ⟨by rw [ho];rfl,Fq ho hi hk hp (gLR he)⟩
  cases h
 cases hc:qa o.op
 ·exact .inl ⟨rfl,DJ hi hk h he⟩
 exfalso
 unfold qa at hc
 split at hc
 ·rename_i ho
  rw [ho] at h
  unfold vA at h
  simp only [qx] at h
  cases h
 ·rename_i ho
  rw [ho] at h
  unfold vA at h
  simp only [qx] at h
  cases h
 cases hc
def yG (σ:PEnv) (G:List (Nat×GE)) (d:Nat) (gs:List Bool) (p:PV):PEnv×List (Nat×GE):=match gs with
 | []=>(gh σ d p,Fl d G)
 | c::gs=>(gh σ d (pgv c p),(d,⟨c::gs,p⟩)::G)
theorem yH {d t:Nat} {e:GE}:∀ {G:List (Nat×GE)},gl t (Fl d G)=some e→t≠d∧gl t G=some e
 | [],h=>by cases h
 | (k,e')::l,h=>by
  simp only [Fl] at h
  cases hd:Nat.beq d k
  ·rw [hd] at h;simp only [bv,gl] at h ⊢
   cases ht:Nat.beq t k
   ·rw [ht] at h;exact yH h
   rw [ht] at h
   refine ⟨fun e=>?_,h⟩
   rw [Nat.eq_of_beq_eq_true ht] at e;rw [e] at hd;simp at hd
  rw [hd] at h;simp only [bL] at h
  obtain ⟨h1,h2⟩:=yH h
  refine ⟨h1,?_⟩
  simp only [gl]
  have:Nat.beq t k=false:=by cases e:Nat.beq t k;rfl;exact absurd ((Nat.eq_of_beq_eq_true e).trans (Nat.eq_of_beq_eq_true hd).symm) h1
  rw [this];exact h2
theorem yI {σ:PEnv} {d t:Nat} {p:PV} (h:t≠d):gh σ d p t=σ t:=by
 unfold gh
 have:Nat.beq t d=false:=by cases e:Nat.beq t d;rfl;exact absurd (Nat.eq_of_beq_eq_true e) h
 rw [this];rfl
theorem vB {σ:PEnv} {G:List (Nat×GE)} {d:Nat} {gs:List Bool} {p:PV} (hi:GInv σ G) (hk:StackOk gs):GInv (yG σ G d gs p).1 (yG σ G d gs p).2:=by
 unfold yG
 split
 ·intro t e h
  obtain ⟨h1,h2⟩:=yH h
  simp only [yI h1]
  exact hi t e h2
 rename_i c gs
 intro t e h
 simp only [gl] at h
 cases ht:Nat.beq t d
 ·rw [ht] at h
  have hne:t≠d:=fun e=>by rw [e] at ht;simp at ht
  simp only [yI hne]
  exact hi t e h
 rw [ht] at h
 simp only [bL,eQ] at h;subst h
 have:=Nat.eq_of_beq_eq_true ht;subst this
 refine ⟨?_,hk,by simp⟩
 simp only [gh,Nat.beq_refl,bL,List.headD_cons]
theorem vC {σ:PEnv} {G:List (Nat×GE)} {d:Nat} {gs:List Bool} {p:PV}:(yG σ G d gs p).1=gh σ d (pgv (gs.headD true) p):=by
 unfold yG;split
 ·rw [List.headD_nil,mT]
 rfl
structure RunR where
 σ:PEnv
 L:List Eqn
 R:List Eqn
def CF (i:Nat):List (Nat×Fct)→Option Fct
 | (k,f)::_=>cond (Nat.beq k i) (some f) none
 | []=>none
def so (n:Nat) (ops:Array Oper) (ρ:List PRes):List Oper→Nat→List Nat→List (Nat×Fct)→PEnv→List (Nat×GE)→Option RunR
 | [],_,_,_,σ,_=>some ⟨σ,[],[]⟩
 | o::l,i,H,F,σ,G=>match o.dst with
  | some d=>cond (Nat.blt d n) (match yE ops σ G o.guard with
   | some gs=>match Fv σ G ρ gs (H.headD 0) (CF i F) o.op with
    | some (p,u,L,R)=>match so n ops ρ l (i+1) (cond u H.tail H) (match CF i F with | some _=>F.tail | none=>F) (yG σ G d gs p).1 (yG σ G d gs p).2 with
     | some r=>cond (Nat.beq L.length R.length) (some ⟨r.σ,L++r.L,R++r.R⟩) none
     | none=>none
    | none=>none
   | none=>none) none
  | none=>none
theorem Fy {i:Nat} {F:List (Nat×Fct)} (h:FOk F):∀ f,CF i F=some f→f.ok:=fun f hf=>by
 cases F with
 | nil=>cases hf
 | cons a l =>
  obtain ⟨k,g⟩:=a
  simp only [CF] at hf
  cases hk:Nat.beq k i
  ·rw [hk] at hf;cases hf
  rw [hk] at hf;simp only [bL,eQ] at hf;subst hf;exact h.1
theorem Fz {F:List (Nat×Fct)} (h:FOk F) (b:Option Fct):FOk (match b with | some _=>F.tail | none=>F):=by
 cases b with
 | none=>exact h
 | some f=>cases F with
  | nil=>exact h
  | cons a l=>exact h.2
theorem vD {n:Nat} {ops:Array Oper} {ρ:List PRes} {o:Oper} {l:List Oper} {i:Nat} {H:List Nat} {F:List (Nat×Fct)} {σ:PEnv} {G:List (Nat×GE)} {r:RunR} (h:so n ops ρ (o::l) i H F σ G=some r) (he:r.L=r.R) (hF:FOk F) (hi:GInv σ G) :
    ∃ d gs p H' F' r',o.dst=some d∧Nat.blt d n=true∧PGuardIs ops σ o (gs.headD true)∧StackOk gs∧((qa o.op=false∧POpQ (gs.headD true) o σ ρ p)∨(qa o.op=true∧POpG (gs.headD true) o σ p))∧so n ops ρ l (i+1) H' F' (yG σ G d gs p).1 (yG σ G d gs p).2=some r'∧r'.σ=r.σ∧r'.L=r'.R∧FOk F':=by
  simp only [so] at h
  split at h
  · rename_i d hd
    cases hlt:Nat.blt d n
    · rw [hlt] at h;cases h
    rw [hlt] at h;simp only [bL] at h
    split at h
    · rename_i gs hgs
      split at h
      · rename_i p u L R hst
        split at h
        · rename_i r' hr
          cases hlen:Nat.beq L.length R.length
          · rw [hlen] at h;cases h
          rw [hlen] at h;simp only [bL,eQ] at h;subst h
          obtain ⟨h1,h2⟩:=List.append_inj he (Nat.eq_of_beq_eq_true hlen)
          obtain ⟨hg,hk⟩:=DC hi hgs
          exact ⟨d,gs,p,_,_,r',hd,hlt,hg,hk,Fx hi hk hst h1 (Fy hF),hr,rfl,h2,Fz hF _⟩
        cases h
      cases h
    cases h
  cases h
theorem FA {n:Nat} {ops:Array Oper} {o:Oper} {rest:List Oper} {K:PPost} {σ:PEnv} {ρ:List PRes} {d:Nat} {c:Bool} {r:PV} (hg:PGuardIs ops σ o c) (hd:o.dst=some d) (hlt:Nat.blt d n=true) (h:POpG c o σ r) (hw:PWL n ops rest K (gh σ d (pgv c r)) ρ):PWL n ops (o::rest) K σ ρ:=fun β κ σ' ρ' g hs hr =>
 wl_g (hg κ σ' hs) hd hlt (h κ σ' ρ' _ g hs fun v κ' hk hv=>hw β κ' _ _ (g.mono hk) ((hs.mono hk).upd (Cw hv)) (hr.mono hk))
theorem FB {n:Nat} {ops:Array Oper} {o:Oper} {lo:List (Nat×Oper)} {K:PPost} {σ:PEnv} {ρd ρs:List PRes} {d:Nat} {c:Bool} {r:PV} (hg:PGuardIs ops σ o c) (hd:o.dst=some d) (hlt:Nat.blt d n=true) (h:POpG c o σ r) (hw:PWD n ops K lo (gh σ d (pgv c r)) ρd ρs):PWD n ops K ((1,o)::lo) σ ρd ρs:=fun β κ σ' rd rs g hs h1 h2 =>
 wd_g (hg κ σ' hs) hd hlt fun κ1 hk=>h κ1 σ' _ _ (g.mono hk) (hs.mono hk) fun v κ' hk' hv=>hw β κ' _ rd rs ((g.mono hk).mono hk') (((hs.mono hk).mono hk').upd (Cw hv)) ((h1.mono hk).mono hk') ((h2.mono hk).mono hk')
theorem yJ {n:Nat} {ops:Array Oper} {rest:List Oper} {K:PPost} {ρ:List PRes}:∀ {l:List Oper} {i:Nat} {H:List Nat} {F:List (Nat×Fct)} {σ:PEnv} {G:List (Nat×GE)} {r:RunR},so n ops ρ l i H F σ G=some r→r.L=r.R→FOk F→GInv σ G→PWL n ops rest K r.σ ρ→PWL n ops (l++rest) K σ ρ
 | [],i,H,F,σ,G,r,h,_,_,_,hw=>by simp only [so,eQ] at h;subst h;exact hw
 | o::l,i,H,F,σ,G,r,h,he,hF,hi,hw=>by
  obtain ⟨d,gs,p,H',F',r',h1,h2,h3,h4,h5,h6,h7,h8,h9⟩:=vD h he hF hi
  have hrec:=yJ (rest:=rest) (K:=K) h6 h8 h9 (vB hi h4) (by rw [h7];exact hw)
  rw [vC] at hrec
  rcases h5 with ⟨_,hq⟩ | ⟨_,hq⟩
  ·exact vl h3 h1 h2 hq hrec
  exact FA h3 h1 h2 hq hrec
def FC (ks D:List Nat):List Oper→Bool
 | []=>true
 | o::l=>(match o.dst with | some d=>Fm d ks||Fm d D | none=>true)&&FC ks D l
theorem xz {n:Nat} {ops:Array Oper} {ρ:List PRes} {ks D:List Nat}:∀ {l:List Oper} {i:Nat} {H:List Nat} {F:List (Nat×Fct)} {σ:PEnv} {G:List (Nat×GE)} {r:RunR},so n ops ρ l i H F σ G=some r→r.L=r.R→FOk F→GInv σ G→FC ks D l=true→∀ t,t ∉ ks→t ∉ D→r.σ t=σ t
 | [],i,H,F,σ,G,r,h,_,_,_,_,t,_,_=>by simp only [so,eQ] at h;subst h;rfl
 | o::l,i,H,F,σ,G,r,h,he,hF,hi,hd,t,g1,g2=>by
  obtain ⟨d,gs,p,H',F',r',h1,h2,h3,h4,h5,h6,h7,h8,h9⟩:=vD h he hF hi
  simp only [FC,Bool.and_eq_true] at hd
  rw [h1] at hd
  simp only [Bool.or_eq_true,uN] at hd
  have hne:t≠d:=fun e=>by subst e;rcases hd.1 with h | h;exact g1 h;exact g2 h
  rw [← h7,xz h6 h8 h9 (vB hi h4) hd.2 t g1 g2,vC]
  exact yI hne
abbrev RunO:=Option (List PV×List Eqn)
def oO (n:Nat) (ops:Array Oper) (ρ:List PRes) (l:List Oper) (H:List Nat) (F:List (Nat×Fct)) (σ:PEnv) (ks D:List Nat):RunO :=
 match so n ops ρ l 0 H F σ [] with
 | some r=>cond (FC ks D l) (some (ks.map r.σ,r.L)) none
 | none=>none
def lX (n:Nat) (ops:Array Oper) (ρ:List PRes) (l:List Oper) (H:List Nat) (F:List (Nat×Fct)) (σ:PEnv) (vs:List PV):RunO :=
 match so n ops ρ l 0 H F σ [] with
 | some r=>some (vs,r.R)
 | none=>some ([],[])
def pdel (σ:PEnv) (D:List Nat):PEnv:=fun t=>cond (Fm t D) .any (σ t)
def lG (σ:PEnv) (D:List Nat) (X:List (Nat×PV)):PEnv:=az (pdel σ D) X
def Ad (t:Nat):List (Nat×PV)→Option PV
 | []=>none
 | (d,v)::l=>cond (Nat.beq t d) (some v) (Ad t l)
theorem vE {σ:PEnv} {t:Nat}:∀ {X:List (Nat×PV)},az σ X t=(Ad t X).getD (σ t)
 | []=>rfl
 | (d,v)::l=>by
  simp only [az,gh,Ad]
  cases Nat.beq t d
  ·exact vE (X:=l)
  rfl
theorem xA {t:Nat} {v:PV} {σ:PEnv}:∀ {X:List (Nat×PV)},Ad t X=some v→(X.map (·.1)).map σ=X.map (·.2)→σ t=v
 | (d,w)::l,h,e=>by
  simp only [List.map_cons,List.cons.injEq] at e
  simp only [Ad] at h
  cases hb:Nat.beq t d
  ·rw [hb] at h;exact xA h e.2
  rw [hb] at h;simp only [bL,eQ] at h
  rw [Nat.eq_of_beq_eq_true hb,e.1,h]
theorem xB {t:Nat}:∀ {X:List (Nat×PV)},Ad t X=none→t ∉ X.map (·.1)
 | [],_=>by simp
 | (d,v)::l,h=>by
  simp only [Ad] at h
  cases hb:Nat.beq t d
  ·rw [hb] at h
   have:t≠d:=fun e=>by rw [e] at hb;simp at hb
   simp only [List.map_cons,List.mem_cons,not_or]
   exact ⟨this,xB h⟩
  rw [hb] at h;cases h
def PWeak (σ σ1:PEnv):Prop:=∀ t,σ1 t=σ t∨σ1 t=.any
theorem Sim.weak {κ:Kr} {σ σ1:PEnv} {σ':Env} (h:Sim κ σ σ') (hw:PWeak σ σ1):Sim κ σ1 σ':=fun t=>by
 rcases hw t with e | e
 ·rw [e];exact h t
 rw [e];exact .any
theorem CG {σ:PEnv}:GInv σ []:=fun t e h=>by cases h
theorem yK {n:Nat} {ops:Array Oper} {ρ:List PRes} {l:List Oper} {H D:List Nat} {F:List (Nat×Fct)} {σ:PEnv} {X:List (Nat×PV)} (hF:FOk F) (h:oO n ops ρ l H F σ (X.map (·.1)) D=lX n ops ρ l H F σ (X.map (·.2))):∃ r,so n ops ρ l 0 H F σ []=some r∧r.L=r.R∧PWeak r.σ (lG σ D X):=by
 unfold oO lX at h
 cases hr:so n ops ρ l 0 H F σ [] with
 | none=>rw [hr] at h;cases h
 | some r =>
  rw [hr] at h
  simp only at h
  cases hd:FC (X.map (·.1)) D l
  ·rw [hd] at h;cases h
  rw [hd] at h
  simp only [bL,eQ,Prod.mk.injEq] at h
  obtain ⟨h1,h2⟩:=h
  refine ⟨r,rfl,h2,fun t=>?_⟩
  unfold lG
  rw [vE]
  cases hl:Ad t X with
  | some v=>exact .inl (by rw [Option.getD_some,xA hl h1])
  | none =>
   rw [Option.getD_none]
   unfold pdel
   cases hi:Fm t D
   ·have h3':t ∉ D:=fun hm=>by rw [uN.2 hm] at hi;cases hi
    exact .inl (by rw [bv,xz hr h2 hF CG hd t (xB hl) h3'])
   exact .inr rfl
section
variable {n:Nat} {ops:Array Oper} {l:List Oper} {K:PPost} {KC:Exit→PPost} {σ:PEnv} {ρ:List PRes} {id:Nat} {F:List (Nat×Fct)}
theorem Ae {σ1:PEnv} (hw:PWeak σ σ1) (h:PWL n ops l K σ1 ρ):PWL n ops l K σ ρ:=fun β κ σ' ρ' g hs hr=>h β κ σ' ρ' g (hs.weak hw) hr
theorem aU (k:Nat) (H D:List Nat) (X:List (Nat×PV)) (hF:FOk F) (h:oO n ops ρ (l.take k) H F σ (X.map (·.1)) D=lX n ops ρ (l.take k) H F σ (X.map (·.2))) (hw:PWL n ops (l.drop k) K (lG σ D X) ρ):PWL n ops l K σ ρ:=by
 obtain ⟨r,h1,h2,h3⟩:=yK hF h
 have:=yJ h1 h2 hF CG (Ae h3 hw)
 rwa [List.take_append_drop] at this
theorem jN (H D:List Nat) (X:List (Nat×PV)) (hF:FOk F) (h:oO n ops ρ l H F σ (X.map (·.1)) D=lX n ops ρ l H F σ (X.map (·.2))) (hw:K (lG σ D X) ρ):PWL n ops l K σ ρ:=by
 obtain ⟨r,h1,h2,h3⟩:=yK hF h
 have:=yJ (rest:=[]) h1 h2 hF CG (Ae h3 (aF (ops:=ops) hw))
 rwa [List.append_nil] at this
theorem aq (H D:List Nat) (X:List (Nat×PV)) (hF:FOk F) (h:oO n l.toArray ρ l H F σ (X.map (·.1)) D=lX n l.toArray ρ l H F σ (X.map (·.2))) (hw:KC .normal (lG σ D X) ρ):PWC n (.region id l.toArray false) KC σ ρ:=af (jN H D X hF h hw)
end
def Af:List (Nat×Oper)→Bool
 | []=>true
 | (k,o)::l=>cond (qa o.op) (Nat.beq k 1) (Nat.beq k 0)&&Af l
theorem Ag {n:Nat} {ops:Array Oper} {rest:List (Nat×Oper)} {K:PPost} {ρd ρ:List PRes}:∀ {l:List (Nat×Oper)} {i:Nat} {H:List Nat} {F:List (Nat×Fct)} {σ:PEnv} {G:List (Nat×GE)} {r:RunR},Af l=true→so n ops ρ (l.map (·.2)) i H F σ G=some r→r.L=r.R→FOk F→GInv σ G→PWD n ops K rest r.σ ρd ρ→PWD n ops K (l++rest) σ ρd ρ
 | [],i,H,F,σ,G,r,_,h,_,_,_,hw=>by simp only [List.map_nil,so,eQ] at h;subst h;exact hw
 | (k,o)::l,i,H,F,σ,G,r,ht,h,he,hF,hi,hw=>by
  simp only [Af,Bool.and_eq_true] at ht
  obtain ⟨d,gs,p,H',F',r',h1,h2,h3,h4,h5,h6,h7,h8,h9⟩:=vD h he hF hi
  have hrec:=Ag (rest:=rest) (K:=K) (ρd:=ρd) ht.2 h6 h8 h9 (vB hi h4) (by rw [h7];exact hw)
  rw [vC] at hrec
  rcases h5 with ⟨hc,hq⟩ | ⟨hc,hq⟩
  ·rw [hc] at ht;have:=Nat.eq_of_beq_eq_true ht.1;subst this
   exact pwd_qg h3 h1 h2 hq hrec
  rw [hc] at ht;have:=Nat.eq_of_beq_eq_true ht.1;subst this
  exact FB h3 h1 h2 hq hrec
section
variable {n:Nat} {ops:Array Oper} {l:List (Nat×Oper)} {K:PPost} {σ:PEnv} {ρd ρs:List PRes} {F:List (Nat×Fct)}
theorem FD {σ1:PEnv} (hw:PWeak σ σ1) (h:PWD n ops K l σ1 ρd ρs):PWD n ops K l σ ρd ρs:=fun β κ σ' rd rs g hs h1 h2=>h β κ σ' rd rs g (hs.weak hw) h1 h2
def vF (n:Nat) (ops:Array Oper) (ρ:List PRes) (l:List (Nat×Oper)) (H:List Nat) (F:List (Nat×Fct)) (σ:PEnv) (ks D:List Nat):RunO:=cond (Af l) (oO n ops ρ (l.map (·.2)) H F σ ks D) none
theorem bt (k:Nat) (H D:List Nat) (X:List (Nat×PV)) (hF:FOk F) (h:vF n ops ρs (l.take k) H F σ (X.map (·.1)) D=lX n ops ρs ((l.take k).map (·.2)) H F σ (X.map (·.2))) (hw:PWD n ops K (l.drop k) (lG σ D X) ρd ρs):PWD n ops K l σ ρd ρs:=by
 unfold vF at h
 cases ht:Af (l.take k)
 ·rw [ht] at h;unfold lX at h;split at h <;> cases h
 rw [ht] at h
 obtain ⟨r,h1,h2,h3⟩:=yK hF h
 have:=Ag ht h1 h2 hF CG (FD h3 hw)
 rwa [List.take_append_drop] at this
end
def Found (v:Value) (es:List MapEntry) (r:Option (Nat×Value)):Prop:=(r=none∧∀ e∈es,e.key≠v)∨∃ i e,r=some (i,e.val)∧es[i]?=some e∧e.key=v
structure KeyLaw (kt:Nat) (P:Value→Prop):Prop where
 chk:∀ v,P v→∀ e w,(Instr.checkKey e 10000 kt v).run Tryz.prog w=.ok () w
 find:∀ v es,P v→(∀ e∈es,P e.key)→∀ w,∃ r,(Instr.findKey kt v es).run Tryz.prog w=.ok r w∧Found v es r
 same:∀ v,P v→Instr.sameBits 10000 v v=true
def PairKey (v:Value):Prop:=∃ a b,v=.agg #[.int .i64 a,.int .i64 b]
theorem wV {kt:Nat} {P:Value→Prop} (he:∀ v u,P v→P u→∀ w,∃ b,(Op.equal kt v u).run Tryz.prog w=.ok b w∧(b=true↔v=u)) {v:Value} (hv:P v):∀ (es:List MapEntry) (i:Nat),(∀ e∈es,P e.key)→∀ w,∃ r,(Instr.findAsking kt v es i).run Tryz.prog w=.ok r w∧((r=none∧∀ e∈es,e.key≠v)∨∃ j e,r=some (i+j,e.val)∧es[j]?=some e∧e.key=v):=by
 intro es
 induction es with
 | nil=>intro i _ w;exact ⟨none,by simp [Instr.findAsking],.inl ⟨rfl,fun e h=>by cases h⟩⟩
 | cons e es ih =>
  intro i h w
  obtain ⟨b,h1,h2⟩:=he v e.key hv (h e (by simp)) w
  unfold Instr.findAsking
  simp only [Sem.run_bind,h1,Result.andThen_ok]
  cases b with
  | true =>
   refine ⟨some (i,e.val),by simp,.inr ⟨0,e,by simp,rfl,(h2.1 rfl).symm⟩⟩
  | false =>
   obtain ⟨r,g1,g2⟩:=ih (i+1) (fun x hx=>h x (by simp [hx])) w
   refine ⟨r,by simpa using g1,?_⟩
   rcases g2 with ⟨g2,g3⟩ | ⟨j,x,g2,g3,g4⟩
   ·left
    refine ⟨g2,fun x hx=>?_⟩
    rcases List.mem_cons.1 hx with rfl | hx
    ·intro hh;have:=h2.2 hh.symm;cases this
    exact g3 x hx
   right;exact ⟨j+1,x,by rw [g2];congr 2;omega,g3,g4⟩
theorem FE {kt:Nat} (f1 f2:Field) (hu:eY kt=some (.struct #[f1,f2])) (h1:Tryz.prog.underlying kt=some (.struct (Tryz.prog.fieldsOf kt))) (h2:Tryz.prog.stoodInHeld kt=false) (n1:f1.name ≠ "_") (n2:f2.name ≠ "_") (o1:f1.offset=0) (o2:f2.offset=1) (t1:eY f1.type=some (.int .i64)) (t2:eY f2.type=some (.int .i64)):KeyLaw kt PairKey:=by
 have hf:Tryz.prog.fieldsOf kt=#[f1,f2]:=by
  have:=(bq hu).symm.trans h1
  injection this with this;injection this with this;exact this.symm
 have pt:∀ (cs:Array Value) (f:Field) (v:Value) (w:World),eY f.type=some (.int .i64)→cs[f.offset]?=some v→(part f.type cs f.offset).run Tryz.prog w=.ok v w:=fun cs f v w ht hv=>by
  simp [part,kQ ht,lW,hv]
 have ck:∀ e n t a w,eY t=some (.int .i64)→(Instr.checkKey e (n+1) t (.int .i64 a)).run Tryz.prog w=.ok () w:=fun e n t a w ht=>by simp [Instr.checkKey,run_underlying (bq ht)]
 have eq:∀ v u,PairKey v→PairKey u→∀ w,∃ b,(Op.equal kt v u).run Tryz.prog w=.ok b w∧(b=true↔v=u):=by
  rintro v u ⟨a,b,rfl⟩ ⟨c,d,rfl⟩ w
  refine ⟨(a == c)&&(b == d),?_,?_⟩
  ·show (Op.equalIn (9999+1) kt _ _).run Tryz.prog w=_
   rw [run_equalIn_struct w 9999 kt _ _ h1 h2,hf]
   have e1:=pt #[.int .i64 a,.int .i64 b] f1 (.int .i64 a) w t1 (by rw [o1];rfl)
   have e2:=pt #[.int .i64 c,.int .i64 d] f1 (.int .i64 c) w t1 (by rw [o1];rfl)
   have e3:=pt #[.int .i64 a,.int .i64 b] f2 (.int .i64 b) w t2 (by rw [o2];rfl)
   have e4:=pt #[.int .i64 c,.int .i64 d] f2 (.int .i64 d) w t2 (by rw [o2];rfl)
   have q1:(Op.equalIn 9999 f1.type (.int .i64 a) (.int .i64 c)).run Tryz.prog w=.ok (a == c) w:=run_equalIn_int w 9998 f1.type .i64 .i64 a c (bq t1)
   have q2:(Op.equalIn 9999 f2.type (.int .i64 b) (.int .i64 d)).run Tryz.prog w=.ok (b == d) w:=run_equalIn_int w 9998 f2.type .i64 .i64 b d (bq t2)
   show (Op.eqFields 9999 _ _ [f1,f2]).run Tryz.prog w=_
   simp only [Op.eqFields,if_pos n1,if_pos n2,Sem.run_bind,e1,e2,Result.andThen_ok,q1]
   cases (a == c)
   ·simp
   simp only [Bool.not_true,Bool.false_eq_true,if_false,Sem.run_bind,e3,e4,Result.andThen_ok,q2,if_true]
   cases (b == d) <;> simp
  simp only [Bool.and_eq_true,beq_iff_eq]
  constructor
  ·rintro ⟨rfl,rfl⟩;rfl
  intro h;injection h with h;simp at h;exact h
 refine ⟨?_,?_,?_⟩
 ·rintro v ⟨a,b,rfl⟩ e w
  have e1:=pt #[.int .i64 a,.int .i64 b] f1 (.int .i64 a) w t1 (by rw [o1];rfl)
  have e3:=pt #[.int .i64 a,.int .i64 b] f2 (.int .i64 b) w t2 (by rw [o2];rfl)
  have:∀ n,(Instr.checkKey e (n+1+1) kt (.agg #[.int .i64 a,.int .i64 b])).run Tryz.prog w=.ok () w:=fun n=>by
   rw [Instr.checkKey]
   simp only [Sem.run_bind,run_underlying (bq hu),Result.andThen_ok]
   rw [← Array.forIn_toList]
   simp [List.forIn_cons,n1,n2,e1,e3,ck e n f1.type a w t1,ck e n f2.type b w t2]
  exact this 9998
 ·intro v es hv hes w
  cases es with
  | nil =>
   refine ⟨none,?_,.inl ⟨rfl,fun e h=>by cases h⟩⟩
   simp [Instr.findKey,Instr.findNow,run_underlying (bq hu)]
  | cons e es =>
   obtain ⟨r,g1,g2⟩:=wV eq hv (e::es) 0 hes w
   refine ⟨r,?_,?_⟩
   ·have:Instr.findNow (.struct #[f1,f2]) v (e::es) 0=none:=by
     obtain ⟨a,b,rfl⟩:=hv
     simp [Instr.findNow,Instr.sameNow]
    simp [Instr.findKey,run_underlying (bq hu),this,g1]
   ·rcases g2 with g2 | ⟨j,x,g2,g3⟩
    ·exact .inl g2
    exact .inr ⟨j,x,by rw [g2,Nat.zero_add],g3⟩
 rintro v ⟨a,b,rfl⟩
 have:∀ n,Instr.sameBits (n+1+1) (.agg #[.int .i64 a,.int .i64 b]) (.agg #[.int .i64 a,.int .i64 b])=true:=fun n=>by simp [Instr.sameBits]
 exact this 9998
section
variable {K V:Type} [DecidableEq K]
def kr:List (K×V)→K→Option V
 | [],_=>none
 | (a,v)::r,k=>if a=k then some v else kr r k
def qb:List (K×V)→K→V→List (K×V)
 | [],k,v=>[(k,v)]
 | (a,w)::r,k,v=>if a=k then (k,v)::r else (a,w)::qb r k v
def mpos:List (K×V)→K→Nat
 | [],_=>0
 | (a,_)::r,k=>if a=k then 0 else mpos r k+1
def MND (xs:List (K×V)):Prop:=xs.Pairwise fun a b=>a.1≠b.1
theorem DK {xs:List (K×V)} {k:K} (h:∀ p∈xs,p.1≠k):kr xs k=none:=by
 induction xs with
 | nil=>rfl
 | cons p r ih =>
  obtain ⟨a,v⟩:=p
  unfold kr
  rw [if_neg (h (a,v) (by simp)),ih (fun p hp=>h p (by simp [hp]))]
theorem DL {xs:List (K×V)} {k:K} (h:∀ p∈xs,p.1≠k) (v:V):qb xs k v=xs++[(k,v)]:=by
 induction xs with
 | nil=>rfl
 | cons p r ih =>
  obtain ⟨a,w⟩:=p
  unfold qb
  rw [if_neg (h (a,w) (by simp)),ih (fun p hp=>h p (by simp [hp]))];rfl
theorem CH {xs:List (K×V)} (nd:MND xs) {k:K} {v:V}:∀ {i:Nat},xs[i]?=some (k,v)→kr xs k=some v∧mpos xs k=i∧∀ u,qb xs k u=xs.set i (k,u):=by
 induction xs with
 | nil=>intro i h;simp at h
 | cons p r ih =>
  obtain ⟨a,w⟩:=p
  intro i h
  unfold MND at nd
  rw [List.pairwise_cons] at nd
  cases i with
  | zero =>
   simp only [List.getElem?_cons_zero,eQ,Prod.mk.injEq] at h
   obtain ⟨rfl,rfl⟩:=h
   unfold kr mpos qb
   simp
  | succ i =>
   simp only [List.getElem?_cons_succ] at h
   have hne:a≠k:=nd.1 (k,v) (List.mem_of_getElem? h)
   obtain ⟨h1,h2,h3⟩:=ih nd.2 h
   unfold kr mpos qb
   rw [if_neg hne,if_neg hne]
   refine ⟨h1,by rw [h2],fun u=>?_⟩
   rw [if_neg hne,h3];rfl
def gi (ek:K→Value) (ev:V→PV) (xs:List (K×V)):List (Value×PV):=xs.map fun p=>(ek p.1,ev p.2)
structure KEnc (kt:Nat) (ek:K→Value):Prop where
 law:∃ P,KeyLaw kt P∧∀ a,P (ek a)
 inj:∀ a b,ek a=ek b→a=b
end
section
variable {κ:Kr}
theorem KVs.get:∀ {kvs:List (Value×PV)} {es:List MapEntry} {i:Nat} {e:MapEntry},KVs κ kvs es→es[i]?=some e→∃ p,kvs[i]?=some (e.key,p)∧Rp κ p e.val
 | _,_,0,_,.cons h _,g=>by simp only [List.getElem?_cons_zero,eQ] at g;subst g;exact ⟨_,rfl,h⟩
 | _,_,i+1,_,.cons _ hs,g=>by simp only [List.getElem?_cons_succ] at g ⊢;exact hs.get g
theorem KVs.get':∀ {kvs:List (Value×PV)} {es:List MapEntry} {i:Nat} {k:Value} {p:PV},KVs κ kvs es→kvs[i]?=some (k,p)→∃ e,es[i]?=some e∧e.key=k∧Rp κ p e.val
 | _,_,0,_,_,.cons h _,g=>by simp only [List.getElem?_cons_zero,eQ,Prod.mk.injEq] at g;obtain ⟨rfl,rfl⟩:=g;exact ⟨_,rfl,rfl,h⟩
 | _,_,i+1,_,_,.cons _ hs,g=>by simp only [List.getElem?_cons_succ] at g ⊢;exact hs.get' g
theorem KVs.keys:∀ {kvs:List (Value×PV)} {es:List MapEntry},KVs κ kvs es→kvs.map (·.1)=es.map (·.key)
 | _,_,.nil=>rfl
 | _,_,.cons _ hs=>by simp [hs.keys]
theorem KVs.app:∀ {ps qs:List (Value×PV)} {es fs:List MapEntry},KVs κ ps es→KVs κ qs fs→KVs κ (ps++qs) (es++fs)
 | _,_,_,_,.nil,h=>h
 | _,_,_,_,.cons h hs,g=>.cons h (hs.app g)
theorem KVs.set:∀ {kvs:List (Value×PV)} {es:List MapEntry} {i:Nat} {e e':MapEntry} {p:PV},KVs κ kvs es→es[i]?=some e→e'.key=e.key→Rp κ p e'.val→KVs κ (kvs.set i (e.key,p)) (es.set i e')
 | _,_,0,_,_,_,.cons h hs,g,hk,hp=>by simp only [List.getElem?_cons_zero,eQ] at g;subst g;rw [← hk];exact .cons hp hs
 | _,_,i+1,_,_,_,.cons h hs,g,hk,hp=>by simp only [List.getElem?_cons_succ] at g;exact .cons h (hs.set g hk hp)
theorem Bz {α:Type} {R:α→α→Prop}:∀ {l:List α} {i:Nat} {a a':α},l.Pairwise R→l[i]?=some a→(∀ x,R x a→R x a')→(∀ x,R a x→R a' x)→(l.set i a').Pairwise R
 | _::l,0,a,a',h,g,h1,h2=>by
  simp only [List.getElem?_cons_zero,eQ] at g;subst g
  rw [List.pairwise_cons] at h
  exact List.pairwise_cons.2 ⟨fun x hx=>h2 x (h.1 x hx),h.2⟩
 | b::l,i+1,a,a',h,g,h1,h2=>by
  simp only [List.getElem?_cons_succ] at g
  rw [List.pairwise_cons] at h
  refine List.pairwise_cons.2 ⟨fun x hx=>?_,Bz h.2 g h1 h2⟩
  rcases List.mem_or_eq_of_mem_set hx with hx | rfl
  ·exact h.1 x hx
  exact h1 b (h.1 a (List.mem_of_getElem? g))
theorem MapWf.set {es:List MapEntry} {clock i:Nat} {e e':MapEntry} (h:MapWf es clock) (g:es[i]?=some e) (hk:e'.key=e.key) (hb:e'.born=e.born):MapWf (es.set i e') clock where
 nd:=Bz h.nd g (fun x hx=>by rw [hk];exact hx) (fun x hx=>by rw [hk];exact hx)
 bn:=Bz h.bn g (fun x hx=>by rw [hb];exact hx) (fun x hx=>by rw [hb];exact hx)
 lt:=fun x hx=>by
  rcases List.mem_or_eq_of_mem_set hx with hx | rfl
  ·exact h.lt x hx
  rw [hb];exact h.lt e (List.mem_of_getElem? g)
theorem MapWf.push {es:List MapEntry} {clock:Nat} (h:MapWf es clock) {k v:Value} (hk:∀ e∈es,e.key≠k):MapWf (es++[⟨k,v,clock⟩]) (clock+1) where
 nd:=List.pairwise_append.2 ⟨h.nd,by simp,fun a ha b hb=>by simp at hb;subst hb;exact hk a ha⟩
 bn:=List.pairwise_append.2 ⟨h.bn,by simp,fun a ha b hb=>by simp at hb;subst hb;have:=h.lt a ha;show a.born≠clock;omega⟩
 lt:=fun x hx=>by
  rcases List.mem_append.1 hx with hx | hx
  ·have:=h.lt x hx;omega
  simp at hx;subst hx;show clock<clock+1;omega
end
section
variable {K V:Type} {ek:K→Value} {ev:V→PV} {xs:List (K×V)} {κ:Kr} {es:List MapEntry} {clock kt:Nat}
theorem Ah {i:Nat} {k':Value} {p:PV} (h:(gi ek ev xs)[i]?=some (k',p)):∃ k v,xs[i]?=some (k,v)∧k'=ek k∧p=ev v:=by
 unfold gi at h
 rw [List.getElem?_map] at h
 cases e:xs[i]? with
 | none=>rw [e] at h;cases h
 | some q=>rw [e] at h;simp only [Option.map_some,eQ,Prod.mk.injEq] at h;exact ⟨q.1,q.2,rfl,h.1.symm,h.2.symm⟩
theorem CI (h:KVs κ (gi ek ev xs) es) (hw:MapWf es clock):MND xs:=by
 have h1:(es.map (·.key)).Pairwise (· ≠ ·):=List.pairwise_map.2 hw.nd
 rw [← h.keys,gi,List.map_map,List.pairwise_map] at h1
 exact h1.imp fun hab e=>hab (by simp [e])
theorem BA {P:Value→Prop} (hP:∀ a,P (ek a)) (h:KVs κ (gi ek ev xs) es):∀ e∈es,P e.key:=by
 intro e he
 obtain ⟨i,hi,rfl⟩:=List.getElem_of_mem he
 obtain ⟨p,h1,_⟩:=h.get (List.getElem?_eq_getElem hi)
 obtain ⟨k,v,_,h2,_⟩:=Ah h1
 rw [h2];exact hP k
theorem th (hinj:∀ a b,ek a=ek b→a=b) (h:KVs κ (gi ek ev xs) es) (hw:MapWf es clock) {k:K} {r:Option (Nat×Value)} (hf:Found (ek k) es r):(r=none∧(∀ p∈xs,p.1≠k)∧∀ e∈es,e.key≠ek k)∨∃ i e v,r=some (i,e.val)∧es[i]?=some e∧e.key=ek k∧xs[i]?=some (k,v)∧Rp κ (ev v) e.val:=by
 rcases hf with ⟨h1,h2⟩ | ⟨i,e,h1,h2,h3⟩
 ·left
  refine ⟨h1,fun p hp hpk=>?_,h2⟩
  obtain ⟨i,hi,rfl⟩:=List.getElem_of_mem hp
  have:(gi ek ev xs)[i]?=some (ek k,ev xs[i].2):=by unfold gi;rw [List.getElem?_map,List.getElem?_eq_getElem hi];simp [hpk]
  obtain ⟨e,g1,g2,_⟩:=h.get' this
  exact h2 e (List.mem_of_getElem? g1) g2
 right
 obtain ⟨p,g1,g2⟩:=h.get h2
 obtain ⟨k',v,g3,g4,g5⟩:=Ah g1
 have:k'=k:=hinj _ _ (g4.symm.trans h3)
 subst this
 exact ⟨i,e,v,h1,h2,h3,g3,by rw [← g5];exact g2⟩
end
section
variable {κ:Kr} {σ:Env} {ρ:List Res} {o:Oper} {K:Value→List Res→Kr→Prop}
theorem BB {t:Nat} (ho:o.op=.makeMap t none) (h:∀ b κ',Kle κ κ'→K (.map (some b)) (Res.mp (some b) [] 0::ρ) κ'):OpL o σ ρ κ K:=fun β hi Nx hk=>by
 unfold execOp
 simp only [ho,Option.map_none,Instr.makeMap,Sem.run_bind,run_newObj_alloc,Result.andThen_ok,Sem.run_pure,OutV]
 exact hk _ _ _ (hi.alloc _ (Res.mp (some κ.w.heap.size) [] 0) rfl rfl) (fi hi.fin _) (h _ _ (fi hi.fin _))
end
theorem vG {b clock:Nat} {es:Array MapEntry} {w:World} (hb:w.heap[b]?=some (.map es clock)):(getObj b).run Tryz.prog w=.ok (.map es clock) w:=by simp [getObj,Sem.run,hb]
theorem Ai {b clock:Nat} {es:Array MapEntry} {w:World} (o:Obj) (hb:w.heap[b]?=some (.map es clock)):(setObj b o).run Tryz.prog w=.ok () { w with heap:=w.heap.setIfInBounds b o }:=by simp [setObj,Sem.run,hb]
theorem xC {α:Type} {f:α→α}:∀ {l:List α} {i:Nat} {e:α},l[i]?=some e→l.modify i f=l.set i (f e)
 | _::_,0,_,h=>by simp only [List.getElem?_cons_zero,eQ] at h;subst h;rfl
 | _::l,i+1,_,h=>by simp only [List.getElem?_cons_succ] at h;simp [xC h]
theorem BC {t kt et b clock:Nat} {z v:Value} {sz by':Nat} {P:Value→Prop} (ht:eY t=some (.map kt et)) (hz:gr et=some (z,sz,by')) (L:KeyLaw kt P) (hv:P v) {es:List MapEntry} (hes:∀ e∈es,P e.key) {w:World} (hb:w.heap[b]?=some (.map es.toArray clock)) (c:Bool):∃ r,Found v es r∧(Instr.lookup t (.map (some b)) v c).run Tryz.prog w=.ok (if c then .tuple #[(r.map (·.2)).getD z,.bool r.isSome] else (r.map (·.2)).getD z) w:=by
 obtain ⟨r,h1,h2⟩:=L.find v es hv hes w
 refine ⟨r,h2,?_⟩
 simp only [Instr.lookup,Sem.run_bind,run_underlying (bq ht),Result.andThen_ok,vG hb,Sem.run_pure,L.chk v hv,h1]
 cases r with
 | none=>simp [e7 hz]
 | some q=>simp
theorem vH {t kt et:Nat} {z v:Value} {sz by':Nat} {P:Value→Prop} (ht:eY t=some (.map kt et)) (hz:gr et=some (z,sz,by')) (L:KeyLaw kt P) (hv:P v) {w:World} (c:Bool):(Instr.lookup t (.map none) v c).run Tryz.prog w=.ok (if c then .tuple #[z,.bool false] else z) w:=by
 obtain ⟨r,h1,h2⟩:=L.find v [] hv (fun e h=>by cases h) w
 have hr:r=none:=by
  rcases h2 with h2 | ⟨i,e,_,h2,_⟩
  ·exact h2.1
  simp at h2
 subst hr
 simp [Instr.lookup,run_underlying (bq ht),L.chk v hv,h1,e7 hz]
theorem wW {t kt et b clock:Nat} {v u:Value} {P:Value→Prop} (ht:eY t=some (.map kt et)) (L:KeyLaw kt P) (hv:P v) {es:List MapEntry} (hes:∀ e∈es,P e.key) {w:World} (hb:w.heap[b]?=some (.map es.toArray clock)):∃ r es' clock',Found v es r∧(Instr.mapUpdate t (.map (some b)) v u).run Tryz.prog w=.ok () { w with heap:=w.heap.setIfInBounds b (.map es'.toArray clock') }∧((r=none∧es'=es++[⟨v,u,clock⟩]∧clock'=clock+1)∨∃ i e,es[i]?=some e∧e.key=v∧r=some (i,e.val)∧es'=es.set i ⟨v,u,e.born⟩∧clock'=clock):=by
 obtain ⟨r,h1,h2⟩:=L.find v es hv hes w
 have h2':=h2
 rcases h2 with ⟨rfl,h3⟩ | ⟨i,e,rfl,h3,h4⟩
 ·refine ⟨none,es++[⟨v,u,clock⟩],clock+1,h2',?_,.inl ⟨rfl,rfl,rfl⟩⟩
  simp only [Instr.mapUpdate,Sem.run_bind,run_underlying (bq ht),Result.andThen_ok,vG hb,L.chk v hv,h1,Ai _ hb]
  simp
 refine ⟨some (i,e.val),es.set i ⟨v,u,e.born⟩,clock,h2',?_,.inr ⟨i,e,h3,h4,rfl,rfl,rfl⟩⟩
 have hk:((es.toArray[i]?).map (·.key)).getD v=v:=by simp [h3,h4]
 have hst:(Instr.keyThatStays v v).run Tryz.prog w=.ok v w:=by simp [Instr.keyThatStays,L.same v hv]
 have hm:es.toArray.modify i (fun x=>({ x with key:=v,val:=u }:MapEntry))=(es.set i ⟨v,u,e.born⟩).toArray:=by
  apply Array.ext'
  simp only [Array.toList_modify]
  rw [xC h3]
 simp only [Instr.mapUpdate,Sem.run_bind,run_underlying (bq ht),Result.andThen_ok,vG hb,L.chk v hv,h1,hk,hst,hm,Ai _ hb]
section
variable {K V:Type} [DecidableEq K] {ek:K→Value} {vv:V→PV} {xs:List (K×V)} {κ:Kr} {es:List MapEntry} {clock kt:Nat}
theorem FF {es':List MapEntry} {clock':Nat} {k:K} {v:V} {u:Value} {r:Option (Nat×Value)} (hinj:∀ a b,ek a=ek b→a=b) (hw:MapWf es clock) (h:KVs κ (gi ek vv xs) es) (hf:Found (ek k) es r) (hv:Rp κ (vv v) u)
    (hc:(r=none∧es'=es++[⟨ek k,u,clock⟩]∧clock'=clock+1)∨∃ i e,es[i]?=some e∧e.key=ek k∧r=some (i,e.val)∧es'=es.set i ⟨ek k,u,e.born⟩∧clock'=clock):MapWf es' clock'∧KVs κ (gi ek vv (qb xs k v)) es':=by
  rcases hc with ⟨rfl,rfl,rfl⟩ | ⟨i,e,h1,h2,rfl,rfl,rfl⟩
  · rcases th hinj h hw hf with ⟨_,h3,h4⟩ | ⟨i,e,v,h3,_⟩
    · refine ⟨hw.push h4,?_⟩
      rw [DL h3,gi,List.map_append]
      exact h.app (.cons (e:=⟨ek k,u,clock⟩) hv .nil)
    cases h3
  rcases th hinj h hw hf with ⟨h3,_⟩ | ⟨i',e',v',h3,h4,h5,h6,h7⟩
  · cases h3
  have hi:i'=i:=by injection h3 with h3;injection h3 with h3 _;exact h3.symm
  subst hi
  refine ⟨hw.set h1 h2.symm rfl,?_⟩
  rw [(CH (CI h hw) h6).2.2 v,gi,List.map_set]
  have:=h.set h1 (e':=⟨ek k,u,e.born⟩) h2.symm hv
  rw [h2] at this
  exact this
theorem FG {k:K} {z0:V} {z:Value} {r:Option (Nat×Value)} (hinj:∀ a b,ek a=ek b→a=b) (hw:MapWf es clock) (h:KVs κ (gi ek vv xs) es) (hf:Found (ek k) es r) (hz:Rp κ (vv z0) z):Rp κ (vv ((kr xs k).getD z0)) ((r.map (·.2)).getD z)∧r.isSome=(kr xs k).isSome:=by
 rcases th hinj h hw hf with ⟨rfl,h3,h4⟩ | ⟨i,e,v,rfl,h4,h5,h6,h7⟩
 ·rw [DK h3];exact ⟨hz,rfl⟩
 rw [(CH (CI h hw) h6).1];exact ⟨h7,rfl⟩
end
theorem tT {w:World} {b i:Nat} {o:Obj} (h:i≠b):({ w with heap:=w.heap.setIfInBounds b o }:World).heap[i]?=w.heap[i]?:=by
 show (w.heap.setIfInBounds b o)[i]?=_
 rw [Array.getElem?_setIfInBounds_ne (fun e=>h e.symm)]
theorem tU {w:World} {b:Nat} {o o':Obj} (h:w.heap[b]?=some o'):({ w with heap:=w.heap.setIfInBounds b o }:World).heap[b]?=some o:=by
 show (w.heap.setIfInBounds b o)[b]?=_
 have:b<w.heap.size:=by
  rcases Nat.lt_or_ge b w.heap.size with h1 | h1
  ·exact h1
  rw [Array.getElem?_eq_none h1] at h;cases h
 rw [Array.getElem?_setIfInBounds_self_of_lt this]
theorem Zp.mapTurn {β:Base} {l1 l2:List Res} {κ:Kr} {b clock clock':Nat} {es es':List MapEntry} (h:Zp β (l1++Res.mp (some b) es clock::l2) κ):Zp β (l1++Res.mp (some b) es' clock'::l2) ⟨{ κ.w with heap:=κ.w.heap.setIfInBounds b (.map es'.toArray clock') },κ.S⟩∧Kle κ ⟨{ κ.w with heap:=κ.w.heap.setIfInBounds b (.map es'.toArray clock') },κ.S⟩:=by
 have hb:κ.w.heap[b]?=some (.map es.toArray clock):=h.own (Res.mp (some b) es clock) (by simp)
 exact h.turn (r:=Res.mp (some b) es clock) (r':=Res.mp (some b) es' clock') (b:=b) rfl rfl rfl (fun i hi=>tT hi) (by simp) (tU hb) rfl rfl rfl (Nat.le_refl _)
section
variable {K V:Type} [DecidableEq K] {ek:K→Value} {vv:V→PV} {xs:List (K×V)} {o:Oper} {σ:PEnv} {ρ ρ':List PRes} {c:Bool} {x y y2:Operand} {t kt et:Nat} {KK:PV→List PRes→Prop} {k:K} {v z0:V} {z:Value} {sz by' b:Nat} {pk:PV} {mo:Option Nat}
theorem BD (ho:o.op=.makeMap t none) (h:∀ b,KK (.v (.map (some b))) (.mp (some b) []::ρ)):POpL o σ ρ KK:=fun κ σ' ρ' g hs hr =>
 BB ho fun b κ' hk=>⟨_,_,.v rfl,.cons (.mp (fun h=>by cases h) ⟨.nil,.nil,fun e h=>by cases h⟩ .nil) (hr.mono hk),h b⟩
def MapIs (ρ:List PRes) (mo:Option Nat) (kvs:List (Value×PV)):Prop:=∀ κ rs,RRels κ ρ rs→∃ es clock,Res.mp mo es clock∈rs∧(mo=none→es=[])∧MapWf es clock∧KVs κ kvs es
theorem Aj {kvs:List (Value×PV)} (h:PRes.mp mo kvs∈ρ):MapIs ρ mo kvs:=fun κ rs hr=>by
 obtain ⟨r,h1,h2⟩:=hr.mem h
 cases h2 with
 | mp hn hw hk=>exact ⟨_,_,h1,hn,hw,hk⟩
theorem BE {es:List MapEntry} {clock:Nat} (hw:MapWf es clock) {u:Value} {r r':Option (Nat×Value)} (h:Found u es r) (h':Found u es r'):r=r':=by
 rcases h with ⟨rfl,h1⟩ | ⟨i,e,rfl,h1,h2⟩ <;> rcases h' with ⟨rfl,h3⟩ | ⟨j,f,rfl,h3,h4⟩
 ·rfl
 ·exact absurd h4 (h1 f (List.mem_of_getElem? h3))
 ·exact absurd h2 (h3 e (List.mem_of_getElem? h1))
 have hij:i=j:=by
  obtain ⟨li,ei⟩:=List.getElem?_eq_some_iff.1 h1
  obtain ⟨lj,ej⟩:=List.getElem?_eq_some_iff.1 h3
  have pw:=List.pairwise_iff_getElem.1 hw.nd
  rcases Nat.lt_trichotomy i j with h | h | h
  ·exact absurd (by rw [ei,ej,h2,h4]) (pw i j li lj h)
  ·exact h
  exact absurd (by rw [ei,ej,h2,h4]) (pw j i lj li h)
 subst hij
 rw [h1] at h3;injection h3 with h3;rw [h3]
theorem look_q (cm:Bool) (ho:o.op=.lookup t x y cm) (ht:eY t=some (.map kt et)) (hz:gr et=some (z,sz,by')) (hzp:∀ κ,Rp κ (vv z0) z) (L:KEnc kt ek) (hx:PEv σ c x (.v (.map mo))) (hy:PEv σ c y pk) (hk:∀ κ u,Rp κ pk u→u=ek k) (hm:MapIs ρ mo (gi ek vv xs)) {κ:Kr} {σ':Env} {ρ':List Res} (hs:Sim κ σ σ') (hr:RRels κ ρ ρ'):c=true→∃ u,Rp κ (vv ((kr xs k).getD z0)) u∧∀ w,Stab ρ' κ w→(execOp (SX.ev σ') o).run Tryz.prog w=.ok (.value (if cm then .tuple #[u,.bool (kr xs k).isSome] else u)) w:=by
 intro hc
 obtain ⟨P,hL,hP⟩:=L.law
 have e1:SX.ev σ' x=.map mo:=hs.ve hx hc
 have e2:SX.ev σ' y=ek k:=hk κ _ (hs.pe hy hc)
 obtain ⟨es,clock,h1,hn,h2,h3⟩:=hm κ ρ' hr
 obtain ⟨r,g1,g2⟩:=hL.find (ek k) es (hP k) (BA hP h3) κ.w
 obtain ⟨l1,l2⟩:=FG L.inj h2 h3 g2 (hzp κ)
 refine ⟨_,l1,fun w hw=>?_⟩
 cases mo with
 | none =>
  have:=hn rfl;subst this
  have hr0:r=none:=by
   rcases g2 with g2 | ⟨i,e,_,g2,_⟩
   ·exact g2.1
   simp at g2
  subst hr0
  rw [← l2]
  simp only [execOp,ho,e1,e2,Sem.run_bind,vH ht hz hL (hP k) cm,Result.andThen_ok,Sem.run_pure]
  rfl
 | some b =>
  have hb:w.heap[b]?=some (.map es.toArray clock):=hw.own _ h1
  obtain ⟨r',f1,f2⟩:=BC ht hz hL (hP k) (BA hP h3) hb cm
  have:=BE h2 f1 g2;subst this
  rw [← l2]
  simp only [execOp,ho,e1,e2,Sem.run_bind,f2,Result.andThen_ok,Sem.run_pure]
theorem xD (ho:o.op=.lookup t x y false) (ht:eY t=some (.map kt et)) (hz:gr et=some (z,sz,by')) (hzp:∀ κ,Rp κ (vv z0) z) (L:KEnc kt ek) (hx:PEv σ c x (.v (.map mo))) (hy:PEv σ c y pk) (hk:∀ κ u,Rp κ pk u→u=ek k) (hm:MapIs ρ mo (gi ek vv xs)):POpQ c o σ ρ (vv ((kr xs k).getD z0)):=fun κ σ' ρ' g hs hr=>by
 cases c with
 | false=>exact Bl
 | true =>
  obtain ⟨u,h1,h2⟩:=look_q false ho ht hz hzp L hx hy hk hm hs hr rfl
  exact ⟨u,fun _=>h1,fun _ w hw=>h2 w hw⟩
theorem sq (ho:o.op=.mapUpdate t x y y2) (ht:eY t=some (.map kt et)) (L:KEnc kt ek) (hx:bz σ x=.v (.map (some b))) (hy:bz σ y=pk) (hk:∀ κ u,Rp κ pk u→u=ek k) (hv:bz σ y2=vv v) (hu:PUpd ρ (.mp (some b) (gi ek vv xs)) (.mp (some b) (gi ek vv (qb xs k v))) ρ') (h:KK (.v undef) ρ'):POpL o σ ρ KK:=fun κ σ' rr g hs hr=>by
 obtain ⟨P,hL,hP⟩:=L.law
 obtain ⟨r0,l1,l2,rfl,h4,h5⟩:=hr.upd hu
 cases h4 with
 | mp hn hw hkv =>
  rename_i es clock
  intro β hi Nx hnx
  have hb:κ.w.heap[b]?=some (.map es.toArray clock):=hi.own (Res.mp (some b) es clock) (by simp)
  have e1:SX.ev σ' x=.map (some b):=hs.v1 hx
  have e2:SX.ev σ' y=ek k:=hk κ _ (by have:=hs.ev y;rwa [hy] at this)
  have rv:Rp κ (vv v) (SX.ev σ' y2):=by have:=hs.ev y2;rwa [hv] at this
  obtain ⟨r,es',clock',f1,f2,f3⟩:=wW (u:=SX.ev σ' y2) ht hL (hP k) (BA hP hkv) hb
  obtain ⟨w1,w2⟩:=FF (v:=v) L.inj hw hkv f1 rv f3
  obtain ⟨i1,i2⟩:=hi.mapTurn (es':=es') (clock':=clock')
  simp only [execOp,ho,e1,e2,Sem.run_bind,f2,Result.andThen_ok,Sem.run_pure,OutV]
  exact hnx _ _ _ i1 i2 ⟨.v undef,ρ',.v rfl,h5 _ _ i2 (.mp (fun h=>by cases h) w1 (w2.mono i2)),h⟩
end
def kP (a b:Int):Value:=.agg #[.int .i64 a,.int .i64 b]
def vT (a:Bool):PV:=.v (.bool a)
theorem yL {a b:Int}:∀ (κ:Kr) (u:Value),Rp κ (.agg [.v (.int .i64 a),.v (.int .i64 b)]) u→u=kP a b:=fun κ u h=>by
 cases h with
 | agg ho hc =>
  have:=uK (xs:=[.int .i64 a,.int .i64 b]) rfl hc
  rw [this];rfl
theorem tV {K V:Type} {o:Oper} {σ:PEnv} {ρ:List PRes} {t:Nat} {KK:PV→List PRes→Prop} (ek:K→Value) (vv:V→PV) (ho:o.op=.makeMap t none) (h:∀ b,KK (.v (.map (some b))) (.mp (some b) (gi ek vv [])::ρ)):POpL o σ ρ KK:=BD ho h
theorem wl_gT {β:Base} {n:Nat} {ops:Array Oper} {o:Oper} {rest:List Oper} {K:Post} {σ:Env} {ρ:List Res} {κ:Kr} {d:Nat} (hg:GuardIs ops σ o true) (hd':o.dst=some d) (hlt:Nat.blt d n=true) (h:OpL o σ ρ κ fun v ρ' κ'=>WL β n ops rest K (upd σ d v) ρ' κ'):WL β n ops (o::rest) K σ ρ κ:=fun hi a hr Q hk=>by
 simp only [← fH hd'] at h
 have hd:=gK hd' hlt
 unfold wpList
 rw [jQ hr,hg]
 exact .inl (kO hr.eval (h β hi (fun v w=>wpList Tryz.prog ops Q rest (a.put o.dst v) w) fun v ρ' κ' hi' hle hw=>hw hi' _ (hr.put hd v) Q fun a' σ' ρ'' κ'' h1 h2 h3 h4=>hk a' σ' ρ'' κ'' h1 h2 (hle.trans h3) h4) fun _ _ h=>h)
section
variable {n:Nat} {ops:Array Oper} {o:Oper} {rest:List Oper} {K:PPost} {σ:PEnv} {ρ:List PRes} {d:Nat}
theorem pwl_gT (hg:PGuardIs ops σ o true) (hd:o.dst=some d) (hlt:Nat.blt d n=true) (h:POpL o σ ρ fun p ρ'=>PWL n ops rest K (gh σ d p) ρ'):PWL n ops (o::rest) K σ ρ:=fun β κ σ' ρ' g hs hr =>
 wl_gT (hg κ σ' hs) hd hlt ((h κ σ' ρ' g hs hr).mono fun v ρ1 κ1 hk ⟨pv,ρp,h1,h2,h3⟩=>h3 β κ1 _ _ (g.mono hk) ((hs.mono hk).upd h1) h2)
theorem pwl_gF {p:PV} (hg:PGuardIs ops σ o false) (hd:o.dst=some d) (hlt:Nat.blt d n=true) (h:PWL n ops rest K (gh σ d (pgv false p)) ρ):PWL n ops (o::rest) K σ ρ :=
 vl (p:=p) hg hd hlt (fun κ σ' ρ' g hs hr=>Bl) h
theorem FH {ρ':List PRes} (hp:ρ.Perm ρ') (h:PWL n ops rest K σ ρ'):PWL n ops rest K σ ρ:=fun β κ σ' r g hs hr=>by
 obtain ⟨rs',h1,h2⟩:=hr.perm hp
 exact fun hi=>h β κ σ' rs' g hs h2 (hi.perm h1)
theorem rE {c:Bool} {f:Nat} {ags:List Operand} {ts:Array Nat} {pargs:List PV} {r:PV} {r0 r1:PRes} {l0:List PRes} (hg:PGuardIs ops σ o c) (hd:o.dst=some d) (hlt:Nat.blt d n=true) (ho:o.op=.call { callee:=.value (.func f),args:=ags.toArray,argTypes:=ts }) (hp:PPick ρ r0 l0) (ha:c=true→ags.map (bz σ)=pargs) (hc:c=true→PCall f pargs [r0] (fun pv ρ'=>pv=r∧ρ'=[r1])) (hn:c=false→r1=r0) (hw:PWL n ops rest K (gh σ d (pgv c r)) (r1::l0)):PWL n ops (o::rest) K σ ρ:=by
 cases c with
 | true =>
  refine pwl_gT hg hd hlt (bh ho (ha rfl) (ρ1:=[r0]) (ρ2:=l0) hp (hc rfl) ?_)
  rintro _ _ ⟨rfl,rfl⟩
  rw [mT] at hw;exact hw
 | false =>
  have:=hn rfl;subst this
  exact pwl_gF (p:=r) hg hd hlt (FH hp hw)
end
def gdp {α β:Type} [Inhabited α] (c:Bool) (x:Option (α×β)) (m:β):Option (α×β):=cond c x (some (default,m))
theorem gdp_t {α β:Type} [Inhabited α] {c:Bool} {x:Option (α×β)} {m:β} {v:α×β} (h:gdp c x m=some v) (hc:c=true):x=some v:=by subst hc;exact h
theorem gdp_f {α β:Type} [Inhabited α] {c:Bool} {x:Option (α×β)} {m:β} {v:α×β} (h:gdp c x m=some v) (hc:c=false):v.2=m:=by subst hc;simp only [gdp,bv,eQ] at h;rw [← h]
def DM (by':Nat) (n:Int):Option Unit:=if 0≤n∧by'*n.toNat≤140737488355328∧n.toNat≤140737488355328 then some () else none
theorem BF {o:Oper} {σ:Env} {x:Operand} {t E sz by' n:Nat} {z:Value} {zs:List Value} (hg:o.guard=none) (ho:o.op=.makeSlice t (.const (.int .i64 0)) x) (hx:ev σ x=.int .i64 (n:Int)) (hu:eY t=some (.slice E)) (hi:gr E=some (z,sz,by')) (hz:bS z=zs) (hzl:zs.length=sz) (h0:Nat.blt 0 sz=true) (hb:by'*n≤140737488355328∧n≤140737488355328):LateRun o σ E (List.replicate n zs).flatten (fun b=>.slice (some ⟨b,0,none⟩) 0 n) :=
 ⟨hg,fun w=>by
  obtain ⟨i,hinf,hz0,hsz,hby⟩:=qO hi
  have hr:=run_make (P:=Tryz.prog) w t E i z (bq hu) hinf hz0 .i64 .i64 0 n (by omega) (by omega) (by rw [hby];have:=hb.1;omega) (by omega)
  simp only [Int.toNat_natCast,Int.toNat_zero] at hr
  have hcs:z.cells=zs.toArray:=by rw [← hz,← iE]
  have hsz':z.cells.size=sz:=by rw [hcs];simpa using hzl
  have h0':0<z.cells.size:=by rw [hsz'];have h:=h0;simp [Nat.blt] at h;omega
  rw [hsz,← hsz',Cu h0',hcs] at hr
  have e0:ev σ (.const (.int .i64 0))=.int .i64 0:=rfl
  simp only [execOp,ho,hx,e0,Sem.run_bind,hr,Result.andThen_ok,Sem.run_pure]⟩
theorem DN {b T sz m:Nat} {cs:List Value} (hl:cs.length=m*sz) (hm:m≤140737488355328):∀ o,(Res.b b T cs).says o→(Res.row (some ⟨b,0,none⟩) 0 m T sz []).says o:=fun o h=>by
 have ho:o=some (.cells cs.toArray T (0,0)):=h
 exact ⟨rfl,rfl,fun _ h=>(by cases h),Nat.zero_le _,by unfold maxLen;omega,cs.toArray,ho,by simpa using hl,by simp⟩
theorem FI {o:Oper} {σ:PEnv} {ρ:List PRes} {x:Operand} {t T sz by':Nat} {K:PV→List PRes→Prop} {z:Value} {n:Int} {u:Unit} (hg:o.guard=none) (ho:o.op=.makeSlice t (.const (.int .i64 0)) x) (hx:bz σ x=.v (.int .i64 n)) (hu:eY t=some (.slice T)) (hi:gr T=some (z,sz,by')) (hzl:Nat.beq (bS z).length sz=true) (h0:Nat.blt 0 sz=true) (hm:DM by' n=some u)
    (h:∀ b,K (.v (.slice (some ⟨b,0,none⟩) 0 n.toNat)) (.row (some ⟨b,0,none⟩) 0 n.toNat T sz []::ρ)):POpL o σ ρ K:=fun κ σ' ρ' g hs hr=>by
  unfold DM at hm
  split at hm
  · rename_i hb
    obtain ⟨h1,h2,h3⟩:=hb
    have hn:n=((n.toNat:Nat):Int):=by omega
    have hlr:=BF (o:=o) (σ:=σ') (n:=n.toNat) hg ho (by rw [hs.v1 hx,← hn]) hu hi rfl (Nat.eq_of_beq_eq_true hzl) h0 ⟨h2,h3⟩
    intro β hinv Nx hk
    refine Cv hlr (K:=fun v ρ1 κ1=>∃ b,v=.slice (some ⟨b,0,none⟩) 0 n.toNat∧ρ1=Res.b b T (List.replicate n.toNat (bS z)).flatten::ρ'∧Kle κ κ1) (fun b κ' hk=>⟨b,rfl,rfl,hk⟩) β hinv Nx fun v ρ1 κ1 g1 g2 g3=>?_
    obtain ⟨b,rfl,rfl,h4⟩:=g3
    have hlen:(List.replicate n.toNat (bS z)).flatten.length=n.toNat * sz:=by simp [Nat.eq_of_beq_eq_true hzl]
    have hv:=g1.view (r':=Res.row (some ⟨b,0,none⟩) 0 n.toNat T sz []) Pick.h rfl (DN hlen h3)
    exact hk _ _ κ1 hv g2 ⟨_,_,.v rfl,.cons (.row (by omega) (fun _ h=>by cases h) .nil) (hr.mono h4),h b⟩
  cases hm
theorem FJ {a:Option Addr} {n c T sz k:Nat} {css:List (List Value)} (hk:k≤n):∀ o,(Res.row a n c T sz css).says o→(Res.row a k c T sz (css.take k)).says o:=fun o h=>by
 cases a with
 | none=>obtain ⟨rfl,rfl,rfl⟩:=h;exact ⟨by omega,rfl,by simp⟩
 | some ad =>
  obtain ⟨h1,h2,h3,h4,h5,cur,h6,h7,h8⟩:=h
  refine ⟨h1,by rw [List.length_take];omega,fun cs hcs=>h3 cs (List.mem_of_mem_take hcs),by omega,h5,cur,h6,h7,?_⟩
  have hle:k*sz≤n*sz:=Nat.mul_le_mul_right _ hk
  have e:cur.toList.take (k*sz)=(css.flatten).take (k*sz):=by rw [← h8,List.take_take,Nat.min_eq_left hle]
  rw [e]
  have hw:∀ cs∈css.take k,cs.length=sz:=fun cs hcs=>h3 cs (List.mem_of_mem_take hcs)
  have hl:((css.take k).flatten).length=k*sz:=by rw [fc hw,List.length_take];congr 1;omega
  have hsplit:css.flatten=(css.take k).flatten++(css.drop k).flatten:=by rw [← List.flatten_append,List.take_append_drop]
  rw [hsplit,List.take_append_of_le_length (by omega),List.take_of_length_le (by omega)]
theorem row_blk {a:Option Addr} {n c T sz k:Nat} {css dss:List (List Value)}:(Res.row a k c T sz dss).blk=(Res.row a n c T sz css).blk:=by cases a <;> rfl
theorem xE {o:Oper} {σ:PEnv} {ρ l:List PRes} {x y:Operand} {t T T2 sz by' n c:Nat} {a:Option Addr} {kd:IntKind} {i:Int} {z:Value} {K:PV→List PRes→Prop} {α:Type} {enc:α→List PV} {xs zs:List α} (ho:o.op=.slice t x none (some y) none) (hu:eY t=some (.slice T)) (hi:gr T=some (z,sz,by')) (hx:bz σ x=.v (.slice a n c)) (hy:bz σ y=.v (.int kd i)) (hp:PPick ρ (.row a n c T2 sz (xs.map enc)) l) (hm:sub xs 0 i=some zs) (h:K (.v (.slice a zs.length c)) (.row a zs.length c T2 sz (zs.map enc)::l)):POpL o σ ρ K:=fun κ σ' ρ' g hs hr β hinv Nx hk=>by
 obtain ⟨⟨h0,h1,h2⟩,hz⟩:=ir hm
 have hz:zs=xs.take i.toNat:=by rw [hz];rfl
 obtain ⟨r,l',k1,k2,k3⟩:=hr.pick hp
 cases k2 with
 | row hb ho1 hc =>
  rename_i dss
  have hi2:=hinv.perm k1
  have hown:=im (hi2.own (Res.row a n c T2 sz dss) (by simp))
  have hl:xs.length=n:=by have e:=hc.len;rw [List.length_map] at e;omega
  have hcap:n≤c:=by
   have hh:=hi2.own (Res.row a n c T2 sz dss) (by simp)
   cases a with
   | none=>obtain ⟨e1,e2,_⟩:=hh;omega
   | some ad=>exact hh.2.2.2.1
  have hq:OpQ true o σ' ρ' κ (.slice a i.toNat c):=rx (c:=true) (k:=i.toNat) ho hu hi (.p (hs.v1 hx)) (.p (hs.v1 hy)) (fun _=>by omega) (fun _=>by omega)
  have hzl:zs.length=i.toNat:=by rw [hz,List.length_take];omega
  have hv:=hinv.view (r':=Res.row a i.toNat c T2 sz (dss.take i.toNat)) k1 row_blk (FJ (by omega))
  rw [hq rfl κ.w hinv.stab]
  refine hk _ (Res.row a i.toNat c T2 sz (dss.take i.toNat)::l') κ hv (.refl _) ⟨.v (.slice a zs.length c),.row a zs.length c T2 sz (zs.map enc)::l,by rw [hzl];exact .v rfl,.cons ?_ k3,h⟩
  rw [hzl]
  refine .row (by omega) (fun d hd=>ho1 d (List.mem_of_mem_take hd)) ?_
  rw [hz,List.map_take]
  exact hc.take _
abbrev pQ (a:Option Addr) (n c k sz:Nat):PV:=.v (.slice (if c=k then a else a.map (·.add (k*sz))) (n - k) (c - k))
section
variable {o:Oper} {σ:PEnv} {ρ ρ':List PRes} {x y:Operand} {t T T2 sz by' n c:Nat} {a:Option Addr} {kd:IntKind} {i j:Int} {z:Value} {α:Type} {enc:α→List PV} {xs zs:List α} {m:α} {K:PV→List PRes→Prop}
theorem oP (ho:o.op=.slice t x (some y) none none) (hu:eY t=some (.slice T)) (hi:gr T=some (z,sz,by')) (hx:bz σ x=.v (.slice a n c)) (hy:bz σ y=.v (.int kd i)) (hm2:PRes.row a n c T2 sz (xs.map enc)∈ρ) (hm:sub xs i (xs.length:Int)=some zs):POpQ true o σ ρ (pQ a n c i.toNat sz):=fun κ σ' ρ' g hs hrr=>by
 obtain ⟨⟨h0,h1,h2⟩,_⟩:=ir hm
 refine ⟨_,fun _=>.v rfl,fun _ w hst=>?_⟩
 obtain ⟨r,hr1,hr2⟩:=hrr.mem hm2
 cases hr2 with
 | row hb ho1 hc =>
  have hl:xs.length=n:=by have e1:=(im (hst.own _ hr1)).2.1;have e2:=hc.len;rw [List.length_map] at e2;omega
  exact vk (c:=true) (ρ:=ρ') (κ:=κ) (k:=i.toNat) ho hu hi (.p (hs.v1 hx)) (.p (hs.v1 hy)) (fun _=>by omega) (fun _=>by omega) rfl w hst
theorem CJ {B k sz c n:Nat} (h:k<n) (hc:n≤c):(if c=k then some (⟨B,0,none⟩:Addr) else (some (⟨B,0,none⟩:Addr)).map (·.add (k*sz)))=some ⟨B,k*sz,none⟩:=by
 rw [if_neg (by omega)]
 simp only [Option.map_some,Addr.add,eQ]
 split
 ·rename_i e;rw [e]
 simp
theorem CK {a:Option Addr} {n c T sz:Nat} {css:List (List Value)} {w:World} (h:(Res.row a n c T sz css).holds w):n≤c:=by
 cases a with
 | none=>obtain ⟨e1,e2,_⟩:=h;omega
 | some ad=>exact h.2.2.2.1
theorem kW (ho:o.op=.indexAddr t x y) (hu:eY t=some (.slice T)) (hi:gr T=some (z,sz,by')) (hx:bz σ x=pQ a n c i.toNat sz) (hy:bz σ y=.v (.int kd j)) (hi0:0≤i) (hj:0≤j) (hm2:PRes.row a n c T2 sz (xs.map enc)∈ρ) (hm:idx xs (i+j)=some m):POpQ true o σ ρ (.v (.pointer (some ⟨rC a,(i+j).toNat * sz,none⟩))):=fun κ σ' ρ' g hs hrr=>by
 refine ⟨_,fun _=>.v rfl,fun _ w hst=>?_⟩
 obtain ⟨h0,hmm⟩:=lD hm
 have hlt:=(List.getElem?_eq_some_iff.1 hmm).1
 obtain ⟨r,hr1,hr2⟩:=hrr.mem hm2
 cases hr2 with
 | row hb ho1 hc2 =>
  have hw:=hst.own _ hr1
  have hn:xs.length=n:=by have e1:=(im hw).2.1;have e2:=hc2.len;rw [List.length_map] at e2;omega
  have ha:=n5 hw (by omega)
  have hcap:=CK hw
  have e1:ev σ' x=.slice (some ⟨rC a,i.toNat * sz,none⟩) (n - i.toNat) (c - i.toNat):=by
   rw [hs.v1 hx]
   generalize rC a=B at ha ⊢
   subst ha
   rw [CJ (n:=n) (by omega) hcap]
  have h:=sc (c:=true) (ρ:=ρ') (κ:=κ) (j:=j.toNat) ho hu hi (fun _=>e1) (fun _=>hs.v1 hy) (fun _=>by omega) (fun _=>by omega) rfl w hst
  have e:i.toNat * sz+j.toNat * sz=(i+j).toNat * sz:=by rw [← Nat.add_mul];congr 1;omega
  rwa [e] at h
theorem zc_flat {z:Value} {sz m:Nat} (h0:0<sz) (hz:(bS z).length=sz):(Builtin.zeroCells z.cells m).toList=(List.replicate m (bS z)).flatten:=by
 have hsz:z.cells.size=sz:=by rw [← hz,← iE];simp
 have:=Cu (z:=z.cells) (n:=m) (by omega)
 show (madeCells z.cells (m*z.cells.size)).toList=_
 rw [this,iE]
theorem xF {z0:α} (ho:o.op=.call { callee:=.builtin .clear,args:=#[x],argTypes:=#[t] }) (hu:eY t=some (.slice T)) (hi:gr T=some (z,sz,by')) (hx:bz σ x=pQ a n c i.toNat sz) (hm:sub xs i (xs.length:Int)=some zs) (hzc:enc z0=Bo z) (hz1:(bS z).all Value.oneCell'=true) (hzl:Nat.beq (bS z).length sz=true) (h0:Nat.blt 0 sz=true) (hp:PUpd ρ (.row a n c T2 sz (xs.map enc)) (.row a n c T2 sz ((xs.take i.toNat++List.replicate (n - i.toNat) z0).map enc)) ρ') (h:K (.tup []) ρ'):POpL o σ ρ K:=fun κ σ' rr g hs hr β hinv Nx hkk=>by
 obtain ⟨⟨hi0,hi1,hi2⟩,_⟩:=ir hm
 generalize hkk':i.toNat=k at *
 have hsz0:0<sz:=by have:=h0;simp [Nat.blt] at this;omega
 have hzlen:=Nat.eq_of_beq_eq_true hzl
 have hr0:=hr
 obtain ⟨r0,l1,l2,rfl,h4,h5⟩:=hr.upd hp
 cases h4 with
 | row hb ho1 hc =>
  rename_i dss
  have hw:=hinv.own (Res.row a n c T2 sz dss) (by simp)
  have hdl:dss.length=n:=(im hw).2.1
  have hdw:=(im hw).2.2
  have hxl:xs.length=n:=by have e:=hc.len;rw [List.length_map] at e;omega
  have hcap:=CK hw
  have e1:ev σ' x=_:=hs.v1 hx
  have hun:=run_underlying (w:=κ.w) (bq hu)
  have fin:∀ κ',Kle κ κ'→RRel κ' (.row a n c T2 sz ((xs.take k++List.replicate (n - k) z0).map enc)) (Res.row a n c T2 sz (dss.take k++List.replicate (n - k) (bS z))):=fun κ' hk'=>by
   refine .row hb (fun d hd=>?_) ?_
   ·rcases List.mem_append.1 hd with hd | hd
    ·exact ho1 d (List.mem_of_mem_take hd)
    rw [(List.mem_replicate.1 hd).2];exact fun u hu=>List.all_eq_true.1 hz1 u hu
   rw [List.map_append,List.map_take,List.map_replicate]
   refine ((hc.take k).app ?_).mono hk'
   rw [hzc]
   generalize n - k=q
   induction q with
   | zero=>exact .nil
   | succ q ih=>rw [List.replicate_succ,List.replicate_succ];exact .cons (kT _) ih
  rcases Nat.eq_zero_or_pos (n - k) with hz | hz
  ·have hkn:k=n:=by omega
   have hrun:(execOp (ev σ') o).run Tryz.prog κ.w=.ok (.value (.tuple #[])) κ.w:=by
    rw [show n - k=0 from hz] at e1
    unfold execOp
    simp only [ho,resolve,Sem.run_bind,Sem.run_pure,Result.andThen_ok,invoke,builtin,List.map_toArray,Array.map,e1]
    generalize (if c=k then a else a.map (·.add (k*sz)))=q at e1
    cases q <;> simp [Builtin.clear_,hun,e1]
   rw [hrun]
   have e2:dss.take k++List.replicate (n - k) (bS z)=dss:=by rw [hz,hkn,← hdl];simp
   have:=fin κ (.refl _)
   rw [e2] at this
   exact hkk _ _ κ hinv (.refl _) ⟨.tup [],ρ',.tup (ws:=[]) .nil,h5 κ _ (.refl _) this,h⟩
  have ha:=n5 hw (by omega)
  generalize rC a=B at ha
  subst ha
  rw [CJ (n:=n) (by omega) hcap] at e1
  obtain ⟨g0,g1,g2,g3,g4,cur,g5,g6,g7⟩:=hw
  have hbk:κ.w.heap[B]?=some (.cells cur.toList.toArray T2 (0,0)):=by simpa using g5
  have hfl:((List.replicate (n - k) (bS z)).flatten).length=(n - k)*sz:=by simp [hzlen]
  have hmul:k*sz+(n - k)*sz=n*sz:=by rw [← Nat.add_mul];congr 1;omega
  have hnc:n*sz≤c*sz:=Nat.mul_le_mul_right _ g3
  have hone:((List.replicate (n - k) (bS z)).flatten).all Value.oneCell'=true:=by
   rw [List.all_eq_true];intro u hu
   obtain ⟨d,hd,hu⟩:=List.mem_flatten.1 hu
   rw [(List.mem_replicate.1 hd).2] at hu
   exact List.all_eq_true.1 hz1 u hu
  obtain ⟨w',hrun,q1,q2,q3,q4,q5,q6⟩:=nH (off:=k*sz) (vs:=(List.replicate (n - k) (bS z)).flatten) hbk (by simp only [Array.length_toList,g6,hfl];omega) hone
  have hzc2:=zc_flat (z:=z) (m:=n - k) hsz0 hzlen
  have hrun2:(execOp (ev σ') o).run Tryz.prog κ.w=.ok (.value (.tuple #[])) w':=by
   obtain ⟨q,hq⟩:∃ q,n - k=q+1:=⟨n - k - 1,by omega⟩
   rw [hq] at e1 hrun hzc2
   unfold execOp
   simp only [ho,resolve,Sem.run_bind,Sem.run_pure,Result.andThen_ok,invoke,builtin,List.map_toArray,Array.map,e1]
   simp [Builtin.clear_,hun,e1,e7 hi,hzc2,hrun]
  rw [hrun2]
  have hsays:(Res.row (some ⟨B,0,none⟩) n c T2 sz (dss.take k++List.replicate (n - k) (bS z))).says w'.heap[B]?:=by
   refine ⟨rfl,by simp [List.length_take];omega,fun d hd=>?_,g3,g4,_,q3,?_,?_⟩
   ·rcases List.mem_append.1 hd with hd | hd
    ·exact g2 d (List.mem_of_mem_take hd)
    rw [(List.mem_replicate.1 hd).2];exact hzlen
   ·simp only [List.size_toArray,List.length_append,List.length_take,List.length_drop,Array.length_toList,g6,hfl];omega
   have hA:(List.take (k*sz) cur.toList).length=k*sz:=by rw [List.length_take,Array.length_toList,g6];omega
   rw [List.toList_toArray,List.take_left' (by rw [List.length_append,hA,hfl];exact hmul)]
   rw [List.flatten_append]
   congr 1
   have hw2:∀ d∈dss.take k,d.length=sz:=fun d hd=>g2 d (List.mem_of_mem_take hd)
   have hl2:((dss.take k).flatten).length=k*sz:=by rw [fc hw2,List.length_take];congr 1;omega
   have:List.take (k*sz) cur.toList=List.take (k*sz) (List.take (n*sz) cur.toList):=by rw [List.take_take,Nat.min_eq_left (by omega)]
   rw [this,g7]
   have hsplit:dss.flatten=(dss.take k).flatten++(dss.drop k).flatten:=by rw [← List.flatten_append,List.take_append_drop]
   rw [hsplit,List.take_append_of_le_length (by omega),List.take_of_length_le (by omega)]
  obtain ⟨hi',hk'⟩:=hinv.turn (r:=Res.row (some ⟨B,0,none⟩) n c T2 sz dss) (r':=Res.row (some ⟨B,0,none⟩) n c T2 sz (dss.take k++List.replicate (n - k) (bS z))) rfl rfl rfl q1 q2 hsays q4 q5 q6 (nW _ _ _ _ _ hrun)
  exact hkk _ _ _ hi' hk' ⟨.tup [],ρ',.tup (ws:=[]) .nil,h5 _ _ hk' (fin _ hk'),h⟩
end
theorem xG {n:Nat} {ops:Array Oper} {lo:List Oper} {K:PPost} {σ:PEnv} {ρ:List PRes} (t:Nat) {p q:PV} (ht:σ t=p) (e:q=p) (h:PWL n ops lo K (gh σ t q) ρ):PWL n ops lo K σ ρ:=by
 rw [e,xp ht] at h;exact h
section
variable {α:Type} (lt:α→α→Bool)
def ins (x:α):List α→List α
 | []=>[x]
 | y::l=>cond (lt y x) (y::ins x l) (x::y::l)
def lH:List α→List α
 | []=>[]
 | x::l=>ins lt x (lH l)
variable {lt}
theorem vI {x:α}:∀ {l:List α},(ins lt x l).Perm (x::l)
 | []=>List.Perm.refl _
 | y::l=>by
  unfold ins
  cases lt y x
  ·exact List.Perm.refl _
  exact (List.Perm.cons y vI).trans (List.Perm.swap x y l)
theorem kX:∀ {l:List α},(lH lt l).Perm l
 | []=>List.Perm.refl _
 | x::l=>vI.trans (List.Perm.cons x kX)
theorem vJ (htr:∀ x y z,lt x y=true→lt y z=true→lt x z=true) (hnt:∀ x y z,lt x y=false→lt y z=false→lt x z=false) (hir:∀ x,lt x x=false) {x:α}:∀ {l:List α},l.Pairwise (fun a b=>lt b a=false)→(ins lt x l).Pairwise (fun a b=>lt b a=false)
 | [],_=>List.pairwise_singleton _ _
 | y::l,h=>by
  unfold ins
  obtain ⟨h1,h2⟩:=List.pairwise_cons.1 h
  have asym:∀ a b,lt a b=true→lt b a=false:=fun a b hab=>by
   cases hba:lt b a
   ·rfl
   have:=htr a b a hab hba;rw [hir] at this;cases this
  cases hy:lt y x
  ·refine List.pairwise_cons.2 ⟨fun z hz=>?_,h⟩
   rcases List.mem_cons.1 hz with rfl | hz
   ·exact hy
   exact hnt z y x (h1 z hz) hy
  refine List.pairwise_cons.2 ⟨fun z hz=>?_,vJ htr hnt hir h2⟩
  rcases List.mem_cons.1 (vI.mem_iff.1 hz) with rfl | hz
  ·exact asym y z hy
  exact h1 z hz
theorem mA (htr:∀ x y z,lt x y=true→lt y z=true→lt x z=true) (hnt:∀ x y z,lt x y=false→lt y z=false→lt x z=false) (hir:∀ x,lt x x=false):∀ (l:List α),(lH lt l).Pairwise (fun a b=>lt b a=false)
 | []=>List.Pairwise.nil
 | x::l=>vJ htr hnt hir (mA htr hnt hir l)
theorem qc (ha:∀ x y,lt x y=false→lt y x=false→x=y):∀ {l m:List α},l.Pairwise (fun a b=>lt b a=false)→m.Pairwise (fun a b=>lt b a=false)→l.Perm m→l=m
 | [],m,_,_,hp=>(List.nil_perm.1 hp).symm
 | x::l,m,h1,h2,hp=>by
  obtain ⟨g1,g2⟩:=List.pairwise_cons.1 h1
  match m,h2,hp with
  | [],_,hp=>exact absurd (List.perm_nil.1 hp) (by simp)
  | y::m,h2,hp =>
   obtain ⟨k1,k2⟩:=List.pairwise_cons.1 h2
   have hxy:x=y:=by
    have hx:x∈y::m:=hp.mem_iff.1 (by simp)
    have hy:y∈x::l:=hp.mem_iff.2 (by simp)
    rcases List.mem_cons.1 hx with e | hx
    ·exact e
    rcases List.mem_cons.1 hy with e | hy
    ·exact e.symm
    exact ha x y (k1 x hx) (g1 y hy)
   subst hxy
   rw [qc ha g2 k2 ((List.perm_cons x).1 hp)]
end
theorem pA {α β:Type} {x:Option α} {f:α→Option β} {a:α} (h:x=some a):x.bind f=f a:=by rw [h];rfl
theorem cM {r:Int} (h1 : -9223372036854775808≤r) (h2:r≤9223372036854775807):IntKind.i64.wrap r=r:=zt ⟨h1,h2⟩
theorem u64s {r:Int} (h1:0≤r) (h2:r≤18446744073709551615):IntKind.u64.wrap r=r:=by simp [IntKind.wrap,IntKind.signed,IntKind.bits];omega
theorem jv {n:Nat} (h:n≤1267650600228229401496703205000):n<FUEL:=Nat.lt_of_le_of_lt h (by unfold FUEL;omega)
theorem aQ {α:Type} {xs:List α} {k:Nat} (h:k<xs.length):idx xs (k:Int)=some xs[k]:=by
 unfold idx;rw [if_pos (by omega)];simp [h]
theorem cu {α:Type} [Inhabited α] {x:Option α}:gd true x=x:=rfl
theorem iO {α:Type} [Inhabited α] {x:Option α}:gd false x=some default:=rfl
theorem fM {α:Type} {l:List α} {k:Nat} (h:0<k) (hk:k<l.length) (hl:l.length≤4611686018427387904):idx l (IntKind.i64.wrap ((k:Int) - 1))=some (l[k - 1]'(by omega)):=by
 rw [cM (by omega) (by omega),show (k:Int) - 1=((k - 1:Nat):Int) by omega]
 exact aQ (by omega)
theorem bM {k:Nat} {n:Nat} (hk:k<n) (hn:n≤4611686018427387904):IntKind.i64.wrap ((k:Int)+1)=((k+1:Nat):Int):=by rw [cM (by omega) (by omega)];omega
theorem gY {k n:Nat} (h:k<n):decide ((k:Int)<(n:Int))=true:=by simp;omega
theorem cN (n:Nat):decide ((n:Int)<(n:Int))=false:=by simp
theorem BG {k:Nat}:decide ((0:Int)<(k:Int))=decide (0<k):=by by_cases h:0<k <;> simp [h] <;> omega
theorem df {α:Type} {by':Nat} {xs ys:List α} (h:(xs.length+ys.length)*by'≤140737488355328) (h2:xs.length+ys.length≤140737488355328):app by' xs ys=some (xs++ys):=by unfold app;rw [if_pos ⟨h,h2⟩]
theorem lY {α:Type} {xs:List α} {a b:Nat} (h:a≤b) (h2:b≤xs.length):sub xs (a:Int) (b:Int)=some ((xs.take b).drop a):=by
 unfold sub;rw [if_pos (by omega)];simp
theorem uP {α:Type} (l:List α) (n:Int) (hn:0≤n):sub l 0 (oM (l.length:Int) n)=some (l.take n.toNat):=by
 unfold sub
 have:oM (l.length:Int) n=((min l.length n.toNat:Nat):Int):=by unfold oM;split <;> omega
 rw [this,if_pos (by omega)];simp [Nat.min_comm]
theorem BH {b:Nat} {n:Nat} (h:b*n≤140737488355328) (h2:n≤140737488355328):DM b (n:Int)=some ():=by unfold DM;rw [if_pos (by simp;omega)]
theorem FK {b:Int} (h:b≠0):nz b=some ():=by unfold nz;rw [if_neg h]
def bindR {A B R:Type} (p:A⊕R) (g:A→B⊕R):B⊕R:=match p with | .inl a=>g a | .inr r=>.inr r
def run {α A R:Type} (f:Nat→α→A→A⊕R):List α→Nat→A→A⊕R
 | [],_,a=>.inl a
 | x::xs,k,a=>bindR (f k x a) (fun a'=>run f xs (k+1) a')
theorem jx {α A R:Type} (f:Nat→α→A→A⊕R) (x:α) (xs:List α) (k:Nat) (a:A):run f (x::xs) k a=bindR (f k x a) (run f xs (k+1)):=rfl
def Ak {S T A R:Type} (g:A→S) (e:R→T):A⊕R→S⊕T
 | .inl a=>.inl (g a)
 | .inr r=>.inr (e r)
def wX {T A R:Type} (g:A→T) (e:R→T):A⊕R→T
 | .inl a=>g a
 | .inr r=>e r
theorem Al {S T α A R:Type} {l:List α} (hl:l.length≤4611686018427387904) {body:S→Option (S⊕T)} (pack:Int→A→S) (f:Nat→α→A→A⊕R) (fin:A→T) (exit:R→T) (P:Nat→A→Prop)
    (hstep:∀ (k:Nat) (hk:k<l.length) (a:A),P k a→body (pack (k:Int) a)=some (Ak (pack ((k+1:Nat):Int)) exit (f k l[k] a))∧∀ a',f k l[k] a=.inl a'→P (k+1) a')
    (hend:∀ a,P l.length a→body (pack (l.length:Int) a)=some (.inr (fin a))) (a:A) (h0:P 0 a):aT body FUEL (pack 0 a)=some (wX fin exit (run f l 0 a))∧∀ a',run f l 0 a=.inl a'→P l.length a':=by
  have main:∀ (xs:List α) (k N:Nat) (a:A),l.drop k=xs→k≤l.length→P k a→xs.length<N→aT body N (pack (k:Int) a)=some (wX fin exit (run f xs k a))∧∀ a',run f xs k a=.inl a'→P l.length a':=by
    intro xs
    induction xs with
    | nil =>
      intro k N a hd hk hp hN
      have:k=l.length:=by
        have:=congrArg List.length hd;simp at this;omega
      subst this
      obtain ⟨N,rfl⟩:∃ M,N=M+1:=⟨N - 1,by omega⟩
      rw [fL,hend a hp]
      exact ⟨rfl,fun a' h=>by injection h with h;exact h ▸ hp⟩
    | cons x xs ih =>
      intro k N a hd hk hp hN
      have hk':k<l.length:=by
        have:=congrArg List.length hd;simp at this;omega
      have hx:l[k]=x∧l.drop (k+1)=xs:=by
        rw [List.drop_eq_getElem_cons hk'] at hd;injection hd with h1 h2;exact ⟨h1,h2⟩
      obtain ⟨N,rfl⟩:∃ M,N=M+1:=⟨N - 1,by omega⟩
      obtain ⟨e1,e2⟩:=hstep k hk' a hp
      rw [hx.1] at e1 e2
      rw [fL,e1]
      rw [jx]
      cases hf:f k x a with
      | inl a'=>exact ih (k+1) N a' hx.2 (by omega) (e2 a' hf) (by simp at hN;omega)
      | inr r=>exact ⟨rfl,fun a' h=>by change Sum.inr r=_ at h;cases h⟩
  exact main l 0 FUEL a rfl (by omega) h0 (jv (by omega))
theorem ku {S T α A R β:Type} {l:List α} (hl:l.length≤4611686018427387904) {body:S→Option (S⊕T)} {k:T→Option β} (pack:Int→A→S) (f:Nat→α→A→A⊕R) (fin:A→T) (exit:R→T) (P:Nat→A→Prop) (a:A) (h0:P 0 a)
    (hstep:∀ (k:Nat) (hk:k<l.length) (a:A),P k a→body (pack (k:Int) a)=some (Ak (pack ((k+1:Nat):Int)) exit (f k l[k] a))∧∀ a',f k l[k] a=.inl a'→P (k+1) a')
    (hend:∀ a,P l.length a→body (pack (l.length:Int) a)=some (.inr (fin a))):Option.bind (aT body FUEL (pack 0 a)) k=k (wX fin exit (run f l 0 a)):=pA (Al hl pack f fin exit P hstep hend a h0).1
def bT {α T:Type} (g:Nat→α→Option T):List α→Nat→Option T
 | [],_=>none
 | x::xs,k=>match g k x with | some t=>some t | none=>bT g xs (k+1)
def ra {T:Type} (k:Nat):Option T→Int⊕T
 | some t=>.inr t
 | none=>.inl ((k+1:Nat):Int)
theorem bD {T α β:Type} {l:List α} (hl:l.length≤4611686018427387904) {body:Int→Option (Int⊕T)} {k:T→Option β} (g:Nat→α→Option T) (e:T)
    (hstep:∀ (k:Nat) (hk:k<l.length),body (k:Int)=some (ra k (g k l[k]))) (hend:body (l.length:Int)=some (.inr e)):Option.bind (aT body FUEL 0) k=k ((bT g l 0).getD e):=by
  refine (ku hl (fun i (_:Unit)=>i) (fun k x _=>match g k x with | some t=>.inr t | none=>.inl ()) (fun _=>e) (fun (t:T)=>t) (fun _ _=>True) () trivial (fun k hk a _=>⟨by
    rw [hstep k hk];cases g k l[k] <;> rfl,fun _ _=>trivial⟩) (fun a _=>hend)).trans ?_
  congr 1
  generalize 0=i
  induction l generalizing i with
  | nil=>rfl
  | cons x xs ih =>
    clear hstep hend
    have ih2:∀ j,wX (fun _=>e) (fun t=>t) (run (fun k x (_:Unit)=>match g k x with | some t=>Sum.inr t | none=>Sum.inl ()) xs j ())=(bT g xs j).getD e:=by
      clear ih hl
      induction xs with
      | nil=>intro j;rfl
      | cons y ys ih=>intro j;rw [jx,bT];cases g j y with | some t=>rfl | none=>exact ih (j+1)
    rw [jx,bT]
    cases g i x with
    | some t=>rfl
    | none=>exact ih2 (i+1)
theorem qS {α T:Type} (p:α→Bool) (t:T):∀ (l:List α) (k:Nat),bT (fun _ x=>cond (p x) (some t) none) l k=cond (l.any p) (some t) none
 | [],_=>rfl
 | x::xs,k=>by
  rw [bT,List.any_cons,qS p t xs]
  cases p x <;> rfl
theorem qT {α T:Type} (p:α→Bool) (t:T):∀ (l:List α) (k:Nat),bT (fun _ x=>cond (p x) none (some t)) l k=cond (l.all p) none (some t)
 | [],_=>rfl
 | x::xs,k=>by
  rw [bT,List.all_cons,qT p t xs]
  cases p x <;> rfl
theorem iV {α T:Type} (p:α→Bool) (f:α→T):∀ (l:List α) (k:Nat),bT (fun _ x=>cond (p x) (some (f x)) none) l k=(l.find? p).map f
 | [],_=>rfl
 | x::xs,k=>by
  rw [bT,List.find?_cons,iV p f xs]
  cases p x <;> rfl
theorem mY {α T:Type} {g:Nat→α→Option T}:∀ {l:List α} {k:Nat},bT g l k=none↔∀ i x,l[i]?=some x→g (k+i) x=none
 | [],k=>by simp [bT]
 | x::xs,k=>by
  rw [bT]
  constructor
  ·intro h i y hy
   cases hg:g k x with
   | some t=>rw [hg] at h;cases h
   | none =>
    rw [hg] at h
    cases i with
    | zero=>simp at hy;subst hy;exact hg
    | succ i=>have:=mY.1 h i y (by simpa using hy);rw [show k+(i+1)=k+1+i by omega];exact this
  intro h
  have h0:=h 0 x rfl
  rw [Nat.add_zero] at h0
  rw [h0]
  exact mY.2 fun i y hy=>by have:=h (i+1) y (by simpa using hy);rw [show k+1+i=k+(i+1) by omega];exact this
theorem cB {S T α A β:Type} {l:List α} (hl:l.length≤4611686018427387904) {body:S→Option (S⊕T)} {k:T→Option β} (pack:Int→A→S) (f:A→α→A) (fin:A→T) (P:Nat→A→Prop) (a:A) (h0:P 0 a)
    (hstep:∀ (k:Nat) (hk:k<l.length) (a:A),P k a→body (pack (k:Int) a)=some (.inl (pack ((k+1:Nat):Int) (f a l[k])))∧P (k+1) (f a l[k]))
    (hend:∀ a,P l.length a→body (pack (l.length:Int) a)=some (.inr (fin a))):Option.bind (aT body FUEL (pack 0 a)) k=k (fin (l.foldl f a))∧P l.length (l.foldl f a):=by
  have e:=Al hl pack (fun _ x a=>(.inl (f a x):A⊕Empty)) fin (fun r=>nomatch r) P (fun k hk a hp=>⟨(hstep k hk a hp).1,fun a' h=>by injection h with h;exact h ▸ (hstep k hk a hp).2⟩) hend a h0
  have e2:∀ (xs:List α) (i:Nat) (b:A),run (fun _ x a=>(.inl (f a x):A⊕Empty)) xs i b=.inl (xs.foldl f b):=by
    intro xs
    induction xs with
    | nil=>intro i b;rfl
    | cons x xs ih=>intro i b;rw [jx,List.foldl_cons];exact ih _ _
  rw [e2] at e
  exact ⟨pA e.1,e.2 _ rfl⟩
theorem dt {α:Type} {l:List α} {k:Nat} (h:k<l.length) (d:α):l.getD k d=l[k]:=by simp [List.getD,h]
theorem u8tri (a b:UInt8):a<b∨a=b∨b<a:=by
 rcases Nat.lt_trichotomy a.toNat b.toNat with h | h | h
 ·exact .inl h
 ·exact .inr (.inl (UInt8.toNat_inj.1 h))
 exact .inr (.inr h)
theorem xH:∀ (x y:List UInt8),(Op.bytesLess x y||(x == y)) = !Op.bytesLess y x
 | [],[]=>by simp [Op.bytesLess]
 | _::_,[]=>by simp [Op.bytesLess]
 | [],_::_=>by simp [Op.bytesLess]
 | a::x,b::y=>by
  rw [Op.bytesLess,Op.bytesLess]
  have ih:=xH x y
  rcases u8tri a b with h | h | h
  ·have h1:¬ b<a:=fun h'=>by have:a.toNat<b.toNat:=h;have:b.toNat<a.toNat:=h';omega
   have h2:¬ b=a:=fun h'=>by subst h';have:b.toNat<b.toNat:=h;omega
   have h3:¬ a=b:=fun h'=>h2 h'.symm
   simp [h,h1,h2]
  ·subst h
   have h1:¬ a<a:=fun h'=>by have:a.toNat<a.toNat:=h';omega
   simp [h1] at ih ⊢
   rw [← ih]
  have h1:¬ a<b:=fun h'=>by have:a.toNat<b.toNat:=h';have:b.toNat<a.toNat:=h;omega
  have h3:¬ a=b:=fun h'=>by subst h';have:a.toNat<a.toNat:=h;omega
  simp [h,h1,h3]
theorem str_ext {x y:ByteArray}:x=y↔x.data.toList=y.data.toList:=by
 constructor
 ·rintro rfl;rfl
 intro h;cases x;cases y;congr 1;exact Array.toList_inj.1 h
theorem uQ (x y:ByteArray):(Op.bytesLess x.toList y.toList||decide (x=y)) = !Op.bytesLess y.toList x.toList:=by
 rw [← yf];exact xH _ _
structure Za where
 Product:Int
 Agreement:Int
 deriving Inhabited,DecidableEq
def Za.enc (m:Za):List PV:=[pI m.Product,pI m.Agreement]
def Za.eqb (a b:Za):Bool:=((a.Product == b.Product)&&((a.Agreement == b.Agreement)&&true))
theorem Za.eqb_iff {a b:Za}:Za.eqb a b=true↔a=b:=by cases a;cases b;simp [Za.eqb]
theorem Za.eqok28:EqOk 28 [0,0]:=⟨by kernel_rfl,by kernel_rfl,by kernel_rfl,by kernel_rfl⟩
structure Zk where
 Code:ByteArray
 Value:Int
 Originating:Bool
 deriving Inhabited,DecidableEq
def Zk.enc (m:Zk):List PV:=[pS m.Code,pI m.Value,pB m.Originating]
def Zk.eqb (a b:Zk):Bool:=((decide (a.Code=b.Code))&&((a.Value == b.Value)&&((a.Originating == b.Originating)&&true)))
theorem Zk.eqb_iff {a b:Zk}:Zk.eqb a b=true↔a=b:=by cases a;cases b;simp [Zk.eqb]
structure Zl where
 Code:ByteArray
 Price:Int
 Obtained:Bool
 Processes:(List ByteArray)
 Inputs:(List Zk)
 deriving Inhabited,DecidableEq
def Zl.enc (m:Zl):List PV:=[pS m.Code,pI m.Price,pB m.Obtained,pL eS m.Processes,pL Zk.enc m.Inputs]
structure Zf where
 Claim:Za
 Path:(List Int)
 Premises:(List Za)
 deriving Inhabited,DecidableEq
def Zf.enc (m:Zf):List PV:=[pI m.Claim.Product,pI m.Claim.Agreement,pL eI m.Path,pL Za.enc m.Premises]
structure Zj where
 L:(List Int)
 I:Int
 deriving Inhabited,DecidableEq
def Zj.enc (m:Zj):List PV:=[pL eI m.L,pI m.I]
structure Zi where
 Product:Int
 Value:Int
 deriving Inhabited,DecidableEq
def Zi.enc (m:Zi):List PV:=[pI m.Product,pI m.Value]
def Zi.eqb (a b:Zi):Bool:=((a.Product == b.Product)&&((a.Value == b.Value)&&true))
theorem Zi.eqb_iff {a b:Zi}:Zi.eqb a b=true↔a=b:=by cases a;cases b;simp [Zi.eqb]
structure Zc where
 ID:Int
 Code:ByteArray
 Country:ByteArray
 Price:Int
 Obtained:Bool
 Processes:(List ByteArray)
 Inputs:(List Zi)
 deriving Inhabited,DecidableEq
def Zc.enc (m:Zc):List PV:=[pI m.ID,pS m.Code,pS m.Country,pI m.Price,pB m.Obtained,pL eS m.Processes,pL Zi.enc m.Inputs]
structure Zd where
 Kind:Int
 Digits:Int
 Except:(List ByteArray)
 Tolerance:Int
 Limit:Int
 Name:ByteArray
 Args:(List Zd)
 deriving Inhabited
mutual
def Zd.enc:Zd→List PV
 | ⟨Kind0,Digits0,Except0,Tolerance0,Limit0,Name0,Args0⟩=>[pI Kind0,pI Digits0,pL eS Except0,pI Tolerance0,pI Limit0,pS Name0,.slc Args0.length (Zd.encs Args0)]
def Zd.encs:List Zd→List (List PV)
 | []=>[]
 | r::l=>r.enc::Zd.encs l
end
theorem Zd.encs_eq:∀ (l:List Zd),Zd.encs l=List.map Zd.enc l
 | []=>by rw [Zd.encs];rfl
 | r::l=>by rw [Zd.encs,Zd.encs_eq l];rfl
theorem Zd.enc_eq (m:Zd):m.enc=[pI m.Kind,pI m.Digits,pL eS m.Except,pI m.Tolerance,pI m.Limit,pS m.Name,pL Zd.enc m.Args]:=by cases m;rw [Zd.enc,Zd.encs_eq]
theorem Zd.enc_len (m:Zd):m.enc.length=7:=by rw [Zd.enc_eq];rfl
theorem Zd.enc_lenb (m:Zd):Nat.beq m.enc.length 7=true:=by rw [Zd.enc_eq];rfl
structure Zh where
 Prefix:ByteArray
 Rule:Zd
 deriving Inhabited
def Zh.enc (m:Zh):List PV:=[pS m.Prefix,pI m.Rule.Kind,pI m.Rule.Digits,pL eS m.Rule.Except,pI m.Rule.Tolerance,pI m.Rule.Limit,pS m.Rule.Name,pL Zd.enc m.Rule.Args]
structure Zb where
 ID:Int
 Kind:Int
 Parties:(List ByteArray)
 Rules:(List Zh)
 deriving Inhabited
def Zb.enc (m:Zb):List PV:=[pI m.ID,pI m.Kind,pL eS m.Parties,pL Zh.enc m.Rules]
structure Zs where
 partners:(List Int)
 set_:(List (Za×Bool))
 deriving Inhabited
structure Zq where
 use:Zk
 premise:Za
 deriving Inhabited,DecidableEq
def Zq.enc (m:Zq):List PV:=[pS m.use.Code,pI m.use.Value,pB m.use.Originating,pI m.premise.Product,pI m.premise.Agreement]
structure Zr where
 claims:(List (Za×Bool))
 deriving Inhabited
structure Zv where
 known:Zr
 plan:(List Zc)
 list:(List Zb)
 importer:ByteArray
 deriving Inhabited
structure Zn where
 claim:Za
 rule:Zd
 deriving Inhabited
def Zn.enc (m:Zn):List PV:=[pI m.claim.Product,pI m.claim.Agreement,pI m.rule.Kind,pI m.rule.Digits,pL eS m.rule.Except,pI m.rule.Tolerance,pI m.rule.Limit,pS m.rule.Name,pL Zd.enc m.rule.Args]
structure Zm where
 Hi:Int
 Lo:Int
 deriving Inhabited,DecidableEq
def Zm.enc (m:Zm):List PV:=[pU m.Hi,pU m.Lo]
def Zm.eqb (a b:Zm):Bool:=((a.Hi == b.Hi)&&((a.Lo == b.Lo)&&true))
theorem Zm.eqb_iff {a b:Zm}:Zm.eqb a b=true↔a=b:=by cases a;cases b;simp [Zm.eqb]
structure Zt where
 use:Zk
 deriving Inhabited,DecidableEq
def Zt.enc (m:Zt):List PV:=[pS m.use.Code,pI m.use.Value,pB m.use.Originating]
structure Zu where
 rule:Zd
 deriving Inhabited
def Zu.enc (m:Zu):List PV:=[pI m.rule.Kind,pI m.rule.Digits,pL eS m.rule.Except,pI m.rule.Tolerance,pI m.rule.Limit,pS m.rule.Name,pL Zd.enc m.rule.Args]
structure Zo where
 Hi:Int
 Lo:Int
 deriving Inhabited,DecidableEq
def Zo.enc (m:Zo):List PV:=[pU m.Hi,pU m.Lo]
def Zo.eqb (a b:Zo):Bool:=((a.Hi == b.Hi)&&((a.Lo == b.Lo)&&true))
theorem Zo.eqb_iff {a b:Zo}:Zo.eqb a b=true↔a=b:=by cases a;cases b;simp [Zo.eqb]
theorem Zo.eqok233:EqOk 233 [0,0]:=⟨by kernel_rfl,by kernel_rfl,by kernel_rfl,by kernel_rfl⟩
def Za.key (m:Za):Value:=kP m.Product m.Agreement
theorem Za.kenc28:KEnc 28 Za.key:=⟨⟨PairKey,FE _ _ rfl (by kernel_rfl) (by kernel_rfl) (by decide) (by decide) rfl rfl rfl rfl,fun a=>⟨_,_,rfl⟩⟩,fun a b h=>by cases a;cases b;simp only [Za.key,kP] at h;injection h with h;simp at h;simp [h]⟩
inductive Ze where
 | plain_ (a:Zt)
 | proved_ (a:Zq)
 deriving Inhabited
def Ze.tag:Ze→Nat
 | .plain_ _=>195
 | .proved_ _=>106
def Ze.val:Ze→PV
 | .plain_ a=>.agg [pS a.use.Code,pI a.use.Value,pB a.use.Originating]
 | .proved_ a=>.agg [pS a.use.Code,pI a.use.Value,pB a.use.Originating,pI a.premise.Product,pI a.premise.Agreement]
def Ze.pv (m:Ze):PV:=.ifc m.tag m.val
def Ze.enc (m:Ze):List PV:=[m.pv]
def Ze.is_proved_:Ze→Bool
 | .proved_ _=>true
 | _=>false
def Ze.as_proved_:Ze→Zq
 | .proved_ a=>a
 | _=>(⟨(⟨ByteArray.empty,(0:Int),false⟩:Zk),(⟨(0:Int),(0:Int)⟩:Za)⟩:Zq)
theorem Ze.ta_proved_ (m:Ze):ta 106 m.pv=some (.tup [.agg [pS ((((Ze.as_proved_ m)).use).Code),pI ((((Ze.as_proved_ m)).use).Value),pB ((((Ze.as_proved_ m)).use).Originating),pI ((((Ze.as_proved_ m)).premise).Product),pI ((((Ze.as_proved_ m)).premise).Agreement)],pB (Ze.is_proved_ m)]):=by cases m <;> rfl
inductive Zg where
 | single_ (a:Zu)
 | every_ (a:(List Zg))
 | some_ (a:(List Zg))
 deriving Inhabited
def Zg.tag:Zg→Nat
 | .single_ _=>226
 | .every_ _=>223
 | .some_ _=>224
mutual
def Zg.val:Zg→PV
 | .single_ a=>.agg [pI a.rule.Kind,pI a.rule.Digits,pL eS a.rule.Except,pI a.rule.Tolerance,pI a.rule.Limit,pS a.rule.Name,pL Zd.enc a.rule.Args]
 | .every_ a=>.slc a.length (Zg.encs a)
 | .some_ a=>.slc a.length (Zg.encs a)
def Zg.encs:List Zg→List (List PV)
 | []=>[]
 | r::l=>[.ifc r.tag r.val]::Zg.encs l
end
def Zg.pv (m:Zg):PV:=.ifc m.tag m.val
def Zg.enc (m:Zg):List PV:=[m.pv]
theorem Zg.encs_eq:∀ (l:List Zg),Zg.encs l=List.map Zg.enc l
 | []=>by rw [Zg.encs];rfl
 | r::l=>by rw [Zg.encs,Zg.encs_eq l];rfl
theorem Zg.pv_single_ (a:Zu):(Zg.single_ a).pv=.ifc 226 (.agg [pI a.rule.Kind,pI a.rule.Digits,pL eS a.rule.Except,pI a.rule.Tolerance,pI a.rule.Limit,pS a.rule.Name,pL Zd.enc a.rule.Args]):=by rw [Zg.pv,Zg.val];rfl
theorem Zg.pv_every_ (a:(List Zg)):(Zg.every_ a).pv=.ifc 223 (pL Zg.enc a):=by rw [Zg.pv,Zg.val,Zg.encs_eq];rfl
theorem Zg.pv_some_ (a:(List Zg)):(Zg.some_ a).pv=.ifc 224 (pL Zg.enc a):=by rw [Zg.pv,Zg.val,Zg.encs_eq];rfl
abbrev bk (m:Zl):List PV:=[pS m.Code,pI m.Price,pB m.Obtained,pL eS m.Processes,pL Zk.enc m.Inputs]
abbrev dj (m:Zf):List PV:=[pI m.Claim.Product,pI m.Claim.Agreement,pL eI m.Path,pL Za.enc m.Premises]
abbrev aI (m:Zc):List PV:=[pI m.ID,pS m.Code,pS m.Country,pI m.Price,pB m.Obtained,pL eS m.Processes,pL Zi.enc m.Inputs]
abbrev an (m:Zd):List PV:=[pI m.Kind,pI m.Digits,pL eS m.Except,pI m.Tolerance,pI m.Limit,pS m.Name,pL Zd.enc m.Args]
abbrev em (m:Zh):List PV:=[pS m.Prefix,pI m.Rule.Kind,pI m.Rule.Digits,pL eS m.Rule.Except,pI m.Rule.Tolerance,pI m.Rule.Limit,pS m.Rule.Name,pL Zd.enc m.Rule.Args]
abbrev aA (m:Zb):List PV:=[pI m.ID,pI m.Kind,pL eS m.Parties,pL Zh.enc m.Rules]

section
variable {o:Oper} {σ:PEnv} {ρ:List PRes} {f:Nat} {l:List Operand} {ts:Array Nat} {pargs caps:List PV} {x:Operand} {KV:PV→List PRes→Prop}
end
theorem Am {κ:Kr}:∀ {l1 l2:List PV} {vs:List Value},Rps κ (l1++.v (.slice none 0 0)::l2) vs→Rps κ (l1++.slc 0 []::l2) vs
 | [],l2,vs,h=>by
  obtain ⟨v,ws,rfl,h1,h2⟩:=h.cons_inv
  rw [h1.val];exact .cons s7 h2
 | p::l1,l2,vs,h=>by
  obtain ⟨v,ws,rfl,h1,h2⟩:=h.cons_inv
  exact .cons h1 (Am h2)
theorem pf_nil1 {f:Nat} (l1 l2:List PV) {r:PV} (h:PF f (l1++.slc 0 []::l2) r):PF f (l1++.v (.slice none 0 0)::l2) r:=fun κ args g ha=>h κ args g (Am ha)
theorem tj {P:Program} (w:World) (t tx ty e:TypeId) (i:TypeInfo) (z:Value) (ht:P.underlying t=some (.slice e)) (hx:P.underlying tx=some (.int .i64)) (hi:P.info? e=some i) (hz:i.zero=some z) (n:Nat) (hn:0<n) (hs:0<i.size) (hb:n*i.bytes≤140737488355328) (hm:n≤140737488355328) :
    (Builtin.append_ #[t,tx] ty #[.slice none 0 0,.int .i64 (n:Int)]).run P w=.ok (.slice (some ⟨w.heap.size,0,none⟩) n (grownCap w n 0 e)) (w.drew.alloc (.cells (Builtin.zeroCells z.cells n++Builtin.zeroCells z.cells (grownCap w n 0 e - n)) e)):=by
  have hw:IntKind.i64.wrap (n:Int)=n:=by simp [IntKind.wrap,IntKind.signed,IntKind.bits];omega
  have h1:¬ ((n:Int)<0):=by omega
  have h2:¬ (281474976710656<(n:Int)*(i.bytes:Int)):=by
    have:(n:Int)*(i.bytes:Int)=((n*i.bytes:Nat):Int):=by simp
    omega
  have h3:¬ n=0:=by omega
  have h4:¬ i.size=0:=by omega
  have h5:¬ (281474976710656<Builtin.nextslicecap n 0*i.bytes):=by
    have:Builtin.nextslicecap n 0=n:=by unfold Builtin.nextslicecap;rw [if_pos (by omega)]
    rw [this];omega
  have h6:¬ (9223372036854775807<(n:Int)):=by omega
  simp [Builtin.append_,run_underlying ht,run_underlying hx,sizeOf,typeInfo,zeroValue,hi,hz,asInt,asIntOf,hw,h1,h2,h3,h4,h5,h6,Question.forced,newRow,grownCap,Builtin.firstCells]
  exact fun h=>absurd h (Nat.mul_ne_zero h3 h4)
theorem FL {o:Oper} {σ:Env} {ρ l:List Res} {κ:Kr} {K:Value→List Res→Kr→Prop} {s x:Operand} {t ti T n sz by':Nat} {z:Value} (ho:o.op=.call { callee:=.builtin .append,args:=#[s,x],argTypes:=#[t,ti] }) (hu:eY t=some (.slice T)) (hui:eY ti=some (.int .i64)) (hi:gr T=some (z,sz,by')) (hz:Nat.beq z.cells.size sz=true) (h0:Nat.blt 0 sz=true) (hs:ev σ s=.slice none 0 0) (hx:ev σ x=.int .i64 (n:Int)) (hn:0<n) (hb:n*by'≤140737488355328∧n≤140737488355328)
    (hp:Pick ρ (Res.row none 0 0 T sz []) l) (h:∀ a c κ',Kle κ κ'→n≤c→K (.slice a n c) (Res.row a 0 c T sz []::l) κ'):OpL o σ ρ κ K:=fun β hinv Nx hk=>by
  obtain ⟨i,hinf,hz0,hsz,hby⟩:=qO hi
  have hsz0:0<sz:=by have h:=h0;simp [Nat.blt] at h;omega
  have hr:=tj (P:=Tryz.prog) κ.w t ti o.type T i z (bq hu) (bq hui) hinf hz0 n hn (by rw [hsz];exact hsz0) (by rw [hby];exact hb.1) hb.2
  have hge:=grownCap_ge κ.w n 0 T
  have hcm:grownCap κ.w n 0 T≤maxLen:=grownCap_le_maxLen κ.w n 0 T (by unfold maxLen;omega)
  have hi2:=hinv.perm hp
  have hzs:=Nat.eq_of_beq_eq_true hz
  have hhold:(Res.row (some ⟨κ.w.heap.size,0,none⟩) 0 (grownCap κ.w n 0 T) T sz []).holds (κ.w.drew.alloc (.cells (Builtin.zeroCells z.cells n++Builtin.zeroCells z.cells (grownCap κ.w n 0 T - n)) T)):=by
    refine ⟨rfl,rfl,fun _ h=>(by cases h),Nat.zero_le _,hcm,_,heap_alloc_new κ.w.drew _,?_,by simp⟩
    simp only [Array.size_append,size_zeroCells,hzs,← Nat.add_mul]
    congr 1;omega
  obtain ⟨hi3,hk3⟩:=hi2.grow (r':=Res.row (some ⟨κ.w.heap.size,0,none⟩) 0 (grownCap κ.w n 0 T) T sz []) (w':=κ.w.drew.alloc (.cells (Builtin.zeroCells z.cells n++Builtin.zeroCells z.cells (grownCap κ.w n 0 T - n)) T)) ⟨rfl,rfl,rfl,by simp,fun k hk _=>by first | exact Go.heap_alloc_old κ.w.drew _ k hk | exact heap_alloc_old κ.w.drew _ hk⟩ (.inr (.inr rfl)) hhold (Bh hhold) (nW _ _ _ _ _ hr)
  unfold execOp
  simp only [ho,resolve,invoke,builtin,Sem.run_bind,Sem.run_pure,Result.andThen_ok,List.map_toArray,List.map_cons,List.map_nil,hs,hx,hr,OutV]
  exact hk _ _ _ hi3 hk3 (h _ _ _ hk3 hge)
theorem FM {o:Oper} {σ:PEnv} {ρ l:List PRes} {K:PV→List PRes→Prop} {s x:Operand} {t ti T sz by':Nat} {n:Int} {z:Value} {u:Unit} (ho:o.op=.call { callee:=.builtin .append,args:=#[s,x],argTypes:=#[t,ti] }) (hu:eY t=some (.slice T)) (hui:eY ti=some (.int .i64)) (hi:gr T=some (z,sz,by')) (hz:Nat.beq z.cells.size sz=true) (h0:Nat.blt 0 sz=true) (hs:bz σ s=.v (.slice none 0 0)) (hx:bz σ x=.v (.int .i64 n)) (hn:0<n) (hm:DM by' n=some u)
    (hp:PPick ρ (.row none 0 0 T sz []) l) (h:∀ a c,n.toNat≤c→K (.v (.slice a n.toNat c)) (.row a 0 c T sz []::l)):POpL o σ ρ K:=fun κ σ' ρ' g hm' hrr=>by
  unfold DM at hm
  split at hm
  · rename_i hb
    obtain ⟨h1,h2,h3⟩:=hb
    have hn':n=((n.toNat:Nat):Int):=by omega
    obtain ⟨r,l',k1,k2,k3⟩:=hrr.pick hp
    cases k2 with
    | row hbn ho1 hc =>
      rename_i dss
      have:=hc.nil_inv;subst this
      exact FL ho hu hui hi hz h0 (hm'.v1 hs) (by rw [hm'.v1 hx,← hn']) (by omega) ⟨by rw [Nat.mul_comm];exact h2,h3⟩ k1 fun a c κ' hk hge=>⟨_,_,.v rfl,.cons (.row (by omega) (fun _ h=>by cases h) .nil) (k3.mono hk),h a c hge⟩
  cases hm
theorem mk0_le {by':Nat} {n:Int} {u:Unit} (h:DM by' n=some u):0≤n∧n≤140737488355328:=by
 unfold DM at h
 split at h
 ·rename_i hb;omega
 cases h
theorem DO {n:Int} (h0:0≤n) (h1:n≤140737488355328):IntKind.i64.wrap (n - IntKind.i64.wrap (((0:Nat):Int) - ((0:Nat):Int)))=n:=by
 simp [IntKind.wrap,IntKind.signed,IntKind.bits];omega
theorem oq_cap {o:Oper} {σ:Env} {ρ:List Res} {κ:Kr} {c:Bool} {x:Operand} {t n cp E:Nat} {a:Option Addr} (ho:o.op=.call { callee:=.builtin .cap,args:=#[x],argTypes:=#[t] }) (hu:eY t=some (.slice E)) (hx:Ev σ c x (.slice a n cp)):OpQ c o σ ρ κ (.int .i64 (cp:Int)):=fun hc w _=>by
 simp [execOp,ho,resolve,invoke,builtin,Builtin.cap_,hx hc,run_underlying (bq hu),goInt]
theorem CL {o:Oper} {σ:PEnv} {ρ:List PRes} {c:Bool} {x:Operand} {t E nn cp:Nat} {ad:Option Addr} (ho:o.op=.call { callee:=.builtin .cap,args:=#[x],argTypes:=#[t] }) (hu:eY t=some (.slice E)) (hx:PEv σ c x (.v (.slice ad nn cp))):POpQ c o σ ρ (.v (.int .i64 (cp:Int))):=fun κ σ' ρ' g hs hrr=>⟨_,fun _=>.v rfl,oq_cap ho hu (hs.ve hx)⟩
theorem xI {o:Oper} {σ:PEnv} {ρ:List PRes} {c:Bool} {x y:Operand} {t E sz by' nn cp k:Nat} {z:Value} {ad:Option Addr} {kd:IntKind} {i:Int} (ho:o.op=.slice t x none (some y) none) (hu:eY t=some (.slice E)) (hi:gr E=some (z,sz,by')) (hx:PEv σ c x (.v (.slice ad nn cp))) (hy:PEv σ c y (.v (.int kd i))) (hik:i=(k:Int)) (hk:k≤cp):POpQ c o σ ρ (.v (.slice ad k cp)):=fun κ σ' ρ' g hs hrr=>⟨_,fun _=>.v rfl,rx ho hu hi (hs.ve hx) (hs.ve hy) (fun _=>hik) (fun _=>hk)⟩
end SX
namespace SX
open Go
attribute [local irreducible] PWL PWC PWD POpL POpQ PEv PGuardIs PSub PPick PUpd PSplice PFill PLit PF PFV PCall FOk eX eH ml n4 kn mn Cov PHolds aT idx app mk gd lb nz lF Er sub ko dq oz wQ fz cD oM wT IntKind.wrap Int.tmod Int.tdiv Op.bytesLess strOfNums
theorem aW {n:Nat} {l:List Oper} {KC:Exit→PPost} {σ:PEnv} {ρ:List PRes} {id:Nat} (D:List Nat) (h:oO n l.toArray ρ l [] [] σ [] D=lX n l.toArray ρ l [] [] σ []) (hw:KC .normal (lG σ D []) ρ):PWC n (.region id l.toArray false) KC σ ρ:=aq [] D [] bj h hw
theorem aJ {n:Nat} {l:List Oper} {KC:Exit→PPost} {σ:PEnv} {ρ:List PRes} {id:Nat} (H D:List Nat) (X:List (Nat×PV)) (h:oO n l.toArray ρ l H [] σ (X.map (·.1)) D=lX n l.toArray ρ l H [] σ (X.map (·.2))) (hw:KC .normal (lG σ D X) ρ):PWC n (.region id l.toArray false) KC σ ρ:=aq H D X bj h hw
theorem ak {n:Nat} {l:List Oper} {KC:Exit→PPost} {σ:PEnv} {ρ:List PRes} {id:Nat} (X:List (Nat×PV)) (h:oO n l.toArray ρ l [] [] σ (X.map (·.1)) []=lX n l.toArray ρ l [] [] σ (X.map (·.2))) (hw:KC .normal (lG σ [] X) ρ):PWC n (.region id l.toArray false) KC σ ρ:=aq [] [] X bj h hw
theorem ai {n:Nat} {l:List Oper} {KC:Exit→PPost} {σ:PEnv} {ρ:List PRes} {id:Nat} (D:List Nat) (X:List (Nat×PV)) (h:oO n l.toArray ρ l [] [] σ (X.map (·.1)) D=lX n l.toArray ρ l [] [] σ (X.map (·.2))) (hw:KC .normal (lG σ D X) ρ):PWC n (.region id l.toArray false) KC σ ρ:=aq [] D X bj h hw
theorem FN {n:Nat} {ops:Array Oper} {l:List (Nat×Oper)} {K:PPost} {σ:PEnv} {ρd ρs:List PRes} (k:Nat) (D:List Nat) (h:vF n ops ρs (l.take k) [] [] σ [] D=lX n ops ρs ((l.take k).map (·.2)) [] [] σ []) (hw:PWD n ops K (l.drop k) (lG σ D []) ρd ρs):PWD n ops K l σ ρd ρs:=bt k [] D [] bj h hw
theorem FO {n:Nat} {ops:Array Oper} {l:List (Nat×Oper)} {K:PPost} {σ:PEnv} {ρd ρs:List PRes} (k:Nat) (H:List Nat) (X:List (Nat×PV)) (h:vF n ops ρs (l.take k) H [] σ (X.map (·.1)) []=lX n ops ρs ((l.take k).map (·.2)) H [] σ (X.map (·.2))) (hw:PWD n ops K (l.drop k) (lG σ [] X) ρd ρs):PWD n ops K l σ ρd ρs:=bt k H [] X bj h hw
theorem qd {n:Nat} {ops:Array Oper} {l:List (Nat×Oper)} {K:PPost} {σ:PEnv} {ρd ρs:List PRes} (k:Nat) (H D:List Nat) (X:List (Nat×PV)) (h:vF n ops ρs (l.take k) H [] σ (X.map (·.1)) D=lX n ops ρs ((l.take k).map (·.2)) H [] σ (X.map (·.2))) (hw:PWD n ops K (l.drop k) (lG σ D X) ρd ρs):PWD n ops K l σ ρd ρs:=bt k H D X bj h hw
theorem iW {n:Nat} {ops:Array Oper} {l:List (Nat×Oper)} {K:PPost} {σ:PEnv} {ρd ρs:List PRes} (k:Nat) (X:List (Nat×PV)) (h:vF n ops ρs (l.take k) [] [] σ (X.map (·.1)) []=lX n ops ρs ((l.take k).map (·.2)) [] [] σ (X.map (·.2))) (hw:PWD n ops K (l.drop k) (lG σ [] X) ρd ρs):PWD n ops K l σ ρd ρs:=bt k [] [] X bj h hw
theorem mZ {n:Nat} {ops:Array Oper} {l:List (Nat×Oper)} {K:PPost} {σ:PEnv} {ρd ρs:List PRes} (k:Nat) (D:List Nat) (X:List (Nat×PV)) (h:vF n ops ρs (l.take k) [] [] σ (X.map (·.1)) D=lX n ops ρs ((l.take k).map (·.2)) [] [] σ (X.map (·.2))) (hw:PWD n ops K (l.drop k) (lG σ D X) ρd ρs):PWD n ops K l σ ρd ρs:=bt k [] D X bj h hw
theorem ba {n:Nat} {ops:Array Oper} {l:List Oper} {K:PPost} {σ:PEnv} {ρ:List PRes} (D:List Nat) (h:oO n ops ρ l [] [] σ [] D=lX n ops ρ l [] [] σ []) (hw:K (lG σ D []) ρ):PWL n ops l K σ ρ:=jN [] D [] bj h hw
theorem aN {n:Nat} {ops:Array Oper} {l:List Oper} {K:PPost} {σ:PEnv} {ρ:List PRes} (X:List (Nat×PV)) (h:oO n ops ρ l [] [] σ (X.map (·.1)) []=lX n ops ρ l [] [] σ (X.map (·.2))) (hw:K (lG σ [] X) ρ):PWL n ops l K σ ρ:=jN [] [] X bj h hw
theorem kv {n:Nat} {ops:Array Oper} {l:List Oper} {K:PPost} {σ:PEnv} {ρ:List PRes} (D:List Nat) (X:List (Nat×PV)) (h:oO n ops ρ l [] [] σ (X.map (·.1)) D=lX n ops ρ l [] [] σ (X.map (·.2))) (hw:K (lG σ D X) ρ):PWL n ops l K σ ρ:=jN [] D X bj h hw
theorem gt {n:Nat} {ops:Array Oper} {l:List Oper} {K:PPost} {σ:PEnv} {ρ:List PRes} (k:Nat) (H:List Nat) (X:List (Nat×PV)) (h:oO n ops ρ (l.take k) H [] σ (X.map (·.1)) []=lX n ops ρ (l.take k) H [] σ (X.map (·.2))) (hw:PWL n ops (l.drop k) K (lG σ [] X) ρ):PWL n ops l K σ ρ:=aU k H [] X bj h hw
theorem cO {n:Nat} {ops:Array Oper} {l:List Oper} {K:PPost} {σ:PEnv} {ρ:List PRes} (k:Nat) (H D:List Nat) (X:List (Nat×PV)) (h:oO n ops ρ (l.take k) H [] σ (X.map (·.1)) D=lX n ops ρ (l.take k) H [] σ (X.map (·.2))) (hw:PWL n ops (l.drop k) K (lG σ D X) ρ):PWL n ops l K σ ρ:=aU k H D X bj h hw
theorem aD {n:Nat} {ops:Array Oper} {l:List Oper} {K:PPost} {σ:PEnv} {ρ:List PRes} (k:Nat) (X:List (Nat×PV)) (h:oO n ops ρ (l.take k) [] [] σ (X.map (·.1)) []=lX n ops ρ (l.take k) [] [] σ (X.map (·.2))) (hw:PWL n ops (l.drop k) K (lG σ [] X) ρ):PWL n ops l K σ ρ:=aU k [] [] X bj h hw
theorem cE {n:Nat} {ops:Array Oper} {l:List Oper} {K:PPost} {σ:PEnv} {ρ:List PRes} (k:Nat) (D:List Nat) (X:List (Nat×PV)) (h:oO n ops ρ (l.take k) [] [] σ (X.map (·.1)) D=lX n ops ρ (l.take k) [] [] σ (X.map (·.2))) (hw:PWL n ops (l.drop k) K (lG σ D X) ρ):PWL n ops l K σ ρ:=aU k [] D X bj h hw
theorem ap {n:Nat} {ops:Array Oper} {o:Oper} {rest:List Oper} {K:PPost} {σ:PEnv} {ρ:List PRes} {d:Nat} (hg:(o.guard,o.dst,Nat.blt d n)=(none,some d,true)) (h:POpL o σ ρ fun p ρ'=>PWL n ops rest K (gh σ d p) ρ'):PWL n ops (o::rest) K σ ρ:=Cx (Prod.mk.inj hg).1 (Prod.mk.inj (Prod.mk.inj hg).2).1 (Prod.mk.inj (Prod.mk.inj hg).2).2 h
theorem zz {α:Type} {t:Nat} {enc:α→PV} {σ:PEnv} {ρ:List PRes} {v:α} (r:α) (h:some v=some r) (e:σ t=enc v):mn [.tmp t] (fun pv ρ'=>pv=enc r∧ρ'=[]) .ret σ ρ:=by cases h;exact aM (dp (aK e)) bB ⟨rfl,rfl⟩
theorem bZ {x y1:Code} {K1:Exit→PPost} {ρ1:List PRes} {n1:Nat} {σ1:PEnv} (h1:PWC n1 x (eX n1 y1 K1) σ1 ρ1):eX n1 (.seq x y1) K1 .normal σ1 ρ1:=aX (ae h1)
theorem cX {K1:Exit→PPost} {ρ1:List PRes} {n1:Nat} {σ1:PEnv} (h1:K1 .ret σ1 ρ1):eX n1 .ret K1 .normal σ1 ρ1:=aX (bR h1)
theorem cR {p:Bool} {x y1:Code} {K1:Exit→PPost} {ρ1:List PRes} {n1:Nat} {c:Operand} {σ1:PEnv} {α:Type} {a b r:α} (hc:bz σ1 c=.v (.bool p)) (h1:cond p a b=r) (ht:p=true→a=r→PWC n1 x K1 σ1 ρ1) (hf:p=false→b=r→PWC n1 y1 K1 σ1 ρ1):eX n1 (.cond c x y1) K1 .normal σ1 ρ1:=aX (kq hc h1 ht hf)
theorem cj {y1 x1 y:Code} {K1:Exit→PPost} {ρ:List PRes} {n:Nat} {σ:PEnv} (h:PWC n x1 (eX n y (eX n y1 K1)) σ ρ):eX n (.seq (.seq x1 y) y1) K1 .normal σ ρ:=bZ (ae h)
theorem dH {y:Code} {K1:Exit→PPost} {ρ1:List PRes} {id n:Nat} {σ1:PEnv} (h1:K1 .ret σ1 ρ1):eH id (eX n y K1) .ret σ1 ρ1:=dP (al h1)
theorem de {x y1:Code} {K1:Exit→PPost} {ρ1:List PRes} {n1:Nat} {σ1:PEnv} {α β:Type} {x1:Option α} {f:α→Option β} {r:β} (h:x1.bind f=some r) (k:∀ a,x1=some a→f a=some r→(PWC n1 x (eX n1 y1 K1) σ1 ρ1)):eX n1 (.seq x y1) K1 .normal σ1 ρ1:=bZ (aa h k)
theorem dg {K1:Exit→PPost} {l:List Oper} {ρ1:List PRes} {n id n1:Nat} {σ:PEnv} (X:List (Nat×PV)) (h:oO n l.toArray ρ1 l [] [] σ (X.map (·.1)) []=lX n l.toArray ρ1 l [] [] σ (X.map (·.2))) (h1:K1 .ret (lG σ [] X) ρ1):PWC n (.region id l.toArray false) (eX n1 .ret K1) σ ρ1:=ak X h (cX h1)
theorem du {x y:Code} {fn:Func} {ρ:List PRes} {pargs:List PV} {rs:List ResultVar} {f n1:Nat} {R:PV→List PRes→Prop} (hf:Tryz.prog.funcs[f]?=some fn) (hb:fn.body=some (.seq x y)) (hn:fn.ntmps=n1) (hres:fn.results=rs.toArray) (hsz:Nat.ble pargs.length n1=true) (h1:PWC n1 x (eX n1 y (mn rs R)) (zM pargs) ρ):PCall f pargs ρ R:=oN hf hb hn hres hsz (ae h1)
theorem qU {x1 y:Code} {K:Exit→PPost} {ρ1:List PRes} {id n1:Nat} {σ1:PEnv} (h1:PWC n1 x1 (eX n1 y (eH id K)) σ1 ρ1):PWC n1 (.block id (.seq x1 y)) K σ1 ρ1:=av (ae h1)
theorem ft {y:Code} {K:Exit→PPost} {ρ:List PRes} {n:Nat} {σ:PEnv} {α β:Type} {x:Option α} {f:α→Option β} {r:β} (h1:x.bind f=some r) (k:∀ a,x=some a→f a=some r→(PWC n y K σ ρ)):eX n y K .normal σ ρ:=aX (aa h1 k)
theorem cT {y x1 y1:Code} {K:Exit→PPost} {ρ1:List PRes} {n1:Nat} {σ1:PEnv} (h1:PWC n1 x1 (eX n1 y1 (eX n1 y K)) σ1 ρ1):PWC n1 (.seq (.seq x1 y1) y) K σ1 ρ1:=ae (ae h1)
theorem cP {K1:Exit→PPost} {ρ1:List PRes} {id:Nat} {σ1:PEnv} {Y:Type} {L:Y→List (Nat×PV)} {R:Y→List PRes} {J:Y→Prop} (h1:K1 .ret σ1 ρ1):eH id (ml L R J K1) .ret σ1 ρ1:=dP (mU h1)
theorem dI {y:Code} {K1:Exit→PPost} {ρ1:List PRes} {id n:Nat} {σ1:PEnv} (h1:PWC n y K1 σ1 ρ1):eH id (eX n y K1) .normal σ1 ρ1:=aG (aX h1)
theorem cq {y:Code} {K1:Exit→PPost} {ρ1:List PRes} {n id1:Nat} {σ1:PEnv} {Y S T:Type} {o:S⊕T} {t t':T} {L:Y→S→List (Nat×PV)} {R:Y→S→List PRes} (h1:some (Sum.inr t')=some o) (hk:t'=t→K1 (.exit id1) σ1 ρ1):eX n y (kn L R t o K1) (.exit id1) σ1 ρ1:=hC (my h1 hk)
theorem bF {p:Bool} {x y1:Code} {K1:Exit→PPost} {l:List Oper} {ρ1:List PRes} {n id n1:Nat} {c:Operand} {σ:PEnv} {α:Type} {a b r:α} (D:List Nat) (X:List (Nat×PV)) (h:oO n l.toArray ρ1 l [] [] σ (X.map (·.1)) D=lX n l.toArray ρ1 l [] [] σ (X.map (·.2))) (hc:bz (lG σ D X) c=.v (.bool p)) (h1:cond p a b=r) (ht:p=true→a=r→PWC n1 x K1 (lG σ D X) ρ1) (hf:p=false→b=r→PWC n1 y1 K1 (lG σ D X) ρ1):PWC n (.region id l.toArray false) (eX n1 (.cond c x y1) K1) σ ρ1:=ai D X h (cR hc h1 ht hf)
theorem dJ {y1 x1 y:Code} {K1:Exit→PPost} {ρ11:List PRes} {id n11:Nat} {σ11:PEnv} (h11:PWC n11 x1 (eX n11 y (eH id (eX n11 y1 K1))) σ11 ρ11):eX n11 (.seq (.block id (.seq x1 y)) y1) K1 .normal σ11 ρ11:=bZ (qU h11)
theorem da {K:Exit→PPost} {rest:List Oper} {ρ1:List PRes} {id n1 d:Nat} {o:Oper} {σ1:PEnv} (hg:(o.guard,o.dst,Nat.blt d n1)=(none,some d,true)) (h1:POpL o σ1 ρ1 fun p ρ'=>PWL n1 (o::rest).toArray rest (K .normal) (gh σ1 d p) ρ'):PWC n1 (.region id (o::rest).toArray false) K σ1 ρ1:=af (ap hg h1)
def na (p0:(List Int)) (p1:Int):Option (List Int):=cond (decide (p1<(p0.length:Int))) ((sub p0 0 p1).bind fun l2=>some l2) (some p0)
theorem tW {p0:(List Int)} {p1:Int} {r:(List Int)}  (h:na p0 p1=some r):PF 38 [pL eI p0,pI p1] (pL eI r):=by
 unfold na at h
 refine bd ?_
 refine du Tryz.func38 rfl Tryz.ntmps38 Tryz.results38 rfl (aW [4] (by kernel_rfl) (cj (bF [5,6,7] [(8,pB (decide (p1<(p0.length:Int))))] (by kernel_rfl) rfl h (fun hc1 h=>?_) fun hc1 h=>?_)))
 ·refine ae ?_
  refine aa h fun l2 hl2 h=>aq [] [9,10,11] [(4,pL eI l2)] (vz 2 eI 1 (fun _=>rfl) hl2 bj) (by kernel_rfl) (cX (al ?_))
  exact zz r h rfl
 refine ah ?_
 refine bZ (ai [12] [(4,pL eI p0)] (by kernel_rfl) (cX ?_))
 exact zz r h rfl
def lI (p0:Int) (p1:Int):Option Int:=(nz p1).bind fun u1=>(nz p1).bind fun u2=>lb ((Int.tmod (IntKind.i64.wrap ((Int.tmod p0 p1)+p1)) p1)) (fun w3=>some w3)
theorem vK {p0:Int} {p1:Int} {r:Int}  (h:lI p0 p1=some r):PF 34 [pI p0,pI p1] (pI r):=by
 unfold lI at h
 refine bd ?_
 refine du Tryz.func34 rfl Tryz.ntmps34 Tryz.results34 rfl (aW [4] (by kernel_rfl) (de h fun u1 hu1 h=>aa h fun u2 hu2 h=>?_))
 refine e9 h ?_;clear h;intro w3 hw3 h
 refine af (aU 7 [] (rg 5 6) [(11,pI (Int.tmod (IntKind.i64.wrap ((Int.tmod p0 p1)+p1)) p1))] (DE 2 hu1 (DE 6 hu2 bj)) (by kernel_rfl) (bX rfl rfl rfl (bV rfl (.p (congrArg (fun z=>PV.v (Value.int .i64 z)) hw3))) (aF (cX ?_))))
 exact zz r h rfl
def aV (p0:Zj) (p1:Int):Option (Int×Zj):=cond (decide ((p0.L.length:Int)≤p0.I)) (some ((0:Int),p0)) ((idx p0.L (IntKind.i64.wrap ((IntKind.i64.wrap (p0.I+1)) - 1))).bind fun m2=>(lI m2 p1).bind fun x3=>some (x3,(⟨p0.L,(IntKind.i64.wrap (p0.I+1))⟩:Zj)))
theorem aR {p0:Zj} {p1:Int} {b0:Nat} {r:(Int×Zj)}  (h:aV p0 p1=some r):PCall 39 [pP b0 0,pI p1] [PRes.b b0 71 [pL eI p0.L,pI p0.I]] (fun pv ρ'=>pv=pI r.1∧ρ'=[PRes.b b0 71 [pL eI r.2.L,pI r.2.I]]):=by
 unfold aV at h
 refine du Tryz.func39 rfl Tryz.ntmps39 Tryz.results39 rfl (aW [4] (by kernel_rfl) (cj (bi (ρd:=[]) [(0,0),(1,0),(2,0),(3,0),(4,0),(5,0),(6,0),(7,0),(8,0),(9,0)] _ (List.Perm.refl _) (by kernel_rfl) rfl (qd 10 [0,0] (rg 5 9) [(14,pB (decide ((p0.L.length:Int)≤p0.I)))] (by kernel_rfl) (bA (cR rfl h (fun hc1 h=>?_) fun hc1 h=>?_))))))
 ·refine ae ?_
  refine dg [(4,pI 0)] (by kernel_rfl) (al ?_)
  obtain rfl:=osi h
  exact aM (dp (aK rfl)) cK ⟨rfl,rfl⟩
 refine ah ?_
 refine bZ (af (cO 7 [0] [15,16,17,18,20] [(19,pI (IntKind.i64.wrap (p0.I+1))),(21,pP b0 1)] (by kernel_rfl) (aP rfl rfl (am (vs:=[pI (IntKind.i64.wrap (p0.I+1))]) rfl rfl rfl rfl rfl ce (dX oA) (aF (bZ (bi (ρd:=[]) [(0,0),(1,0),(2,0),(3,0),(4,0),(5,0),(6,0),(7,0),(8,0),(9,0),(10,0),(11,0),(12,1),(13,0)] _ (List.Perm.refl _) (by kernel_rfl) rfl (aa h fun m2 hm2 h=>aa h fun x3 hx3 h=>bt 14 [0,0] (rg 22 13) [(4,pI x3)] (cL 9 eI hm2 (bg 12 (vK hx3) bj)) (by kernel_rfl) (bA (cX ?_))))))))))
 obtain rfl:=osi h
 exact aM (dp (aK rfl)) cK ⟨rfl,rfl⟩
def gN (p0:Zj) (p1:Int):Option (ByteArray×Zj):=(aV p0 2).bind fun x1=>(aT (S:=(List Int)×(List Int)×Int) (T:=((List Int)×(List Int)×Int)) (fun (l5,l8,v9)=>cond (decide (((l5.length:Nat):Int)<p1)) ((aV (⟨l8,v9⟩:Zj) 3).bind fun x19=>(app 1 l5 [48,(IntKind.u8.wrap (IntKind.i64.wrap (49+x19.1)))]).bind fun l22=>some (.inl (l22,x19.2.L,x19.2.I))) (some (.inr (l5,l8,v9)))) FUEL ([57,(IntKind.u8.wrap (IntKind.i64.wrap (52+x1.1)))],x1.2.L,x1.2.I)).bind fun (l13,l14,v15)=>some ((strOfNums l13),(⟨l14,v15⟩:Zj))
theorem rb {p0:Zj} {p1:Int} {b0:Nat} {r:(ByteArray×Zj)}  (h:gN p0 p1=some r):PCall 40 [pP b0 0,pI p1] [PRes.b b0 71 [pL eI p0.L,pI p0.I]] (fun pv ρ'=>pv=pS r.1∧ρ'=[PRes.b b0 71 [pL eI r.2.L,pI r.2.I]]):=by
 unfold gN at h
 refine du Tryz.func40 rfl Tryz.ntmps40 Tryz.results40 rfl (aW [4] (by kernel_rfl) (de h fun x1 hx1 h=>af (aD 1 [(6,pP b0 0)] (by kernel_rfl) ?_)))
 refine ap rfl (bh rfl rfl (ρ1:=[_]) (aY (by exact aO) (List.Perm.refl _)) (aR hx1) ?_);rintro _ _ ⟨rfl,rfl⟩
 refine cE 2 [8] [(9,pY (IntKind.u8.wrap (IntKind.i64.wrap (52+x1.1))))] (by kernel_rfl) (ap rfl (bN rfl rfl rfl rfl rfl (ij rfl (ij rfl kf)) rfl rfl rfl rfl (fun b2=>aN [(5,pO (some ⟨b2,0,none⟩) 2 2)] (by kernel_rfl) (de h fun q17 hq17 h=>?_))))
 refine ar (Y:=(Option Addr×Nat)×((List Int)×(List Int)×Int)) (fun ((a11,c12),(l13,l14,v15))=>[(5,pO a11 l13.length c12)]) (fun ((a11,c12),(l13,l14,v15))=>[PRes.b b0 71 [pL eI l14,pI v15],PRes.row a11 l13.length c12 5 1 (List.map eB l13)]) (fun ((a11,c12),(l13,l14,v15))=>q17=(l13,l14,v15)) ?_ ?_
 ·refine av ?_
  refine aC (Y:=Option Addr×Nat) (S:=(List Int)×(List Int)×Int) _ hq17 (fun (a6,c7) (l5,l8,v9)=>[(0,pP b0 0),(1,pI p1),(5,pO a6 l5.length c7)]) (fun (a6,c7) (l5,l8,v9)=>[PRes.b b0 71 [pL eI l8,pI v9],PRes.row a6 l5.length c7 5 1 (List.map eB l5)]) ((some ⟨b2,0,none⟩),2) (nV rfl) (be (aB aO) cK) ?_
  rintro ⟨a6,c7⟩ ⟨l5,l8,v9⟩ o τ hb16;(try dsimp only at hb16);dsimp only [az]
  refine cT (bF [11,12,13] [(14,pB (decide (((l5.length:Nat):Int)<p1)))] (by kernel_rfl) rfl hb16 (fun hc18 hb16=>?_) fun hc18 hb16=>?_)
  ·refine ah ?_
   refine aX (av (aa hb16 fun x19 hx19 hb16=>af (aD 2 [(15,pO a6 l5.length c7),(16,pP b0 0)] (by kernel_rfl) ?_)))
   refine ap rfl (bh rfl rfl (ρ1:=[_]) (aY (by exact aO) (List.Perm.refl _)) (aR hx19) ?_);rintro _ _ ⟨rfl,rfl⟩
   refine cE 2 [18] [(19,pY (IntKind.u8.wrap (IntKind.i64.wrap (49+x19.1))))] (by kernel_rfl) (ap rfl (bN rfl rfl rfl rfl rfl (ij rfl (ij rfl kf)) rfl rfl rfl rfl (fun b20=>aa hb16 fun l22 hl22 hb16=>?_)))
   refine ap rfl (cr (enc:=eB) rfl rfl rfl rfl rfl rfl rfl rfl rfl gb (by exact aB (aB aO)) hl22 (fun a23 c24=>?_))
   refine aN [(5,pO a23 l22.length c24)] (by kernel_rfl) (aG ?_)
   exact aS hb16 (a23,c24) (nV rfl) (be (aB (aB aO)) cK)
  refine aH ?_
  refine cq hb16 (fun ht=>aj rfl ?_)
  exact aw ((a6,c7),(l5,l8,v9)) (rD rfl) n8 ht.symm
 rintro ⟨⟨a11,c12⟩,⟨l13,l14,v15⟩⟩ τ hz;(try dsimp only at hz);subst q17;(try dsimp only at h);dsimp only [az]
 refine ae (af (aD 1 [(22,pO a11 l13.length c12)] (by kernel_rfl) (ap rfl (Fg rfl rfl rfl rfl rfl (xs:=l13) wU rfl (aN [(4,pS (strOfNums l13))] (by kernel_rfl) (cX ?_))))))
 obtain rfl:=osi h
 exact aM (dp (aK rfl)) cK ⟨rfl,rfl⟩
def gO  : Option (List ByteArray):=some [(⟨#[65,65]⟩:ByteArray),(⟨#[66,66]⟩:ByteArray),(⟨#[67,67]⟩:ByteArray),(⟨#[68,68]⟩:ByteArray),(⟨#[69,69]⟩:ByteArray),(⟨#[70,70]⟩:ByteArray)]
theorem kw  {r:(List ByteArray)}  (h:gO  = some r):PF 41 [] (pL eS r):=by
 unfold gO at h
 refine bd ?_
 refine du Tryz.func41 rfl Tryz.ntmps41 Tryz.results41 rfl (aW [0] (by kernel_rfl) (bZ (da rfl (bN rfl rfl rfl rfl rfl (ij rfl (ij rfl (ij rfl (ij rfl (ij rfl (ij rfl kf)))))) rfl rfl rfl rfl (fun b1=>aN [(0,pO (some ⟨b1,0,none⟩) 6 6)] (by kernel_rfl) (aX ?_))))))
 refine fe (enc:=eS) (xs:=[(⟨#[65,65]⟩:ByteArray),(⟨#[66,66]⟩:ByteArray),(⟨#[67,67]⟩:ByteArray),(⟨#[68,68]⟩:ByteArray),(⟨#[69,69]⟩:ByteArray),(⟨#[70,70]⟩:ByteArray)]) 0 rfl (by exact aO) ?_
 refine bR ?_
 exact zz r h rfl
def eN (p0:Zj):Option ((List ByteArray)×Zj):=(aV p0 32).bind fun x1=>(aT (S:=(List ByteArray)×Int) (T:=((List ByteArray))) (fun (l3,v6)=>cond (decide (v6<5)) (((lF v6).bind fun u20=>cond ((dq .i64 (cD .i64 x1.1 v6) 1) == 1) ((idx [(⟨#[97,110,100]⟩:ByteArray),(⟨#[99,117,116]⟩:ByteArray),(⟨#[111,114]⟩:ByteArray),(⟨#[115,101,119]⟩:ByteArray),(⟨#[115,112,105,110]⟩:ByteArray)] v6).bind fun m24=>(app 16 l3 [m24]).bind fun l27=>some l27) (some l3)).bind fun l18=>some (.inl (l18,(IntKind.i64.wrap (v6+1))))) (some (.inr l3))) FUEL (([]:List ByteArray),0)).bind fun l10=>some (l10,x1.2)
theorem nJ {p0:Zj} {b0:Nat} {r:((List ByteArray)×Zj)}  (h:eN p0=some r):PCall 42 [pP b0 0] [PRes.b b0 71 [pL eI p0.L,pI p0.I]] (fun pv ρ'=>pv=pL eS r.1∧ρ'=[PRes.b b0 71 [pL eI r.2.L,pI r.2.I]]):=by
 unfold eN at h
 refine du Tryz.func42 rfl Tryz.ntmps42 Tryz.results42 rfl (aW [2] (by kernel_rfl) (bZ (ak [(3,pN)] (by kernel_rfl) (de h fun x1 hx1 h=>af (aD 1 [(6,pP b0 0)] (by kernel_rfl) ?_)))))
 refine ap rfl (bh rfl rfl (ρ1:=[_]) (aY (by exact aO) (List.Perm.refl _)) (aR hx1) ?_);rintro _ _ ⟨rfl,rfl⟩
 refine aN [(4,pI x1.1)] (by kernel_rfl) (cj (ak [(5,pI 0)] (by kernel_rfl) (aX (di 9 1 (aa h fun q12 hq12 h=>?_)))))
 refine ar (Y:=(Option Addr×Nat)×((List ByteArray))) (fun ((a8,c9),l10)=>[(3,pO a8 l10.length c9)]) (fun ((a8,c9),l10)=>[PRes.b b0 71 [pL eI x1.2.L,pI x1.2.I],PRes.row a8 l10.length c9 9 1 (List.map eS l10)]) (fun ((a8,c9),l10)=>q12=l10) ?_ ?_
 ·refine av ?_
  refine aC (Y:=Option Addr×Nat) (S:=(List ByteArray)×Int) _ hq12 (fun (a4,c5) (l3,v6)=>[(3,pO a4 l3.length c5),(4,pI x1.1),(5,pI v6)]) (fun (a4,c5) (l3,v6)=>[PRes.b b0 71 [pL eI x1.2.L,pI x1.2.I],PRes.row a4 l3.length c5 9 1 (List.map eS l3)]) (none,0) (nV rfl) (be (aB aO) cK) ?_
  rintro ⟨a4,c5⟩ ⟨l3,v6⟩ o τ hb11;(try dsimp only at hb11);dsimp only [az]
  refine cT (bF [8] [(9,pB (decide (v6<5)))] (by kernel_rfl) rfl hb11 (fun hc14 hb11=>?_) fun hc14 hb11=>?_)
  ·refine ah ?_
   refine de hb11 fun q19 hq19 hb11=>?_
   refine ar (Y:=(Option Addr×Nat)×((List ByteArray))) (fun ((a16,c17),l18)=>[(3,pO a16 l18.length c17),(4,pI x1.1),(5,pI v6)]) (fun ((a16,c17),l18)=>[PRes.b b0 71 [pL eI x1.2.L,pI x1.2.I],PRes.row a16 l18.length c17 9 1 (List.map eS l18)]) (fun ((a16,c17),l18)=>q19=l18) ?_ ?_
   ·skip
    refine qU (aa hq19 fun u20 hu20 hq19=>aq [] [12,13,14,15] [(16,pB ((dq .i64 (cD .i64 x1.1 v6) 1) == 1))] (un 2 hu20 bj) (by kernel_rfl) (cR rfl hq19 (fun hc21 hq19=>?_) fun hc21 hq19=>?_))
    ·refine af ?_
     refine aD 1 [(17,pO a4 l3.length c5)] (by kernel_rfl) (ap rfl (bN rfl rfl rfl rfl rfl (ij rfl (ij rfl (ij rfl (ij rfl (ij rfl kf))))) rfl rfl rfl rfl (fun b22=>aa hq19 fun m24 hm24 hq19=>aD 1 [(19,pI v6)] (by kernel_rfl) (bX rfl rfl rfl (eA (enc:=eS) (xs:=[(⟨#[97,110,100]⟩:ByteArray),(⟨#[99,117,116]⟩:ByteArray),(⟨#[111,114]⟩:ByteArray),(⟨#[115,101,119]⟩:ByteArray),(⟨#[115,112,105,110]⟩:ByteArray)]) rfl rfl rfl (.p rfl) gb (.p rfl) (fun _=>hm24)) (bX rfl rfl rfl (dY (sz:=1) (p:=pS m24) (enc:=eS) (xs:=[(⟨#[97,110,100]⟩:ByteArray),(⟨#[99,117,116]⟩:ByteArray),(⟨#[111,114]⟩:ByteArray),(⟨#[115,101,119]⟩:ByteArray),(⟨#[115,112,105,110]⟩:ByteArray)]) (a:=(some ⟨b22,0,none⟩)) v6 0 m24 rfl (.p rfl) rfl gb (fun _=>hm24) rfl) (ap rfl (bN rfl rfl rfl rfl rfl (ij rfl kf) rfl rfl rfl rfl (fun b25=>aa hq19 fun l27 hl27 hq19=>?_))))))))
     refine ap rfl (cr (enc:=eS) rfl rfl rfl rfl rfl rfl rfl rfl rfl gb (by exact aB (aB (aB aO))) hl27 (fun a28 c29=>?_))
     refine aN [(3,pO a28 l27.length c29)] (by kernel_rfl) (aG ?_)
     obtain rfl:=osi hq19
     exact aw ((a28,c29),l27) (nV rfl) (be (aB (aB (aB aO))) cK) rfl
    refine ah ?_
    refine aG ?_
    obtain rfl:=osi hq19
    exact aw ((a4,c5),l3) (nV rfl) n8 rfl
   rintro ⟨⟨a16,c17⟩,l18⟩ τ hz;(try dsimp only at hz);subst q19;(try dsimp only at hb11);dsimp only [az]
   refine ai [10,11] [(5,pI (IntKind.i64.wrap (v6+1)))] (by kernel_rfl) ?_
   exact aS hb11 (a16,c17) (nV rfl) n8
  refine aH ?_
  refine cq hb11 (fun ht=>aj rfl ?_)
  exact aw ((a4,c5),l3) (rD rfl) n8 ht.symm
 rintro ⟨⟨a8,c9⟩,l10⟩ τ hz;(try dsimp only at hz);subst q12;(try dsimp only at h);dsimp only [az]
 refine ae (ai [24] [(2,pO a8 l10.length c9)] (by kernel_rfl) (aX ?_))
 refine fe (enc:=eS) (xs:=l10) 2 rfl (by exact aB aO) ?_
 refine bR ?_
 obtain rfl:=osi h
 exact aM (dp (aK rfl)) (be (aB aO) bB) ⟨rfl,rfl⟩
def n9 (p0:(List Int)):Option (List Zc):=(na p0 300).bind fun x1=>(aV (⟨x1,0⟩:Zj) 10).bind fun x3=>(aT (S:=(List Zc)×Int×(List Int)×Int) (T:=((List Zc))) (fun (l5,v8,l9,v10)=>cond (decide (v8≤(IntKind.i64.wrap (1+x3.1)))) ((aV (⟨l9,v10⟩:Zj) 2).bind fun x19=>(gN x19.2 (IntKind.i64.wrap (6+(IntKind.i64.wrap (2*x19.1))))).bind fun x20=>(gO).bind fun x21=>(aV x20.2 4).bind fun x22=>(idx x21 x22.1).bind fun m23=>(aV x22.2 200).bind fun x24=>(eN x24.2).bind fun x25=>(aV x25.2 4).bind fun x26=>(aV x26.2 1024).bind fun x28=>(aT (S:=Int×(List Int)×Int×(List Zi)) (T:=((List Int)×Int×(List Zi))) (fun (v29,l30,v31,l33)=>cond (((decide (v29≤(IntKind.i64.wrap (1+x3.1))))&&(decide (((l33.length:Nat):Int)<4)))&&(!(x26.1 == 1))) (((lF (IntKind.i64.wrap (v29 - 1))).bind fun u55=>(gdp (((dq .i64 (cD .i64 x28.1 (IntKind.i64.wrap (v29 - 1))) 1) == 1)&&(!(decide (v29<v8)))) (aV (⟨l30,v31⟩:Zj) 3) (⟨l30,v31⟩:Zj)).bind fun x56=>cond (((dq .i64 (cD .i64 x28.1 (IntKind.i64.wrap (v29 - 1))) 1) == 1)&&((decide (v29<v8))||(x56.1 == 1))) ((aV x56.2 100).bind fun x58=>(app 16 l33 [(⟨(IntKind.i64.wrap (3*v29)),x58.1⟩:Zi)]).bind fun l61=>some (x58.2.L,x58.2.I,l61)) (some (x56.2.L,x56.2.I,l33))).bind fun (l48,v49,l53)=>some (.inl ((IntKind.i64.wrap (v29+1)),l48,v49,l53))) (some (.inr (l30,v31,l33)))) FUEL (1,x28.2.L,x28.2.I,([]:List Zi))).bind fun (l37,v38,l42)=>(app 104 l5 [(⟨(IntKind.i64.wrap (3*v8)),x20.1,m23,(IntKind.i64.wrap (1+x24.1)),(x26.1 == 1),x25.1,l42⟩:Zc)]).bind fun l68=>some (.inl (l68,(IntKind.i64.wrap (v8+1)),l37,v38))) (some (.inr l5))) FUEL (([]:List Zc),1,x3.2.L,x3.2.I)).bind fun l14=>some l14
theorem yM {p0:(List Int)} {r:(List Zc)}  (h:n9 p0=some r):PCall 12 [pL eI p0] [] (fun pv ρ'=>∃ a c,pv=.v (.slice a r.length c)∧ρ'=[PRes.row a r.length c 76 7 (List.map Zc.enc r)]):=by
 unfold n9 at h
 refine du Tryz.func12 rfl Tryz.ntmps12 Tryz.results12 rfl (aW [2] (by kernel_rfl) (de h fun x1 hx1 h=>af (aU 3 [] [10,11] [(12,.agg [pL eI x1,pI 0])] (bg 1 (tW hx1) bj) (by kernel_rfl) (ap rfl (bf (cs:=[pL eI x1,pI 0]) rfl rfl (fun b2=>aN [(3,pP b2 0)] (by kernel_rfl) (de h fun x3 hx3 h=>af (aD 1 [(14,pP b2 0)] (by kernel_rfl) ?_))))))))
 refine ap rfl (bh rfl rfl (ρ1:=[_]) (aY (by exact aO) (List.Perm.refl _)) (aR hx3) ?_);rintro _ _ ⟨rfl,rfl⟩
 refine kv [16] [(4,pI (IntKind.i64.wrap (1+x3.1)))] (by kernel_rfl) (bZ (ak [(5,pN)] (by kernel_rfl) (cj (ak [(6,pI 1)] (by kernel_rfl) (aX (di 76 7 (aa h fun q16 hq16 h=>?_)))))))
 refine ar (Y:=(Option Addr×Nat)×((List Zc))) (fun ((a12,c13),l14)=>[(5,pO a12 l14.length c13)]) (fun ((a12,c13),l14)=>[PRes.row a12 l14.length c13 76 7 (List.map Zc.enc l14)]) (fun ((a12,c13),l14)=>q16=l14) ?_ ?_
 ·refine av ?_
  refine aC (Y:=Option Addr×Nat) (S:=(List Zc)×Int×(List Int)×Int) _ hq16 (fun (a6,c7) (l5,v8,l9,v10)=>[(3,pP b2 0),(4,pI (IntKind.i64.wrap (1+x3.1))),(5,pO a6 l5.length c7),(6,pI v8)]) (fun (a6,c7) (l5,v8,l9,v10)=>[PRes.b b2 71 [pL eI l9,pI v10],PRes.row a6 l5.length c7 76 7 (List.map Zc.enc l5)]) (none,0) (iR rfl) (be (aB aO) cK) ?_
  rintro ⟨a6,c7⟩ ⟨l5,v8,l9,v10⟩ o τ hb15;(try dsimp only at hb15);dsimp only [az]
  refine cT (bF [17,18] [(19,pB (decide (v8≤(IntKind.i64.wrap (1+x3.1)))))] (by kernel_rfl) rfl hb15 (fun hc18 hb15=>?_) fun hc18 hb15=>?_)
  ·refine ah ?_
   refine dJ (bi (ρd:=[PRes.b b2 _ _]) [(0,0),(1,0),(2,0),(3,0),(9,0),(13,0),(16,0),(18,0),(4,1),(5,0),(6,0),(7,1),(8,1),(10,1),(11,0),(12,0),(14,1),(15,0),(17,1),(19,1),(20,0),(21,0),(22,2),(23,1)] _ (List.Perm.refl _) (by kernel_rfl) rfl (aa hb15 fun x19 hx19 hb15=>mZ 8 [22] [(23,pI (IntKind.i64.wrap (3*v8))),(24,pP b2 0),(25,pP b2 0),(31,pP b2 0),(35,pP b2 0),(38,pP b2 0),(40,pP b2 0)] (by kernel_rfl) ?_))
   refine iT rfl rfl rfl (bh rfl rfl (ρ1:=[_]) (aY (by exact aO) (List.Perm.refl _)) (aR hx19) ?_);rintro _ _ ⟨rfl,rfl⟩
   refine aa hb15 fun x20 hx20 hb15=>mZ 2 [27] [(28,pI (IntKind.i64.wrap (6+(IntKind.i64.wrap (2*x19.1)))))] (by kernel_rfl) ?_
   refine iT rfl rfl rfl (bh rfl rfl (ρ1:=[_]) (aY (by exact aO) (List.Perm.refl _)) (rb hx20) ?_);rintro _ _ ⟨rfl,rfl⟩
   refine aa hb15 fun x21 hx21 hb15=>aa hb15 fun x22 hx22 hb15=>bt 1 [] [] [(30,pL eS x21)] (bg 0 (kw hx21) bj) (by kernel_rfl) ?_
   refine iT rfl rfl rfl (bh rfl rfl (ρ1:=[_]) (aY (by exact aO) (List.Perm.refl _)) (aR hx22) ?_);rintro _ _ ⟨rfl,rfl⟩
   refine aa hb15 fun m23 hm23 hb15=>aa hb15 fun x24 hx24 hb15=>bt 2 [] [33] [(34,pS m23)] (cL 0 eS hm23 bj) (by kernel_rfl) ?_
   refine iT rfl rfl rfl (bh rfl rfl (ρ1:=[_]) (aY (by exact aO) (List.Perm.refl _)) (aR hx24) ?_);rintro _ _ ⟨rfl,rfl⟩
   refine aa hb15 fun x25 hx25 hb15=>iW 1 [(37,pI (IntKind.i64.wrap (1+x24.1)))] (by kernel_rfl) ?_
   refine iT rfl rfl rfl (bh rfl rfl (ρ1:=[_]) (aY (by exact aO) (List.Perm.refl _)) (nJ hx25) ?_);rintro _ _ ⟨rfl,rfl⟩
   refine aa hb15 fun x26 hx26 hb15=>?_
   refine iT rfl rfl rfl (bh rfl rfl (ρ1:=[_]) (aY (by exact aO) (List.Perm.refl _)) (aR hx26) ?_);rintro _ _ ⟨rfl,rfl⟩
   refine mZ 2 [42] [(43,.agg [pI (IntKind.i64.wrap (3*v8)),pS x20.1,pS m23,pI (IntKind.i64.wrap (1+x24.1)),pB (x26.1 == 1),pL eS x25.1,pN])] (by kernel_rfl) (sk (tQ rfl rfl rfl rfl rfl) (fun _=>rfl) rfl (fun b27=>yB rfl rfl (am (vs:=[pI (IntKind.i64.wrap (3*v8)),pS x20.1,pS m23,pI (IntKind.i64.wrap (1+x24.1)),pB (x26.1 == 1),pL eS x25.1,pN]) rfl rfl rfl rfl rfl ce mX (bA (de hb15 fun x28 hx28 hb15=>af (aD 1 [(44,pP b2 0)] (by kernel_rfl) ?_))))))
   refine ap rfl (bh rfl rfl (ρ1:=[_]) (aY (by exact aB aO) (List.Perm.refl _)) (aR hx28) ?_);rintro _ _ ⟨rfl,rfl⟩
   refine aN [(8,pI x28.1)] (by kernel_rfl) (cj (ak [(9,pI 1)] (by kernel_rfl) (aX (di 78 2 (aa hb15 fun q44 hq44 hb15=>?_)))))
   refine ar (Y:=(Option Addr×Nat)×((List Int)×Int×(List Zi))) (fun ((a40,c41),(l37,v38,l42))=>[(3,pP b2 0),(4,pI (IntKind.i64.wrap (1+x3.1))),(5,pO a6 l5.length c7),(6,pI v8),(7,pP b27 0)]) (fun ((a40,c41),(l37,v38,l42))=>[PRes.b b2 71 [pL eI l37,pI v38],PRes.b b27 76 [pI (IntKind.i64.wrap (3*v8)),pS x20.1,pS m23,pI (IntKind.i64.wrap (1+x24.1)),pB (x26.1 == 1),pL eS x25.1,pO a40 l42.length c41],PRes.row a6 l5.length c7 76 7 (List.map Zc.enc l5),PRes.row a40 l42.length c41 78 2 (List.map Zi.enc l42)]) (fun ((a40,c41),(l37,v38,l42))=>q44=(l37,v38,l42)) ?_ ?_
   ·refine av ?_
    refine aC (Y:=Option Addr×Nat) (S:=Int×(List Int)×Int×(List Zi)) _ hq44 (fun (a34,c35) (v29,l30,v31,l33)=>[(3,pP b2 0),(4,pI (IntKind.i64.wrap (1+x3.1))),(5,pO a6 l5.length c7),(6,pI v8),(7,pP b27 0),(8,pI x28.1),(9,pI v29)]) (fun (a34,c35) (v29,l30,v31,l33)=>[PRes.b b2 71 [pL eI l30,pI v31],PRes.b b27 76 [pI (IntKind.i64.wrap (3*v8)),pS x20.1,pS m23,pI (IntKind.i64.wrap (1+x24.1)),pB (x26.1 == 1),pL eS x25.1,pO a34 l33.length c35],PRes.row a34 l33.length c35 78 2 (List.map Zi.enc l33),PRes.row a6 l5.length c7 76 7 (List.map Zc.enc l5)]) (none,0) (sR rfl) (be (aB aO) (be (aB aO) n8)) ?_
    rintro ⟨a34,c35⟩ ⟨v29,l30,v31,l33⟩ o τ hb43;(try dsimp only at hb43);dsimp only [az]
    refine cT (aJ [1,1] (rg 46 13) [(59,pB (((decide (v29≤(IntKind.i64.wrap (1+x3.1))))&&(decide (((l33.length:Nat):Int)<4)))&&(!(x26.1 == 1))))] (by kernel_rfl) (cR rfl hb43 (fun hc46 hb43=>?_) fun hc46 hb43=>?_))
    ·refine ah ?_
     refine de hb43 fun q54 hq54 hb43=>?_
     refine ar (Y:=(Option Addr×Nat)×((List Int)×Int×(List Zi))) (fun ((a51,c52),(l48,v49,l53))=>[(3,pP b2 0),(4,pI (IntKind.i64.wrap (1+x3.1))),(5,pO a6 l5.length c7),(6,pI v8),(7,pP b27 0),(8,pI x28.1),(9,pI v29)]) (fun ((a51,c52),(l48,v49,l53))=>[PRes.b b2 71 [pL eI l48,pI v49],PRes.b b27 76 [pI (IntKind.i64.wrap (3*v8)),pS x20.1,pS m23,pI (IntKind.i64.wrap (1+x24.1)),pB (x26.1 == 1),pL eS x25.1,pO a51 l53.length c52],PRes.row a6 l5.length c7 76 7 (List.map Zc.enc l5),PRes.row a51 l53.length c52 78 2 (List.map Zi.enc l53)]) (fun ((a51,c52),(l48,v49,l53))=>q54=(l48,v49,l53)) ?_ ?_
     ·skip
      refine qU (aa hq54 fun u55 hu55 hq54=>aa hq54 fun x56 hx56 hq54=>af (aU 12 [] ((rg 62 6)++[69,70,71]) [(68,pB ((dq .i64 (cD .i64 x28.1 (IntKind.i64.wrap (v29 - 1))) 1) == 1)),(72,pgv ((dq .i64 (cD .i64 x28.1 (IntKind.i64.wrap (v29 - 1))) 1) == 1) (pB (decide (v29<v8)))),(73,pgv (((dq .i64 (cD .i64 x28.1 (IntKind.i64.wrap (v29 - 1))) 1) == 1)&&(!(decide (v29<v8)))) (pP b2 0))] (un 3 hu55 bj) (by kernel_rfl) ?_))
      refine rE (sY rfl rfl rfl) rfl rfl rfl (by exact aO) (kV (.g rfl) (kV (.p rfl) td)) (fun hc=>aR (gdp_t hx56 hc)) (fun hc=>by rw [gdp_f hx56 hc]) ?_
      refine vl (sY rfl rfl rfl) rfl rfl (Bn rfl (.g rfl) (.p rfl) rfl) (vl (sj rfl rfl rfl) rfl rfl (E8 rfl (.g rfl) (.p rfl) (.g rfl)) (bX rfl rfl rfl (Bm rfl (.p rfl) (.p rfl) (.g rfl)) (aF (cR rfl hq54 (fun hc57 hq54=>?_) fun hc57 hq54=>?_))))
      ·refine aa hq54 ?_;clear hq54;intro x58 hx58 hq54
       refine aa hq54 fun l61 hl61 hq54=>?_
       refine ju (Y:=Option Addr×Nat) (fun (a62,c63)=>[(3,pP b2 0),(4,pI (IntKind.i64.wrap (1+x3.1))),(5,pO a6 l5.length c7),(6,pI v8),(7,pP b27 0),(8,pI x28.1),(9,pI v29)]) (fun (a62,c63)=>[PRes.b b2 71 [pL eI x58.2.L,pI x58.2.I],PRes.b b27 76 [pI (IntKind.i64.wrap (3*v8)),pS x20.1,pS m23,pI (IntKind.i64.wrap (1+x24.1)),pB (x26.1 == 1),pL eS x25.1,pO a62 l61.length c63],PRes.row a6 l5.length c7 76 7 (List.map Zc.enc l5),PRes.row a62 l61.length c63 78 2 (List.map Zi.enc l61)]) (fun _=>True) ?_ ?_
       ·refine n7 (ρd:=[PRes.b b2 _ _,PRes.row a34 _ _ _ _ _,PRes.b b27 _ _]) _ (aY aO (aY (aB aO) (List.Perm.refl _))) ?_
        refine dM 0 (by kernel_rfl) rfl rfl rfl rfl (bK rfl rfl rfl rfl rfl (.p rfl)) (dM 2 (by kernel_rfl) rfl rfl rfl rfl (ia (p:=pI v29) rfl (.p rfl)) (dM 3 (by kernel_rfl) rfl rfl rfl rfl (vm rfl (.p rfl) (.p rfl) rfl) (dM 4 (by kernel_rfl) rfl rfl rfl rfl (ia (p:=pP b2 0) rfl (.p rfl)) ?_)))
        refine kp 1 5 (by kernel_rfl) ?_ ?_
        ·skip
         refine bo rfl rfl rfl rfl (pG (dr (p:=pO a34 l33.length c35) rfl (.p rfl) um rfl) (bw 5 (by kernel_rfl) ?_))
         refine bo rfl rfl rfl rfl (bh rfl rfl (ρ1:=[_]) (aY (by exact aO) (List.Perm.refl _)) (aR hx58) ?_);rintro _ _ ⟨rfl,rfl⟩
         refine dM 6 (by kernel_rfl) rfl rfl rfl rfl (vp (cs:=[pI (IntKind.i64.wrap (3*v29)),pI x58.1]) rfl rfl rfl rfl rfl rfl rfl (Fc rfl rfl rfl rfl oA (Fc rfl rfl rfl rfl (dX oA) zfn))) (bw 7 (by kernel_rfl) (bo rfl rfl rfl rfl (bN rfl rfl rfl rfl rfl (ij rfl kf) rfl rfl rfl rfl (fun b59=>bw 8 (by kernel_rfl) ?_))))
         refine bo rfl rfl rfl rfl (cr (enc:=Zi.enc) rfl rfl rfl rfl rfl rfl rfl rfl rfl gb (by exact aB (aB aO)) hl61 (fun a62 c63=>?_))
         refine dM 9 (by kernel_rfl) rfl rfl rfl rfl (bK rfl rfl rfl rfl rfl (.p rfl)) (bw 10 (by kernel_rfl) (fx rfl rfl rfl (am (vs:=[pO a62 l61.length c63]) rfl rfl rfl rfl rfl (dA (dA (dA ce))) (dX (dX (dX (dX (dX (dX oA)))))) (fw (by kernel_rfl) ?_))))
         exact hY (a62,c63) (sR rfl) (be (aB (aB aO)) (be (aB (aB aO)) (be (aB (aB aO)) cK))) trivial
        skip
        refine bo rfl rfl rfl rfl (bh rfl rfl (ρ1:=[_]) (aY (by exact aO) (List.Perm.refl _)) (aR hx58) ?_);rintro _ _ ⟨rfl,rfl⟩
        refine dM 6 (by kernel_rfl) rfl rfl rfl rfl (vp (cs:=[pI (IntKind.i64.wrap (3*v29)),pI x58.1]) rfl rfl rfl rfl rfl rfl rfl (Fc rfl rfl rfl rfl oA (Fc rfl rfl rfl rfl (dX oA) zfn))) ?_
        refine kp 1 7 (by kernel_rfl) ?_ ?_
        ·skip
         refine bo rfl rfl rfl rfl (pG (dr (p:=pO a34 l33.length c35) rfl (.p rfl) um rfl) (bw 7 (by kernel_rfl) (bo rfl rfl rfl rfl (bN rfl rfl rfl rfl rfl (ij rfl kf) rfl rfl rfl rfl (fun b59=>bw 8 (by kernel_rfl) ?_)))))
         refine bo rfl rfl rfl rfl (cr (enc:=Zi.enc) rfl rfl rfl rfl rfl rfl rfl rfl rfl gb (by exact aB (aB aO)) hl61 (fun a62 c63=>?_))
         refine dM 9 (by kernel_rfl) rfl rfl rfl rfl (bK rfl rfl rfl rfl rfl (.p rfl)) (bw 10 (by kernel_rfl) (fx rfl rfl rfl (am (vs:=[pO a62 l61.length c63]) rfl rfl rfl rfl rfl (dA (dA (dA ce))) (dX (dX (dX (dX (dX (dX oA)))))) (fw (by kernel_rfl) ?_))))
         exact hY (a62,c63) (sR rfl) (be (aB (aB aO)) (be (aB (aB aO)) (be (aB (aB aO)) cK))) trivial
        skip
        refine bo rfl rfl rfl rfl (bN rfl rfl rfl rfl rfl (ij rfl kf) rfl rfl rfl rfl (fun b59=>bw 1 (by kernel_rfl) (bo rfl rfl rfl rfl (pG (dr (p:=pO a34 l33.length c35) rfl (.p rfl) zm3 rfl) (bw 8 (by kernel_rfl) ?_)))))
        refine bo rfl rfl rfl rfl (cr (enc:=Zi.enc) rfl rfl rfl rfl rfl rfl rfl rfl rfl gb (by exact aB (aB aO)) hl61 (fun a62 c63=>?_))
        refine dM 9 (by kernel_rfl) rfl rfl rfl rfl (bK rfl rfl rfl rfl rfl (.p rfl)) (bw 10 (by kernel_rfl) (fx rfl rfl rfl (am (vs:=[pO a62 l61.length c63]) rfl rfl rfl rfl rfl (dA (dA (dA ce))) (dX (dX (dX (dX (dX (dX oA)))))) (fw (by kernel_rfl) ?_))))
        exact hY (a62,c63) (sR rfl) (be (aB (aB aO)) (be (aB (aB aO)) (be (aB (aB aO)) cK))) trivial
       rintro ⟨a62,c63⟩ τ ρ1 hsub65 _;(try dsimp only at hsub65);dsimp only [az]
       refine aG ?_
       obtain rfl:=osi hq54
       exact aw ((a62,c63),(x58.2.L,x58.2.I,l61)) (sR rfl) (PSub.trans Es hsub65) rfl
      refine ah ?_
      refine aG ?_
      obtain rfl:=osi hq54
      exact aw ((a34,c35),(x56.2.L,x56.2.I,l33)) (sR rfl) (be aO (be aO (be (aB aO) cK))) rfl
     rintro ⟨⟨a51,c52⟩,⟨l48,v49,l53⟩⟩ τ hz;(try dsimp only at hz);subst q54;(try dsimp only at hb43);dsimp only [az]
     refine ai [60,61] [(9,pI (IntKind.i64.wrap (v29+1)))] (by kernel_rfl) ?_
     exact aS hb43 (a51,c52) (sR rfl) (be aO (be aO (be (aB aO) cK)))
    refine aH ?_
    refine cq hb43 (fun ht=>aj rfl ?_)
    exact aw ((a34,c35),(l30,v31,l33)) (ns rfl) (be aO (be aO (be (aB aO) cK))) ht.symm
   rintro ⟨⟨a40,c41⟩,⟨l37,v38,l42⟩⟩ τ hz;(try dsimp only at hz);subst q44;(try dsimp only at hb15);dsimp only [az]
   refine af (aD 1 [(88,pO a6 l5.length c7)] (by kernel_rfl) ?_)
   refine lw (css:=List.map Zi.enc l42) (a:=a40) (by exact aB (aB (aB aO))) ?_
   refine jd (k:=6) (enc:=Zi.enc) (xs:=l42) (b:=b27) (a:=a40) rfl gb (dA (dA ce)) (gt 1 [2] [(89,.agg [pI (IntKind.i64.wrap (3*v8)),pS x20.1,pS m23,pI (IntKind.i64.wrap (1+x24.1)),pB (x26.1 == 1),pL eS x25.1,pL Zi.enc l42])] (by kernel_rfl) (ap rfl (bN rfl rfl rfl rfl rfl (ij rfl kf) rfl rfl rfl rfl (fun b66=>aa hb15 fun l68 hl68 hb15=>?_))))
   refine ap rfl (cr (enc:=Zc.enc) rfl rfl rfl rfl rfl rfl rfl rfl rfl gb (by exact aB (aB (aB (aB aO)))) hl68 (fun a69 c70=>?_))
   refine aN [(5,pO a69 l68.length c70)] (by kernel_rfl) (dI (ai [20,21] [(6,pI (IntKind.i64.wrap (v8+1)))] (by kernel_rfl) ?_))
   exact aS hb15 (a69,c70) (iR rfl) (be (aB (aB (aB aO))) cK)
  refine aH ?_
  refine cq hb15 (fun ht=>aj rfl ?_)
  exact aw ((a6,c7),l5) (rD rfl) (be (aB aO) bB) ht.symm
 rintro ⟨⟨a12,c13⟩,l14⟩ τ hz;(try dsimp only at hz);subst q16;(try dsimp only at h);dsimp only [az]
 refine ae (ai [92] [(2,pO a12 l14.length c13)] (by kernel_rfl) (cX ?_))
 obtain rfl:=osi h
 exact aM (dp (aK rfl)) cK ⟨_,_,rfl,rfl⟩
def fI (p0:Zj):Option (Int×Zj):=(aV p0 4).bind fun x1=>cond (decide (0<x1.1)) ((aV x1.2 101).bind fun x3=>some ((IntKind.i64.wrap (10000*x3.1)),x3.2)) ((aV x1.2 1000001).bind fun x4=>some (x4.1,x4.2))
theorem mr {p0:Zj} {b0:Nat} {r:(Int×Zj)}  (h:fI p0=some r):PCall 87 [pP b0 0] [PRes.b b0 71 [pL eI p0.L,pI p0.I]] (fun pv ρ'=>pv=pI r.1∧ρ'=[PRes.b b0 71 [pL eI r.2.L,pI r.2.I]]):=by
 unfold fI at h
 refine du Tryz.func87 rfl Tryz.ntmps87 Tryz.results87 rfl (aW [2] (by kernel_rfl) (cj (aa h fun x1 hx1 h=>af (aD 1 [(3,pP b0 0)] (by kernel_rfl) ?_))))
 refine ap rfl (bh rfl rfl (ρ1:=[_]) (aY (by exact aO) (List.Perm.refl _)) (aR hx1) ?_);rintro _ _ ⟨rfl,rfl⟩
 refine aN [(5,pB (decide (0<x1.1)))] (by kernel_rfl) (cR rfl h (fun hc2 h=>?_) fun hc2 h=>?_)
 ·refine ae ?_
  refine aa h fun x3 hx3 h=>af (aD 1 [(6,pP b0 0)] (by kernel_rfl) ?_)
  refine ap rfl (bh rfl rfl (ρ1:=[_]) (aY (by exact aO) (List.Perm.refl _)) (aR hx3) ?_);rintro _ _ ⟨rfl,rfl⟩
  refine kv [8] [(2,pI (IntKind.i64.wrap (10000*x3.1)))] (by kernel_rfl) (cX (al ?_))
  obtain rfl:=osi h
  exact aM (dp (aK rfl)) cK ⟨rfl,rfl⟩
 refine ah ?_
 refine de h fun x4 hx4 h=>af (aD 1 [(9,pP b0 0)] (by kernel_rfl) ?_)
 refine ap rfl (bh rfl rfl (ρ1:=[_]) (aY (by exact aO) (List.Perm.refl _)) (aR hx4) ?_);rintro _ _ ⟨rfl,rfl⟩
 refine aN [(2,pI x4.1)] (by kernel_rfl) (cX ?_)
 obtain rfl:=osi h
 exact aM (dp (aK rfl)) cK ⟨rfl,rfl⟩
def fO (rec:Zj→Int→Int→Option (Zd×Zj)) (p0:Zj) (p1:Int) (p2:Int):Option (Zd×Zj):=(aV p0 8).bind fun x2=>cond ((decide (5≤x2.1))&&(decide (0<p2))) (Option.bind (cond ((IntKind.i64.wrap (5+(Int.tmod x2.1 2))) == p1) (some (IntKind.i64.wrap (11 - p1))) (some (IntKind.i64.wrap (5+(Int.tmod x2.1 2))))) (fun v5=>(aV x2.2 2).bind fun x8=>(aT (S:=Int×(List Int)×Int×(List Zd)) (T:=((List Int)×Int×(List Zd))) (fun (v9,l10,v11,l13)=>cond (decide (0<v9)) ((rec (⟨l10,v11⟩:Zj) v5 (IntKind.i64.wrap (p2 - 1))).bind fun x26=>(app 96 l13 [x26.1]).bind fun l29=>some (.inl ((IntKind.i64.wrap (v9 - 1)),x26.2.L,x26.2.I,l29))) (some (.inr (l10,v11,l13)))) FUEL ((IntKind.i64.wrap (2+x8.1)),x8.2.L,x8.2.I,([]:List Zd))).bind fun (l16,v17,l21)=>some ((⟨v5,0,[],0,0,ByteArray.empty,l21⟩:Zd),(⟨l16,v17⟩:Zj)))) (Option.bind (α:=((List Int)×Int)⊕_) (cond ((Int.tmod x2.1 4) == 1) ((fI x2.2).bind fun x38=>some (.inr ((⟨3,0,[],0,x38.1,ByteArray.empty,[]⟩:Zd),x38.2))) (cond ((Int.tmod x2.1 4) == 2) ((aV x2.2 5).bind fun x42=>(idx [(⟨#[97,110,100]⟩:ByteArray),(⟨#[99,117,116]⟩:ByteArray),(⟨#[111,114]⟩:ByteArray),(⟨#[115,101,119]⟩:ByteArray),(⟨#[115,112,105,110]⟩:ByteArray)] x42.1).bind fun m43=>some (.inr ((⟨4,0,[],0,0,m43,[]⟩:Zd),x42.2))) (cond ((Int.tmod x2.1 4) == 3) ((aV x2.2 3).bind fun x45=>cond (x45.1 == 1) (some (.inr ((⟨1,0,[],0,0,ByteArray.empty,[]⟩:Zd),x45.2))) (some (.inl (x45.2.L,x45.2.I)))) (some (.inl (x2.2.L,x2.2.I)))))) (fun q=>match q with | .inl (l34,v35)=>(aV (⟨l34,v35⟩:Zj) 3).bind (fun x47=>(aV x47.2 3).bind fun x49=>Option.bind (cond (x49.1 == 1) ((aV x49.2 2).bind fun x57=>(sub [(⟨#[57,52,48,49]⟩:ByteArray),(⟨#[57,53,48,50]⟩:ByteArray)] x57.1 ([(⟨#[57,52,48,49]⟩:ByteArray),(⟨#[57,53,48,50]⟩:ByteArray)].length:Int)).bind fun l58=>some (x57.2.L,x57.2.I,l58)) (some (x49.2.L,x49.2.I,[]))) (fun (l50,v51,l52)=>(aV (⟨l50,v51⟩:Zj) 3).bind fun x59=>Option.bind (cond (x59.1 == 1) ((fI x59.2).bind fun x65=>some (x65.2.L,x65.2.I,x65.1)) (some (x59.2.L,x59.2.I,0))) (fun (l60,v61,v62)=>some ((⟨2,(IntKind.i64.wrap (2+(IntKind.i64.wrap (2*x47.1)))),l52,v62,0,ByteArray.empty,[]⟩:Zd),(⟨l60,v61⟩:Zj))))) | .inr e=>some e))
theorem pJ {rec:Zj→Int→Int→Option (Zd×Zj)} (hrec:∀ {p0:Zj} {p1:Int} {p2:Int} {b0:Nat} {r:(Zd×Zj)},rec p0 p1 p2=some r→PCall 43 [pP b0 0,pI p1,pI p2] [PRes.b b0 71 [pL eI p0.L,pI p0.I]] (fun pv ρ'=>pv=.agg (an r.1)∧ρ'=[PRes.b b0 71 [pL eI r.2.L,pI r.2.I]])) {p0:Zj} {p1:Int} {p2:Int} {b0:Nat} {r:(Zd×Zj)} (h:fO rec p0 p1 p2=some r):PCall 43 [pP b0 0,pI p1,pI p2] [PRes.b b0 71 [pL eI p0.L,pI p0.I]] (fun pv ρ'=>pv=.agg (an r.1)∧ρ'=[PRes.b b0 71 [pL eI r.2.L,pI r.2.I]]):=by
 unfold fO at h
 refine du Tryz.func43 rfl Tryz.ntmps43 Tryz.results43 rfl (da rfl (aL (cs:=[pI 0,pI 0,pN,pI 0,pI 0,pS ByteArray.empty,pN]) rfl rfl rfl rfl (fun b1=>aF (de h fun x2 hx2 h=>af (aD 1 [(11,pP b0 0)] (by kernel_rfl) ?_)))))
 refine ap rfl (bh rfl rfl (ρ1:=[_]) (aY (by exact aB aO) (List.Perm.refl _)) (aR hx2) ?_);rintro _ _ ⟨rfl,rfl⟩
 refine aN [(7,pI x2.1)] (by kernel_rfl) (cj (bF (rg 13 5) [(18,pB ((decide (5≤x2.1))&&(decide (0<p2))))] (by kernel_rfl) rfl h (fun hc3 h=>?_) fun hc3 h=>?_))
 ·refine ae ?_
  refine af (cE 4 [19,20,21] [(22,.agg [pI (IntKind.i64.wrap (5+(Int.tmod x2.1 2))),pI 0,pN,pI 0,pI 0,pS ByteArray.empty,pN])] (by kernel_rfl) (ap rfl (aL (cs:=[pI 0,pI 0,pN,pI 0,pI 0,pS ByteArray.empty,pN]) rfl rfl rfl rfl (fun b4=>aP rfl rfl (am (vs:=[pI (IntKind.i64.wrap (5+(Int.tmod x2.1 2))),pI 0,pN,pI 0,pI 0,pS ByteArray.empty,pN]) rfl rfl rfl rfl rfl ce mX (aF (cj (aJ [0] [23,24,25] [(26,pB ((IntKind.i64.wrap (5+(Int.tmod x2.1 2))) == p1))] (by kernel_rfl) (ft h fun q6 hq6 h=>?_)))))))))
  refine ar (Y:=Unit×Int) (fun (_,v5)=>[(0,pP b0 0),(2,pI p2),(6,pP b1 0),(8,pP b4 0)]) (fun (_,v5)=>[PRes.b b0 71 [pL eI x2.2.L,pI x2.2.I],PRes.b b1 84 [pI 0,pI 0,pN,pI 0,pI 0,pS ByteArray.empty,pN],PRes.b b4 84 [pI v5,pI 0,pN,pI 0,pI 0,pS ByteArray.empty,pN]]) (fun (_,v5)=>q6=v5) ?_ ?_
  ·skip
   refine kq rfl hq6 (fun hc7 hq6=>?_) fun hc7 hq6=>?_
   ·refine af ?_
    refine cE 3 [27] [(28,pI (IntKind.i64.wrap (11 - p1))),(29,pP b4 0)] (by kernel_rfl) (aP rfl rfl (am (vs:=[pI (IntKind.i64.wrap (11 - p1))]) rfl rfl rfl rfl rfl ce oA (aF ?_)))
    obtain rfl:=osi hq6
    exact aw ((),(IntKind.i64.wrap (11 - p1))) (iR rfl) (be (aB aO) (be (aB aO) cK)) rfl
   refine ah ?_
   obtain rfl:=osi hq6
   exact aw ((),(IntKind.i64.wrap (5+(Int.tmod x2.1 2)))) (iR rfl) (be (aB aO) (be (aB aO) cK)) rfl
  rintro ⟨_,v5⟩ τ hz;(try dsimp only at hz);subst q6;(try dsimp only at h);dsimp only [az]
  refine cT (aa h fun x8 hx8 h=>af (aD 1 [(30,pP b0 0)] (by kernel_rfl) ?_))
  refine ap rfl (bh rfl rfl (ρ1:=[_]) (aY (by exact aO) (List.Perm.refl _)) (aR hx8) ?_);rintro _ _ ⟨rfl,rfl⟩
  refine kv [32] [(9,pI (IntKind.i64.wrap (2+x8.1)))] (by kernel_rfl) (aX (di 84 7 (aa h fun q23 hq23 h=>?_)))
  refine ar (Y:=(Option Addr×Nat)×((List Int)×Int×(List Zd))) (fun ((a19,c20),(l16,v17,l21))=>[(6,pP b1 0),(8,pP b4 0)]) (fun ((a19,c20),(l16,v17,l21))=>[PRes.b b0 71 [pL eI l16,pI v17],PRes.b b1 84 [pI 0,pI 0,pN,pI 0,pI 0,pS ByteArray.empty,pN],PRes.b b4 84 [pI v5,pI 0,pN,pI 0,pI 0,pS ByteArray.empty,pO a19 l21.length c20],PRes.row a19 l21.length c20 84 7 (List.map Zd.enc l21)]) (fun ((a19,c20),(l16,v17,l21))=>q23=(l16,v17,l21)) ?_ ?_
  ·refine av ?_
   refine aC (Y:=Option Addr×Nat) (S:=Int×(List Int)×Int×(List Zd)) _ hq23 (fun (a14,c15) (v9,l10,v11,l13)=>[(0,pP b0 0),(2,pI p2),(6,pP b1 0),(8,pP b4 0),(9,pI v9)]) (fun (a14,c15) (v9,l10,v11,l13)=>[PRes.b b0 71 [pL eI l10,pI v11],PRes.b b1 84 [pI 0,pI 0,pN,pI 0,pI 0,pS ByteArray.empty,pN],PRes.b b4 84 [pI v5,pI 0,pN,pI 0,pI 0,pS ByteArray.empty,pO a14 l13.length c15],PRes.row a14 l13.length c15 84 7 (List.map Zd.enc l13)]) (none,0) (ns rfl) (be (aB aO) (be (aB aO) (be (aB aO) cK))) ?_
   rintro ⟨a14,c15⟩ ⟨v9,l10,v11,l13⟩ o τ hb22;(try dsimp only at hb22);dsimp only [az]
   refine cT (bF [33] [(34,pB (decide (0<v9)))] (by kernel_rfl) rfl hb22 (fun hc25 hb22=>?_) fun hc25 hb22=>?_)
   ·refine ah ?_
    refine bZ (av (aa hb22 fun x26 hx26 hb22=>aa hb22 fun l29 hl29 hb22=>?_))
    refine ju (Y:=Option Addr×Nat) (fun (a30,c31)=>[(0,pP b0 0),(2,pI p2),(6,pP b1 0),(8,pP b4 0),(9,pI v9)]) (fun (a30,c31)=>[PRes.b b0 71 [pL eI x26.2.L,pI x26.2.I],PRes.b b1 84 [pI 0,pI 0,pN,pI 0,pI 0,pS ByteArray.empty,pN],PRes.b b4 84 [pI v5,pI 0,pN,pI 0,pI 0,pS ByteArray.empty,pO a30 l29.length c31],PRes.row a30 l29.length c31 84 7 (List.map Zd.enc l29)]) (fun _=>True) ?_ ?_
    ·refine n7 (ρd:=[PRes.b b0 _ _,PRes.row a14 _ _ _ _ _,PRes.b b4 _ _]) _ (aY aO (aY (aB (aB aO)) (aY (aB aO) (List.Perm.refl _)))) ?_
     refine dM 0 (by kernel_rfl) rfl rfl rfl rfl (bK rfl rfl rfl rfl rfl (.p rfl)) (dM 2 (by kernel_rfl) rfl rfl rfl rfl (ia (p:=pP b0 0) rfl (.p rfl)) (dM 3 (by kernel_rfl) rfl rfl rfl rfl (bK rfl rfl rfl rfl rfl (.p rfl)) (dM 5 (by kernel_rfl) rfl rfl rfl rfl (ia (p:=pI p2) rfl (.p rfl)) (dM 6 (by kernel_rfl) rfl rfl rfl rfl (vm rfl (.p rfl) (.p rfl) rfl) ?_))))
     refine kp 1 4 (by kernel_rfl) ?_ ?_
     ·skip
      refine bo rfl rfl rfl rfl (pG (dr (p:=pO a14 l13.length c15) rfl (.p rfl) um rfl) (bw 4 (by kernel_rfl) (bo rfl rfl rfl rfl (pG (dr (p:=pI v5) rfl (.p rfl) um rfl) (bw 7 (by kernel_rfl) ?_)))))
      refine bo rfl rfl rfl rfl (bh rfl rfl (ρ1:=[_]) (aY (by exact aO) (List.Perm.refl _)) (hrec hx26) ?_);rintro _ _ ⟨rfl,rfl⟩
      refine bw 8 (by kernel_rfl) ?_
      refine bo rfl rfl rfl rfl (bN (css:=List.map Zd.enc [x26.1]) rfl rfl rfl rfl rfl (by (simp only [List.map_cons,List.map_nil,Zd.enc_eq];(repeat (first | exact kf | apply ij rfl)))) rfl (by (simp only [List.map_cons,List.map_nil,Zd.enc_eq];rfl)) rfl rfl (fun b27=>?_))
      refine bw 9 (by kernel_rfl) ?_
      refine bo rfl rfl rfl rfl (cr (enc:=Zd.enc) rfl rfl rfl rfl rfl rfl rfl rfl rfl gb (by exact aB (aB aO)) hl29 (fun a30 c31=>?_))
      refine dM 10 (by kernel_rfl) rfl rfl rfl rfl (bK rfl rfl rfl rfl rfl (.p rfl)) (bw 11 (by kernel_rfl) (fx rfl rfl rfl (am (vs:=[pO a30 l29.length c31]) rfl rfl rfl rfl rfl (dA (dA (dA ce))) (dX (dX (dX (dX (dX (dX oA)))))) (fw (by kernel_rfl) ?_))))
      exact hY (a30,c31) (ns rfl) (be (aB (aB aO)) (be (aB (aB (aB aO))) (be (aB (aB aO)) cK))) trivial
     skip
     refine bo rfl rfl rfl rfl (pG (dr (p:=pI v5) rfl (.p rfl) um rfl) ?_)
     refine kp 1 7 (by kernel_rfl) ?_ ?_
     ·skip
      refine bo rfl rfl rfl rfl (pG (dr (p:=pO a14 l13.length c15) rfl (.p rfl) um rfl) (bw 7 (by kernel_rfl) ?_))
      refine bo rfl rfl rfl rfl (bh rfl rfl (ρ1:=[_]) (aY (by exact aO) (List.Perm.refl _)) (hrec hx26) ?_);rintro _ _ ⟨rfl,rfl⟩
      refine bw 8 (by kernel_rfl) ?_
      refine bo rfl rfl rfl rfl (bN (css:=List.map Zd.enc [x26.1]) rfl rfl rfl rfl rfl (by (simp only [List.map_cons,List.map_nil,Zd.enc_eq];(repeat (first | exact kf | apply ij rfl)))) rfl (by (simp only [List.map_cons,List.map_nil,Zd.enc_eq];rfl)) rfl rfl (fun b27=>?_))
      refine bw 9 (by kernel_rfl) ?_
      refine bo rfl rfl rfl rfl (cr (enc:=Zd.enc) rfl rfl rfl rfl rfl rfl rfl rfl rfl gb (by exact aB (aB aO)) hl29 (fun a30 c31=>?_))
      refine dM 10 (by kernel_rfl) rfl rfl rfl rfl (bK rfl rfl rfl rfl rfl (.p rfl)) (bw 11 (by kernel_rfl) (fx rfl rfl rfl (am (vs:=[pO a30 l29.length c31]) rfl rfl rfl rfl rfl (dA (dA (dA ce))) (dX (dX (dX (dX (dX (dX oA)))))) (fw (by kernel_rfl) ?_))))
      exact hY (a30,c31) (ns rfl) (be (aB (aB aO)) (be (aB (aB (aB aO))) (be (aB (aB aO)) cK))) trivial
     skip
     refine bo rfl rfl rfl rfl (bh rfl rfl (ρ1:=[_]) (aY (by exact aO) (List.Perm.refl _)) (hrec hx26) ?_);rintro _ _ ⟨rfl,rfl⟩
     refine kp 1 8 (by kernel_rfl) ?_ ?_
     ·skip
      refine bo rfl rfl rfl rfl (pG (dr (p:=pO a14 l13.length c15) rfl (.p rfl) um rfl) (bw 8 (by kernel_rfl) ?_))
      refine bo rfl rfl rfl rfl (bN (css:=List.map Zd.enc [x26.1]) rfl rfl rfl rfl rfl (by (simp only [List.map_cons,List.map_nil,Zd.enc_eq];(repeat (first | exact kf | apply ij rfl)))) rfl (by (simp only [List.map_cons,List.map_nil,Zd.enc_eq];rfl)) rfl rfl (fun b27=>?_))
      refine bw 9 (by kernel_rfl) ?_
      refine bo rfl rfl rfl rfl (cr (enc:=Zd.enc) rfl rfl rfl rfl rfl rfl rfl rfl rfl gb (by exact aB (aB aO)) hl29 (fun a30 c31=>?_))
      refine dM 10 (by kernel_rfl) rfl rfl rfl rfl (bK rfl rfl rfl rfl rfl (.p rfl)) (bw 11 (by kernel_rfl) (fx rfl rfl rfl (am (vs:=[pO a30 l29.length c31]) rfl rfl rfl rfl rfl (dA (dA (dA ce))) (dX (dX (dX (dX (dX (dX oA)))))) (fw (by kernel_rfl) ?_))))
      exact hY (a30,c31) (ns rfl) (be (aB (aB aO)) (be (aB (aB (aB aO))) (be (aB (aB aO)) cK))) trivial
     skip
     refine bo rfl rfl rfl rfl (bN (css:=List.map Zd.enc [x26.1]) rfl rfl rfl rfl rfl (by (simp only [List.map_cons,List.map_nil,Zd.enc_eq];(repeat (first | exact kf | apply ij rfl)))) rfl (by (simp only [List.map_cons,List.map_nil,Zd.enc_eq];rfl)) rfl rfl (fun b27=>?_))
     refine bw 1 (by kernel_rfl) (bo rfl rfl rfl rfl (pG (dr (p:=pO a14 l13.length c15) rfl (.p rfl) zm3 rfl) (bw 9 (by kernel_rfl) ?_)))
     refine bo rfl rfl rfl rfl (cr (enc:=Zd.enc) rfl rfl rfl rfl rfl rfl rfl rfl rfl gb (by exact aB (aB aO)) hl29 (fun a30 c31=>?_))
     refine dM 10 (by kernel_rfl) rfl rfl rfl rfl (bK rfl rfl rfl rfl rfl (.p rfl)) (bw 11 (by kernel_rfl) (fx rfl rfl rfl (am (vs:=[pO a30 l29.length c31]) rfl rfl rfl rfl rfl (dA (dA (dA ce))) (dX (dX (dX (dX (dX (dX oA)))))) (fw (by kernel_rfl) ?_))))
     exact hY (a30,c31) (ns rfl) (be (aB (aB aO)) (be (aB (aB (aB aO))) (be (aB (aB aO)) cK))) trivial
    rintro ⟨a30,c31⟩ τ ρ1 hsub33 _;(try dsimp only at hsub33);dsimp only [az]
    refine dI (oK hsub33 (ai [35,36] [(9,pI (IntKind.i64.wrap (v9 - 1)))] (by kernel_rfl) ?_))
    exact aS hb22 (a30,c31) (ns rfl) Es
   refine aH ?_
   refine cq hb22 (fun ht=>aj rfl ?_)
   exact aw ((a14,c15),(l10,v11,l13)) (mq rfl) Es ht.symm
  rintro ⟨⟨a19,c20⟩,⟨l16,v17,l21⟩⟩ τ hz;(try dsimp only at hz);subst q23;(try dsimp only at h);dsimp only [az]
  refine ae (af (zS (k:=2) (b:=b4) rfl (dA (dA ce)) ?_))
  refine lw (css:=List.map Zd.enc l21) (a:=a19) (by exact aB (aB (aB aO))) ?_
  refine jd (k:=6) (enc:=Zd.enc) (xs:=l21) (b:=b4) (a:=a19) rfl gb (dA (dA (dA ce))) (gt 1 [3] [(48,.agg [pI v5,pI 0,pL eS [],pI 0,pI 0,pS ByteArray.empty,pL Zd.enc l21])] (by kernel_rfl) (aP rfl rfl (am (vs:=[pI v5,pI 0,pL eS [],pI 0,pI 0,pS ByteArray.empty,pL Zd.enc l21]) rfl rfl rfl rfl rfl (dA (dA ce)) mX (aF (cX (al ?_))))))
  obtain rfl:=osi h
  exact aM (dp (dC rfl um rfl)) (be (aB aO) bB) ⟨rfl,rfl⟩
 refine ah ?_
 refine cj (ai [49] [(50,pI (Int.tmod x2.1 4))] (by kernel_rfl) (ft h fun q36 hq36 h=>?_))
 refine ar (Y:=Unit×((List Int)×Int)) (fun (_,(l34,v35))=>[(0,pP b0 0),(6,pP b1 0)]) (fun (_,(l34,v35))=>[PRes.b b0 71 [pL eI l34,pI v35],PRes.b b1 84 [pI 0,pI 0,pN,pI 0,pI 0,pS ByteArray.empty,pN]]) (fun (_,(l34,v35))=>q36=Sum.inl (l34,v35)) ?_ ?_
 ·skip
  refine qU (bF [52] [(51,pB ((Int.tmod x2.1 4) == 1))] (by kernel_rfl) rfl hq36 (fun hc37 hq36=>?_) fun hc37 hq36=>?_)
  ·refine ae ?_
   refine aa hq36 fun x38 hx38 hq36=>af (aD 1 [(53,pP b0 0)] (by kernel_rfl) ?_)
   refine ap rfl (bh rfl rfl (ρ1:=[_]) (aY (by exact aO) (List.Perm.refl _)) (mr hx38) ?_);rintro _ _ ⟨rfl,rfl⟩
   refine aD 1 [(55,.agg [pI 3,pI 0,pN,pI 0,pI x38.1,pS ByteArray.empty,pN])] (by kernel_rfl) (aP rfl rfl (am (vs:=[pI 3,pI 0,pN,pI 0,pI x38.1,pS ByteArray.empty,pN]) rfl rfl rfl rfl rfl (dA ce) mX (aF (aX (cS (k:=2) (b:=b1) rfl (dA ce) (cS (k:=6) (b:=b1) rfl (dA ce) (bR (cP ?_))))))))
   obtain rfl:=osi hq36
   obtain rfl:=osi h
   exact aM (dp (dC rfl wU rfl)) cK ⟨rfl,rfl⟩
  refine ae ?_
  refine bF [57] [(56,pB ((Int.tmod x2.1 4) == 2))] (by kernel_rfl) rfl hq36 (fun hc39 hq36=>?_) fun hc39 hq36=>?_
  ·refine ae ?_
   refine da rfl (bN rfl rfl rfl rfl rfl (ij rfl (ij rfl (ij rfl (ij rfl (ij rfl kf))))) rfl rfl rfl rfl (fun b40=>aa hq36 fun x42 hx42 hq36=>aD 1 [(59,pP b0 0)] (by kernel_rfl) ?_))
   refine ap rfl (bh rfl rfl (ρ1:=[_]) (aY (by exact aB aO) (List.Perm.refl _)) (aR hx42) ?_);rintro _ _ ⟨rfl,rfl⟩
   refine aa hq36 fun m43 hm43 hq36=>bX rfl rfl rfl (eA (enc:=eS) (xs:=[(⟨#[97,110,100]⟩:ByteArray),(⟨#[99,117,116]⟩:ByteArray),(⟨#[111,114]⟩:ByteArray),(⟨#[115,101,119]⟩:ByteArray),(⟨#[115,112,105,110]⟩:ByteArray)]) rfl rfl rfl (.p rfl) wU (.p rfl) (fun _=>hm43)) (bX rfl rfl rfl (dY (sz:=1) (p:=pS m43) (enc:=eS) (xs:=[(⟨#[97,110,100]⟩:ByteArray),(⟨#[99,117,116]⟩:ByteArray),(⟨#[111,114]⟩:ByteArray),(⟨#[115,101,119]⟩:ByteArray),(⟨#[115,112,105,110]⟩:ByteArray)]) (a:=(some ⟨b40,0,none⟩)) x42.1 0 m43 rfl (.p rfl) rfl wU (fun _=>hm43) rfl) (aD 1 [(63,.agg [pI 4,pI 0,pN,pI 0,pI 0,pS m43,pN])] (by kernel_rfl) (aP rfl rfl (am (vs:=[pI 4,pI 0,pN,pI 0,pI 0,pS m43,pN]) rfl rfl rfl rfl rfl (dA (dA ce)) mX (aF (aX (cS (k:=2) (b:=b1) rfl (dA (dA ce)) (cS (k:=6) (b:=b1) rfl (dA (dA ce)) (bR (cP ?_))))))))))
   obtain rfl:=osi hq36
   obtain rfl:=osi h
   exact aM (dp (dC rfl um rfl)) cK ⟨rfl,rfl⟩
  refine ae ?_
  refine bF [65] [(64,pB ((Int.tmod x2.1 4) == 3))] (by kernel_rfl) rfl hq36 (fun hc44 hq36=>?_) fun hc44 hq36=>?_
  ·refine ae ?_
   refine aa hq36 fun x45 hx45 hq36=>af (aD 1 [(66,pP b0 0)] (by kernel_rfl) ?_)
   refine ap rfl (bh rfl rfl (ρ1:=[_]) (aY (by exact aO) (List.Perm.refl _)) (aR hx45) ?_);rintro _ _ ⟨rfl,rfl⟩
   refine aN [(68,pB (x45.1 == 1))] (by kernel_rfl) (cR rfl hq36 (fun hc46 hq36=>?_) fun hc46 hq36=>?_)
   ·refine ae ?_
    refine af (aD 1 [(69,.agg [pI 1,pI 0,pN,pI 0,pI 0,pS ByteArray.empty,pN])] (by kernel_rfl) (aP rfl rfl (am (vs:=[pI 1,pI 0,pN,pI 0,pI 0,pS ByteArray.empty,pN]) rfl rfl rfl rfl rfl (dA ce) mX (aF (aX (cS (k:=2) (b:=b1) rfl (dA ce) (cS (k:=6) (b:=b1) rfl (dA ce) (bR (cP ?_)))))))))
    obtain rfl:=osi hq36
    obtain rfl:=osi h
    exact aM (dp (dC rfl wU rfl)) cK ⟨rfl,rfl⟩
   refine ah ?_
   refine aG ?_
   obtain rfl:=osi hq36
   exact aw ((),(x45.2.L,x45.2.I)) (mq rfl) n8 rfl
  refine ah ?_
  refine aG ?_
  obtain rfl:=osi hq36
  exact aw ((),(x2.2.L,x2.2.I)) (mq rfl) n8 rfl
 rintro ⟨_,⟨l34,v35⟩⟩ τ hz;(try dsimp only at hz);subst q36;(try dsimp only at h);dsimp only [az]
 refine ae (aa h fun x47 hx47 h=>af (aD 1 [(70,pP b0 0)] (by kernel_rfl) ?_))
 refine ap rfl (bh rfl rfl (ρ1:=[_]) (aY (by exact aO) (List.Perm.refl _)) (aR hx47) ?_);rintro _ _ ⟨rfl,rfl⟩
 refine cE 3 [72,73] [(74,.agg [pI 2,pI (IntKind.i64.wrap (2+(IntKind.i64.wrap (2*x47.1)))),pN,pI 0,pI 0,pS ByteArray.empty,pN])] (by kernel_rfl) (ap rfl (aL (cs:=[pI 0,pI 0,pN,pI 0,pI 0,pS ByteArray.empty,pN]) rfl rfl rfl rfl (fun b48=>aP rfl rfl (am (vs:=[pI 2,pI (IntKind.i64.wrap (2+(IntKind.i64.wrap (2*x47.1)))),pN,pI 0,pI 0,pS ByteArray.empty,pN]) rfl rfl rfl rfl rfl ce mX (aF (cj (aa h fun x49 hx49 h=>af (aD 1 [(75,pP b0 0)] (by kernel_rfl) ?_))))))))
 refine ap rfl (bh rfl rfl (ρ1:=[_]) (aY (by exact aB aO) (List.Perm.refl _)) (aR hx49) ?_);rintro _ _ ⟨rfl,rfl⟩
 refine aN [(77,pB (x49.1 == 1))] (by kernel_rfl) (ft h fun q53 hq53 h=>?_)
 refine ar (Y:=Unit×((List Int)×Int×(List ByteArray))) (fun (_,(l50,v51,l52))=>[(0,pP b0 0),(6,pP b1 0),(10,pP b48 0)]) (fun (_,(l50,v51,l52))=>[PRes.b b0 71 [pL eI l50,pI v51],PRes.b b1 84 [pI 0,pI 0,pN,pI 0,pI 0,pS ByteArray.empty,pN],PRes.b b48 84 [pI 2,pI (IntKind.i64.wrap (2+(IntKind.i64.wrap (2*x47.1)))),pL eS l52,pI 0,pI 0,pS ByteArray.empty,pN]]) (fun (_,(l50,v51,l52))=>q53=(l50,v51,l52)) ?_ ?_
 ·skip
  refine kq rfl hq53 (fun hc54 hq53=>?_) fun hc54 hq53=>?_
  ·refine af ?_
   refine ap rfl (bN rfl rfl rfl rfl rfl (ij rfl (ij rfl kf)) rfl rfl rfl rfl (fun b55=>aa hq53 fun x57 hx57 hq53=>aD 1 [(79,pP b0 0)] (by kernel_rfl) ?_))
   refine ap rfl (bh rfl rfl (ρ1:=[_]) (aY (by exact aB aO) (List.Perm.refl _)) (aR hx57) ?_);rintro _ _ ⟨rfl,rfl⟩
   refine ip (enc:=eS) (xs:=[(⟨#[57,52,48,49]⟩:ByteArray),(⟨#[57,53,48,50]⟩:ByteArray)]) 78 rfl (by exact aB aO) ?_
   refine aa hq53 fun l58 hl58 hq53=>aU 2 [] [] [(81,pL eS l58),(82,pP b48 2)] (vz 0 eS 1 (fun _=>rfl) hl58 bj) (by kernel_rfl) (aP rfl rfl (am (vs:=[pL eS l58]) rfl rfl rfl rfl rfl (dA (dA ce)) (dX (dX oA)) (aF ?_)))
   obtain rfl:=osi hq53
   exact aw ((),(x57.2.L,x57.2.I,l58)) (nV rfl) (be (aB aO) (be (aB (aB aO)) (be (aB aO) bB))) rfl
  refine ah ?_
  refine kU (Fe (k:=2) (b:=b48) rfl (dA ce)) ?_
  obtain rfl:=osi hq53
  exact aw ((),(x49.2.L,x49.2.I,[])) (nV rfl) (be aO (be (aB aO) cK)) rfl
 rintro ⟨_,⟨l50,v51,l52⟩⟩ τ hz;(try dsimp only at hz);subst q53;(try dsimp only at h);dsimp only [az]
 refine cT (aa h fun x59 hx59 h=>af (aD 1 [(83,pP b0 0)] (by kernel_rfl) ?_))
 refine ap rfl (bh rfl rfl (ρ1:=[_]) (aY (by exact aO) (List.Perm.refl _)) (aR hx59) ?_);rintro _ _ ⟨rfl,rfl⟩
 refine aN [(85,pB (x59.1 == 1))] (by kernel_rfl) (ft h fun q63 hq63 h=>?_)
 refine ar (Y:=Unit×((List Int)×Int×Int)) (fun (_,(l60,v61,v62))=>[(6,pP b1 0),(10,pP b48 0)]) (fun (_,(l60,v61,v62))=>[PRes.b b0 71 [pL eI l60,pI v61],PRes.b b1 84 [pI 0,pI 0,pN,pI 0,pI 0,pS ByteArray.empty,pN],PRes.b b48 84 [pI 2,pI (IntKind.i64.wrap (2+(IntKind.i64.wrap (2*x47.1)))),pL eS l52,pI v62,pI 0,pS ByteArray.empty,pN]]) (fun (_,(l60,v61,v62))=>q63=(l60,v61,v62)) ?_ ?_
 ·skip
  refine kq rfl hq63 (fun hc64 hq63=>?_) fun hc64 hq63=>?_
  ·refine aa hq63 ?_;clear hq63;intro x65 hx65 hq63
   refine af (aD 1 [(86,pP b0 0)] (by kernel_rfl) ?_)
   refine ap rfl (bh rfl rfl (ρ1:=[_]) (aY (by exact aO) (List.Perm.refl _)) (mr hx65) ?_);rintro _ _ ⟨rfl,rfl⟩
   refine aD 1 [(88,pP b48 3)] (by kernel_rfl) (aP rfl rfl (am (vs:=[pI x65.1]) rfl rfl rfl rfl rfl (dA (dA ce)) (dX (dX (dX oA))) (aF ?_)))
   obtain rfl:=osi hq63
   exact aw ((),(x65.2.L,x65.2.I,x65.1)) (mq rfl) A7 rfl
  refine ah ?_
  obtain rfl:=osi hq63
  exact aw ((),(x59.2.L,x59.2.I,0)) (mq rfl) A7 rfl
 rintro ⟨_,⟨l60,v61,v62⟩⟩ τ hz;(try dsimp only at hz);subst q63;(try dsimp only at h);dsimp only [az]
 refine ae (af (zS (k:=6) (b:=b48) rfl (dA (dA ce)) (gt 1 [2] [(89,.agg [pI 2,pI (IntKind.i64.wrap (2+(IntKind.i64.wrap (2*x47.1)))),pL eS l52,pI v62,pI 0,pS ByteArray.empty,pL Zd.enc []])] (by kernel_rfl) (aP rfl rfl (am (vs:=[pI 2,pI (IntKind.i64.wrap (2+(IntKind.i64.wrap (2*x47.1)))),pL eS l52,pI v62,pI 0,pS ByteArray.empty,pL Zd.enc []]) rfl rfl rfl rfl rfl (dA ce) mX (aF (cX ?_)))))))
 obtain rfl:=osi h
 exact aM (dp (dC rfl wU rfl)) cK ⟨rfl,rfl⟩
def eR (n:Nat):Zj→Int→Int→Option (Zd×Zj):=Nat.rec (motive:=fun _=>Zj→Int→Int→Option (Zd×Zj)) (fun _ _ _=>none) (fun _ ih=>fO ih) n
def oa (p0:Zj) (p1:Int) (p2:Int):Option (Zd×Zj):=eR FUEL p0 p1 p2
theorem qe (n:Nat):∀ {p0:Zj} {p1:Int} {p2:Int} {b0:Nat} {r:(Zd×Zj)},eR n p0 p1 p2=some r→PCall 43 [pP b0 0,pI p1,pI p2] [PRes.b b0 71 [pL eI p0.L,pI p0.I]] (fun pv ρ'=>pv=.agg (an r.1)∧ρ'=[PRes.b b0 71 [pL eI r.2.L,pI r.2.I]]):=by
 induction n with
 | zero=>intros;rename_i h;exact nomatch h
 | succ n ih=>intros;rename_i h;exact pJ (fun hr=>ih hr) h
theorem ms {p0:Zj} {p1:Int} {p2:Int} {b0:Nat} {r:(Zd×Zj)} (h:oa p0 p1 p2=some r):PCall 43 [pP b0 0,pI p1,pI p2] [PRes.b b0 71 [pL eI p0.L,pI p0.I]] (fun pv ρ'=>pv=.agg (an r.1)∧ρ'=[PRes.b b0 71 [pL eI r.2.L,pI r.2.I]]):=qe FUEL h
def iu (p0:(List Int)):Option (List Zb):=(na p0 200).bind fun x1=>(aV (⟨x1,0⟩:Zj) 4).bind fun x3=>(aT (S:=(List Zb)×Int×(List Int)×Int) (T:=((List Zb))) (fun (l5,v8,l9,v10)=>cond (decide (v8<(IntKind.i64.wrap (1+x3.1)))) ((aV (⟨l9,v10⟩:Zj) 3).bind fun x19=>(aV x19.2 64).bind fun x21=>(aT (S:=Int×(List ByteArray)) (T:=((List ByteArray))) (fun (v22,l24)=>cond (decide (v22<6)) (((lF v22).bind fun u42=>cond ((dq .i64 (cD .i64 (oz .i64 x21.1 3) v22) 1) == 1) ((gO).bind fun x44=>(idx x44 v22).bind fun m45=>(app 16 l24 [m45]).bind fun l48=>some l48) (some l24)).bind fun l40=>some (.inl ((IntKind.i64.wrap (v22+1)),l40))) (some (.inr l24))) FUEL (0,([]:List ByteArray))).bind fun l31=>(gdp (decide (0<v8)) (aV x21.2 2) x21.2).bind fun x53=>Option.bind (cond ((decide (0<v8))&&(x53.1 == 1)) ((idx l5 (IntKind.i64.wrap (v8 - 1))).bind fun m61=>some (x53.2.L,x53.2.I,m61.Rules)) ((aV x53.2 31).bind fun x64=>(aT (S:=Int×(List Int)×Int×(List Zh)) (T:=((List Int)×Int×(List Zh))) (fun (v65,l66,v67,l69)=>cond (decide (v65<5)) (((lF v65).bind fun u94=>cond ((dq .i64 (cD .i64 (IntKind.i64.wrap (1+x64.1)) v65) 1) == 1) ((idx [(⟨#[57,52]⟩:ByteArray),(⟨#[57,52,48,49]⟩:ByteArray),(⟨#[57,52,48,49,48,50]⟩:ByteArray),(⟨#[57,53]⟩:ByteArray),(⟨#[57,53,48,50]⟩:ByteArray)] v65).bind fun m96=>(oa (⟨l66,v67⟩:Zj) 0 1).bind fun x97=>(app 112 l69 [(⟨m96,x97.1⟩:Zh)]).bind fun l100=>some (x97.2.L,x97.2.I,l100)) (some (l66,v67,l69))).bind fun (l86,v87,l92)=>some (.inl ((IntKind.i64.wrap (v65+1)),l86,v87,l92))) (some (.inr (l66,v67,l69)))) FUEL (0,x64.2.L,x64.2.I,([]:List Zh))).bind fun (l73,v74,l79)=>some (l73,v74,l79))) (fun (l55,v56,l58)=>(app 64 l5 [(⟨(IntKind.i64.wrap (2+(IntKind.i64.wrap (5*v8)))),(IntKind.i64.wrap (1+x19.1)),l31,l58⟩:Zb)]).bind fun l108=>some (.inl (l108,(IntKind.i64.wrap (v8+1)),l55,v56)))) (some (.inr l5))) FUEL (([]:List Zb),0,x3.2.L,x3.2.I)).bind fun l14=>some l14
theorem rF {p0:(List Int)} {r:(List Zb)}  (h:iu p0=some r):PCall 13 [pL eI p0] [] (fun pv ρ'=>∃ a c,pv=.v (.slice a r.length c)∧ρ'=[PRes.row a r.length c 81 4 (List.map Zb.enc r)]):=by
 unfold iu at h
 refine du Tryz.func13 rfl Tryz.ntmps13 Tryz.results13 rfl (aW [2] (by kernel_rfl) (de h fun x1 hx1 h=>af (aU 3 [] [13,14] [(15,.agg [pL eI x1,pI 0])] (bg 1 (tW hx1) bj) (by kernel_rfl) (ap rfl (bf (cs:=[pL eI x1,pI 0]) rfl rfl (fun b2=>aN [(3,pP b2 0)] (by kernel_rfl) (bZ (ak [(4,pN)] (by kernel_rfl) (cj (aa h fun x3 hx3 h=>af (aD 1 [(17,pP b2 0)] (by kernel_rfl) ?_)))))))))))
 refine ap rfl (bh rfl rfl (ρ1:=[_]) (aY (by exact aO) (List.Perm.refl _)) (aR hx3) ?_);rintro _ _ ⟨rfl,rfl⟩
 refine kv [19] [(5,pI 0),(6,pI (IntKind.i64.wrap (1+x3.1)))] (by kernel_rfl) (aX (di 81 4 (aa h fun q16 hq16 h=>?_)))
 refine ar (Y:=(Option Addr×Nat)×((List Zb))) (fun ((a12,c13),l14)=>[(4,pO a12 l14.length c13)]) (fun ((a12,c13),l14)=>[PRes.row a12 l14.length c13 81 4 (List.map Zb.enc l14)]) (fun ((a12,c13),l14)=>q16=l14) ?_ ?_
 ·refine av ?_
  refine aC (Y:=Option Addr×Nat) (S:=(List Zb)×Int×(List Int)×Int) _ hq16 (fun (a6,c7) (l5,v8,l9,v10)=>[(3,pP b2 0),(4,pO a6 l5.length c7),(5,pI v8),(6,pI (IntKind.i64.wrap (1+x3.1)))]) (fun (a6,c7) (l5,v8,l9,v10)=>[PRes.b b2 71 [pL eI l9,pI v10],PRes.row a6 l5.length c7 81 4 (List.map Zb.enc l5)]) (none,0) (iR rfl) (be (aB aO) cK) ?_
  rintro ⟨a6,c7⟩ ⟨l5,v8,l9,v10⟩ o τ hb15;(try dsimp only at hb15);dsimp only [az]
  refine cT (bF [20,21] [(22,pB (decide (v8<(IntKind.i64.wrap (1+x3.1)))))] (by kernel_rfl) rfl hb15 (fun hc18 hb15=>?_) fun hc18 hb15=>?_)
  ·refine ah ?_
   refine dJ (aa hb15 fun x19 hx19 hb15=>af (cE 4 [25,26] [(27,pI (IntKind.i64.wrap (2+(IntKind.i64.wrap (5*v8))))),(28,pP b2 0)] (by kernel_rfl) ?_))
   refine ap rfl (bh rfl rfl (ρ1:=[_]) (aY (by exact aO) (List.Perm.refl _)) (aR hx19) ?_);rintro _ _ ⟨rfl,rfl⟩
   refine cE 2 [30] [(31,.agg [pI (IntKind.i64.wrap (2+(IntKind.i64.wrap (5*v8)))),pI (IntKind.i64.wrap (1+x19.1)),pN,pN])] (by kernel_rfl) (ap rfl (aL (cs:=[pI 0,pI 0,pN,pN]) rfl rfl rfl rfl (fun b20=>aP rfl rfl (am (vs:=[pI (IntKind.i64.wrap (2+(IntKind.i64.wrap (5*v8)))),pI (IntKind.i64.wrap (1+x19.1)),pN,pN]) rfl rfl rfl rfl rfl ce xx (aF (de hb15 fun x21 hx21 hb15=>af (aD 1 [(32,pP b2 0)] (by kernel_rfl) ?_)))))))
   refine ap rfl (bh rfl rfl (ρ1:=[_]) (aY (by exact aB aO) (List.Perm.refl _)) (aR hx21) ?_);rintro _ _ ⟨rfl,rfl⟩
   refine kv [34] [(8,pI (oz .i64 x21.1 3))] (by kernel_rfl) (cj (ak [(9,pI 0)] (by kernel_rfl) (aX (di 9 1 (aa hb15 fun q33 hq33 hb15=>?_)))))
   refine ar (Y:=(Option Addr×Nat)×((List ByteArray))) (fun ((a29,c30),l31)=>[(3,pP b2 0),(4,pO a6 l5.length c7),(5,pI v8),(6,pI (IntKind.i64.wrap (1+x3.1))),(7,pP b20 0)]) (fun ((a29,c30),l31)=>[PRes.b b2 71 [pL eI x21.2.L,pI x21.2.I],PRes.b b20 81 [pI (IntKind.i64.wrap (2+(IntKind.i64.wrap (5*v8)))),pI (IntKind.i64.wrap (1+x19.1)),pO a29 l31.length c30,pN],PRes.row a6 l5.length c7 81 4 (List.map Zb.enc l5),PRes.row a29 l31.length c30 9 1 (List.map eS l31)]) (fun ((a29,c30),l31)=>q33=l31) ?_ ?_
   ·refine av ?_
    refine aC (Y:=Option Addr×Nat) (S:=Int×(List ByteArray)) _ hq33 (fun (a25,c26) (v22,l24)=>[(3,pP b2 0),(4,pO a6 l5.length c7),(5,pI v8),(6,pI (IntKind.i64.wrap (1+x3.1))),(7,pP b20 0),(8,pI (oz .i64 x21.1 3)),(9,pI v22)]) (fun (a25,c26) (v22,l24)=>[PRes.b b2 71 [pL eI x21.2.L,pI x21.2.I],PRes.b b20 81 [pI (IntKind.i64.wrap (2+(IntKind.i64.wrap (5*v8)))),pI (IntKind.i64.wrap (1+x19.1)),pO a25 l24.length c26,pN],PRes.row a25 l24.length c26 9 1 (List.map eS l24),PRes.row a6 l5.length c7 81 4 (List.map Zb.enc l5)]) (none,0) (sR rfl) (be (aB aO) (be (aB aO) n8)) ?_
    rintro ⟨a25,c26⟩ ⟨v22,l24⟩ o τ hb32;(try dsimp only at hb32);dsimp only [az]
    refine cT (bF [35] [(36,pB (decide (v22<6)))] (by kernel_rfl) rfl hb32 (fun hc35 hb32=>?_) fun hc35 hb32=>?_)
    ·refine ah ?_
     refine de hb32 fun q41 hq41 hb32=>?_
     refine ar (Y:=(Option Addr×Nat)×((List ByteArray))) (fun ((a38,c39),l40)=>[(3,pP b2 0),(4,pO a6 l5.length c7),(5,pI v8),(6,pI (IntKind.i64.wrap (1+x3.1))),(7,pP b20 0),(8,pI (oz .i64 x21.1 3)),(9,pI v22)]) (fun ((a38,c39),l40)=>[PRes.b b2 71 [pL eI x21.2.L,pI x21.2.I],PRes.b b20 81 [pI (IntKind.i64.wrap (2+(IntKind.i64.wrap (5*v8)))),pI (IntKind.i64.wrap (1+x19.1)),pO a38 l40.length c39,pN],PRes.row a6 l5.length c7 81 4 (List.map Zb.enc l5),PRes.row a38 l40.length c39 9 1 (List.map eS l40)]) (fun ((a38,c39),l40)=>q41=l40) ?_ ?_
     ·skip
      refine qU (aa hq41 fun u42 hu42 hq41=>aq [] [39,40,41,42] [(43,pB ((dq .i64 (cD .i64 (oz .i64 x21.1 3) v22) 1) == 1))] (un 2 hu42 bj) (by kernel_rfl) (cR rfl hq41 (fun hc43 hq41=>?_) fun hc43 hq41=>?_))
      ·refine aa hq41 ?_;clear hq41;intro x44 hx44 hq41
       refine aa hq41 fun m45 hm45 hq41=>aa hq41 fun l48 hl48 hq41=>?_
       refine ju (Y:=Option Addr×Nat) (fun (a49,c50)=>[(3,pP b2 0),(4,pO a6 l5.length c7),(5,pI v8),(6,pI (IntKind.i64.wrap (1+x3.1))),(7,pP b20 0),(8,pI (oz .i64 x21.1 3)),(9,pI v22)]) (fun (a49,c50)=>[PRes.b b2 71 [pL eI x21.2.L,pI x21.2.I],PRes.b b20 81 [pI (IntKind.i64.wrap (2+(IntKind.i64.wrap (5*v8)))),pI (IntKind.i64.wrap (1+x19.1)),pO a49 l48.length c50,pN],PRes.row a6 l5.length c7 81 4 (List.map Zb.enc l5),PRes.row a49 l48.length c50 9 1 (List.map eS l48)]) (fun _=>True) ?_ ?_
       ·refine n7 (ρd:=[PRes.row a25 _ _ _ _ _,PRes.b b20 _ _]) _ (aY (aB (aB aO)) (aY (aB aO) (List.Perm.refl _))) ?_
        refine dM 0 (by kernel_rfl) rfl rfl rfl rfl (bK rfl rfl rfl rfl rfl (.p rfl)) (dM 3 (by kernel_rfl) rfl rfl rfl rfl (ia (p:=pI v22) rfl (.p rfl)) ?_)
        refine kp 1 2 (by kernel_rfl) ?_ ?_
        ·skip
         refine bo rfl rfl rfl rfl (pG (dr (p:=pO a25 l24.length c26) rfl (.p rfl) wU rfl) (bw 2 (by kernel_rfl) (vt rfl rfl rfl rfl rfl rfl (kw hx44) (dM 4 (by kernel_rfl) rfl rfl rfl rfl (zU (enc:=eS) rfl rfl rfl (fun _=>rfl) (.p rfl) (.p rfl) (fun _=>hm45)) (dM 5 (by kernel_rfl) rfl rfl rfl rfl (s9 (p:=pS m45) rfl (.p rfl) rfl) (bw 6 (by kernel_rfl) (bo rfl rfl rfl rfl (bN rfl rfl rfl rfl rfl (ij rfl kf) rfl rfl rfl rfl (fun b46=>bw 7 (by kernel_rfl) ?_)))))))))
         refine bo rfl rfl rfl rfl (cr (enc:=eS) rfl rfl rfl rfl rfl rfl rfl rfl rfl gb (by exact aB aO) hl48 (fun a49 c50=>?_))
         refine dM 8 (by kernel_rfl) rfl rfl rfl rfl (bK rfl rfl rfl rfl rfl (.p rfl)) (bw 9 (by kernel_rfl) (fx rfl rfl rfl (am (vs:=[pO a49 l48.length c50]) rfl rfl rfl rfl rfl (dA (dA ce)) (dX (dX oA)) (fw (by kernel_rfl) ?_))))
         exact hY (a49,c50) (sR rfl) (be (aB (aB (aB aO))) (be (aB (aB aO)) (be (aB (aB aO)) cK))) trivial
        skip
        refine vt rfl rfl rfl rfl rfl rfl (kw hx44) (dM 4 (by kernel_rfl) rfl rfl rfl rfl (zU (enc:=eS) rfl rfl rfl (fun _=>rfl) (.p rfl) (.p rfl) (fun _=>hm45)) (dM 5 (by kernel_rfl) rfl rfl rfl rfl (s9 (p:=pS m45) rfl (.p rfl) rfl) ?_))
        refine kp 1 6 (by kernel_rfl) ?_ ?_
        ·skip
         refine bo rfl rfl rfl rfl (pG (dr (p:=pO a25 l24.length c26) rfl (.p rfl) wU rfl) (bw 6 (by kernel_rfl) (bo rfl rfl rfl rfl (bN rfl rfl rfl rfl rfl (ij rfl kf) rfl rfl rfl rfl (fun b46=>bw 7 (by kernel_rfl) ?_)))))
         refine bo rfl rfl rfl rfl (cr (enc:=eS) rfl rfl rfl rfl rfl rfl rfl rfl rfl gb (by exact aB aO) hl48 (fun a49 c50=>?_))
         refine dM 8 (by kernel_rfl) rfl rfl rfl rfl (bK rfl rfl rfl rfl rfl (.p rfl)) (bw 9 (by kernel_rfl) (fx rfl rfl rfl (am (vs:=[pO a49 l48.length c50]) rfl rfl rfl rfl rfl (dA (dA ce)) (dX (dX oA)) (fw (by kernel_rfl) ?_))))
         exact hY (a49,c50) (sR rfl) (be (aB (aB (aB aO))) (be (aB (aB aO)) (be (aB (aB aO)) cK))) trivial
        skip
        refine bo rfl rfl rfl rfl (bN rfl rfl rfl rfl rfl (ij rfl kf) rfl rfl rfl rfl (fun b46=>bw 1 (by kernel_rfl) (bo rfl rfl rfl rfl (pG (dr (p:=pO a25 l24.length c26) rfl (.p rfl) um rfl) (bw 7 (by kernel_rfl) ?_)))))
        refine bo rfl rfl rfl rfl (cr (enc:=eS) rfl rfl rfl rfl rfl rfl rfl rfl rfl gb (by exact aB aO) hl48 (fun a49 c50=>?_))
        refine dM 8 (by kernel_rfl) rfl rfl rfl rfl (bK rfl rfl rfl rfl rfl (.p rfl)) (bw 9 (by kernel_rfl) (fx rfl rfl rfl (am (vs:=[pO a49 l48.length c50]) rfl rfl rfl rfl rfl (dA (dA ce)) (dX (dX oA)) (fw (by kernel_rfl) ?_))))
        exact hY (a49,c50) (sR rfl) (be (aB (aB (aB aO))) (be (aB (aB aO)) (be (aB (aB aO)) cK))) trivial
       rintro ⟨a49,c50⟩ τ ρ1 hsub52 _;(try dsimp only at hsub52);dsimp only [az]
       refine aG ?_
       obtain rfl:=osi hq41
       exact aw ((a49,c50),l48) (sR rfl) (PSub.trans Es hsub52) rfl
      refine ah ?_
      refine aG ?_
      obtain rfl:=osi hq41
      exact aw ((a25,c26),l24) (sR rfl) (be aO (be aO (be (aB aO) cK))) rfl
     rintro ⟨⟨a38,c39⟩,l40⟩ τ hz;(try dsimp only at hz);subst q41;(try dsimp only at hb32);dsimp only [az]
     refine ai [37,38] [(9,pI (IntKind.i64.wrap (v22+1)))] (by kernel_rfl) ?_
     exact aS hb32 (a38,c39) (sR rfl) (be aO (be aO (be (aB aO) cK)))
    refine aH ?_
    refine cq hb32 (fun ht=>aj rfl ?_)
    exact aw ((a25,c26),l24) (ns rfl) (be aO (be aO (be (aB aO) cK))) ht.symm
   rintro ⟨⟨a29,c30⟩,l31⟩ τ hz;(try dsimp only at hz);subst q33;(try dsimp only at hb15);dsimp only [az]
   refine cT (aa hb15 fun x53 hx53 hb15=>af (cE 4 [53,54] [(55,pB (decide (0<v8))),(56,pgv (decide (0<v8)) (pP b2 0))] (by kernel_rfl) ?_))
   refine rE (sj rfl rfl rfl) rfl rfl rfl (by exact aO) (kV (.g rfl) (kV (.p rfl) td)) (fun hc=>aR (gdp_t hx53 hc)) (fun hc=>by rw [gdp_f hx53 hc]) ?_
   refine vl (sj rfl rfl rfl) rfl rfl (Bn rfl (.g rfl) (.p rfl) rfl) (bX rfl rfl rfl (Bm rfl (.p rfl) (.p rfl) (.g rfl)) (aF (ft hb15 fun q59 hq59 hb15=>?_)))
   refine ar (Y:=Unit×((List Int)×Int×(List Zh))) (fun (_,(l55,v56,l58))=>[(3,pP b2 0),(4,pO a6 l5.length c7),(5,pI v8),(6,pI (IntKind.i64.wrap (1+x3.1))),(7,pP b20 0)]) (fun (_,(l55,v56,l58))=>[PRes.b b2 71 [pL eI l55,pI v56],PRes.b b20 81 [pI (IntKind.i64.wrap (2+(IntKind.i64.wrap (5*v8)))),pI (IntKind.i64.wrap (1+x19.1)),pO a29 l31.length c30,pL Zh.enc l58],PRes.row a6 l5.length c7 81 4 (List.map Zb.enc l5),PRes.row a29 l31.length c30 9 1 (List.map eS l31)]) (fun (_,(l55,v56,l58))=>q59=(l55,v56,l58)) ?_ ?_
   ·skip
    refine kq rfl hq59 (fun hc60 hq59=>?_) fun hc60 hq59=>?_
    ·refine aa hq59 ?_;clear hq59;intro m61 hm61 hq59
     refine af (cE 3 [61] [(60,pO a6 l5.length c7),(62,pI (IntKind.i64.wrap (v8 - 1)))] (by kernel_rfl) (bX rfl rfl rfl (eA (enc:=Zb.enc) (xs:=l5) rfl rfl rfl (.p rfl) um (.p rfl) (fun _=>hm61)) (aD 1 [(64,pP (rC a6) ((IntKind.i64.wrap (v8 - 1)).toNat * 4+3))] (by kernel_rfl) (bX rfl rfl rfl (dY (sz:=4) (p:=pL Zh.enc m61.Rules) (enc:=Zb.enc) (xs:=l5) (a:=a6) (IntKind.i64.wrap (v8 - 1)) 3 m61 rfl (.p rfl) rfl um (fun _=>hm61) rfl) (aD 1 [(66,pP b20 3)] (by kernel_rfl) (aP rfl rfl (am (vs:=[pL Zh.enc m61.Rules]) rfl rfl rfl rfl rfl (dA ce) (dX (dX (dX oA))) (aF ?_))))))))
     obtain rfl:=osi hq59
     exact aw ((),(x53.2.L,x53.2.I,m61.Rules)) (ns rfl) Es rfl
    refine ae ?_
    refine da rfl (bN rfl rfl rfl rfl rfl (ij rfl (ij rfl (ij rfl (ij rfl (ij rfl kf))))) rfl rfl rfl rfl (fun b62=>aN [(10,pO (some ⟨b62,0,none⟩) 5 5)] (by kernel_rfl) (de hq59 fun x64 hx64 hq59=>af (aD 1 [(68,pP b2 0)] (by kernel_rfl) ?_))))
    refine ap rfl (bh rfl rfl (ρ1:=[_]) (aY (by exact aB aO) (List.Perm.refl _)) (aR hx64) ?_);rintro _ _ ⟨rfl,rfl⟩
    refine kv [70] [(11,pI (IntKind.i64.wrap (1+x64.1)))] (by kernel_rfl) (bZ (ak [(12,pI 0)] (by kernel_rfl) (aX (di 87 8 (aa hq59 fun q81 hq81 hq59=>?_)))))
    refine ju (Y:=(Option Addr×Nat)×((List Int)×Int×(List Zh))) (fun ((a77,c78),(l73,v74,l79))=>[(3,pP b2 0),(4,pO a6 l5.length c7),(5,pI v8),(6,pI (IntKind.i64.wrap (1+x3.1))),(7,pP b20 0)]) (fun ((a77,c78),(l73,v74,l79))=>[PRes.b b2 71 [pL eI l73,pI v74],PRes.b b20 81 [pI (IntKind.i64.wrap (2+(IntKind.i64.wrap (5*v8)))),pI (IntKind.i64.wrap (1+x19.1)),pO a29 l31.length c30,pO a77 l79.length c78],PRes.row a6 l5.length c7 81 4 (List.map Zb.enc l5),PRes.row a29 l31.length c30 9 1 (List.map eS l31),PRes.row a77 l79.length c78 87 8 (List.map Zh.enc l79)]) (fun ((a77,c78),(l73,v74,l79))=>q81=(l73,v74,l79)) ?_ ?_
    ·refine av ?_
     refine aC (Y:=Option Addr×Nat) (S:=Int×(List Int)×Int×(List Zh)) _ hq81 (fun (a70,c71) (v65,l66,v67,l69)=>[(3,pP b2 0),(4,pO a6 l5.length c7),(5,pI v8),(6,pI (IntKind.i64.wrap (1+x3.1))),(7,pP b20 0),(10,pO (some ⟨b62,0,none⟩) 5 5),(11,pI (IntKind.i64.wrap (1+x64.1))),(12,pI v65)]) (fun (a70,c71) (v65,l66,v67,l69)=>[PRes.b b2 71 [pL eI l66,pI v67],PRes.b b20 81 [pI (IntKind.i64.wrap (2+(IntKind.i64.wrap (5*v8)))),pI (IntKind.i64.wrap (1+x19.1)),pO a29 l31.length c30,pO a70 l69.length c71],PRes.row a6 l5.length c7 81 4 (List.map Zb.enc l5),PRes.row a29 l31.length c30 9 1 (List.map eS l31),PRes.row (some ⟨b62,0,none⟩) 5 5 9 1 (List.map eS [(⟨#[57,52]⟩:ByteArray),(⟨#[57,52,48,49]⟩:ByteArray),(⟨#[57,52,48,49,48,50]⟩:ByteArray),(⟨#[57,53]⟩:ByteArray),(⟨#[57,53,48,50]⟩:ByteArray)]),PRes.row a70 l69.length c71 87 8 (List.map Zh.enc l69)]) (none,0) (r8 rfl) (be (aB aO) (be (aB (aB aO)) (be (aB (aB aO)) (be (aB (aB aO)) (be (aB aO) cK))))) ?_
     rintro ⟨a70,c71⟩ ⟨v65,l66,v67,l69⟩ o τ hb80;(try dsimp only at hb80);dsimp only [az]
     refine cT (bF [71] [(72,pB (decide (v65<5)))] (by kernel_rfl) rfl hb80 (fun hc83 hb80=>?_) fun hc83 hb80=>?_)
     ·refine ah ?_
      refine de hb80 fun q93 hq93 hb80=>?_
      refine ar (Y:=(Option Addr×Nat)×((List Int)×Int×(List Zh))) (fun ((a90,c91),(l86,v87,l92))=>[(3,pP b2 0),(4,pO a6 l5.length c7),(5,pI v8),(6,pI (IntKind.i64.wrap (1+x3.1))),(7,pP b20 0),(10,pO (some ⟨b62,0,none⟩) 5 5),(11,pI (IntKind.i64.wrap (1+x64.1))),(12,pI v65)]) (fun ((a90,c91),(l86,v87,l92))=>[PRes.b b2 71 [pL eI l86,pI v87],PRes.b b20 81 [pI (IntKind.i64.wrap (2+(IntKind.i64.wrap (5*v8)))),pI (IntKind.i64.wrap (1+x19.1)),pO a29 l31.length c30,pO a90 l92.length c91],PRes.row a6 l5.length c7 81 4 (List.map Zb.enc l5),PRes.row (some ⟨b62,0,none⟩) 5 5 9 1 (List.map eS [(⟨#[57,52]⟩:ByteArray),(⟨#[57,52,48,49]⟩:ByteArray),(⟨#[57,52,48,49,48,50]⟩:ByteArray),(⟨#[57,53]⟩:ByteArray),(⟨#[57,53,48,50]⟩:ByteArray)]),PRes.row a29 l31.length c30 9 1 (List.map eS l31),PRes.row a90 l92.length c91 87 8 (List.map Zh.enc l92)]) (fun ((a90,c91),(l86,v87,l92))=>q93=(l86,v87,l92)) ?_ ?_
      ·skip
       refine qU (aa hq93 fun u94 hu94 hq93=>aq [] [75,76,77,78] [(79,pB ((dq .i64 (cD .i64 (IntKind.i64.wrap (1+x64.1)) v65) 1) == 1))] (un 2 hu94 bj) (by kernel_rfl) (cR rfl hq93 (fun hc95 hq93=>?_) fun hc95 hq93=>?_))
       ·refine aa hq93 ?_;clear hq93;intro m96 hm96 hq93
        refine aa hq93 fun x97 hx97 hq93=>aa hq93 fun l100 hl100 hq93=>?_
        refine ju (Y:=Option Addr×Nat) (fun (a101,c102)=>[(3,pP b2 0),(4,pO a6 l5.length c7),(5,pI v8),(6,pI (IntKind.i64.wrap (1+x3.1))),(7,pP b20 0),(10,pO (some ⟨b62,0,none⟩) 5 5),(11,pI (IntKind.i64.wrap (1+x64.1))),(12,pI v65)]) (fun (a101,c102)=>[PRes.b b2 71 [pL eI x97.2.L,pI x97.2.I],PRes.b b20 81 [pI (IntKind.i64.wrap (2+(IntKind.i64.wrap (5*v8)))),pI (IntKind.i64.wrap (1+x19.1)),pO a29 l31.length c30,pO a101 l100.length c102],PRes.row a101 l100.length c102 87 8 (List.map Zh.enc l100),PRes.row a6 l5.length c7 81 4 (List.map Zb.enc l5),PRes.row a29 l31.length c30 9 1 (List.map eS l31),PRes.row (some ⟨b62,0,none⟩) 5 5 9 1 (List.map eS [(⟨#[57,52]⟩:ByteArray),(⟨#[57,52,48,49]⟩:ByteArray),(⟨#[57,52,48,49,48,50]⟩:ByteArray),(⟨#[57,53]⟩:ByteArray),(⟨#[57,53,48,50]⟩:ByteArray)])]) (fun _=>True) ?_ ?_
        ·refine n7 (ρd:=[PRes.b b2 _ _,PRes.row a70 _ _ _ _ _,PRes.b b20 _ _]) _ (aY aO (aY (aB (aB (aB (aB aO)))) (List.Perm.refl _))) ?_
         refine dM 0 (by kernel_rfl) rfl rfl rfl rfl (bK rfl rfl rfl rfl rfl (.p rfl)) (dM 2 (by kernel_rfl) rfl rfl rfl rfl (ia (p:=pO (some ⟨b62,0,none⟩) 5 5) rfl (.p rfl)) (dM 3 (by kernel_rfl) rfl rfl rfl rfl (ia (p:=pI v65) rfl (.p rfl)) (dM 4 (by kernel_rfl) rfl rfl rfl rfl (eA (enc:=eS) (xs:=[(⟨#[57,52]⟩:ByteArray),(⟨#[57,52,48,49]⟩:ByteArray),(⟨#[57,52,48,49,48,50]⟩:ByteArray),(⟨#[57,53]⟩:ByteArray),(⟨#[57,53,48,50]⟩:ByteArray)]) rfl rfl rfl (.p rfl) um (.p rfl) (fun _=>hm96)) (dM 5 (by kernel_rfl) rfl rfl rfl rfl (dY (sz:=1) (p:=pS m96) (enc:=eS) (xs:=[(⟨#[57,52]⟩:ByteArray),(⟨#[57,52,48,49]⟩:ByteArray),(⟨#[57,52,48,49,48,50]⟩:ByteArray),(⟨#[57,53]⟩:ByteArray),(⟨#[57,53,48,50]⟩:ByteArray)]) (a:=(some ⟨b62,0,none⟩)) v65 0 m96 rfl (.p rfl) rfl um (fun _=>hm96) rfl) (dM 6 (by kernel_rfl) rfl rfl rfl rfl (ia (p:=pP b2 0) rfl (.p rfl)) ?_)))))
         refine kp 1 7 (by kernel_rfl) ?_ ?_
         ·skip
          refine bo rfl rfl rfl rfl (pG (dr (p:=pO a70 l69.length c71) rfl (.p rfl) um rfl) (bw 7 (by kernel_rfl) ?_))
          refine bo rfl rfl rfl rfl (bh rfl rfl (ρ1:=[_]) (aY (by exact aO) (List.Perm.refl _)) (ms hx97) ?_);rintro _ _ ⟨rfl,rfl⟩
          refine dM 8 (by kernel_rfl) rfl rfl rfl rfl (te (cs:=[pS m96,pI x97.1.Kind,pI x97.1.Digits,pL eS x97.1.Except,pI x97.1.Tolerance,pI x97.1.Limit,pS x97.1.Name,pL Zd.enc x97.1.Args]) rfl rfl rfl rfl rfl rfl rfl (Fc rfl rfl rfl rfl oA (Fc rfl rfl rfl rfl (dX mX) zfn))) (bw 9 (by kernel_rfl) (bo rfl rfl rfl rfl (bN rfl rfl rfl rfl rfl (ij rfl kf) rfl rfl rfl rfl (fun b98=>bw 10 (by kernel_rfl) ?_))))
          refine bo rfl rfl rfl rfl (cr (enc:=Zh.enc) rfl rfl rfl rfl rfl rfl rfl rfl rfl gb (by exact aB (aB aO)) hl100 (fun a101 c102=>?_))
          refine dM 11 (by kernel_rfl) rfl rfl rfl rfl (bK rfl rfl rfl rfl rfl (.p rfl)) (bw 12 (by kernel_rfl) (fx rfl rfl rfl (am (vs:=[pO a101 l100.length c102]) rfl rfl rfl rfl rfl (dA (dA (dA ce))) (dX (dX (dX oA))) (fw (by kernel_rfl) ?_))))
          exact hY (a101,c102) (r8 rfl) (be (aB (aB aO)) (be (aB (aB aO)) (be aO (be (aB aO) (be (aB aO) (be (aB aO) bB)))))) trivial
         skip
         refine bo rfl rfl rfl rfl (bh rfl rfl (ρ1:=[_]) (aY (by exact aO) (List.Perm.refl _)) (ms hx97) ?_);rintro _ _ ⟨rfl,rfl⟩
         refine dM 8 (by kernel_rfl) rfl rfl rfl rfl (te (cs:=[pS m96,pI x97.1.Kind,pI x97.1.Digits,pL eS x97.1.Except,pI x97.1.Tolerance,pI x97.1.Limit,pS x97.1.Name,pL Zd.enc x97.1.Args]) rfl rfl rfl rfl rfl rfl rfl (Fc rfl rfl rfl rfl oA (Fc rfl rfl rfl rfl (dX mX) zfn))) ?_
         refine kp 1 9 (by kernel_rfl) ?_ ?_
         ·skip
          refine bo rfl rfl rfl rfl (pG (dr (p:=pO a70 l69.length c71) rfl (.p rfl) um rfl) (bw 9 (by kernel_rfl) (bo rfl rfl rfl rfl (bN rfl rfl rfl rfl rfl (ij rfl kf) rfl rfl rfl rfl (fun b98=>bw 10 (by kernel_rfl) ?_)))))
          refine bo rfl rfl rfl rfl (cr (enc:=Zh.enc) rfl rfl rfl rfl rfl rfl rfl rfl rfl gb (by exact aB (aB aO)) hl100 (fun a101 c102=>?_))
          refine dM 11 (by kernel_rfl) rfl rfl rfl rfl (bK rfl rfl rfl rfl rfl (.p rfl)) (bw 12 (by kernel_rfl) (fx rfl rfl rfl (am (vs:=[pO a101 l100.length c102]) rfl rfl rfl rfl rfl (dA (dA (dA ce))) (dX (dX (dX oA))) (fw (by kernel_rfl) ?_))))
          exact hY (a101,c102) (r8 rfl) (be (aB (aB aO)) (be (aB (aB aO)) (be aO (be (aB aO) (be (aB aO) (be (aB aO) bB)))))) trivial
         skip
         refine bo rfl rfl rfl rfl (bN rfl rfl rfl rfl rfl (ij rfl kf) rfl rfl rfl rfl (fun b98=>bw 1 (by kernel_rfl) (bo rfl rfl rfl rfl (pG (dr (p:=pO a70 l69.length c71) rfl (.p rfl) zm3 rfl) (bw 10 (by kernel_rfl) ?_)))))
         refine bo rfl rfl rfl rfl (cr (enc:=Zh.enc) rfl rfl rfl rfl rfl rfl rfl rfl rfl gb (by exact aB (aB aO)) hl100 (fun a101 c102=>?_))
         refine dM 11 (by kernel_rfl) rfl rfl rfl rfl (bK rfl rfl rfl rfl rfl (.p rfl)) (bw 12 (by kernel_rfl) (fx rfl rfl rfl (am (vs:=[pO a101 l100.length c102]) rfl rfl rfl rfl rfl (dA (dA (dA ce))) (dX (dX (dX oA))) (fw (by kernel_rfl) ?_))))
         exact hY (a101,c102) (r8 rfl) (be (aB (aB aO)) (be (aB (aB aO)) (be aO (be (aB aO) (be (aB aO) (be (aB aO) bB)))))) trivial
        rintro ⟨a101,c102⟩ τ ρ1 hsub104 _;(try dsimp only at hsub104);dsimp only [az]
        refine aG ?_
        obtain rfl:=osi hq93
        exact aw ((a101,c102),(x97.2.L,x97.2.I,l100)) (r8 rfl) (PSub.trans (be aO (be aO (be (aB aO) (be (aB (aB aO)) (be (aB aO) cK))))) hsub104) rfl
       refine ah ?_
       refine aG ?_
       obtain rfl:=osi hq93
       exact aw ((a70,c71),(l66,v67,l69)) (r8 rfl) (be aO (be aO (be aO (be (aB aO) n8)))) rfl
      rintro ⟨⟨a90,c91⟩,⟨l86,v87,l92⟩⟩ τ hz;(try dsimp only at hz);subst q93;(try dsimp only at hb80);dsimp only [az]
      refine ai [73,74] [(12,pI (IntKind.i64.wrap (v65+1)))] (by kernel_rfl) ?_
      exact aS hb80 (a90,c91) (r8 rfl) (be aO (be aO (be aO (be (aB aO) n8))))
     refine aH ?_
     refine cq hb80 (fun ht=>aj rfl ?_)
     exact hY ((a70,c71),(l66,v67,l69)) (ns rfl) (be aO (be aO (be aO (be aO (be (aB aO) bB))))) ht.symm
    rintro ⟨⟨a77,c78⟩,⟨l73,v74,l79⟩⟩ τ ρ1 hsub105 hz;(try dsimp only at hz hsub105);subst q81;(try dsimp only at hq59);dsimp only [az]
    refine kU (cov_sub hsub105) ?_
    refine kU (cov_frz (css:=List.map Zh.enc l79) (a:=a77) (by exact aB (aB (aB (aB aO))))) ?_
    refine kU (DA (k:=3) (enc:=Zh.enc) (xs:=l79) (b:=b20) (a:=a77) rfl gb (dA (dA ce))) ?_
    obtain rfl:=osi hq59
    exact aw ((),(l73,v74,l79)) (ns rfl) (be (aB aO) (be (aB aO) (be (aB aO) (be (aB aO) bB)))) rfl
   rintro ⟨_,⟨l55,v56,l58⟩⟩ τ hz;(try dsimp only at hz);subst q59;(try dsimp only at hb15);dsimp only [az]
   refine af (aD 1 [(92,pO a6 l5.length c7)] (by kernel_rfl) ?_)
   refine lw (css:=List.map eS l31) (a:=a29) (by exact aB (aB (aB aO))) ?_
   refine jd (k:=2) (enc:=eS) (xs:=l31) (b:=b20) (a:=a29) rfl gb (dA (dA ce)) (gt 1 [2] [(93,.agg [pI (IntKind.i64.wrap (2+(IntKind.i64.wrap (5*v8)))),pI (IntKind.i64.wrap (1+x19.1)),pL eS l31,pL Zh.enc l58])] (by kernel_rfl) (ap rfl (bN rfl rfl rfl rfl rfl (ij rfl kf) rfl rfl rfl rfl (fun b106=>aa hb15 fun l108 hl108 hb15=>?_))))
   refine ap rfl (cr (enc:=Zb.enc) rfl rfl rfl rfl rfl rfl rfl rfl rfl gb (by exact aB (aB (aB (aB aO)))) hl108 (fun a109 c110=>?_))
   refine aN [(4,pO a109 l108.length c110)] (by kernel_rfl) (dI (ai [23,24] [(5,pI (IntKind.i64.wrap (v8+1)))] (by kernel_rfl) ?_))
   exact aS hb15 (a109,c110) (iR rfl) (be (aB (aB (aB aO))) cK)
  refine aH ?_
  refine cq hb15 (fun ht=>aj rfl ?_)
  exact aw ((a6,c7),l5) (rD rfl) (be (aB aO) bB) ht.symm
 rintro ⟨⟨a12,c13⟩,l14⟩ τ hz;(try dsimp only at hz);subst q16;(try dsimp only at h);dsimp only [az]
 refine ae (ai [96] [(2,pO a12 l14.length c13)] (by kernel_rfl) (cX ?_))
 obtain rfl:=osi h
 exact aM (dp (aK rfl)) cK ⟨_,_,rfl,rfl⟩
def bI (p0:(List Zc)) (p1:Int) (p2:(Zc→Int→Option Int)):Option (Int×Bool):=(aT (S:=Int×Int) (T:=(Int×Int)) (fun (v1,v2)=>cond (decide (v1<v2)) (lb ((IntKind.i64.wrap (cD .u64 (IntKind.u64.wrap (IntKind.i64.wrap (v1+v2))) 1))) (fun w8=>(idx p0 w8).bind fun m9=>(p2 m9 p1).bind fun x10=>cond (decide (x10<0)) (some (.inl ((IntKind.i64.wrap (w8+1)),v2))) (some (.inl (v1,w8))))) (some (.inr (p1,v1)))) FUEL (0,(p0.length:Int))).bind fun (v3,v4)=>(gd (decide (v4<(p0.length:Int))) (idx p0 v4)).bind fun m12=>(gd (decide (v4<(p0.length:Int))) (p2 m12 v3)).bind fun x13=>some (v4,((decide (v4<(p0.length:Int)))&&(x13 == 0)))
theorem fu {p0:(List Zc)} {p1:Int} {p2:(Zc→Int→Option Int)} {r:(Int×Bool)} {g2:PV} (hg2:∀ {y0:Zc} {y1:Int} {w:Int},p2 y0 y1=some w→PFV g2 [.agg (aI y0),pI y1] (pI w)) (h:bI p0 p1 p2=some r):PF 132 [pL Zc.enc p0,pI p1,g2] (.tup [pI r.1,pB r.2]):=by
 unfold bI at h
 refine bd ?_
 refine du Tryz.func132 rfl Tryz.ntmps132 Tryz.results132 rfl (aW [6,7] (by kernel_rfl) (bZ (ai [12,13] [(8,pI (p0.length:Int))] (by kernel_rfl) (bZ (ai [14] [(9,pI 0),(10,pI (p0.length:Int))] (by kernel_rfl) (de h fun q6 hq6 h=>?_))))))
 refine ar (Y:=Unit×(Int×Int)) (fun (_,(v3,v4))=>[(0,pL Zc.enc p0),(1,pI v3),(2,g2),(8,pI (p0.length:Int)),(9,pI v4)]) (fun (_,(v3,v4))=>[]) (fun (_,(v3,v4))=>q6=(v3,v4)) ?_ ?_
 ·refine av ?_
  refine aC (Y:=Unit) (S:=Int×Int) _ hq6 (fun _ (v1,v2)=>[(0,pL Zc.enc p0),(1,pI p1),(2,g2),(8,pI (p0.length:Int)),(9,pI v1),(10,pI v2)]) (fun _ (v1,v2)=>[]) () (p9 rfl) bB ?_
  rintro _ ⟨v1,v2⟩ o τ hb5;(try dsimp only at hb5);dsimp only [az]
  refine cT (bF [15,16] [(17,pB (decide (v1<v2)))] (by kernel_rfl) rfl hb5 (fun hc7 hb5=>?_) fun hc7 hb5=>?_)
  ·refine ah ?_
   refine aX (qU ?_)
   refine e9 hb5 ?_;clear hb5;intro w8 hw8 hb5
   refine af (cE 6 (rg 18 5) [(23,pI (IntKind.i64.wrap (cD .u64 (IntKind.u64.wrap (IntKind.i64.wrap (v1+v2))) 1)))] (by kernel_rfl) (bX rfl rfl rfl (bV rfl (.p (congrArg (fun z=>PV.v (Value.int .i64 z)) hw8))) (aF (de hb5 fun m9 hm9 hb5=>aa hb5 fun x10 hx10 hb5=>aq [] (rg 24 7) [(31,pB (decide (x10<0)))] (cL 3 Zc.enc hm9 (DG 6 (hg2 hx10) bj)) (by kernel_rfl) (cR rfl hb5 (fun hc11 hb5=>?_) fun hc11 hb5=>?_)))))
   ·refine ai [32,33] [(9,pI (IntKind.i64.wrap (w8+1)))] (by kernel_rfl) ?_
    refine aG ?_
    exact aS hb5 () (p9 rfl) bB
   refine ai [34] [(10,pI w8)] (by kernel_rfl) ?_
   refine aG ?_
   exact aS hb5 () (p9 rfl) bB
  refine aH ?_
  refine cq hb5 (fun ht=>aj rfl ?_)
  exact aw ((),(p1,v1)) (ns rfl) bB ht.symm
 rintro ⟨_,⟨v3,v4⟩⟩ τ hz;(try dsimp only at hz);subst q6;(try dsimp only at h);dsimp only [az]
 refine ae (aa h fun m12 hm12 h=>aa h fun x13 hx13 h=>aq [] (rg 35 14) [(6,pI v4),(7,pB ((decide (v4<(p0.length:Int)))&&(x13 == 0)))] (eK 8 Zc.enc (cF hm12) (focvg 11 (fun hc=>hg2 (cF hx13 hc)) bj)) (by kernel_rfl) (cX ?_))
 obtain rfl:=osi h
 exact aM (cd (aK rfl) (aK rfl)) bB ⟨rfl,rfl⟩
def jy (p0:Int):Option Bool:=some (p0 != p0)
theorem od {p0:Int} {r:Bool}  (h:jy p0=some r):PF 152 [pI p0] (pB r):=by
 unfold jy at h
 refine bd ?_
 refine du Tryz.func152 rfl Tryz.ntmps152 Tryz.results152 rfl (aW [2] (by kernel_rfl) (bZ (ai [3,4,5] [(2,pB (p0 != p0))] (by kernel_rfl) (cX ?_))))
 exact zz r h rfl
def dQ (p0:Int) (p1:Int):Option Int:=(jy p0).bind fun x1=>(jy p1).bind fun x2=>cond x1 (cond x2 (some (0:Int)) (some (-1))) (cond x2 (some (1:Int)) (cond (decide (p0<p1)) (some (-1)) (cond (decide (p1<p0)) (some (1:Int)) (some (0:Int)))))
theorem fP {p0:Int} {p1:Int} {r:Int}  (h:dQ p0 p1=some r):PF 103 [pI p0,pI p1] (pI r):=by
 unfold dQ at h
 refine bd ?_
 refine du Tryz.func103 rfl Tryz.ntmps103 Tryz.results103 rfl (aW [4] (by kernel_rfl) (de h fun x1 hx1 h=>aq [] [7,8] [(5,pB x1)] (bg 1 (od hx1) bj) (by kernel_rfl) (de h fun x2 hx2 h=>aq [] [9,10] [(6,pB x2)] (bg 1 (od hx2) bj) (by kernel_rfl) (cj (ak [(11,pB x1)] (by kernel_rfl) (cR rfl h (fun hc3 h=>?_) fun hc3 h=>?_))))))
 ·refine ae ?_
  refine ae (ak [(12,pB x2)] (by kernel_rfl) (cR rfl h (fun hc4 h=>?_) fun hc4 h=>?_))
  ·refine ae ?_
   refine dg [(4,pI 0)] (by kernel_rfl) (al (al ?_))
   exact zz r h rfl
  refine ah ?_
  refine bZ (dg [(4,pI (-1))] (by kernel_rfl) (al ?_))
  exact zz r h rfl
 refine ah ?_
 refine cj (ak [(13,pB x2)] (by kernel_rfl) (cR rfl h (fun hc5 h=>?_) fun hc5 h=>?_))
 ·refine ae ?_
  refine dg [(4,pI 1)] (by kernel_rfl) (al ?_)
  exact zz r h rfl
 refine ah ?_
 refine cj (bF [14,15] [(16,pB (decide (p0<p1)))] (by kernel_rfl) rfl h (fun hc6 h=>?_) fun hc6 h=>?_)
 ·refine ae ?_
  refine dg [(4,pI (-1))] (by kernel_rfl) (al ?_)
  exact zz r h rfl
 refine ah ?_
 refine cj (bF [17,18] [(19,pB (decide (p1<p0)))] (by kernel_rfl) rfl h (fun hc7 h=>?_) fun hc7 h=>?_)
 ·refine ae ?_
  refine dg [(4,pI 1)] (by kernel_rfl) (al ?_)
  exact zz r h rfl
 refine ah ?_
 refine bZ (dg [(4,pI 0)] (by kernel_rfl) ?_)
 exact zz r h rfl
def eC (p0:Zc) (p1:Int):Option Int:=(dQ p0.ID p1).bind fun x2=>some x2
theorem oQ {p0:Zc} {p1:Int} {r:Int}  (h:eC p0 p1=some r):PF 133 [.agg (aI p0),pI p1] (pI r):=by
 unfold eC at h
 refine bd ?_
 refine du Tryz.func133 rfl Tryz.ntmps133 Tryz.results133 rfl (da rfl (bf (cs:=(aI p0)) rfl rfl (fun b1=>ba [4] (by kernel_rfl) (de h fun x2 hx2 h=>aq [0] [5,6,7,8] [(4,pI x2)] (bg 3 (fP hx2) bj) (by kernel_rfl) (cX ?_)))))
 exact zz r h rfl
def gu (p0:(List Zc)) (p1:Int):Option (Int×Bool):=(bI p0 p1 (fun y1 y2=>eC y1 y2)).bind fun x3=>some (x3.1,x3.2)
theorem qf {p0:(List Zc)} {p1:Int} {r:(Int×Bool)}  (h:gu p0 p1=some r):PF 90 [pL Zc.enc p0,pI p1] (.tup [pI r.1,pB r.2]):=by
 unfold gu at h
 refine bd ?_
 refine du Tryz.func90 rfl Tryz.ntmps90 Tryz.results90 rfl (aW [4,5] (by kernel_rfl) (de h fun x3 hx3 h=>aq [] (rg 6 5) [(4,pI x3.1),(5,pB x3.2)] (bg 2 (fu (fun hr=>sZ (oQ hr)) hx3) bj) (by kernel_rfl) (cX ?_)))
 obtain rfl:=osi h
 exact aM (cd (aK rfl) (aK rfl)) bB ⟨rfl,rfl⟩
def bU (p0:(List ByteArray)):Option (List ByteArray):=app 16 ([]:List ByteArray) p0
theorem ff {p0:(List ByteArray)} {r:(List ByteArray)} (h:bU p0=some r):PCall 91 [pL eS p0] [] (fun pv ρ'=>∃ a c,pv=.v (.slice a r.length c)∧ρ'=[PRes.row a r.length c 9 1 (List.map eS r)]):=by
 unfold bU at h
 refine oN Tryz.func91 rfl Tryz.ntmps91 Tryz.results91 rfl ?_
 (repeat refine ae ?_)
 refine af (bX rfl rfl rfl (bV (p:=.v (.slice none 0 0)) rfl (.p rfl)) (aF (aX ?_)))
 (repeat refine ae ?_)
 refine af (bX rfl rfl rfl (ia (p:=pL eS p0) rfl (.p rfl)) (xu rfl rfl rfl rfl rfl rfl (fun b hb=>aF (aX ?_))))
 refine km rfl (fun hc=>?_) (fun hc=>?_)
 ·have e0:p0=[]:=List.map_eq_nil_iff.1 (hb hc)
  subst e0;obtain ⟨rfl,_⟩:=p8 h
  (repeat refine ae ?_)
  refine af (bX rfl rfl rfl (bV (p:=.v (.slice none 0 0)) rfl (.p rfl)) (aF (aX (di 9 1 (bR (al ?_))))))
  exact aM (dp (aK rfl)) cK ⟨_,_,rfl,rfl⟩
 refine ah ?_
 refine aX ?_
 (repeat refine ae ?_)
 refine da rfl (bN rfl rfl rfl rfl rfl kf rfl rfl rfl rfl (fun b1=>bX rfl rfl rfl (ia (p:=pL eS p0) rfl (.p rfl)) ?_))
 refine ap rfl (iq (enc:=eS) (xs:=([]:List ByteArray)) rfl rfl rfl rfl rfl (fun _=>rfl) rfl rfl rfl (by exact aO) h (fun a c=>?_))
 refine bX rfl rfl rfl (bV (p:=.v (.slice a r.length c)) rfl (.p rfl)) (aF (cX ?_))
 exact aM (dp (aK rfl)) cK ⟨_,_,rfl,rfl⟩
def ca (p0:(List Zi)):Option (List Zi):=app 16 ([]:List Zi) p0
theorem gJ {p0:(List Zi)} {r:(List Zi)} (h:ca p0=some r):PCall 92 [pL Zi.enc p0] [] (fun pv ρ'=>∃ a c,pv=.v (.slice a r.length c)∧ρ'=[PRes.row a r.length c 78 2 (List.map Zi.enc r)]):=by
 unfold ca at h
 refine oN Tryz.func92 rfl Tryz.ntmps92 Tryz.results92 rfl ?_
 (repeat refine ae ?_)
 refine af (bX rfl rfl rfl (bV (p:=.v (.slice none 0 0)) rfl (.p rfl)) (aF (aX ?_)))
 (repeat refine ae ?_)
 refine af (bX rfl rfl rfl (ia (p:=pL Zi.enc p0) rfl (.p rfl)) (xu rfl rfl rfl rfl rfl rfl (fun b hb=>aF (aX ?_))))
 refine km rfl (fun hc=>?_) (fun hc=>?_)
 ·have e0:p0=[]:=List.map_eq_nil_iff.1 (hb hc)
  subst e0;obtain ⟨rfl,_⟩:=p8 h
  (repeat refine ae ?_)
  refine af (bX rfl rfl rfl (bV (p:=.v (.slice none 0 0)) rfl (.p rfl)) (aF (aX (di 78 2 (bR (al ?_))))))
  exact aM (dp (aK rfl)) cK ⟨_,_,rfl,rfl⟩
 refine ah ?_
 refine aX ?_
 (repeat refine ae ?_)
 refine da rfl (bN rfl rfl rfl rfl rfl kf rfl rfl rfl rfl (fun b1=>bX rfl rfl rfl (ia (p:=pL Zi.enc p0) rfl (.p rfl)) ?_))
 refine ap rfl (iq (enc:=Zi.enc) (xs:=([]:List Zi)) rfl rfl rfl rfl rfl (fun _=>rfl) rfl rfl rfl (by exact aO) h (fun a c=>?_))
 refine bX rfl rfl rfl (bV (p:=.v (.slice a r.length c)) rfl (.p rfl)) (aF (cX ?_))
 exact aM (dp (aK rfl)) cK ⟨_,_,rfl,rfl⟩
def cU (p0:(List Zc)) (p1:Int):Option (Zc×Bool):=(gu p0 p1).bind fun x2=>cond (!x2.2) (some ((⟨0,ByteArray.empty,ByteArray.empty,0,false,[],[]⟩:Zc),false)) ((idx p0 x2.1).bind fun m4=>(bU m4.Processes).bind fun x6=>(ca m4.Inputs).bind fun x10=>some ((⟨m4.ID,m4.Code,m4.Country,m4.Price,m4.Obtained,x6,x10⟩:Zc),true))
theorem fQ {p0:(List Zc)} {p1:Int} {r:(Zc×Bool)}  (h:cU p0 p1=some r):PF 45 [pL Zc.enc p0,pI p1] (.tup [.agg (aI r.1),pB r.2]):=by
 unfold cU at h
 refine bd ?_
 refine du Tryz.func45 rfl Tryz.ntmps45 Tryz.results45 rfl (da rfl (aL (cs:=[pI 0,pS ByteArray.empty,pS ByteArray.empty,pI 0,pB false,pN,pN]) rfl rfl rfl rfl (fun b1=>ba [5] (by kernel_rfl) (de h fun x2 hx2 h=>aq [] [10,11,12,9,13,14] [(6,pI x2.1),(7,pB x2.2)] (bg 2 (qf hx2) bj) (by kernel_rfl) (cj (bF [15] [(16,pB (!x2.2))] (by kernel_rfl) rfl h (fun hc3 h=>?_) fun hc3 h=>?_))))))
 ·refine ae ?_
  refine af (aD 1 [(17,.agg [pI 0,pS ByteArray.empty,pS ByteArray.empty,pI 0,pB false,pN,pN])] (by kernel_rfl) (aP rfl rfl (am (vs:=[pI 0,pS ByteArray.empty,pS ByteArray.empty,pI 0,pB false,pN,pN]) rfl rfl rfl rfl rfl ce mX (aN [(5,pB false)] (by kernel_rfl) (aX (cS (k:=5) (b:=b1) rfl ce (cS (k:=6) (b:=b1) rfl ce (bR (al ?_)))))))))
  obtain rfl:=osi h
  exact aM (cd (dC rfl gb rfl) (aK rfl)) bB ⟨rfl,rfl⟩
 refine ah ?_
 refine de h fun m4 hm4 h=>af (aU 4 [] [18,19,20] [(21,.agg (aI m4))] (cL 2 Zc.enc hm4 bj) (by kernel_rfl) (ap rfl (aL (cs:=[pI 0,pS ByteArray.empty,pS ByteArray.empty,pI 0,pB false,pN,pN]) rfl rfl rfl rfl (fun b5=>aP rfl rfl (am (vs:=(aI m4)) rfl rfl rfl rfl rfl ce mX (aF (de h fun x6 hx6 h=>af (cO 2 [0] [22] [(23,pL eS m4.Processes)] (by kernel_rfl) ?_))))))))
 refine ap rfl (bh rfl rfl (ρ1:=[]) (List.Perm.refl _) (ff hx6) ?_);rintro _ _ ⟨a7,c8,rfl,rfl⟩
 refine aD 1 [(25,pP b5 5)] (by kernel_rfl) (aP rfl rfl (am (vs:=[pO a7 x6.length c8]) rfl rfl rfl rfl rfl (dA ce) (dX (dX (dX (dX (dX oA))))) (aF (de h fun x10 hx10 h=>af (cO 2 [1] [26] [(27,pL Zi.enc m4.Inputs)] (by kernel_rfl) ?_)))))
 refine ap rfl (bh rfl rfl (ρ1:=[]) (List.Perm.refl _) (gJ hx10) ?_);rintro _ _ ⟨a11,c12,rfl,rfl⟩
 refine aD 1 [(29,pP b5 6)] (by kernel_rfl) (aP rfl rfl (am (vs:=[pO a11 x10.length c12]) rfl rfl rfl rfl rfl (dA (dA ce)) (dX (dX (dX (dX (dX (dX oA)))))) (aF (bZ (af ?_)))))
 refine lw (css:=List.map eS x6) (a:=a7) (by exact aB aO) ?_
 refine jd (k:=5) (enc:=eS) (xs:=x6) (b:=b5) (a:=a7) rfl gb (dA (dA ce)) ?_
 refine lw (css:=List.map Zi.enc x10) (a:=a11) (by exact aB aO) ?_
 refine jd (k:=6) (enc:=Zi.enc) (xs:=x10) (b:=b5) (a:=a11) rfl gb (dA (dA ce)) (gt 1 [2] [(30,.agg [pI m4.ID,pS m4.Code,pS m4.Country,pI m4.Price,pB m4.Obtained,pL eS x6,pL Zi.enc x10])] (by kernel_rfl) (aP rfl rfl (am (vs:=[pI m4.ID,pS m4.Code,pS m4.Country,pI m4.Price,pB m4.Obtained,pL eS x6,pL Zi.enc x10]) rfl rfl rfl rfl rfl (dA (dA (dA ce))) mX (aN [(5,pB true)] (by kernel_rfl) (cX ?_)))))
 obtain rfl:=osi h
 exact aM (cd (dC rfl zm3 rfl) (aK rfl)) bB ⟨rfl,rfl⟩
def bE (p0:(List Zb)) (p1:(Zb→Option Bool)):Option Int:=(aT (S:=Int) (T:=(Unit)⊕(_)) (fun v1=>cond (decide (v1<(p0.length:Int))) ((idx p0 v1).bind fun m5=>(p1 m5).bind fun x6=>cond x6 (some (.inr (.inr v1))) (some (.inl (IntKind.i64.wrap (v1+1))))) (some (.inr (.inl ())))) FUEL 0).bind fun q=>match q with | .inl _=>some (-1) | .inr e=>some e
theorem gw {p0:(List Zb)} {p1:(Zb→Option Bool)} {r:Int} {g1:PV} (hg1:∀ {y0:Zb} {w:Bool},p1 y0=some w→PFV g1 [.agg (aA y0)] (pB w)) (h:bE p0 p1=some r):PF 93 [pL Zb.enc p0,g1] (pI r):=by
 unfold bE at h
 refine bd ?_
 refine du Tryz.func93 rfl Tryz.ntmps93 Tryz.results93 rfl (aW [4] (by kernel_rfl) (cj (ai [6] [(7,pI (p0.length:Int)),(8,pI 0)] (by kernel_rfl) (ft h fun q3 hq3 h=>?_))))
 refine ar (Y:=Unit×Unit) (fun (_,_)=>[]) (fun (_,_)=>[]) (fun (_,_)=>q3=Sum.inl ()) ?_ ?_
 ·refine av ?_
  refine aC (Y:=Unit) (S:=Int) _ hq3 (fun _ v1=>[(0,pL Zb.enc p0),(1,g1),(7,pI (p0.length:Int)),(8,pI v1)]) (fun _ v1=>[]) () (iR rfl) bB ?_
  rintro _ v1 o τ hb2;(try dsimp only at hb2);dsimp only [az]
  refine ae (ak [(9,pB (decide (v1<(p0.length:Int))))] (by kernel_rfl) (bZ (kq rfl hb2 (fun hc4 hb2=>?_) fun hc4 hb2=>?_)))
  ·refine ah ?_
   refine dJ (ai [10] [(5,pI v1)] (by kernel_rfl) (de hb2 fun m5 hm5 hb2=>aa hb2 fun x6 hx6 hb2=>aq [] (rg 11 5) [(16,pB x6)] (cL 3 Zb.enc hm5 (DG 5 (hg1 hx6) bj)) (by kernel_rfl) (cR rfl hb2 (fun hc7 hb2=>?_) fun hc7 hb2=>?_)))
   ·refine ae ?_
    refine ai [17] [(4,pI v1)] (by kernel_rfl) (cX (dH ?_))
    refine au hb2 (fun ht=>?_);subst ht
    refine cP ?_
    exact zz r h rfl
   refine ah ?_
   refine dI (ai [18] [(8,pI (IntKind.i64.wrap (v1+1)))] (by kernel_rfl) ?_)
   exact aS hb2 () (iR rfl) bB
  refine aH ?_
  refine cq hb2 (fun ht=>aj rfl ?_)
  exact aw ((),()) pz bB ht.symm
 rintro ⟨_,_⟩ τ hz;(try dsimp only at hz);subst q3;(try dsimp only at h);dsimp only [az]
 refine ae (dg [(4,pI (-1))] (by kernel_rfl) ?_)
 exact zz r h rfl
def gx (p0:Zb) (p1:Int):Option Bool:=some (p0.ID == p1)
theorem qg {p0:Zb} {p1:Int} {r:Bool}  (h:gx p0 p1=some r):PF 94 [.agg (aA p0),.ref [pI p1] 0] (pB r):=by
 unfold gx at h
 refine bd ?_
 refine du Tryz.func94 rfl Tryz.ntmps94 Tryz.results94 rfl (da rfl (bf (cs:=(aA p0)) rfl rfl (fun b1=>ba [3] (by kernel_rfl) (bZ (aJ [0] [4,5,6,7] [(3,pB (p0.ID == p1))] (by kernel_rfl) (cX ?_))))))
 exact zz r h rfl
def eG (p0:(List Zb)) (p1:Int):Option (Zb×Bool):=(bE p0 (fun y3=>gx y3 p1)).bind fun x4=>cond (decide (x4<0)) (some ((⟨0,0,[],[]⟩:Zb),false)) ((idx p0 x4).bind fun m6=>some (m6,true))
theorem jS {p0:(List Zb)} {p1:Int} {r:(Zb×Bool)}  (h:eG p0 p1=some r):PF 46 [pL Zb.enc p0,pI p1] (.tup [.agg (aA r.1),pB r.2]):=by
 unfold eG at h
 refine bd ?_
 refine du Tryz.func46 rfl Tryz.ntmps46 Tryz.results46 rfl (da rfl (bf (cs:=[pI p1]) rfl rfl (fun b1=>ap rfl (aL (cs:=[pI 0,pI 0,pN,pN]) rfl rfl rfl rfl (fun b2=>ba [5] (by kernel_rfl) (bZ (af (aD 1 [(7,pL Zb.enc p0)] (by kernel_rfl) ?_))))))))
 refine yy 3 rfl (by exact aB aO) ?_
 refine aa h fun x4 hx4 h=>jN [] [8,9] [(6,pI x4)] (bg 1 (gw (fun hr=>sZ (qg hr)) hx4) bj) (by kernel_rfl) (cj (bF [10] [(11,pB (decide (x4<0)))] (by kernel_rfl) rfl h (fun hc5 h=>?_) fun hc5 h=>?_))
 ·refine ae ?_
  refine af (aD 1 [(12,.agg [pI 0,pI 0,pN,pN])] (by kernel_rfl) (aP rfl rfl (am (vs:=[pI 0,pI 0,pN,pN]) rfl rfl rfl rfl rfl (dA ce) xx (aN [(5,pB false)] (by kernel_rfl) (aX (cS (k:=2) (b:=b2) rfl (dA ce) (cS (k:=3) (b:=b2) rfl (dA ce) (bR (al ?_)))))))))
  obtain rfl:=osi h
  exact aM (cd (dC rfl wU rfl) (aK rfl)) bB ⟨rfl,rfl⟩
 refine ah ?_
 refine de h fun m6 hm6 h=>af (aU 4 [] [13,14,15] [(16,.agg (aA m6))] (cL 2 Zb.enc hm6 bj) (by kernel_rfl) (aP rfl rfl (am (vs:=(aA m6)) rfl rfl rfl rfl rfl (dA ce) xx (aN [(5,pB true)] (by kernel_rfl) (cX ?_)))))
 obtain rfl:=osi h
 exact aM (cd (dC rfl wU rfl) (aK rfl)) bB ⟨rfl,rfl⟩
def dl (p0:(List ByteArray)) (p1:ByteArray):Option Int:=(aT (S:=Int) (T:=(Unit)⊕(_)) (fun v1=>cond (decide (v1<(p0.length:Int))) ((idx p0 v1).bind fun m5=>cond (decide (p1=m5)) (some (.inr (.inr v1))) (some (.inl (IntKind.i64.wrap (v1+1))))) (some (.inr (.inl ())))) FUEL 0).bind fun q=>match q with | .inl _=>some (-1) | .inr e=>some e
theorem lJ {p0:(List ByteArray)} {p1:ByteArray} {r:Int}  (h:dl p0 p1=some r):PF 137 [pL eS p0,pS p1] (pI r):=by
 unfold dl at h
 refine bd ?_
 refine du Tryz.func137 rfl Tryz.ntmps137 Tryz.results137 rfl (aW [4] (by kernel_rfl) (cj (ai [6] [(7,pI (p0.length:Int)),(8,pI 0)] (by kernel_rfl) (ft h fun q3 hq3 h=>?_))))
 refine ar (Y:=Unit×Unit) (fun (_,_)=>[]) (fun (_,_)=>[]) (fun (_,_)=>q3=Sum.inl ()) ?_ ?_
 ·refine av ?_
  refine aC (Y:=Unit) (S:=Int) _ hq3 (fun _ v1=>[(0,pL eS p0),(1,pS p1),(7,pI (p0.length:Int)),(8,pI v1)]) (fun _ v1=>[]) () (iR rfl) bB ?_
  rintro _ v1 o τ hb2;(try dsimp only at hb2);dsimp only [az]
  refine ae (ak [(9,pB (decide (v1<(p0.length:Int))))] (by kernel_rfl) (bZ (kq rfl hb2 (fun hc4 hb2=>?_) fun hc4 hb2=>?_)))
  ·refine ah ?_
   refine dJ (ai [10] [(5,pI v1)] (by kernel_rfl) (de hb2 fun m5 hm5 hb2=>aq [] (rg 11 5) [(16,pB (decide (p1=m5)))] (cL 3 eS hm5 bj) (by kernel_rfl) (cR rfl hb2 (fun hc6 hb2=>?_) fun hc6 hb2=>?_)))
   ·refine ae ?_
    refine ai [17] [(4,pI v1)] (by kernel_rfl) (cX (dH ?_))
    refine au hb2 (fun ht=>?_);subst ht
    refine cP ?_
    exact zz r h rfl
   refine ah ?_
   refine dI (ai [18] [(8,pI (IntKind.i64.wrap (v1+1)))] (by kernel_rfl) ?_)
   exact aS hb2 () (iR rfl) bB
  refine aH ?_
  refine cq hb2 (fun ht=>aj rfl ?_)
  exact aw ((),()) pz bB ht.symm
 rintro ⟨_,_⟩ τ hz;(try dsimp only at hz);subst q3;(try dsimp only at h);dsimp only [az]
 refine ae (dg [(4,pI (-1))] (by kernel_rfl) ?_)
 exact zz r h rfl
def bJ (p0:(List ByteArray)) (p1:ByteArray):Option Bool:=(dl p0 p1).bind fun x1=>some (decide (0≤x1))
theorem db {p0:(List ByteArray)} {p1:ByteArray} {r:Bool}  (h:bJ p0 p1=some r):PF 96 [pL eS p0,pS p1] (pB r):=by
 unfold bJ at h
 refine bd ?_
 refine du Tryz.func96 rfl Tryz.ntmps96 Tryz.results96 rfl (aW [4] (by kernel_rfl) (de h fun x1 hx1 h=>aq [] [5,6,7,8] [(4,pB (decide (0≤x1)))] (bg 2 (lJ hx1) bj) (by kernel_rfl) (cX ?_)))
 exact zz r h rfl
end SX
end Go.Proofs.YtgmbmepakpcpaaaGreatDoor
