/- A part of the proof: texts of the walk and of the plain laws, merged. No condition. -/
import Derived.Test.YthbphcbhedmnoaaDoorM1
set_option linter.unusedVariables false
set_option linter.unusedSimpArgs false
set_option maxHeartbeats 4000000
set_option maxRecDepth 100000
namespace Go.Proofs.YthbphcbhedmnoaaDoor
namespace SX
open Go
theorem sG {α:Type} (l:List α) (k:Nat) (v:α) (h:l[k]?=some v):l.set k v=l:=by
 apply List.ext_getElem?;intro i;rw [List.getElem?_set];split
 ·rename_i hik;subst hik;rw [h];have:=(List.getElem?_eq_some_iff.1 h).1;simp [this]
 rfl
section
variable {n:Nat} {x:Code} {K:Exit→PPost} {KL:PPost} {σ:PEnv} {ρ:List PRes} {ops:Array Oper} {lo:List Oper} {cs:List PV} {a:Option Addr} {m c:Nat} {css:List (List PV)} {α:Type} {enc:α→List PV} {xs:List α}
theorem agg_nil {κ:Kr} {w:Value} {k:Nat} (h:Rp κ (.agg cs) w) (hk:cs[k]?=some (.v (.slice none 0 0))):Rp κ (.agg (cs.set k (.slc 0 []))) w:=by
 cases h with
 | agg ho hc =>
  obtain ⟨v,hv,hp⟩:=hc.get hk
  have hset:=hc.set (k:=k) (p:=.slc 0 []) (v:=v) (by rw [hp.val];exact gJ)
  rw [sG _ _ _ hv] at hset
  exact .agg ho hset
theorem gN (t k:Nat) (ht:σ t=.agg cs) (hk:cs[k]?=some (.v (.slice none 0 0))) (h:PWL n ops lo KL (cC σ t (.agg (cs.set k (.slc 0 [])))) ρ):PWL n ops lo KL σ ρ:=fun β κ σ' ρ' g hs hr=>h β κ σ' ρ' g (f4 hs (agg_nil (by have:=hs t;rwa [ht] at this) hk)) hr
end
theorem gw {α:Type} {a:α} {l:List α}:a∈a::l:=List.Mem.head _
theorem qW {α:Type} {a b0:α} {l:List α}:a∈b0::a::l:=List.Mem.tail _ (List.Mem.head _)
theorem zm2 {α:Type} {a b0 b1:α} {l:List α}:a∈b0::b1::a::l:=List.Mem.tail _ (List.Mem.tail _ (List.Mem.head _))
theorem zm3 {α:Type} {a b0 b1 b2:α} {l:List α}:a∈b0::b1::b2::a::l:=List.Mem.tail _ (List.Mem.tail _ (List.Mem.tail _ (List.Mem.head _)))
theorem zm4 {α:Type} {a b0 b1 b2 b3:α} {l:List α}:a∈b0::b1::b2::b3::a::l:=List.Mem.tail _ (List.Mem.tail _ (List.Mem.tail _ (List.Mem.tail _ (List.Mem.head _))))
theorem zm5 {α:Type} {a b0 b1 b2 b3 b4:α} {l:List α}:a∈b0::b1::b2::b3::b4::a::l:=List.Mem.tail _ (List.Mem.tail _ (List.Mem.tail _ (List.Mem.tail _ (List.Mem.tail _ (List.Mem.head _)))))
theorem zm6 {α:Type} {a b0 b1 b2 b3 b4 b5:α} {l:List α}:a∈b0::b1::b2::b3::b4::b5::a::l:=List.Mem.tail _ (List.Mem.tail _ (List.Mem.tail _ (List.Mem.tail _ (List.Mem.tail _ (List.Mem.tail _ (List.Mem.head _))))))
theorem zm7 {α:Type} {a b0 b1 b2 b3 b4 b5 b6:α} {l:List α}:a∈b0::b1::b2::b3::b4::b5::b6::a::l:=List.Mem.tail _ (List.Mem.tail _ (List.Mem.tail _ (List.Mem.tail _ (List.Mem.tail _ (List.Mem.tail _ (List.Mem.tail _ (List.Mem.head _)))))))
theorem zm8 {α:Type} {a b0 b1 b2 b3 b4 b5 b6 b7:α} {l:List α}:a∈b0::b1::b2::b3::b4::b5::b6::b7::a::l:=List.Mem.tail _ (List.Mem.tail _ (List.Mem.tail _ (List.Mem.tail _ (List.Mem.tail _ (List.Mem.tail _ (List.Mem.tail _ (List.Mem.tail _ (List.Mem.head _))))))))
theorem zm9 {α:Type} {a b0 b1 b2 b3 b4 b5 b6 b7 b8:α} {l:List α}:a∈b0::b1::b2::b3::b4::b5::b6::b7::b8::a::l:=List.Mem.tail _ (List.Mem.tail _ (List.Mem.tail _ (List.Mem.tail _ (List.Mem.tail _ (List.Mem.tail _ (List.Mem.tail _ (List.Mem.tail _ (List.Mem.tail _ (List.Mem.head _)))))))))
theorem zm10 {α:Type} {a b0 b1 b2 b3 b4 b5 b6 b7 b8 b9:α} {l:List α}:a∈b0::b1::b2::b3::b4::b5::b6::b7::b8::b9::a::l:=List.Mem.tail _ (List.Mem.tail _ (List.Mem.tail _ (List.Mem.tail _ (List.Mem.tail _ (List.Mem.tail _ (List.Mem.tail _ (List.Mem.tail _ (List.Mem.tail _ (List.Mem.tail _ (List.Mem.head _))))))))))
theorem zm11 {α:Type} {a b0 b1 b2 b3 b4 b5 b6 b7 b8 b9 b10:α} {l:List α}:a∈b0::b1::b2::b3::b4::b5::b6::b7::b8::b9::b10::a::l:=List.Mem.tail _ (List.Mem.tail _ (List.Mem.tail _ (List.Mem.tail _ (List.Mem.tail _ (List.Mem.tail _ (List.Mem.tail _ (List.Mem.tail _ (List.Mem.tail _ (List.Mem.tail _ (List.Mem.tail _ (List.Mem.head _)))))))))))
theorem zm12 {α:Type} {a b0 b1 b2 b3 b4 b5 b6 b7 b8 b9 b10 b11:α} {l:List α}:a∈b0::b1::b2::b3::b4::b5::b6::b7::b8::b9::b10::b11::a::l:=List.Mem.tail _ (List.Mem.tail _ (List.Mem.tail _ (List.Mem.tail _ (List.Mem.tail _ (List.Mem.tail _ (List.Mem.tail _ (List.Mem.tail _ (List.Mem.tail _ (List.Mem.tail _ (List.Mem.tail _ (List.Mem.tail _ (List.Mem.head _))))))))))))
theorem zm13 {α:Type} {a b0 b1 b2 b3 b4 b5 b6 b7 b8 b9 b10 b11 b12:α} {l:List α}:a∈b0::b1::b2::b3::b4::b5::b6::b7::b8::b9::b10::b11::b12::a::l:=List.Mem.tail _ (List.Mem.tail _ (List.Mem.tail _ (List.Mem.tail _ (List.Mem.tail _ (List.Mem.tail _ (List.Mem.tail _ (List.Mem.tail _ (List.Mem.tail _ (List.Mem.tail _ (List.Mem.tail _ (List.Mem.tail _ (List.Mem.tail _ (List.Mem.head _)))))))))))))
theorem zmv {n:Nat} {ops:Array Oper} {o:Oper} {rest:List Oper} {K:PPost} {σ:PEnv} {ρ:List PRes} {d:Nat} {x:Operand} {p:PV} (hg:o.guard=none) (hd:o.dst=some d) (hlt:Nat.blt d n=true) (ho:o.op=.move x) (hx:aB σ x=p) (hw:PWL n ops rest K (cC σ d p) ρ):PWL n ops (o::rest) K σ ρ:=bG hg hd hlt (dl ho (.p hx)) hw
theorem zas {n:Nat} {ops:Array Oper} {o:Oper} {rest:List Oper} {K:PPost} {σ:PEnv} {ρ:List PRes} {d:Nat} {x:Operand} {p:PV} (hg:o.guard=none) (hd:o.dst=some d) (hlt:Nat.blt d n=true) (ho:o.op=.assign x) (hx:aB σ x=p) (hw:PWL n ops rest K (cC σ d p) ρ):PWL n ops (o::rest) K σ ρ:=bG hg hd hlt (ip ho (.p hx)) hw
theorem zex {n:Nat} {ops:Array Oper} {o:Oper} {rest:List Oper} {K:PPost} {σ:PEnv} {ρ:List PRes} {d i:Nat} {vs:List PV} {x:Operand} {p:PV} (hg:o.guard=none) (hd:o.dst=some d) (hlt:Nat.blt d n=true) (ho:o.op=.extract x i) (hx:aB σ x=.tup vs) (hr:vs[i]?=some p) (hw:PWL n ops rest K (cC σ d p) ρ):PWL n ops (o::rest) K σ ρ:=bG hg hd hlt (kF ho (.p hx) hr) hw
def rg (a:Nat):Nat→List Nat
  | 0=>[]
  | n+1=>a::rg (a+1) n
theorem qf {n:Nat} {x y:Code} {K:Exit→PPost} {σ:PEnv} {ρ:List PRes} {α:Type} {c:Operand} {p:Bool} {a b r:α} (hc:aB σ c=.v (.bool p)) (h:cond p a b=r) (ht:p=true→a=r→PWC n x K σ ρ) (hf:p=false→b=r→PWC n y K σ ρ):PWC n (.cond c x y) K σ ρ:=hQ hc (fun e=>ht e (oX e h)) (fun e=>hf e (oY e h))
theorem j6 {σ:PEnv} {d0:Nat} {v0:PV} (h:σ d0=v0):PHolds σ [(d0,v0)]:=by cases h;exact iK rfl (lG)
theorem lg {x0 v0:PV} {l:List PV}:PSplice (x0::l) 0 [v0] (v0::l):=tT (zln)
theorem eF {x0:PRes} {l:List PRes}:PSub [x0] (x0::l):=cH bf (dr)
theorem tU {σ:PEnv} {d0 d1:Nat} {v0 v1:PV} (h:(σ d0,σ d1)=(v0,v1)):PHolds σ [(d0,v0),(d1,v1)]:=by cases h;exact iK rfl (iK rfl (lG))
theorem zl2 {x0 v0 x1 v1:PV} {l:List PV}:PSplice (x0::x1::l) 0 [v0,v1] (v0::v1::l):=tT (tT (zln))
theorem mD {x0 x1:PRes} {l:List PRes}:PSub [x0,x1] (x0::x1::l):=cH bf (cH bf (dr))
theorem nT {σ:PEnv} {d0 d1 d2:Nat} {v0 v1 v2:PV} (h:(σ d0,σ d1,σ d2)=(v0,v1,v2)):PHolds σ [(d0,v0),(d1,v1),(d2,v2)]:=by cases h;exact iK rfl (iK rfl (iK rfl (lG)))
theorem zs3 {x0 x1 x2:PRes} {l:List PRes}:PSub [x0,x1,x2] (x0::x1::x2::l):=cH bf (cH bf (cH bf (dr)))
theorem mE {σ:PEnv} {d0 d1 d2 d3:Nat} {v0 v1 v2 v3:PV} (h:(σ d0,σ d1,σ d2,σ d3)=(v0,v1,v2,v3)):PHolds σ [(d0,v0),(d1,v1),(d2,v2),(d3,v3)]:=by cases h;exact iK rfl (iK rfl (iK rfl (iK rfl (lG))))
theorem zs4 {x0 x1 x2 x3:PRes} {l:List PRes}:PSub [x0,x1,x2,x3] (x0::x1::x2::x3::l):=cH bf (cH bf (cH bf (cH bf (dr))))
theorem rz {σ:PEnv} {d0 d1 d2 d3 d4:Nat} {v0 v1 v2 v3 v4:PV} (h:(σ d0,σ d1,σ d2,σ d3,σ d4)=(v0,v1,v2,v3,v4)):PHolds σ [(d0,v0),(d1,v1),(d2,v2),(d3,v3),(d4,v4)]:=by cases h;exact iK rfl (iK rfl (iK rfl (iK rfl (iK rfl (lG)))))
theorem o8 {σ:PEnv} {d0 d1 d2 d3 d4 d5:Nat} {v0 v1 v2 v3 v4 v5:PV} (h:(σ d0,σ d1,σ d2,σ d3,σ d4,σ d5)=(v0,v1,v2,v3,v4,v5)):PHolds σ [(d0,v0),(d1,v1),(d2,v2),(d3,v3),(d4,v4),(d5,v5)]:=by cases h;exact iK rfl (iK rfl (iK rfl (iK rfl (iK rfl (iK rfl (lG))))))
theorem sH {σ:PEnv} {d0 d1 d2 d3 d4 d5 d6:Nat} {v0 v1 v2 v3 v4 v5 v6:PV} (h:(σ d0,σ d1,σ d2,σ d3,σ d4,σ d5,σ d6)=(v0,v1,v2,v3,v4,v5,v6)):PHolds σ [(d0,v0),(d1,v1),(d2,v2),(d3,v3),(d4,v4),(d5,v5),(d6,v6)]:=by cases h;exact iK rfl (iK rfl (iK rfl (iK rfl (iK rfl (iK rfl (iK rfl (lG)))))))
theorem sI {x0 v0 x1 v1 x2 v2 x3 v3 x4 v4 x5 v5 x6 v6:PV} {l:List PV}:PSplice (x0::x1::x2::x3::x4::x5::x6::l) 0 [v0,v1,v2,v3,v4,v5,v6] (v0::v1::v2::v3::v4::v5::v6::l):=tT (tT (tT (tT (tT (tT (tT (zln)))))))
theorem zq {t:Nat} {R:PV→List PRes→Prop} {σ:PEnv} {ρ:List PRes} {p:PV} (h:σ t=p) (hr:R p []):iy [.tmp t] R .ret σ ρ:=bJ (fu (bS h)) dr hr
theorem osi {α:Type} {a b:α} (h:some a=some b):a=b:=Option.some.inj h

def nU:TypeDesc→Bool
 | .interface _=>true
 | _=>false
section
variable {o:Oper} {σ:PEnv} {ρ:List PRes} {x:Operand} {t:Nat}
theorem o9 {σ:Env} {ρ:List Res} {κ:Kr} {d:TypeDesc} (ho:o.op=.makeInterface t x) (hu:bX t=some d) (hn:nU d=false):OpQ true o σ ρ κ (.iface t (ev σ x)):=fun _ w _=>by
 have h:=run_underlying (w:=w) (aF hu)
 cases d <;> first | (cases hn;done) | simp [execOp,ho,Instr.makeInterface,h]
theorem pa {d:TypeDesc} (ho:o.op=.makeInterface t x) (hu:bX t=some d) (hn:nU d=false):POpQ true o σ ρ (.ifc t (aB σ x)):=fun κ σ' ρ' g hs hr=>⟨_,fun _=>.ifc (hs.ev x),o9 ho hu hn⟩
def ta (T:Nat) (p:PV):Option PV:=match p with
 | .ifc t q=>cond (Nat.beq t T) (some (.tup [q,.v (.bool true)])) (match cK T with
  | some (.agg ⟨zs⟩,_,_)=>cond (zs.all Value.oneCell') (some (.tup [.agg (zs.map fun x=>cond (oE x) (.v x) .any),.v (.bool false)])) none
  | _=>none)
 | _=>none
theorem oq_ta {σ:Env} {ρ:List Res} {κ:Kr} {xT T s:Nat} {v z:Value} {d:TypeDesc} {sz by':Nat} (ho:o.op=.typeAssert x xT T true) (hu:bX T=some d) (hn:nU d=false) (hz:cK T=some (z,sz,by')) (hx:ev σ x=.iface s v):OpQ true o σ ρ κ (if s=T then .tuple #[v,.bool true] else .tuple #[z,.bool false]):=fun _ w _=>by
 have h:=run_underlying (w:=w) (aF hu)
 have hzv:=cb hz w
 by_cases hst:s=T
 ·cases d <;> first | (cases hn;done) | simp [execOp,ho,hx,Instr.typeAssert,h,hst]
 cases d <;> first | (cases hn;done) | simp [execOp,ho,hx,Instr.typeAssert,h,hst,hzv]
theorem pq_ta {xT T:Nat} {d:TypeDesc} {p r:PV} (ho:o.op=.typeAssert x xT T true) (hu:bX T=some d) (hn:nU d=false) (hi:(cK T).isSome=true) (hx:aB σ x=p) (hr:ta T p=some r):POpQ true o σ ρ r:=fun κ σ' ρ' g hs hrr=>by
 obtain ⟨⟨z,sz,by'⟩,hz⟩:=Option.isSome_iff_exists.1 hi
 have h:=hs.ev x
 rw [hx] at h
 generalize he:ev σ' x=w at h
 cases h with
 | ifc h =>
  rename_i s q v
  have hq:=oq_ta (ρ:=ρ') (κ:=κ) ho hu hn hz he
  simp only [ta] at hr
  cases hb:Nat.beq s T
  ·have hne:s≠T:=fun e=>by rw [e] at hb;simp at hb
   rw [hb,hz] at hr
   simp only [fm] at hr
   rw [if_neg hne] at hq
   split at hr
   ·rename_i zs s1 b1 heq
    simp only [bE,Prod.mk.injEq] at heq
    obtain ⟨rfl,rfl,rfl⟩:=heq
    cases ho1:zs.all Value.oneCell'
    ·rw [ho1] at hr;cases hr
    rw [ho1] at hr;simp only [ee,bE] at hr;subst hr
    exact ⟨_,fun _=>.tup (ws:=[_,_]) (.cons (.agg (ds:=zs) (fun u hu=>List.all_eq_true.1 ho1 u hu) (fj zs)) (.cons (.v rfl) .nil)),hq⟩
   cases hr
  ·have hst:=Nat.eq_of_beq_eq_true hb
   rw [hb] at hr;simp only [ee,bE] at hr;subst hr
   rw [if_pos hst] at hq
   exact ⟨_,fun _=>.tup (ws:=[_,_]) (.cons h (.cons (.v rfl) .nil)),hq⟩
 | _=>simp only [ta] at hr;cases hr
end
structure MethOk (t:Nat) (name:String) (f:Nat):Prop where
 h:∀ (v:Value) (w:World),(method (Tryd.prog.types.size+Made.depth) t v name).run Tryd.prog w=.ok (f,v) w
theorem pb {o:Oper} {σ:Env} {ρ:List Res} {κ:Kr} {K:Value→List Res→Kr→Prop} {f t:Nat} {x:Operand} {name:String} {l:List Operand} {ts:Array Nat} {v:Value} {R:Value→Kr→Prop} (ho:o.op=.call { callee:=.invoke x name,args:=l.toArray,argTypes:=ts })
    (hx:ev σ x=.iface t v) (hm:MethOk t name f) (hc:CallP f (v::l.map (ev σ)) κ R) (h:∀ v κ',Kle κ κ'→R v κ'→K v ρ κ'):OpL o σ ρ κ K:=fun β hi Nx hk=>by
  have hi2:=hi.perm (List.Perm.refl ([]++ρ))
  have e1:(#[Value.iface t v]++(l.map (ev σ)).toArray)[0]?=some (.iface t v):=by simp
  have e2:(#[Value.iface t v]++(l.map (ev σ)).toArray).extract 1 (#[Value.iface t v]++(l.map (ev σ)).toArray).size=(l.map (ev σ)).toArray:=by simp;exact List.take_of_length_le (by simp)
  have e3:#[v]++(l.map (ev σ)).toArray=(v::l.map (ev σ)).toArray:=by simp
  have hp:(program).run Tryd.prog κ.w=.ok Tryd.prog κ.w:=rfl
  unfold execOp
  simp only [ho,resolve,Sem.run_bind,Sem.run_pure,Result.andThen_ok,invoke,List.map_toArray,hx,e1,e2,callMethod,hp,hm.h,e3,dQ hc.1,OutV]
  exact (hc.2 hi2.split).mono fun e w' ⟨v,ρ',κ',h1,h2,h3,h4⟩=>by
    subst h2
    obtain ⟨rfl,h4⟩:=h4
    exact ⟨v,h1,hk v ρ κ' (hi2.join h3) h3.le.kle (h v κ' h3.le.kle h4)⟩
def PFI (p:PV) (name:String) (pargs:List PV) (r:PV):Prop:=∃ t q f,p=.ifc t q∧MethOk t name f∧PF f (q::pargs) r
abbrev pI (x:Int):PV:=.v (.int .i64 x)
abbrev pY (x:Int):PV:=.v (.int .u8 x)
abbrev pB (b:Bool):PV:=.v (.bool b)
abbrev pS (s:ByteArray):PV:=.v (.string s)
abbrev pP (b off:Nat):PV:=.v (.pointer (some ⟨b,off,none⟩))
abbrev pO (a:Option Addr) (n c:Nat):PV:=.v (.slice a n c)
abbrev pN:PV:=.v (.slice none 0 0)
abbrev pL {α:Type} (e:α→List PV) (xs:List α):PV:=.slc xs.length (List.map e xs)
def ne:IntKind→Nat
 | .i8=>0 | .i16=>1 | .i32=>2 | .i64=>3 | .u8=>4 | .u16=>5 | .u32=>6 | .u64=>7
theorem j7 {a b:IntKind} (h:Nat.beq (ne a) (ne b)=true):a=b:=by cases a <;> cases b <;> first | rfl | cases h
def sJ:Int→Bool
 | .ofNat (_+1)=>true
 | _=>false
def ge0l:Int→Bool
 | .ofNat _=>true
 | _=>false
theorem qg {b:Int} (h:sJ b=true):b≠0:=by rintro rfl;cases h
theorem ge0l_ge {b:Int} (h:ge0l b=true):0≤b:=by cases b with | ofNat n=>exact Int.natCast_nonneg n | negSucc n=>cases h
def qcmp (op:BinOp) (a b:Int):Option Bool:=match op with | .eql=>some (a == b) | .neq=>some (a != b) | .lss=>some (decide (a<b)) | .leq=>some (decide (a≤b)) | .gtr=>some (decide (b<a)) | .geq=>some (decide (b≤a)) | _=>none
def qari (op:BinOp) (a b:Int):Option Int:=match op with | .add=>some (a+b) | .sub=>some (a - b) | .mul=>some (a*b) | _=>none
def qbit (op:BinOp) (k:IntKind) (a b:Int):Option Int:=match op with | .and=>some (jt k a b) | .or=>some (ior k a b) | .xor=>some (qQ k a b) | _=>none
def qshf (op:BinOp) (k:IntKind) (a b:Int):Option Int:=match op with | .shl=>some (oV k a b) | .shr=>some (gT k a b) | _=>none
def qeqb (op:BinOp) (p q:Bool):Option Bool:=match op with | .eql=>some (p == q) | .neq=>some (p != q) | _=>none
def qstr (op:BinOp) (s u:ByteArray):Option Bool:=match op with | .eql=>some (decide (s=u)) | .neq=>some (!decide (s=u)) | .lss=>some (Op.bytesLess s.toList u.toList) | .leq=>some (Op.bytesLess s.toList u.toList||decide (s=u)) | .gtr=>some (!(Op.bytesLess s.toList u.toList||decide (s=u))) | .geq=>some (!Op.bytesLess s.toList u.toList) | _=>none
def qint (op:BinOp) (k k':IntKind) (a b:Int):Option PV :=
 match qshf op k a b with
 | some r=>cond (ge0l b) (some (.v (.int k r))) none
 | none=>cond (Nat.beq (ne k) (ne k'))
  (match qcmp op a b with
   | some r=>some (.v (.bool r))
   | none=>match qari op a b with
    | some r=>some (.v (.int k (k.wrap r)))
    | none=>match qbit op k a b with
     | some r=>some (.v (.int k r))
     | none=>match op with
      | .quo=>cond (sJ b) (some (.v (.int k (k.wrap (a.tdiv b))))) none
      | .rem=>cond (sJ b) (some (.v (.int k (a.tmod b)))) none
      | _=>none) none
def qbin (op:BinOp) (t:Nat) (p q:PV):Option PV:=match p,q with
 | .v (.int k a),.v (.int k' b)=>qint op k k' a b
 | .v (.bool p),.v (.bool q)=>(match bX t with | some .bool=>(qeqb op p q).map fun r=>.v (.bool r) | _=>none)
 | .v (.string s),.v (.string u)=>(qstr op s u).map fun r=>.v (.bool r)
 | _,_=>none
def qlen (t:Nat) (p:PV):Option PV:=match bX t,p with
 | some (.slice _),.slc m _=>some (.v (.int .i64 (m:Int)))
 | some (.slice _),.v (.slice _ m _)=>some (.v (.int .i64 (m:Int)))
 | some .string,.v (.string s)=>some (.v (.int .i64 (s.size:Int)))
 | _,_=>none
def qmm (mx:Bool) (p q:PV):Option PV:=match p,q with
 | .v (.int k a),.v (.int k' b)=>cond (Nat.beq (ne k) (ne k')) (some (.v (.int k (cond mx (qT a b) (qS a b))))) none
 | _,_=>none
def nV (σ:PEnv) (fl:List (Nat×Nat)):List PV→List (Nat×Operand)→Option (List PV)
 | zs,[]=>some zs
 | zs,(i,x)::r=>match fl[i]? with
  | some (k,ty)=>match cK ty,dA (aB σ x) with
   | some (_,sz,_),some vs=>cond (Nat.beq vs.length sz&&Nat.ble (k+vs.length) zs.length) (nV σ fl (zs.take k++vs++zs.drop (k+vs.length)) r) none
   | _,_=>none
  | none=>none
theorem nW {σ:PEnv} {fl:List (Nat×Nat)}:∀ {parts:List (Nat×Operand)} {zs cs:List PV},nV σ fl zs parts=some cs→PFill σ fl zs parts cs
 | [],zs,cs,h=>by simp only [nV,bE] at h;exact h
 | (i,x)::r,zs,cs,h=>by
  simp only [nV] at h
  split at h
  ·rename_i k ty h1
   split at h
   ·rename_i z sz by' vs h2 h3
    cases hb:(Nat.beq vs.length sz&&Nat.ble (k+vs.length) zs.length)
    ·rw [hb] at h;cases h
    rw [hb] at h
    simp only [Bool.and_eq_true] at hb
    exact zfc h1 h2 h3 hb.1 ⟨rfl,Nat.le_of_ble_eq_true hb.2⟩ (nW h)
   cases h
  cases h
def qfa (s f:Nat) (p:PV):Option PV:=match jk s with
 | some l=>match l[f]? with
  | some (kk,ty)=>match cK ty with
   | some (_,sz,_)=>cond (Nat.blt 0 sz) (match p with
    | .v (.pointer (some ⟨b,off,none⟩))=>some (.v (.pointer (some ⟨b,off+kk,none⟩)))
    | .ref cs off=>some (.ref cs (off+kk))
    | _=>none) none
   | none=>none
  | none=>none
 | none=>none
def qfd (t f:Nat) (p:PV):Option PV:=match jk t with
 | some l=>match l[f]? with
  | some (kk,ty)=>match p with
   | .agg cs=>cond (Nat.ble kk cs.length) (dR ty (cs.drop kk)) none
   | _=>none
  | none=>none
 | none=>none
def qx (σ:PEnv) (ρ:List PRes) (at_:Nat):Op→Option (PV×Option (Nat×Nat))
 | .move x=>some (aB σ x,none)
 | .assign x=>some (aB σ x,none)
 | .binOp op t x y _=>(qbin op t (aB σ x) (aB σ y)).map fun p=>(p,none)
 | .unOp .not _ x=>(match aB σ x with | .v (.bool p)=>some (.v (.bool !p),none) | _=>none)
 | .unOp .neg _ x=>(match aB σ x with | .v (.int k a)=>some (.v (.int k (k.wrap (0 - a))),none) | _=>none)
 | .convert s d x=>(match bX s,bX d,aB σ x with | some _,some (.int k'),.v (.int _ a)=>some (.v (.int k' (k'.wrap a)),none) | _,_,_=>none)
 | .nilCheck x=>(match aB σ x with | .v (.pointer (some ad))=>some (.v (.pointer (some ad)),none) | .ref cs k=>some (.ref cs k,none) | .ifc t p=>some (.ifc t p,none) | _=>none)
 | .fieldAddr s x f=>(qfa s f (aB σ x)).map fun p=>(p,none)
 | .field t x f=>(qfd t f (aB σ x)).map fun p=>(p,none)
 | .extract x i=>(match aB σ x with | .tup vs=>(vs[i]?).map fun p=>(p,none) | _=>none)
 | .load t x=>(match aB σ x with
  | .ref cs off=>(dR t (cs.drop off)).map fun p=>(p,none)
  | .v (.pointer (some ⟨b,off,none⟩))=>(match ρ[at_]? with | some (.b b' _ cs)=>(dR t (cs.drop off)).map fun p=>(p,some (b,b')) | _=>none)
  | _=>none)
 | .call ⟨.builtin .len,⟨[x]⟩,⟨[t]⟩⟩=>(qlen t (aB σ x)).map fun p=>(p,none)
 | .call ⟨.builtin .min,⟨[x,y]⟩,_⟩=>(qmm false (aB σ x) (aB σ y)).map fun p=>(p,none)
 | .call ⟨.builtin .max,⟨[x,y]⟩,_⟩=>(qmm true (aB σ x) (aB σ y)).map fun p=>(p,none)
 | .makeFunc (.func f) ⟨[]⟩ ⟨l⟩=>some (.fn f (l.map (aB σ)),none)
 | .makeInterface t x=>(match bX t with | some d=>cond (nU d) none (some (.ifc t (aB σ x),none)) | none=>none)
 | .build t ⟨parts⟩=>(match cK t,jk t with
  | some (.agg ⟨zs⟩,_,_),some fl=>cond ((fl.all fun p=>(cK p.2).isSome)&&zs.all Value.oneCell') ((nV σ fl (zs.map fun x=>cond (oE x) (.v x) .any) parts).map fun cs=>(.agg cs,none)) none
  | _,_=>none)
 | _=>none
section
variable {o:Oper} {σ:PEnv} {ρ:List PRes} {x y:Operand} {t t':Nat} {p:PV}
theorem map_none {a:Option PV} {p:PV} {e:Option (Nat×Nat)} (h:(a.map fun q=>(q,(none:Option (Nat×Nat))))=some (p,e)):a=some p:=by
 cases a with
 | none=>cases h
 | some q=>simp only [Option.map_some,bE,Prod.mk.injEq] at h;rw [h.1]
theorem qint_ok {op:BinOp} {k k':IntKind} {a b:Int} (ho:o.op=.binOp op t x y t') (hx:aB σ x=.v (.int k a)) (hy:aB σ y=.v (.int k' b)) (h:qint op k k' a b=some p):POpQ true o σ ρ p:=by
 unfold qint at h
 split at h
 ·rename_i r hr
  cases hb:ge0l b
  ·rw [hb] at h;cases h
  rw [hb] at h;simp only [ee,bE] at h;subst h
  exact kE ho (.p hx) (.p hy) (fun _=>ge0l_ge hb) (by cases op <;> exact hr)
 cases hk:Nat.beq (ne k) (ne k')
 ·rw [hk] at h;cases h
 rw [hk] at h;simp only [ee] at h
 have:=j7 hk;subst this
 split at h
 ·rename_i r hr;simp only [bE] at h;subst h;exact oU ho (.p hx) (.p hy) (by cases op <;> exact hr)
 split at h
 ·rename_i r hr;simp only [bE] at h;subst h;exact nI ho (.p hx) (.p hy) (by cases op <;> exact hr)
 split at h
 ·rename_i r hr;simp only [bE] at h;subst h;exact pq_bits ho (.p hx) (.p hy) (by cases op <;> exact hr)
 split at h
 ·cases hb:sJ b
  ·rw [hb] at h;cases h
  rw [hb] at h;simp only [ee,bE] at h;subst h;exact st ho (.p hx) (.p hy) fun _=>qg hb
 ·cases hb:sJ b
  ·rw [hb] at h;cases h
  rw [hb] at h;simp only [ee,bE] at h;subst h;exact su ho (.p hx) (.p hy) fun _=>qg hb
 cases h
theorem qbin_ok {op:BinOp} (ho:o.op=.binOp op t x y t') (h:qbin op t (aB σ x) (aB σ y)=some p):POpQ true o σ ρ p:=by
 unfold qbin at h
 split at h
 ·rename_i h1 h2;exact qint_ok ho h1 h2 h
 ·rename_i h1 h2
  split at h
  ·rename_i hu
   obtain ⟨r,hr,rfl⟩:=Option.map_eq_some_iff.1 h
   exact pq_eqB ho hu (.p h1) (.p h2) (by cases op <;> exact hr)
  cases h
 ·rename_i h1 h2
  obtain ⟨r,hr,rfl⟩:=Option.map_eq_some_iff.1 h
  exact pq_str ho (.p h1) (.p h2) (by cases op <;> exact hr)
 cases h
theorem qlen_ok (ho:o.op=.call { callee:=.builtin .len,args:=#[x],argTypes:=#[t] }) (h:qlen t (aB σ x)=some p):POpQ true o σ ρ p:=by
 unfold qlen at h
 split at h
 ·rename_i hu hx;simp only [bE] at h;subst h;exact pq_len ho hu (.p hx)
 ·rename_i hu hx;simp only [bE] at h;subst h;exact pq_lenO ho hu (.p hx)
 ·rename_i hu hx;simp only [bE] at h;subst h;exact pq_lenS ho hu (.p hx)
 cases h
theorem sK {mx:Bool} {ts:List Nat} (ho:o.op=.call { callee:=.builtin (cond mx .max .min),args:=#[x,y],argTypes:=ts.toArray }) (h:qmm mx (aB σ x) (aB σ y)=some p):POpQ true o σ ρ p:=by
 unfold qmm at h
 split at h
 ·rename_i k a k' b h1 h2
  cases hk:Nat.beq (ne k) (ne k')
  ·rw [hk] at h;cases h
  have:=j7 hk;subst this
  rw [hk] at h
  simp only [ee,bE] at h;subst h
  cases mx
  ·exact pq_min ho (.p h1) (.p h2)
  exact pq_max ho (.p h1) (.p h2)
 cases h
theorem qfa_ok {s f:Nat} (ho:o.op=.fieldAddr s x f) (h:qfa s f (aB σ x)=some p):POpQ true o σ ρ p:=by
 unfold qfa at h
 split at h
 ·rename_i l h1
  split at h
  ·rename_i kk ty h2
   split at h
   ·rename_i z sz by' h3
    cases h4:Nat.blt 0 sz
    ·rw [h4] at h;cases h
    rw [h4] at h;simp only [ee] at h
    split at h
    ·rename_i hx;simp only [bE] at h;subst h;exact bu ho h1 h2 h3 h4 (.p hx)
    ·rename_i hx;simp only [bE] at h;subst h;exact ll ho h1 h2 h3 h4 (.p hx)
    cases h
   cases h
  cases h
 cases h
theorem qfd_ok {f:Nat} (ho:o.op=.field t x f) (h:qfd t f (aB σ x)=some p):POpQ true o σ ρ p:=by
 unfold qfd at h
 split at h
 ·rename_i l h1
  split at h
  ·rename_i kk ty h2
   split at h
   ·rename_i cs hx
    cases h4:Nat.ble kk cs.length
    ·rw [h4] at h;cases h
    rw [h4] at h;exact sv ho h1 h2 (.p hx) h4 h
   cases h
  cases h
 cases h
theorem mF {c:Bool} {tt:Nat} {pp:PV} (ho:o.op=.nilCheck x) (hx:PEv σ c x (.ifc tt pp)):POpQ c o σ ρ (.ifc tt pp):=fun κ σ' ρ' g hs _=>by
 refine ⟨ev σ' x,hs.pe hx,fun hc w _=>?_⟩
 have h:=hs.pe hx hc
 generalize he:ev σ' x=y at h
 cases h with
 | ifc h=>simp [execOp,ho,he]
theorem qx_ok {k:Nat} {e:Option (Nat×Nat)} (h:qx σ ρ k o.op=some (p,e)) (he:∀ b b',e=some (b,b')→b=b'):POpQ true o σ ρ p:=by
 generalize ho:o.op=op at h
 unfold qx at h
 split at h
 ·simp only [bE,Prod.mk.injEq] at h;obtain ⟨rfl,_⟩:=h;exact dl ho (.p rfl)
 ·simp only [bE,Prod.mk.injEq] at h;obtain ⟨rfl,_⟩:=h;exact ip ho (.p rfl)
 ·exact qbin_ok ho (map_none h)
 ·split at h
  ·rename_i hx;simp only [bE,Prod.mk.injEq] at h;obtain ⟨rfl,_⟩:=h;exact pq_not ho (.p hx)
  cases h
 ·split at h
  ·rename_i hx;simp only [bE,Prod.mk.injEq] at h;obtain ⟨rfl,_⟩:=h;exact pq_neg ho (.p hx)
  cases h
 ·split at h
  ·rename_i h1 h2 hx;simp only [bE,Prod.mk.injEq] at h;obtain ⟨rfl,_⟩:=h;exact pq_conv ho h1 h2 (.p hx)
  cases h
 ·split at h
  ·rename_i hx;simp only [bE,Prod.mk.injEq] at h;obtain ⟨rfl,_⟩:=h;exact nJ ho (.p hx)
  ·rename_i hx;simp only [bE,Prod.mk.injEq] at h;obtain ⟨rfl,_⟩:=h;exact mz ho (.p hx)
  ·rename_i hx;simp only [bE,Prod.mk.injEq] at h;obtain ⟨rfl,_⟩:=h;exact mF ho (.p hx)
  cases h
 ·exact qfa_ok ho (map_none h)
 ·exact qfd_ok ho (map_none h)
 ·split at h
  ·rename_i hx;exact kF ho (.p hx) (map_none h)
  cases h
 ·split at h
  ·rename_i hx;exact qR ho (.p hx) (map_none h)
  ·rename_i b off hx
   split at h
   ·rename_i b' T cs hr
    obtain ⟨q,hq,h2⟩:=Option.map_eq_some_iff.1 h
    simp only [Prod.mk.injEq] at h2
    obtain ⟨rfl,rfl⟩:=h2
    have:=he b b' rfl;subst this
    exact f9 ho (.p hx) (List.mem_of_getElem? hr) hq
   cases h
  cases h
 ·exact qlen_ok ho (map_none h)
 ·exact sK (mx:=false) (ts:=_) ho (map_none h)
 ·exact sK (mx:=true) (ts:=_) ho (map_none h)
 ·simp only [bE,Prod.mk.injEq] at h;obtain ⟨rfl,_⟩:=h;exact nN ho
 ·split at h
  ·rename_i d hu
   cases hn:nU d
   ·rw [hn] at h;simp only [fm,bE,Prod.mk.injEq] at h;obtain ⟨rfl,_⟩:=h;exact pa ho hu hn
   rw [hn] at h;cases h
  cases h
 ·split at h
  ·rename_i zs sz by' fl h1 h2
   cases hc:((fl.all fun p=>(cK p.2).isSome)&&zs.all Value.oneCell')
   ·rw [hc] at h;cases h
   rw [hc] at h
   simp only [ee] at h
   obtain ⟨q,hq,h3⟩:=Option.map_eq_some_iff.1 h
   simp only [Prod.mk.injEq] at h3
   obtain ⟨rfl,_⟩:=h3
   simp only [Bool.and_eq_true] at hc
   exact hU rfl ho h1 h2 hc.1 rfl hc.2 (nW hq)
  cases h
 cases h
end
structure GE where
 gs:List Bool
 p:PV
def gl (t:Nat):List (Nat×GE)→Option GE
 | []=>none
 | (d,e)::l=>cond (Nat.beq t d) (some e) (gl t l)
def sL (t:Nat):List (Nat×GE)→List (Nat×GE)
 | []=>[]
 | (d,e)::l=>cond (Nat.beq t d) (sL t l) ((d,e)::sL t l)
def sM (d:Nat):List Nat→Bool
 | []=>false
 | k::l=>cond (Nat.beq d k) true (sM d l)
theorem j8 {d:Nat}:∀ {l:List Nat},sM d l=true↔d∈l
 | []=>by simp [sM]
 | k::l=>by
  unfold sM
  cases h:Nat.beq d k
  ·have:d≠k:=fun e=>by rw [e] at h;simp at h
   simp [j8 (l:=l),this]
  simp [Nat.eq_of_beq_eq_true h]
def cE:List Operand→List Nat
 | []=>[]
 | .tmp t::l=>t::cE l
 | _::l=>cE l
def gU (σ:PEnv) (G:List (Nat×GE)) (ts:List Nat) (gs:List Bool):PEnv:=fun t=>match gl t G with
 | none=>σ t
 | some e=>cond (sM t ts&&Nat.ble e.gs.length gs.length) e.p .any
def fa (G:List (Nat×GE)) (gs:List Bool):List Nat→List (Bool×Bool)
 | []=>[]
 | t::ts=>match gl t G with
  | none=>fa G gs ts
  | some e=>(e.gs.headD true,(gs.drop (gs.length - e.gs.length)).headD true)::fa G gs ts
def mG (ops:Array Oper) (σ:PEnv) (G:List (Nat×GE)):Option (Nat×Bool)→Option (List Bool)
 | none=>some []
 | some (j,pol)=>match (ops[j]?).bind (·.dst) with
  | none=>none
  | some d=>match gl d G with
   | none=>match σ d with | .v (.bool p)=>some [cond pol p (!p)] | _=>none
   | some e=>match e.p with | .v (.bool p)=>some ((e.gs.headD true&&cond pol p (!p))::e.gs) | _=>none
def StackOk (gs:List Bool):Prop:=gs.headD true=true→∀ b∈gs,b=true
def GInv (σ:PEnv) (G:List (Nat×GE)):Prop:=∀ t e,gl t G=some e→σ t=pgv (e.gs.headD true) e.p∧StackOk e.gs∧e.gs≠[]
def AllEq (l:List (Bool×Bool)):Prop:=l.map (·.1)=l.map (·.2)
theorem AllEq.nil:AllEq []:=rfl
theorem AllEq.cons {a b:Bool} {l:List (Bool×Bool)} (h:AllEq ((a,b)::l)):a=b∧AllEq l:=by
 unfold AllEq at h;simp only [List.map_cons,List.cons.injEq] at h;exact h
theorem AllEq.app {l m:List (Bool×Bool)} (h:AllEq (l++m)):AllEq l∧AllEq m:=by
 unfold AllEq at h;simp only [List.map_append] at h
 exact List.append_inj h (by simp)
theorem iY {G:List (Nat×GE)} {gs:List Bool} {t:Nat} {e:GE}:∀ {ts:List Nat},t∈ts→gl t G=some e→AllEq (fa G gs ts)→e.gs.headD true=(gs.drop (gs.length - e.gs.length)).headD true
 | u::ts,hm,hg,ha=>by
  simp only [fa] at ha
  rcases List.mem_cons.1 hm with rfl | hm
  ·rw [hg] at ha;exact ha.cons.1
  split at ha
  ·exact iY hm hg ha
  exact iY hm hg ha.cons.2
theorem kK {gs:List Bool} (h:StackOk gs) (hc:gs.headD true=true) (k:Nat):(gs.drop k).headD true=true:=by
 rw [List.headD_eq_head?_getD,List.head?_drop]
 cases e:gs[k]? with
 | none=>rfl
 | some b=>exact h hc b (List.mem_of_getElem? e)
theorem iZ {κ:Kr} {σ:PEnv} {σ':Env} {G:List (Nat×GE)} {ts:List Nat} {gs:List Bool} (hs:Sim κ σ σ') (hi:GInv σ G) (ha:AllEq (fa G gs ts)) (hk:StackOk gs) (hc:gs.headD true=true):Sim κ (gU σ G ts gs) σ':=fun t=>by
 unfold gU
 cases hg:gl t G with
 | none=>exact hs t
 | some e =>
  simp only
  cases hb:(sM t ts&&Nat.ble e.gs.length gs.length)
  ·exact .any
  simp only [Bool.and_eq_true,j8] at hb
  have h1:=iY hb.1 hg ha
  rw [kK hk hc] at h1
  have h2:=(hi t e hg).1
  rw [h1,eM] at h2
  have:=hs t
  rw [h2] at this
  exact this
theorem jv {o:Oper} {σ:PEnv} {ρ:List PRes} {G:List (Nat×GE)} {ts:List Nat} {gs:List Bool} {p:PV} (h:gs.headD true=true→POpQ true o (gU σ G ts gs) ρ p) (hi:GInv σ G) (ha:AllEq (fa G gs ts)) (hk:StackOk gs):POpQ (gs.headD true) o σ ρ p:=fun κ σ' ρ' g hs hr=>by
 cases hc:gs.headD true with
 | false=>exact oF
 | true=>exact h hc κ σ' ρ' g (iZ hs hi ha hk hc) hr
theorem qX {ops:Array Oper} {σ:PEnv} {G:List (Nat×GE)} {o:Oper} {gs:List Bool} (hi:GInv σ G) (h:mG ops σ G o.guard=some gs):PGuardIs ops σ o (gs.headD true)∧StackOk gs:=by
 cases hg:o.guard with
 | none =>
  rw [hg] at h;simp only [mG,bE] at h;subst h
  exact ⟨fun κ σ' _=>oJ hg,fun _ b hb=>by cases hb⟩
 | some jp =>
  obtain ⟨j,pol⟩:=jp
  rw [hg] at h;simp only [mG] at h
  split at h
  ·cases h
  rename_i d hd
  split at h
  ·split at h
   ·rename_i p hp
    simp only [bE] at h;subst h
    refine ⟨?_,fun hc b hb=>by rw [List.mem_singleton.1 hb];exact hc⟩
    cases pol
    ·exact hM hg hd hp
    exact cU hg hd hp
   cases h
  rename_i e hgl
  split at h
  ·rename_i p hp
   simp only [bE] at h;subst h
   obtain ⟨h1,h2,h3⟩:=hi d e hgl
   rw [hp] at h1
   refine ⟨?_,fun hc b hb=>?_⟩
   ·cases pol
    ·exact js hg hd h1
    exact ep hg hd h1
   simp only [List.headD_cons,Bool.and_eq_true] at hc
   rcases List.mem_cons.1 hb with rfl | hb
   ·simp only [hc,Bool.and_self]
   exact h2 hc.1 b hb
  cases h
def qh (σ:PEnv) (G:List (Nat×GE)) (want:Bool):Operand→Option (PV×List (Bool×Bool))
 | .tmp t=>match gl t G with
  | some e=>some (e.p,[(e.gs.headD true,want)])
  | none=>some (σ t,[])
 | x=>some (aB σ x,[])
theorem nX {σ:PEnv} {G:List (Nat×GE)} {want:Bool} {x:Operand} {p:PV} {l:List (Bool×Bool)} (hi:GInv σ G) (h:qh σ G want x=some (p,l)) (ha:AllEq l):PEv σ want x p:=by
 unfold qh at h
 split at h
 ·rename_i t
  split at h
  ·rename_i e hg
   simp only [bE,Prod.mk.injEq] at h;obtain ⟨rfl,rfl⟩:=h
   have h1:=ha.cons.1
   have h2:=(hi t e hg).1
   rw [h1] at h2
   exact .g h2
  simp only [bE,Prod.mk.injEq] at h;obtain ⟨rfl,rfl⟩:=h;exact .p rfl
 simp only [bE,Prod.mk.injEq] at h;obtain ⟨rfl,rfl⟩:=h;exact .p rfl
def kL:PV→Option Bool
 | .v (.bool p)=>some p
 | _=>none
theorem jx {p:PV} {b:Bool} (h:kL p=some b):p=.v (.bool b):=by
 unfold kL at h;split at h
 ·simp only [bE] at h;rw [h]
 cases h
def mH:Operand→Bool
 | .const (.bool true)=>true
 | _=>false
def j9:Operand→Bool
 | .const (.bool false)=>true
 | _=>false
theorem qY {x:Operand} {σ:PEnv} (h:mH x=true):aB σ x=.v (.bool true):=by
 unfold mH at h;split at h
 ·rfl
 cases h
theorem pg {x:Operand} {σ:PEnv} (h:j9 x=true):aB σ x=.v (.bool false):=by
 unfold j9 at h;split at h
 ·rfl
 cases h
def sN (σ:PEnv) (G:List (Nat×GE)) (gs:List Bool) (cc a b:Operand):Option (PV×List (Bool×Bool)) :=
 match kL (aB (gU σ G (cE [cc]) gs) cc) with
 | none=>none
 | some p=>cond (mH a)
  (match qh σ G (gs.headD true && !p) b with
   | some (q,l)=>match kL q with
    | some q=>some (.v (.bool (p||q)),fa G gs (cE [cc])++l)
    | none=>none
   | none=>none)
  (cond (j9 b)
   (match qh σ G (gs.headD true&&p) a with
    | some (q,l)=>match kL q with
     | some q=>some (.v (.bool (p&&q)),fa G gs (cE [cc])++l)
     | none=>none
    | none=>none) none)
theorem qi {σ:PEnv} {G:List (Nat×GE)} {gs:List Bool} {x:Operand} {p:PV} (hi:GInv σ G) (hk:StackOk gs) (ha:AllEq (fa G gs (cE [x]))) (h:aB (gU σ G (cE [x]) gs) x=p) (hn:p≠.any):PEv σ (gs.headD true) x p:=fun hc=>by
 cases x with
 | tmp t =>
  simp only [aB,cE] at h ⊢
  unfold gU at h
  cases hg:gl t G with
  | none=>rw [hg] at h;exact h
  | some e =>
   rw [hg] at h
   simp only at h
   cases hb:(sM t [t]&&Nat.ble e.gs.length gs.length)
   ·rw [hb] at h;exact absurd h.symm hn
   ·rw [hb] at h;simp only [ee] at h
    have h1:=iY (t:=t) (ts:=[t]) (by simp) hg ha
    rw [kK hk hc] at h1
    have h2:=(hi t e hg).1
    rw [h1,eM] at h2
    rw [h2,h]
 | const x=>exact h
 | global g=>exact h
 | func f=>exact h
theorem sO {o:Oper} {σ:PEnv} {ρ:List PRes} {G:List (Nat×GE)} {gs:List Bool} {cc a b:Operand} {p:PV} {l:List (Bool×Bool)} (ho:o.op=.pick cc a b) (hi:GInv σ G) (hk:StackOk gs) (h:sN σ G gs cc a b=some (p,l)) (ha:AllEq l):POpQ (gs.headD true) o σ ρ p:=by
 unfold sN at h
 split at h
 ·cases h
 rename_i c hc
 have hc:=jx hc
 cases h1:mH a
 ·rw [h1] at h;simp only [fm] at h
  cases h2:j9 b
  ·rw [h2] at h;cases h
  rw [h2] at h;simp only [ee] at h
  split at h
  ·rename_i q m hl
   split at h
   ·rename_i q' hq
    simp only [bE,Prod.mk.injEq] at h;obtain ⟨rfl,rfl⟩:=h
    have hl':=nX hi hl ha.app.2
    rw [jx hq] at hl'
    exact hT ho (qi hi hk ha.app.1 hc (by simp)) (.p (pg h2)) hl'
   cases h
  cases h
 rw [h1] at h;simp only [ee] at h
 split at h
 ·rename_i q m hl
  split at h
  ·rename_i q' hq
   simp only [bE,Prod.mk.injEq] at h;obtain ⟨rfl,rfl⟩:=h
   have hl':=nX hi hl ha.app.2
   rw [jx hq] at hl'
   exact sr ho (qi hi hk ha.app.1 hc (by simp)) (.p (qY h1)) hl'
  cases h
 cases h
inductive Fct where
 | ix (c:Bool) (css:List (List PV)) (i:Int) (cs:List PV)
 | sx (c:Bool) (s:ByteArray) (i:Int) (u:UInt8)
 | nz (c:Bool) (b:Int)
 | ge (c:Bool) (b:Int)
 | sl (c:Bool) (css:List (List PV)) (lo hi:Int) (zss:List (List PV)) (m sz:Nat)
 | ss (c:Bool) (s:ByteArray) (lo hi:Int) (z:ByteArray)
 | ct (c:Bool) (s u z:ByteArray)
 | eq (t:Nat) (ks:List Nat)
 | cl (c:Bool) (f:Nat) (pargs:List PV) (r:PV)
 | cv (c:Bool) (pf:PV) (pargs:List PV) (r:PV)
 | ci (c:Bool) (p:PV) (name:String) (pargs:List PV) (r:PV)
 | ta (T:Nat) (p r:PV)
structure EqOk (t:Nat) (ks:List Nat):Prop where
 h1:Tryd.prog.underlying t=some (.struct (Tryd.prog.fieldsOf t))
 h2:Tryd.prog.stoodInHeld t=false
 h3:Tryd.prog.eqGuardType Tryd.prog.depth t=false
 h4:nR (Tryd.prog.fieldsOf t).toList 0 ks=true
def Fct.ok:Fct→Prop
 | .ix c css i cs=>c=true→idx css i=some cs
 | .sx c s i u=>c=true→idx s.data.toList i=some u
 | .nz c b=>c=true→b≠0
 | .ge c b=>c=true→0≤b
 | .sl c css lo hi zss m sz=>(c=true→sub css lo hi=some zss)∧m=zss.length∧∀ cs∈css,cs.length=sz
 | .ss c s lo hi z=>c=true→lm s lo hi=some z
 | .ct c s u z=>c=true→cat s u=some z
 | .eq t ks=>EqOk t ks
 | .cl c f pargs r=>c=true→PF f pargs r
 | .cv c pf pargs r=>c=true→PFV pf pargs r
 | .ci c p name pargs r=>c=true→PFI p name pargs r
 | .ta T p r=>SX.ta T p=some r
def FOk:List (Nat×Fct)→Prop
 | []=>True
 | f::l=>f.2.ok∧FOk l
theorem cf:FOk []:=trivial
section
variable {F:List (Nat×Fct)} {c:Bool} {α:Type} {xs zs:List α} {i lo hi b:Int} {m:α}
theorem gh (k:Nat) (e:α→List PV) (hm:c=true→idx xs i=some m) (h:FOk F):FOk ((k,.ix c (List.map e xs) i (e m))::F):=⟨fun hc=>by
 obtain ⟨h0,hmm⟩:=cV (hm hc)
 unfold idx;rw [if_pos h0,List.getElem?_map,hmm];rfl,h⟩
theorem eb (k:Nat) (e:α→List PV) (hm:idx xs i=some m) (h:FOk F):FOk ((k,.ix true (List.map e xs) i (e m))::F):=gh k e (fun _=>hm) h
theorem jJ (k:Nat) {s:ByteArray} {u:UInt8} (hm:c=true→idx s.data.toList i=some u) (h:FOk F):FOk ((k,.sx c s i u)::F):=⟨hm,h⟩
theorem fosx (k:Nat) {s:ByteArray} {u:UInt8} (hm:idx s.data.toList i=some u) (h:FOk F):FOk ((k,.sx true s i u)::F):=⟨fun _=>hm,h⟩
theorem fonz (k:Nat) {u:Unit} (hm:SX.nz b=some u) (h:FOk F):FOk ((k,.nz true b)::F):=⟨fun _=>nz_some hm,h⟩
theorem foge (k:Nat) {u:Unit} (hm:sB b=some u) (h:FOk F):FOk ((k,.ge true b)::F):=⟨fun _=>sC hm,h⟩
theorem foslg (k:Nat) (e:α→List PV) (sz:Nat) (hw:∀ m,(e m).length=sz) (hm:c=true→sub xs lo hi=some zs) (h:FOk F):FOk ((k,.sl c (List.map e xs) lo hi (List.map e zs) zs.length sz)::F):=⟨⟨fun hc=>by
 obtain ⟨h1,rfl⟩:=iX (hm hc)
 unfold sub;rw [if_pos (by rw [List.length_map];exact h1),List.map_drop,List.map_take],by rw [List.length_map],fun cs hcs=>by obtain ⟨x,_,rfl⟩:=List.mem_map.1 hcs;exact hw x⟩,h⟩
theorem sP (k:Nat) (e:α→List PV) (sz:Nat) (hw:∀ m,(e m).length=sz) (hm:sub xs lo hi=some zs) (h:FOk F):FOk ((k,.sl true (List.map e xs) lo hi (List.map e zs) zs.length sz)::F):=foslg k e sz hw (fun _=>hm) h
theorem dD (k:Nat) {f:Nat} {pargs:List PV} {r:PV} (hm:PF f pargs r) (h:FOk F):FOk ((k,.cl true f pargs r)::F):=⟨fun _=>hm,h⟩
theorem hY (k:Nat) {f:Nat} {pargs:List PV} {r:PV} (hm:c=true→PF f pargs r) (h:FOk F):FOk ((k,.cl c f pargs r)::F):=⟨hm,h⟩
theorem focv (k:Nat) {pf:PV} {pargs:List PV} {r:PV} (hm:PFV pf pargs r) (h:FOk F):FOk ((k,.cv true pf pargs r)::F):=⟨fun _=>hm,h⟩
theorem focvg (k:Nat) {pf:PV} {pargs:List PV} {r:PV} (hm:c=true→PFV pf pargs r) (h:FOk F):FOk ((k,.cv c pf pargs r)::F):=⟨hm,h⟩
end
inductive Eqn where
 | n (a:Nat)
 | b (a:Bool)
 | i (a:Int)
 | p (a:PV)
 | l (a:List PV)
 | q (a:List (List PV))
 | s (a:ByteArray)
 | m (a:String)
abbrev StepR:=PV×List Eqn×List Eqn
def ph (σ:PEnv) (c:Bool) (t:Nat) (p:PV) (lo hi:Option Operand):Fct→Option StepR
 | .sl c' css l h zss m sz=>(match bX t,p with
  | some (.slice E),.slc mm css'=>(match cK E with
   | some (_,sz',_)=>(match lo,hi with
    | none,some y=>(match aB σ y with | .v (.int _ b)=>some (.slc m zss,[.b c',.q css,.i l,.i h,.n sz],[.b c,.q css',.i 0,.i b,.n sz']) | _=>none)
    | some x,none=>(match aB σ x with | .v (.int _ a)=>some (.slc m zss,[.b c',.q css,.i l,.i h,.n sz],[.b c,.q css',.i a,.i (mm:Int),.n sz']) | _=>none)
    | _,_=>none)
   | none=>none)
  | _,_=>none)
 | .ss c' s l h z=>(match bX t,p with
  | some .string,.v (.string s')=>(match lo,hi with
   | none,some y=>(match aB σ y with | .v (.int _ b)=>some (.v (.string z),[.b c',.s s,.i l,.i h],[.b c,.s s',.i 0,.i b]) | _=>none)
   | some x,none=>(match aB σ x with | .v (.int _ a)=>some (.v (.string z),[.b c',.s s,.i l,.i h],[.b c,.s s',.i a,.i (s'.size:Int)]) | _=>none)
   | some x,some y=>(match aB σ x,aB σ y with | .v (.int _ a),.v (.int _ b)=>some (.v (.string z),[.b c',.s s,.i l,.i h],[.b c,.s s',.i a,.i b]) | _,_=>none)
   | none,none=>none)
  | _,_=>none)
 | _=>none
def sQ (σ:PEnv) (c:Bool):Op→Fct→Option StepR
 | .indexAddr t x y,.ix c' css i cs=>(match bX t,aB σ x,aB σ y with
  | some (.slice E),.slc _ css',.v (.int _ i')=>(match cK E with | some (_,sz,_)=>some (.ref cs 0,[.b c',.q css,.i i,.n cs.length],[.b c,.q css',.i i',.n sz]) | none=>none)
  | _,_,_=>none)
 | .index t x y,.sx c' s i u=>(match bX t,aB σ x,aB σ y with
  | some .string,.v (.string s'),.v (.int _ i')=>some (.v (.int .u8 (u.toNat:Int)),[.b c',.s s,.i i],[.b c,.s s',.i i'])
  | _,_,_=>none)
 | .binOp .quo _ x y _,.nz c' b=>(match aB σ x,aB σ y with
  | .v (.int k a),.v (.int k' b')=>cond (Nat.beq (ne k) (ne k')) (some (.v (.int k (k.wrap (a.tdiv b))),[.b c',.i b],[.b c,.i b'])) none
  | _,_=>none)
 | .binOp .rem _ x y _,.nz c' b=>(match aB σ x,aB σ y with
  | .v (.int k a),.v (.int k' b')=>cond (Nat.beq (ne k) (ne k')) (some (.v (.int k (a.tmod b)),[.b c',.i b],[.b c,.i b'])) none
  | _,_=>none)
 | .binOp .shl _ x y _,.ge c' b=>(match aB σ x,aB σ y with
  | .v (.int k a),.v (.int _ b')=>some (.v (.int k (oV k a b)),[.b c',.i b],[.b c,.i b'])
  | _,_=>none)
 | .binOp .shr _ x y _,.ge c' b=>(match aB σ x,aB σ y with
  | .v (.int k a),.v (.int _ b')=>some (.v (.int k (gT k a b)),[.b c',.i b],[.b c,.i b'])
  | _,_=>none)
 | .binOp .add _ x y _,.ct c' s u z=>(match aB σ x,aB σ y with
  | .v (.string s'),.v (.string u')=>some (.v (.string z),[.b c',.s s,.s u],[.b c,.s s',.s u'])
  | _,_=>none)
 | .binOp .eql t x y _,.eq t' ks=>(match aB σ x,aB σ y with
  | .agg cs,.agg ds=>(match sE cs,sE ds with
   | some xs,some ys=>(match nS ks xs ys with | some r=>some (.v (.bool r),[.n t'],[.n t]) | none=>none)
   | _,_=>none)
  | _,_=>none)
 | .binOp .neq t x y _,.eq t' ks=>(match aB σ x,aB σ y with
  | .agg cs,.agg ds=>(match sE cs,sE ds with
   | some xs,some ys=>(match nS ks xs ys with | some r=>some (.v (.bool !r),[.n t'],[.n t]) | none=>none)
   | _,_=>none)
  | _,_=>none)
 | .slice t x lo hi none,f=>ph σ c t (aB σ x) lo hi f
 | .typeAssert x _ T true,.ta T' p r=>(match bX T with
  | some d=>cond (!nU d&&(cK T).isSome) (some (r,[.n T',.p p],[.n T,.p (aB σ x)])) none
  | none=>none)
 | _,_=>none
section
variable {o:Oper} {σ:PEnv} {ρ:List PRes} {x y:Operand} {t:Nat} {k:IntKind} {a b:Int} {css zss:List (List PV)}
theorem qZ {E sz by' mm:Nat} {z:Value} {cs:List PV} (ho:o.op=.indexAddr t x y) (hu:bX t=some (.slice E)) (hi:cK E=some (z,sz,by')) (hw:cs.length=sz) (hx:aB σ x=.slc mm css) (hy:aB σ y=.v (.int k a)) (hm:idx css a=some cs):POpQ true o σ ρ (.ref cs 0):=fun κ σ' ρ' g hs hrr=>by
 obtain ⟨h0,hcs⟩:=cV hm
 have h:=hs.ev x
 rw [hx] at h
 generalize he:ev σ' x=w at h
 cases h with
 | slc hsl hb h1 hss =>
  rename_i ad cp sz' dss
  obtain ⟨ds,hd,hds⟩:=hss.get hcs
  have hlt:a.toNat<mm:=by rw [← hsl.len];exact (List.getElem?_eq_some_iff.1 hd).1
  obtain ⟨bb,off,ha,hsh⟩:=hsl.at_ (by omega)
  have hwid:sz'=sz:=by
   have e1:=hsl.wid ds (List.mem_of_getElem? hd)
   have e2:=hds.len
   omega
  subst hwid
  have h2:=km (c:=true) (ρ:=ρ') (κ:=κ) (j:=a.toNat) ho hu hi (.p (by rw [he,ha])) (.p (hs.v1 hy)) (fun _=>by omega) (fun _=>hlt)
  exact ⟨_,fun _=>by have:=Rp.ref (k:=0) (hsh _ _ hd) (h1 ds (List.mem_of_getElem? hd)) hds;rwa [Nat.add_zero] at this,h2⟩
theorem nY {κ:Kr} {sz:Nat}:∀ {css:List (List PV)} {dss:List (List Value)},(∀ cs∈css,cs.length=sz)→Rpss κ css dss→∀ ds∈dss,ds.length=sz
 | _,_,_,.nil,ds,hd=>by cases hd
 | _,_,hw,.cons h hs,ds,hd=>by
  rcases List.mem_cons.1 hd with rfl | hd
  ·rw [← h.len];exact hw _ (by simp)
  exact nY (fun c hc=>hw c (by simp [hc])) hs ds hd
theorem pj {E sz by' mm:Nat} {z:Value} (ho:o.op=.slice t x none (some y) none) (hu:bX t=some (.slice E)) (hi:cK E=some (z,sz,by')) (hx:aB σ x=.slc mm css) (hy:aB σ y=.v (.int k b)) (hm:sub css 0 b=some zss):POpQ true o σ ρ (.slc zss.length zss):=fun κ σ' ρ' g hs hrr=>by
 obtain ⟨⟨h0,h1,h2⟩,rfl⟩:=iX hm
 have h:=hs.ev x
 rw [hx] at h
 generalize he:ev σ' x=w at h
 cases h with
 | slc hsl hb ho1 hss =>
  rename_i ad cp sz' dss
  have hl:css.length=mm:=by rw [← hsl.len,← hss.len]
  have hcap:=hsl.cap
  have hzl:((css.take b.toNat).drop (0:Int).toNat).length=b.toNat:=by simp;omega
  rw [hzl]
  refine ⟨.slice ad b.toNat cp,fun _=>?_,kC (c:=true) (k:=b.toNat) ho hu hi (.p he) (.p (hs.v1 hy)) (fun _=>by omega) (fun _=>by omega)⟩
  have:=Rp.slc (hsl.take (m:=b.toNat) (by omega)) (by omega) (nO ho1 fun d hd=>List.mem_of_mem_take hd) (hss.take b.toNat)
  simpa using this
theorem pl {E sz by' mm:Nat} {z:Value} (ho:o.op=.slice t x (some y) none none) (hu:bX t=some (.slice E)) (hi:cK E=some (z,sz,by')) (hw:∀ cs∈css,cs.length=sz) (hx:aB σ x=.slc mm css) (hy:aB σ y=.v (.int k a)) (hm:sub css a (mm:Int)=some zss):POpQ true o σ ρ (.slc zss.length zss):=fun κ σ' ρ' g hs hrr=>by
 obtain ⟨⟨h0,h1,h2⟩,rfl⟩:=iX hm
 have h:=hs.ev x
 rw [hx] at h
 generalize he:ev σ' x=w at h
 cases h with
 | slc hsl hb ho1 hss =>
  rename_i ad cp sz' dss
  have hl:css.length=mm:=by rw [← hsl.len,← hss.len]
  have hcap:=hsl.cap
  have hq:=oQ (c:=true) (ρ:=ρ') (κ:=κ) (k:=a.toNat) ho hu hi (.p he) (.p (hs.v1 hy)) (fun _=>by omega) (fun _=>by omega)
  have hd:=hsl.dropT (m:=a.toNat) (by omega)
  have e2:List.drop a.toNat (List.take (mm:Int).toNat css)=css.drop a.toNat:=by rw [Int.toNat_natCast,← hl,List.take_length]
  rw [e2]
  have hzl:(css.drop a.toNat).length=mm - a.toNat:=by simp [hl]
  rw [hzl]
  by_cases hz:mm - a.toNat=0
  ·refine ⟨_,fun _=>?_,hq⟩
   have e3:css.drop a.toNat=[]:=List.drop_of_length_le (by omega)
   rw [e3]
   exact .slc (sz:=sz) (css:=[]) ⟨by simp [hz],by omega,by simp,fun h=>absurd h (by omega)⟩ (by omega) (fun _ h=>by cases h) .nil
  have hszz:sz'=sz:=by
   have hlen:=hsl.len
   match dss,hlen with
   | [],hlen=>simp only [List.length_nil] at hlen;omega
   | d::ds,_=>rw [← hsl.wid d (by simp),nY hw hss d (by simp)]
  subst hszz
  exact ⟨_,fun _=>Rp.slc hd (by omega) (nO ho1 fun d hd=>List.mem_of_mem_drop hd) (hss.drop a.toNat),hq⟩
end
theorem q6 {o:Oper} {σ:PEnv} {ρ:List PRes} {c:Bool} {x:Operand} {t:Nat} {lo hi:Option Operand} {f:Fct} {p:PV} {L R:List Eqn} (ho:o.op=.slice t x lo hi none) (h:ph σ c t (aB σ x) lo hi f=some (p,L,R)) (he:L=R) (hf:f.ok) (hc:c=true):POpQ true o σ ρ p:=by
 unfold ph at h
 split at h
 ·rename_i c' css l hh zss m sz
  split at h
  ·rename_i E mm css' hu hx
   split at h
   ·rename_i z sz' by' hi'
    split at h
    ·rename_i y
     split at h
     ·rename_i k b hy
      simp only [bE,Prod.mk.injEq] at h;obtain ⟨rfl,rfl,rfl⟩:=h
      simp only [List.cons.injEq,Eqn.b.injEq,Eqn.q.injEq,Eqn.i.injEq,Eqn.n.injEq,and_true] at he
      obtain ⟨rfl,rfl,rfl,rfl,rfl⟩:=he
      obtain ⟨h1,rfl,h3⟩:=hf
      exact pj ho hu hi' hx hy (h1 hc)
     cases h
    ·rename_i y
     split at h
     ·rename_i k b hy
      simp only [bE,Prod.mk.injEq] at h;obtain ⟨rfl,rfl,rfl⟩:=h
      simp only [List.cons.injEq,Eqn.b.injEq,Eqn.q.injEq,Eqn.i.injEq,Eqn.n.injEq,and_true] at he
      obtain ⟨rfl,rfl,rfl,rfl,rfl⟩:=he
      obtain ⟨h1,rfl,h3⟩:=hf
      exact pl ho hu hi' h3 hx hy (h1 hc)
     cases h
    cases h
   cases h
  cases h
 ·rename_i c' s l hh z
  split at h
  ·rename_i s' hu hx
   split at h
   ·split at h
    ·rename_i hy
     simp only [bE,Prod.mk.injEq] at h;obtain ⟨rfl,rfl,rfl⟩:=h
     simp only [List.cons.injEq,Eqn.b.injEq,Eqn.s.injEq,Eqn.i.injEq,and_true] at he
     obtain ⟨rfl,rfl,rfl,rfl⟩:=he
     exact oZ ho hu (.p hx) (.p hy) (fun _=>hf hc)
    cases h
   ·split at h
    ·rename_i hy
     simp only [bE,Prod.mk.injEq] at h;obtain ⟨rfl,rfl,rfl⟩:=h
     simp only [List.cons.injEq,Eqn.b.injEq,Eqn.s.injEq,Eqn.i.injEq,and_true] at he
     obtain ⟨rfl,rfl,rfl,rfl⟩:=he
     exact o7 ho hu (.p hx) (.p hy) (fun _=>hf hc)
    cases h
   ·split at h
    ·rename_i hy hy2
     simp only [bE,Prod.mk.injEq] at h;obtain ⟨rfl,rfl,rfl⟩:=h
     simp only [List.cons.injEq,Eqn.b.injEq,Eqn.s.injEq,Eqn.i.injEq,and_true] at he
     obtain ⟨rfl,rfl,rfl,rfl⟩:=he
     exact nP ho hu (.p hx) (.p hy) (.p hy2) (fun _=>hf hc)
    cases h
   cases h
  cases h
 cases h
theorem sR {o:Oper} {σ:PEnv} {ρ:List PRes} {c:Bool} {f:Fct} {p:PV} {L R:List Eqn} (h:sQ σ c o.op f=some (p,L,R)) (he:L=R) (hf:f.ok) (hc:c=true):POpQ true o σ ρ p:=by
 generalize ho:o.op=op at h
 unfold sQ at h
 split at h
 ·split at h
  ·rename_i hu hx hy
   split at h
   ·rename_i hi
    simp only [bE,Prod.mk.injEq] at h;obtain ⟨rfl,rfl,rfl⟩:=h
    simp only [List.cons.injEq,Eqn.b.injEq,Eqn.q.injEq,Eqn.i.injEq,Eqn.n.injEq,and_true] at he
    obtain ⟨rfl,rfl,rfl,h4⟩:=he
    exact qZ ho hu hi h4 hx hy (hf hc)
   cases h
  cases h
 ·split at h
  ·rename_i hu hx hy
   simp only [bE,Prod.mk.injEq] at h;obtain ⟨rfl,rfl,rfl⟩:=h
   simp only [List.cons.injEq,Eqn.b.injEq,Eqn.s.injEq,Eqn.i.injEq,and_true] at he
   obtain ⟨rfl,rfl,rfl⟩:=he
   exact qU ho hu (.p hx) (.p hy) (fun _=>hf hc)
  cases h
 ·split at h
  ·rename_i k a k' b' hx hy
   cases hk:Nat.beq (ne k) (ne k')
   ·rw [hk] at h;cases h
   rw [hk] at h;have:=j7 hk;subst this
   simp only [ee,bE,Prod.mk.injEq] at h;obtain ⟨rfl,rfl,rfl⟩:=h
   simp only [List.cons.injEq,Eqn.b.injEq,Eqn.i.injEq,and_true] at he
   obtain ⟨rfl,rfl⟩:=he
   exact st ho (.p hx) (.p hy) (fun _=>hf hc)
  cases h
 ·split at h
  ·rename_i k a k' b' hx hy
   cases hk:Nat.beq (ne k) (ne k')
   ·rw [hk] at h;cases h
   rw [hk] at h;have:=j7 hk;subst this
   simp only [ee,bE,Prod.mk.injEq] at h;obtain ⟨rfl,rfl,rfl⟩:=h
   simp only [List.cons.injEq,Eqn.b.injEq,Eqn.i.injEq,and_true] at he
   obtain ⟨rfl,rfl⟩:=he
   exact su ho (.p hx) (.p hy) (fun _=>hf hc)
  cases h
 ·split at h
  ·rename_i hx hy
   simp only [bE,Prod.mk.injEq] at h;obtain ⟨rfl,rfl,rfl⟩:=h
   simp only [List.cons.injEq,Eqn.b.injEq,Eqn.i.injEq,and_true] at he
   obtain ⟨rfl,rfl⟩:=he
   exact kE ho (.p hx) (.p hy) (fun _=>hf hc) rfl
  cases h
 ·split at h
  ·rename_i hx hy
   simp only [bE,Prod.mk.injEq] at h;obtain ⟨rfl,rfl,rfl⟩:=h
   simp only [List.cons.injEq,Eqn.b.injEq,Eqn.i.injEq,and_true] at he
   obtain ⟨rfl,rfl⟩:=he
   exact kE ho (.p hx) (.p hy) (fun _=>hf hc) rfl
  cases h
 ·split at h
  ·rename_i hx hy
   simp only [bE,Prod.mk.injEq] at h;obtain ⟨rfl,rfl,rfl⟩:=h
   simp only [List.cons.injEq,Eqn.b.injEq,Eqn.s.injEq,and_true] at he
   obtain ⟨rfl,rfl,rfl⟩:=he
   exact pq_catT ho (.p hx) (.p hy) (fun _=>hf hc)
  cases h
 ·split at h
  ·rename_i hx hy
   split at h
   ·rename_i h5 h6
    split at h
    ·rename_i r hr
     simp only [bE,Prod.mk.injEq] at h;obtain ⟨rfl,rfl,rfl⟩:=h
     simp only [List.cons.injEq,Eqn.n.injEq,and_true] at he
     subst he
     exact qe _ ho hf.h1 hf.h2 hf.h3 hf.h4 (.p hx) (.p hy) h5 h6 hr rfl
    cases h
   cases h
  cases h
 ·split at h
  ·rename_i hx hy
   split at h
   ·rename_i h5 h6
    split at h
    ·rename_i r hr
     simp only [bE,Prod.mk.injEq] at h;obtain ⟨rfl,rfl,rfl⟩:=h
     simp only [List.cons.injEq,Eqn.n.injEq,and_true] at he
     subst he
     exact qe _ ho hf.h1 hf.h2 hf.h3 hf.h4 (.p hx) (.p hy) h5 h6 hr rfl
    cases h
   cases h
  cases h
 ·exact q6 ho h he hf hc
 ·split at h
  ·rename_i d hu
   cases hb:(!nU d&&(cK _).isSome)
   ·rw [hb] at h;cases h
   rw [hb] at h
   simp only [ee,bE,Prod.mk.injEq] at h;obtain ⟨rfl,rfl,rfl⟩:=h
   simp only [List.cons.injEq,Eqn.n.injEq,Eqn.p.injEq,and_true] at he
   obtain ⟨rfl,h2⟩:=he
   simp only [Bool.and_eq_true,Bool.not_eq_true'] at hb
   exact pq_ta ho hu hb.1 hb.2 h2.symm hf
  cases h
 cases h
def gL (l:List (Bool×Bool)):List Eqn:=l.map fun z=>.b z.1
def gR (l:List (Bool×Bool)):List Eqn:=l.map fun z=>.b z.2
theorem gLR:∀ {l:List (Bool×Bool)},gL l=gR l→AllEq l
 | [],_=>AllEq.nil
 | (a,b)::l,h=>by
  simp only [gL,gR,List.map_cons,List.cons.injEq,Eqn.b.injEq] at h
  have:=gLR (l:=l) h.2
  unfold AllEq at this ⊢
  simp only [List.map_cons,h.1,this]
theorem sS {l:List (Bool×Bool)}:(gL l).length=(gR l).length:=by simp [gL,gR]
def hZ:Op→Bool
 | .call ⟨.value _,_,_⟩=>true
 | .call ⟨.invoke _ _,_,_⟩=>true
 | _=>false
abbrev StepO:=Option (PV×Bool×List Eqn×List Eqn)
def kM (σ:PEnv) (G:List (Nat×GE)) (ρ:List PRes) (gs:List Bool) (at_:Nat) (op:Op):StepO :=
 match qx (gU σ G (cE op.operands.toList) gs) ρ at_ op with
 | some (p,none)=>some (p,false,gL (fa G gs (cE op.operands.toList)),gR (fa G gs (cE op.operands.toList)))
 | some (p,some (b,b'))=>some (p,true,gL (fa G gs (cE op.operands.toList))++[.n b],gR (fa G gs (cE op.operands.toList))++[.n b'])
 | none=>none
def sT (σ:PEnv) (G:List (Nat×GE)) (gs:List Bool) (op:Op) (cal:Operand) (ags:List Operand):Fct→StepO
 | .cl c f pargs r=>(match cal with
  | .func f'=>some (r,false,gL (fa G gs (cE op.operands.toList))++[.b c,.n f,.l pargs],gR (fa G gs (cE op.operands.toList))++[.b (gs.headD true),.n f',.l (ags.map (aB (gU σ G (cE op.operands.toList) gs)))])
  | _=>none)
 | .cv c pf pargs r=>some (r,false,gL (fa G gs (cE op.operands.toList))++[.b c,.p pf,.l pargs],gR (fa G gs (cE op.operands.toList))++[.b (gs.headD true),.p (aB (gU σ G (cE op.operands.toList) gs) cal),.l (ags.map (aB (gU σ G (cE op.operands.toList) gs)))])
 | _=>none
def invx (σ:PEnv) (G:List (Nat×GE)) (gs:List Bool) (op:Op) (x:Operand) (name:String) (ags:List Operand):Fct→StepO
 | .ci c p name' pargs r=>some (r,false,gL (fa G gs (cE op.operands.toList))++[.b c,.p p,.m name',.l pargs],gR (fa G gs (cE op.operands.toList))++[.b (gs.headD true),.p (aB (gU σ G (cE op.operands.toList) gs) x),.m name,.l (ags.map (aB (gU σ G (cE op.operands.toList) gs)))])
 | _=>none
def sU (σ:PEnv) (G:List (Nat×GE)) (ρ:List PRes) (gs:List Bool) (at_:Nat) (fo:Option Fct) (op:Op):StepO :=
 match fo with
 | some f=>(match op with
  | .call ⟨.value cal,⟨ags⟩,ts⟩=>sT σ G gs (.call ⟨.value cal,⟨ags⟩,ts⟩) cal ags f
  | .call ⟨.invoke x name,⟨ags⟩,ts⟩=>invx σ G gs (.call ⟨.invoke x name,⟨ags⟩,ts⟩) x name ags f
  | op=>(match sQ (gU σ G (cE op.operands.toList) gs) (gs.headD true) op f with
   | some (p,L,R)=>some (p,false,gL (fa G gs (cE op.operands.toList))++L,gR (fa G gs (cE op.operands.toList))++R)
   | none=>none))
 | none=>(match op with
  | .pick cc a b=>(match sN σ G gs cc a b with | some (p,l)=>some (p,false,gL l,gR l) | none=>none)
  | op=>kM σ G ρ gs at_ op)
def POpG (c:Bool) (o:Oper) (σ:PEnv) (r:PV):Prop:=∀ κ σ' ρ' (KK:Value→Kr→Prop),GOK κ→Sim κ σ σ'→(∀ v κ',Kle κ κ'→(c=true→Rp κ' r v)→KK v κ')→OpG c o σ' ρ' κ KK
theorem nZ {a b l m:List Eqn} (h:a++l=b++m) (hl:a.length=b.length):a=b∧l=m:=List.append_inj h hl
theorem popg_cl {o:Oper} {σ:PEnv} {G:List (Nat×GE)} {gs:List Bool} {ts:List Nat} {f:Nat} {ags:List Operand} {at_:Array Nat} {pargs:List PV} {r:PV} (ho:o.op=.call { callee:=.value (.func f),args:=ags.toArray,argTypes:=at_ }) (hi:GInv σ G) (ha:AllEq (fa G gs ts)) (hk:StackOk gs) (hp:pargs=ags.map (aB (gU σ G ts gs))) (hc:gs.headD true=true→PF f pargs r):POpG (gs.headD true) o σ r:=fun κ σ' ρ' KK g hs h =>
 kp ho (fun _=>rfl) (fun hct=>hc hct κ _ g (by rw [hp];exact eK (iZ hs hi ha hk hct) ags)) h
theorem popg_cv {o:Oper} {σ:PEnv} {G:List (Nat×GE)} {gs:List Bool} {ts:List Nat} {x:Operand} {ags:List Operand} {at_:Array Nat} {pf:PV} {pargs:List PV} {r:PV} (ho:o.op=.call { callee:=.value x,args:=ags.toArray,argTypes:=at_ }) (hi:GInv σ G) (ha:AllEq (fa G gs ts)) (hk:StackOk gs) (hx:pf=aB (gU σ G ts gs) x) (hp:pargs=ags.map (aB (gU σ G ts gs))) (hc:gs.headD true=true→PFV pf pargs r):POpG (gs.headD true) o σ r:=fun κ σ' ρ' KK g hs h=>by
 refine ⟨fun hct=>?_,fun hcf=>h undef κ (.refl _) fun h=>by rw [hcf] at h;cases h⟩
 have hs':=iZ hs hi ha hk hct
 obtain ⟨f,first,cap,h1,h2⟩:=hc hct κ _ _ g (by rw [hx];exact hs'.ev x) (by rw [hp];exact eK hs' ags)
 exact qD ho h1 rfl h2 fun v κ' hk hv=>⟨rfl,h v κ' hk fun _=>hv⟩
theorem popg_ci {o:Oper} {σ:PEnv} {G:List (Nat×GE)} {gs:List Bool} {ts:List Nat} {x:Operand} {name:String} {ags:List Operand} {at_:Array Nat} {p:PV} {pargs:List PV} {r:PV} (ho:o.op=.call { callee:=.invoke x name,args:=ags.toArray,argTypes:=at_ }) (hi:GInv σ G) (ha:AllEq (fa G gs ts)) (hk:StackOk gs) (hx:p=aB (gU σ G ts gs) x) (hp:pargs=ags.map (aB (gU σ G ts gs))) (hc:gs.headD true=true→PFI p name pargs r):POpG (gs.headD true) o σ r:=fun κ σ' ρ' KK g hs h=>by
 refine ⟨fun hct=>?_,fun hcf=>h undef κ (.refl _) fun h=>by rw [hcf] at h;cases h⟩
 have hs':=iZ hs hi ha hk hct
 obtain ⟨t,q,f,e1,hm,hf⟩:=hc hct
 have hv:=hs'.ev x
 rw [← hx,e1] at hv
 generalize he:ev σ' x=w at hv
 cases hv with
 | ifc hv=>exact pb ho he hm (hf κ _ g (.cons hv (by rw [hp];exact eK hs' ags))) fun v κ' hk hv=>⟨rfl,h v κ' hk fun _=>hv⟩
theorem q8 {o:Oper} {σ:PEnv} {G:List (Nat×GE)} {ρ:List PRes} {gs:List Bool} {k:Nat} {p:PV} {u:Bool} {L R:List Eqn} (hi:GInv σ G) (hk:StackOk gs) (h:kM σ G ρ gs k o.op=some (p,u,L,R)) (he:L=R):POpQ (gs.headD true) o σ ρ p:=by
 unfold kM at h
 split at h
 ·rename_i p' hq
  simp only [bE,Prod.mk.injEq] at h;obtain ⟨rfl,_,rfl,rfl⟩:=h
  exact jv (fun _=>qx_ok hq (fun _ _ e=>by cases e)) hi (gLR he) hk
 ·rename_i p' b b' hq
  simp only [bE,Prod.mk.injEq] at h;obtain ⟨rfl,_,rfl,rfl⟩:=h
  obtain ⟨h1,h2⟩:=nZ he sS
  simp only [List.cons.injEq,Eqn.n.injEq,and_true] at h2
  exact jv (fun _=>qx_ok hq (fun _ _ e=>by simp only [bE,Prod.mk.injEq] at e;rw [← e.1,← e.2];exact h2)) hi (gLR h1) hk
 cases h
theorem sV {o:Oper} {σ:PEnv} {G:List (Nat×GE)} {gs:List Bool} {cal:Operand} {ags:List Operand} {ts:Array Nat} {f:Fct} {p:PV} {u:Bool} {L R:List Eqn} (ho:o.op=.call ⟨.value cal,⟨ags⟩,ts⟩) (hi:GInv σ G) (hk:StackOk gs) (h:sT σ G gs (.call ⟨.value cal,⟨ags⟩,ts⟩) cal ags f=some (p,u,L,R)) (he:L=R) (hf:f.ok):POpG (gs.headD true) o σ p:=by
 unfold sT at h
 split at h
 ·split at h
  ·simp only [bE,Prod.mk.injEq] at h;obtain ⟨rfl,_,rfl,rfl⟩:=h
   obtain ⟨h1,h2⟩:=nZ he sS
   simp only [List.cons.injEq,Eqn.n.injEq,Eqn.b.injEq,Eqn.l.injEq,and_true] at h2
   obtain ⟨h3,h4,h5⟩:=h2
   subst h4
   exact popg_cl ho hi (gLR h1) hk h5 (fun hc=>hf (by rw [h3];exact hc))
  cases h
 ·simp only [bE,Prod.mk.injEq] at h;obtain ⟨rfl,_,rfl,rfl⟩:=h
  obtain ⟨h1,h2⟩:=nZ he sS
  simp only [List.cons.injEq,Eqn.p.injEq,Eqn.b.injEq,Eqn.l.injEq,and_true] at h2
  obtain ⟨h3,h4,h5⟩:=h2
  exact popg_cv ho hi (gLR h1) hk h4 h5 (fun hc=>hf (by rw [h3];exact hc))
 cases h
theorem invx_ok {o:Oper} {σ:PEnv} {G:List (Nat×GE)} {gs:List Bool} {x:Operand} {name:String} {ags:List Operand} {ts:Array Nat} {f:Fct} {p:PV} {u:Bool} {L R:List Eqn} (ho:o.op=.call ⟨.invoke x name,⟨ags⟩,ts⟩) (hi:GInv σ G) (hk:StackOk gs) (h:invx σ G gs (.call ⟨.invoke x name,⟨ags⟩,ts⟩) x name ags f=some (p,u,L,R)) (he:L=R) (hf:f.ok):POpG (gs.headD true) o σ p:=by
 unfold invx at h
 split at h
 ·simp only [bE,Prod.mk.injEq] at h;obtain ⟨rfl,_,rfl,rfl⟩:=h
  obtain ⟨h1,h2⟩:=nZ he sS
  simp only [List.cons.injEq,Eqn.p.injEq,Eqn.b.injEq,Eqn.l.injEq,Eqn.m.injEq,and_true] at h2
  obtain ⟨h3,h4,h5,h6⟩:=h2
  subst h5
  exact popg_ci ho hi (gLR h1) hk h4 h6 (fun hc=>hf (by rw [h3];exact hc))
 cases h
theorem sW {o:Oper} {σ:PEnv} {G:List (Nat×GE)} {ρ:List PRes} {gs:List Bool} {k:Nat} {fo:Option Fct} {p:PV} {u:Bool} {L R:List Eqn} (hi:GInv σ G) (hk:StackOk gs) (h:sU σ G ρ gs k fo o.op=some (p,u,L,R)) (he:L=R) (hf:∀ f,fo=some f→f.ok):(hZ o.op=false∧POpQ (gs.headD true) o σ ρ p)∨(hZ o.op=true∧POpG (gs.headD true) o σ p):=by
 unfold sU at h
 split at h
 ·rename_i f
  split at h
  ·rename_i cal ags ts ho
   exact .inr ⟨by rw [ho];rfl,sV ho hi hk h he (hf f rfl)⟩
  ·rename_i x name ags ts ho
   exact .inr ⟨by rw [ho];rfl,invx_ok ho hi hk h he (hf f rfl)⟩
  rename_i hnc hnc2
  split at h
  ·rename_i p' L' R' hq
   simp only [bE,Prod.mk.injEq] at h;obtain ⟨rfl,_,rfl,rfl⟩:=h
   obtain ⟨h1,h2⟩:=nZ he sS
   refine .inl ⟨?_,jv (fun hc=>sR hq h2 (hf f rfl) hc) hi (gLR h1) hk⟩
   unfold hZ
   split
   ·rename_i cal ags ts ho;exact absurd ho (hnc cal ags.toList ts)
   ·rename_i x name ags ts ho;exact absurd ho (hnc2 x name ags.toList ts)
   rfl
  cases h
 split at h
 ·rename_i cc a b ho
  split at h
  ·rename_i p' l' hp
   simp only [bE,Prod.mk.injEq] at h;obtain ⟨rfl,_,rfl,rfl⟩:=h
   exact .inl ⟨by rw [ho];rfl,sO ho hi hk hp (gLR he)⟩
  cases h
 cases hc:hZ o.op
 ·exact .inl ⟨rfl,q8 hi hk h he⟩
 exfalso
 unfold hZ at hc
 split at hc
 ·rename_i ho
  rw [ho] at h
  unfold kM at h
  simp only [qx] at h
  cases h
 ·rename_i ho
  rw [ho] at h
  unfold kM at h
  simp only [qx] at h
  cases h
 cases hc
def mI (σ:PEnv) (G:List (Nat×GE)) (d:Nat) (gs:List Bool) (p:PV):PEnv×List (Nat×GE):=match gs with
 | []=>(cC σ d p,sL d G)
 | c::gs=>(cC σ d (pgv c p),(d,⟨c::gs,p⟩)::G)
theorem mJ {d t:Nat} {e:GE}:∀ {G:List (Nat×GE)},gl t (sL d G)=some e→t≠d∧gl t G=some e
 | [],h=>by cases h
 | (k,e')::l,h=>by
  simp only [sL] at h
  cases hd:Nat.beq d k
  ·rw [hd] at h;simp only [fm,gl] at h ⊢
   cases ht:Nat.beq t k
   ·rw [ht] at h;exact mJ h
   rw [ht] at h
   refine ⟨fun e=>?_,h⟩
   rw [Nat.eq_of_beq_eq_true ht] at e;rw [e] at hd;simp at hd
  rw [hd] at h;simp only [ee] at h
  obtain ⟨h1,h2⟩:=mJ h
  refine ⟨h1,?_⟩
  simp only [gl]
  have:Nat.beq t k=false:=by cases e:Nat.beq t k;rfl;exact absurd ((Nat.eq_of_beq_eq_true e).trans (Nat.eq_of_beq_eq_true hd).symm) h1
  rw [this];exact h2
theorem mL {σ:PEnv} {d t:Nat} {p:PV} (h:t≠d):cC σ d p t=σ t:=by
 unfold cC
 have:Nat.beq t d=false:=by cases e:Nat.beq t d;rfl;exact absurd (Nat.eq_of_beq_eq_true e) h
 rw [this];rfl
theorem kN {σ:PEnv} {G:List (Nat×GE)} {d:Nat} {gs:List Bool} {p:PV} (hi:GInv σ G) (hk:StackOk gs):GInv (mI σ G d gs p).1 (mI σ G d gs p).2:=by
 unfold mI
 split
 ·intro t e h
  obtain ⟨h1,h2⟩:=mJ h
  simp only [mL h1]
  exact hi t e h2
 rename_i c gs
 intro t e h
 simp only [gl] at h
 cases ht:Nat.beq t d
 ·rw [ht] at h
  have hne:t≠d:=fun e=>by rw [e] at ht;simp at ht
  simp only [mL hne]
  exact hi t e h
 rw [ht] at h
 simp only [ee,bE] at h;subst h
 have:=Nat.eq_of_beq_eq_true ht;subst this
 refine ⟨?_,hk,by simp⟩
 simp only [cC,Nat.beq_refl,ee,List.headD_cons]
theorem kO {σ:PEnv} {G:List (Nat×GE)} {d:Nat} {gs:List Bool} {p:PV}:(mI σ G d gs p).1=cC σ d (pgv (gs.headD true) p):=by
 unfold mI;split
 ·rw [List.headD_nil,eM]
 rfl
structure RunR where
 σ:PEnv
 L:List Eqn
 R:List Eqn
def qj (i:Nat):List (Nat×Fct)→Option Fct
 | (k,f)::_=>cond (Nat.beq k i) (some f) none
 | []=>none
def i0 (n:Nat) (ops:Array Oper) (ρ:List PRes):List Oper→Nat→List Nat→List (Nat×Fct)→PEnv→List (Nat×GE)→Option RunR
 | [],_,_,_,σ,_=>some ⟨σ,[],[]⟩
 | o::l,i,H,F,σ,G=>match o.dst with
  | some d=>cond (Nat.blt d n) (match mG ops σ G o.guard with
   | some gs=>match sU σ G ρ gs (H.headD 0) (qj i F) o.op with
    | some (p,u,L,R)=>match i0 n ops ρ l (i+1) (cond u H.tail H) (match qj i F with | some _=>F.tail | none=>F) (mI σ G d gs p).1 (mI σ G d gs p).2 with
     | some r=>cond (Nat.beq L.length R.length) (some ⟨r.σ,L++r.L,R++r.R⟩) none
     | none=>none
    | none=>none
   | none=>none) none
  | none=>none
theorem sX {i:Nat} {F:List (Nat×Fct)} (h:FOk F):∀ f,qj i F=some f→f.ok:=fun f hf=>by
 cases F with
 | nil=>cases hf
 | cons a l =>
  obtain ⟨k,g⟩:=a
  simp only [qj] at hf
  cases hk:Nat.beq k i
  ·rw [hk] at hf;cases hf
  rw [hk] at hf;simp only [ee,bE] at hf;subst hf;exact h.1
theorem sY {F:List (Nat×Fct)} (h:FOk F) (b:Option Fct):FOk (match b with | some _=>F.tail | none=>F):=by
 cases b with
 | none=>exact h
 | some f=>cases F with
  | nil=>exact h
  | cons a l=>exact h.2
theorem kP {n:Nat} {ops:Array Oper} {ρ:List PRes} {o:Oper} {l:List Oper} {i:Nat} {H:List Nat} {F:List (Nat×Fct)} {σ:PEnv} {G:List (Nat×GE)} {r:RunR} (h:i0 n ops ρ (o::l) i H F σ G=some r) (he:r.L=r.R) (hF:FOk F) (hi:GInv σ G) :
    ∃ d gs p H' F' r',o.dst=some d∧Nat.blt d n=true∧PGuardIs ops σ o (gs.headD true)∧StackOk gs∧((hZ o.op=false∧POpQ (gs.headD true) o σ ρ p)∨(hZ o.op=true∧POpG (gs.headD true) o σ p))∧i0 n ops ρ l (i+1) H' F' (mI σ G d gs p).1 (mI σ G d gs p).2=some r'∧r'.σ=r.σ∧r'.L=r'.R∧FOk F':=by
  simp only [i0] at h
  split at h
  · rename_i d hd
    cases hlt:Nat.blt d n
    · rw [hlt] at h;cases h
    rw [hlt] at h;simp only [ee] at h
    split at h
    · rename_i gs hgs
      split at h
      · rename_i p u L R hst
        split at h
        · rename_i r' hr
          cases hlen:Nat.beq L.length R.length
          · rw [hlen] at h;cases h
          rw [hlen] at h;simp only [ee,bE] at h;subst h
          obtain ⟨h1,h2⟩:=List.append_inj he (Nat.eq_of_beq_eq_true hlen)
          obtain ⟨hg,hk⟩:=qX hi hgs
          exact ⟨d,gs,p,_,_,r',hd,hlt,hg,hk,sW hi hk hst h1 (sX hF),hr,rfl,h2,sY hF _⟩
        cases h
      cases h
    cases h
  cases h
theorem sZ {n:Nat} {ops:Array Oper} {o:Oper} {rest:List Oper} {K:PPost} {σ:PEnv} {ρ:List PRes} {d:Nat} {c:Bool} {r:PV} (hg:PGuardIs ops σ o c) (hd:o.dst=some d) (hlt:Nat.blt d n=true) (h:POpG c o σ r) (hw:PWL n ops rest K (cC σ d (pgv c r)) ρ):PWL n ops (o::rest) K σ ρ:=fun β κ σ' ρ' g hs hr =>
 wl_g (hg κ σ' hs) hd hlt (h κ σ' ρ' _ g hs fun v κ' hk hv=>hw β κ' _ _ (g.mono hk) ((hs.mono hk).upd (nB hv)) (hr.mono hk))
theorem s7 {n:Nat} {ops:Array Oper} {o:Oper} {lo:List (Nat×Oper)} {K:PPost} {σ:PEnv} {ρd ρs:List PRes} {d:Nat} {c:Bool} {r:PV} (hg:PGuardIs ops σ o c) (hd:o.dst=some d) (hlt:Nat.blt d n=true) (h:POpG c o σ r) (hw:PWD n ops K lo (cC σ d (pgv c r)) ρd ρs):PWD n ops K ((1,o)::lo) σ ρd ρs:=fun β κ σ' rd rs g hs h1 h2 =>
 wd_g (hg κ σ' hs) hd hlt fun κ1 hk=>h κ1 σ' _ _ (g.mono hk) (hs.mono hk) fun v κ' hk' hv=>hw β κ' _ rd rs ((g.mono hk).mono hk') (((hs.mono hk).mono hk').upd (nB hv)) ((h1.mono hk).mono hk') ((h2.mono hk).mono hk')
theorem mM {n:Nat} {ops:Array Oper} {rest:List Oper} {K:PPost} {ρ:List PRes}:∀ {l:List Oper} {i:Nat} {H:List Nat} {F:List (Nat×Fct)} {σ:PEnv} {G:List (Nat×GE)} {r:RunR},i0 n ops ρ l i H F σ G=some r→r.L=r.R→FOk F→GInv σ G→PWL n ops rest K r.σ ρ→PWL n ops (l++rest) K σ ρ
 | [],i,H,F,σ,G,r,h,_,_,_,hw=>by simp only [i0,bE] at h;subst h;exact hw
 | o::l,i,H,F,σ,G,r,h,he,hF,hi,hw=>by
  obtain ⟨d,gs,p,H',F',r',h1,h2,h3,h4,h5,h6,h7,h8,h9⟩:=kP h he hF hi
  have hrec:=mM (rest:=rest) (K:=K) h6 h8 h9 (kN hi h4) (by rw [h7];exact hw)
  rw [kO] at hrec
  rcases h5 with ⟨_,hq⟩ | ⟨_,hq⟩
  ·exact dS h3 h1 h2 hq hrec
  exact sZ h3 h1 h2 hq hrec
def s8 (ks D:List Nat):List Oper→Bool
 | []=>true
 | o::l=>(match o.dst with | some d=>sM d ks||sM d D | none=>true)&&s8 ks D l
theorem lM {n:Nat} {ops:Array Oper} {ρ:List PRes} {ks D:List Nat}:∀ {l:List Oper} {i:Nat} {H:List Nat} {F:List (Nat×Fct)} {σ:PEnv} {G:List (Nat×GE)} {r:RunR},i0 n ops ρ l i H F σ G=some r→r.L=r.R→FOk F→GInv σ G→s8 ks D l=true→∀ t,t ∉ ks→t ∉ D→r.σ t=σ t
 | [],i,H,F,σ,G,r,h,_,_,_,_,t,_,_=>by simp only [i0,bE] at h;subst h;rfl
 | o::l,i,H,F,σ,G,r,h,he,hF,hi,hd,t,g1,g2=>by
  obtain ⟨d,gs,p,H',F',r',h1,h2,h3,h4,h5,h6,h7,h8,h9⟩:=kP h he hF hi
  simp only [s8,Bool.and_eq_true] at hd
  rw [h1] at hd
  simp only [Bool.or_eq_true,j8] at hd
  have hne:t≠d:=fun e=>by subst e;rcases hd.1 with h | h;exact g1 h;exact g2 h
  rw [← h7,lM h6 h8 h9 (kN hi h4) hd.2 t g1 g2,kO]
  exact mL hne
abbrev RunO:=Option (List PV×List Eqn)
def ia (n:Nat) (ops:Array Oper) (ρ:List PRes) (l:List Oper) (H:List Nat) (F:List (Nat×Fct)) (σ:PEnv) (ks D:List Nat):RunO :=
 match i0 n ops ρ l 0 H F σ [] with
 | some r=>cond (s8 ks D l) (some (ks.map r.σ,r.L)) none
 | none=>none
def fU (n:Nat) (ops:Array Oper) (ρ:List PRes) (l:List Oper) (H:List Nat) (F:List (Nat×Fct)) (σ:PEnv) (vs:List PV):RunO :=
 match i0 n ops ρ l 0 H F σ [] with
 | some r=>some (vs,r.R)
 | none=>some ([],[])
def pdel (σ:PEnv) (D:List Nat):PEnv:=fun t=>cond (sM t D) .any (σ t)
def gi (σ:PEnv) (D:List Nat) (X:List (Nat×PV)):PEnv:=aG (pdel σ D) X
def n4 (t:Nat):List (Nat×PV)→Option PV
 | []=>none
 | (d,v)::l=>cond (Nat.beq t d) (some v) (n4 t l)
theorem kQ {σ:PEnv} {t:Nat}:∀ {X:List (Nat×PV)},aG σ X t=(n4 t X).getD (σ t)
 | []=>rfl
 | (d,v)::l=>by
  simp only [aG,cC,n4]
  cases Nat.beq t d
  ·exact kQ (X:=l)
  rfl
theorem lN {t:Nat} {v:PV} {σ:PEnv}:∀ {X:List (Nat×PV)},n4 t X=some v→(X.map (·.1)).map σ=X.map (·.2)→σ t=v
 | (d,w)::l,h,e=>by
  simp only [List.map_cons,List.cons.injEq] at e
  simp only [n4] at h
  cases hb:Nat.beq t d
  ·rw [hb] at h;exact lN h e.2
  rw [hb] at h;simp only [ee,bE] at h
  rw [Nat.eq_of_beq_eq_true hb,e.1,h]
theorem lO {t:Nat}:∀ {X:List (Nat×PV)},n4 t X=none→t ∉ X.map (·.1)
 | [],_=>by simp
 | (d,v)::l,h=>by
  simp only [n4] at h
  cases hb:Nat.beq t d
  ·rw [hb] at h
   have:t≠d:=fun e=>by rw [e] at hb;simp at hb
   simp only [List.map_cons,List.mem_cons,not_or]
   exact ⟨this,lO h⟩
  rw [hb] at h;cases h
def PWeak (σ σ1:PEnv):Prop:=∀ t,σ1 t=σ t∨σ1 t=.any
theorem Sim.weak {κ:Kr} {σ σ1:PEnv} {σ':Env} (h:Sim κ σ σ') (hw:PWeak σ σ1):Sim κ σ1 σ':=fun t=>by
 rcases hw t with e | e
 ·rw [e];exact h t
 rw [e];exact .any
theorem qk {σ:PEnv}:GInv σ []:=fun t e h=>by cases h
theorem mN {n:Nat} {ops:Array Oper} {ρ:List PRes} {l:List Oper} {H D:List Nat} {F:List (Nat×Fct)} {σ:PEnv} {X:List (Nat×PV)} (hF:FOk F) (h:ia n ops ρ l H F σ (X.map (·.1)) D=fU n ops ρ l H F σ (X.map (·.2))):∃ r,i0 n ops ρ l 0 H F σ []=some r∧r.L=r.R∧PWeak r.σ (gi σ D X):=by
 unfold ia fU at h
 cases hr:i0 n ops ρ l 0 H F σ [] with
 | none=>rw [hr] at h;cases h
 | some r =>
  rw [hr] at h
  simp only at h
  cases hd:s8 (X.map (·.1)) D l
  ·rw [hd] at h;cases h
  rw [hd] at h
  simp only [ee,bE,Prod.mk.injEq] at h
  obtain ⟨h1,h2⟩:=h
  refine ⟨r,rfl,h2,fun t=>?_⟩
  unfold gi
  rw [kQ]
  cases hl:n4 t X with
  | some v=>exact .inl (by rw [Option.getD_some,lN hl h1])
  | none =>
   rw [Option.getD_none]
   unfold pdel
   cases hi:sM t D
   ·have h3':t ∉ D:=fun hm=>by rw [j8.2 hm] at hi;cases hi
    exact .inl (by rw [fm,lM hr h2 hF qk hd t (lO hl) h3'])
   exact .inr rfl
section
variable {n:Nat} {ops:Array Oper} {l:List Oper} {K:PPost} {KC:Exit→PPost} {σ:PEnv} {ρ:List PRes} {id:Nat} {F:List (Nat×Fct)}
theorem n8 {σ1:PEnv} (hw:PWeak σ σ1) (h:PWL n ops l K σ1 ρ):PWL n ops l K σ ρ:=fun β κ σ' ρ' g hs hr=>h β κ σ' ρ' g (hs.weak hw) hr
theorem bj (k:Nat) (H D:List Nat) (X:List (Nat×PV)) (hF:FOk F) (h:ia n ops ρ (l.take k) H F σ (X.map (·.1)) D=fU n ops ρ (l.take k) H F σ (X.map (·.2))) (hw:PWL n ops (l.drop k) K (gi σ D X) ρ):PWL n ops l K σ ρ:=by
 obtain ⟨r,h1,h2,h3⟩:=mN hF h
 have:=mM h1 h2 hF qk (n8 h3 hw)
 rwa [List.take_append_drop] at this
theorem fb (H D:List Nat) (X:List (Nat×PV)) (hF:FOk F) (h:ia n ops ρ l H F σ (X.map (·.1)) D=fU n ops ρ l H F σ (X.map (·.2))) (hw:K (gi σ D X) ρ):PWL n ops l K σ ρ:=by
 obtain ⟨r,h1,h2,h3⟩:=mN hF h
 have:=mM (rest:=[]) h1 h2 hF qk (n8 h3 (bg (ops:=ops) hw))
 rwa [List.append_nil] at this
theorem aN (H D:List Nat) (X:List (Nat×PV)) (hF:FOk F) (h:ia n l.toArray ρ l H F σ (X.map (·.1)) D=fU n l.toArray ρ l H F σ (X.map (·.2))) (hw:KC .normal (gi σ D X) ρ):PWC n (.region id l.toArray false) KC σ ρ:=ag (fb H D X hF h hw)
end
def n9:List (Nat×Oper)→Bool
 | []=>true
 | (k,o)::l=>cond (hZ o.op) (Nat.beq k 1) (Nat.beq k 0)&&n9 l
theorem oa {n:Nat} {ops:Array Oper} {rest:List (Nat×Oper)} {K:PPost} {ρd ρ:List PRes}:∀ {l:List (Nat×Oper)} {i:Nat} {H:List Nat} {F:List (Nat×Fct)} {σ:PEnv} {G:List (Nat×GE)} {r:RunR},n9 l=true→i0 n ops ρ (l.map (·.2)) i H F σ G=some r→r.L=r.R→FOk F→GInv σ G→PWD n ops K rest r.σ ρd ρ→PWD n ops K (l++rest) σ ρd ρ
 | [],i,H,F,σ,G,r,_,h,_,_,_,hw=>by simp only [List.map_nil,i0,bE] at h;subst h;exact hw
 | (k,o)::l,i,H,F,σ,G,r,ht,h,he,hF,hi,hw=>by
  simp only [n9,Bool.and_eq_true] at ht
  obtain ⟨d,gs,p,H',F',r',h1,h2,h3,h4,h5,h6,h7,h8,h9⟩:=kP h he hF hi
  have hrec:=oa (rest:=rest) (K:=K) (ρd:=ρd) ht.2 h6 h8 h9 (kN hi h4) (by rw [h7];exact hw)
  rw [kO] at hrec
  rcases h5 with ⟨hc,hq⟩ | ⟨hc,hq⟩
  ·rw [hc] at ht;have:=Nat.eq_of_beq_eq_true ht.1;subst this
   exact pwd_qg h3 h1 h2 hq hrec
  rw [hc] at ht;have:=Nat.eq_of_beq_eq_true ht.1;subst this
  exact s7 h3 h1 h2 hq hrec
section
variable {n:Nat} {ops:Array Oper} {l:List (Nat×Oper)} {K:PPost} {σ:PEnv} {ρd ρs:List PRes} {F:List (Nat×Fct)}
theorem s9 {σ1:PEnv} (hw:PWeak σ σ1) (h:PWD n ops K l σ1 ρd ρs):PWD n ops K l σ ρd ρs:=fun β κ σ' rd rs g hs h1 h2=>h β κ σ' rd rs g (hs.weak hw) h1 h2
def od (n:Nat) (ops:Array Oper) (ρ:List PRes) (l:List (Nat×Oper)) (H:List Nat) (F:List (Nat×Fct)) (σ:PEnv) (ks D:List Nat):RunO:=cond (n9 l) (ia n ops ρ (l.map (·.2)) H F σ ks D) none
theorem cn (k:Nat) (H D:List Nat) (X:List (Nat×PV)) (hF:FOk F) (h:od n ops ρs (l.take k) H F σ (X.map (·.1)) D=fU n ops ρs ((l.take k).map (·.2)) H F σ (X.map (·.2))) (hw:PWD n ops K (l.drop k) (gi σ D X) ρd ρs):PWD n ops K l σ ρd ρs:=by
 unfold od at h
 cases ht:n9 (l.take k)
 ·rw [ht] at h;unfold fU at h;split at h <;> cases h
 rw [ht] at h
 obtain ⟨r,h1,h2,h3⟩:=mN hF h
 have:=oa ht h1 h2 hF qk (s9 h3 hw)
 rwa [List.take_append_drop] at this
end
def Found (v:Value) (es:List MapEntry) (r:Option (Nat×Value)):Prop:=(r=none∧∀ e∈es,e.key≠v)∨∃ i e,r=some (i,e.val)∧es[i]?=some e∧e.key=v
structure KeyLaw (kt:Nat) (P:Value→Prop):Prop where
 chk:∀ v,P v→∀ e w,(Instr.checkKey e 10000 kt v).run Tryd.prog w=.ok () w
 find:∀ v es,P v→(∀ e∈es,P e.key)→∀ w,∃ r,(Instr.findKey kt v es).run Tryd.prog w=.ok r w∧Found v es r
 same:∀ v,P v→Instr.sameBits 10000 v v=true
def IntKey (v:Value):Prop:=∃ a,v=.int .i64 a
theorem oe (a:Int):∀ (es:List MapEntry) (i:Nat),(∀ e∈es,IntKey e.key)→∃ r,Instr.findNow (.int .i64) (.int .i64 a) es i=some r∧((r=none∧∀ e∈es,e.key≠.int .i64 a)∨∃ j e,r=some (i+j,e.val)∧es[j]?=some e∧e.key=.int .i64 a):=by
 intro es
 induction es with
 | nil=>intro i _;exact ⟨none,rfl,.inl ⟨rfl,fun e h=>by cases h⟩⟩
 | cons e es ih =>
  intro i h
  obtain ⟨b,hb⟩:=h e (by simp)
  unfold Instr.findNow
  rw [hb]
  by_cases hab:a=b
  ·subst hab
   simp only [Instr.sameNow,if_true,beq_self_eq_true]
   exact ⟨_,rfl,.inr ⟨0,e,rfl,rfl,hb⟩⟩
  have:(a == b)=false:=by simp [hab]
  simp only [Instr.sameNow,if_true,this]
  obtain ⟨r,h1,h2⟩:=ih (i+1) (fun x hx=>h x (by simp [hx]))
  refine ⟨r,h1,?_⟩
  rcases h2 with ⟨h2,h3⟩ | ⟨j,x,h2,h3,h4⟩
  ·left
   refine ⟨h2,fun x hx=>?_⟩
   rcases List.mem_cons.1 hx with rfl | hx
   ·rw [hb];intro hh;injection hh with _ hh;exact hab hh.symm
   exact h3 x hx
  right;exact ⟨j+1,x,by rw [h2];congr 2;omega,h3,h4⟩
theorem key_int {kt:Nat} (hu:bX kt=some (.int .i64)):KeyLaw kt IntKey where
 chk:=by
  rintro v ⟨a,rfl⟩ e w
  have:∀ n,(Instr.checkKey e (n+1) kt (.int .i64 a)).run Tryd.prog w=.ok () w:=fun n=>by simp [Instr.checkKey,run_underlying (aF hu)]
  exact this 9999
 find:=by
  rintro v es ⟨a,rfl⟩ h w
  obtain ⟨r,h1,h2⟩:=oe a es 0 h
  refine ⟨r,?_,?_⟩
  ·simp [Instr.findKey,run_underlying (aF hu),h1]
  rcases h2 with h2 | ⟨j,e,h2,h3⟩
  ·exact .inl h2
  exact .inr ⟨j,e,by rw [h2,Nat.zero_add],h3⟩
 same:=by
  rintro v ⟨a,rfl⟩
  have:∀ n,Instr.sameBits (n+1) (.int .i64 a) (.int .i64 a)=true:=fun n=>by simp [Instr.sameBits]
  exact this 9999
section
variable {K V:Type} [DecidableEq K]
def bM:List (K×V)→K→Option V
 | [],_=>none
 | (a,v)::r,k=>if a=k then some v else bM r k
def ib:List (K×V)→K→V→List (K×V)
 | [],k,v=>[(k,v)]
 | (a,w)::r,k,v=>if a=k then (k,v)::r else (a,w)::ib r k v
def mO:List (K×V)→K→List (K×V)
 | [],_=>[]
 | (a,w)::r,k=>if a=k then r else (a,w)::mO r k
def mpos:List (K×V)→K→Nat
 | [],_=>0
 | (a,_)::r,k=>if a=k then 0 else mpos r k+1
def MND (xs:List (K×V)):Prop:=xs.Pairwise fun a b=>a.1≠b.1
theorem q9 {xs:List (K×V)} {k:K} (h:∀ p∈xs,p.1≠k):bM xs k=none:=by
 induction xs with
 | nil=>rfl
 | cons p r ih =>
  obtain ⟨a,v⟩:=p
  unfold bM
  rw [if_neg (h (a,v) (by simp)),ih (fun p hp=>h p (by simp [hp]))]
theorem ra {xs:List (K×V)} {k:K} (h:∀ p∈xs,p.1≠k) (v:V):ib xs k v=xs++[(k,v)]:=by
 induction xs with
 | nil=>rfl
 | cons p r ih =>
  obtain ⟨a,w⟩:=p
  unfold ib
  rw [if_neg (h (a,w) (by simp)),ih (fun p hp=>h p (by simp [hp]))];rfl
theorem ql {xs:List (K×V)} (nd:MND xs) {k:K} {v:V}:∀ {i:Nat},xs[i]?=some (k,v)→bM xs k=some v∧mpos xs k=i∧∀ u,ib xs k u=xs.set i (k,u):=by
 induction xs with
 | nil=>intro i h;simp at h
 | cons p r ih =>
  obtain ⟨a,w⟩:=p
  intro i h
  unfold MND at nd
  rw [List.pairwise_cons] at nd
  cases i with
  | zero =>
   simp only [List.getElem?_cons_zero,bE,Prod.mk.injEq] at h
   obtain ⟨rfl,rfl⟩:=h
   unfold bM mpos ib
   simp
  | succ i =>
   simp only [List.getElem?_cons_succ] at h
   have hne:a≠k:=nd.1 (k,v) (List.mem_of_getElem? h)
   obtain ⟨h1,h2,h3⟩:=ih nd.2 h
   unfold bM mpos ib
   rw [if_neg hne,if_neg hne]
   refine ⟨h1,by rw [h2],fun u=>?_⟩
   rw [if_neg hne,h3];rfl
def ba (ek:K→Value) (ev:V→PV) (xs:List (K×V)):List (Value×PV):=xs.map fun p=>(ek p.1,ev p.2)
structure KEnc (kt:Nat) (ek:K→Value):Prop where
 law:∃ P,KeyLaw kt P∧∀ a,P (ek a)
 inj:∀ a b,ek a=ek b→a=b
end
section
variable {κ:Kr}
theorem KVs.get:∀ {kvs:List (Value×PV)} {es:List MapEntry} {i:Nat} {e:MapEntry},KVs κ kvs es→es[i]?=some e→∃ p,kvs[i]?=some (e.key,p)∧Rp κ p e.val
 | _,_,0,_,.cons h _,g=>by simp only [List.getElem?_cons_zero,bE] at g;subst g;exact ⟨_,rfl,h⟩
 | _,_,i+1,_,.cons _ hs,g=>by simp only [List.getElem?_cons_succ] at g ⊢;exact hs.get g
theorem KVs.get':∀ {kvs:List (Value×PV)} {es:List MapEntry} {i:Nat} {k:Value} {p:PV},KVs κ kvs es→kvs[i]?=some (k,p)→∃ e,es[i]?=some e∧e.key=k∧Rp κ p e.val
 | _,_,0,_,_,.cons h _,g=>by simp only [List.getElem?_cons_zero,bE,Prod.mk.injEq] at g;obtain ⟨rfl,rfl⟩:=g;exact ⟨_,rfl,rfl,h⟩
 | _,_,i+1,_,_,.cons _ hs,g=>by simp only [List.getElem?_cons_succ] at g ⊢;exact hs.get' g
theorem KVs.keys:∀ {kvs:List (Value×PV)} {es:List MapEntry},KVs κ kvs es→kvs.map (·.1)=es.map (·.key)
 | _,_,.nil=>rfl
 | _,_,.cons _ hs=>by simp [hs.keys]
theorem KVs.app:∀ {ps qs:List (Value×PV)} {es fs:List MapEntry},KVs κ ps es→KVs κ qs fs→KVs κ (ps++qs) (es++fs)
 | _,_,_,_,.nil,h=>h
 | _,_,_,_,.cons h hs,g=>.cons h (hs.app g)
theorem KVs.set:∀ {kvs:List (Value×PV)} {es:List MapEntry} {i:Nat} {e e':MapEntry} {p:PV},KVs κ kvs es→es[i]?=some e→e'.key=e.key→Rp κ p e'.val→KVs κ (kvs.set i (e.key,p)) (es.set i e')
 | _,_,0,_,_,_,.cons h hs,g,hk,hp=>by simp only [List.getElem?_cons_zero,bE] at g;subst g;rw [← hk];exact .cons hp hs
 | _,_,i+1,_,_,_,.cons h hs,g,hk,hp=>by simp only [List.getElem?_cons_succ] at g;exact .cons h (hs.set g hk hp)
theorem pm {α:Type} {R:α→α→Prop}:∀ {l:List α} {i:Nat} {a a':α},l.Pairwise R→l[i]?=some a→(∀ x,R x a→R x a')→(∀ x,R a x→R a' x)→(l.set i a').Pairwise R
 | _::l,0,a,a',h,g,h1,h2=>by
  simp only [List.getElem?_cons_zero,bE] at g;subst g
  rw [List.pairwise_cons] at h
  exact List.pairwise_cons.2 ⟨fun x hx=>h2 x (h.1 x hx),h.2⟩
 | b::l,i+1,a,a',h,g,h1,h2=>by
  simp only [List.getElem?_cons_succ] at g
  rw [List.pairwise_cons] at h
  refine List.pairwise_cons.2 ⟨fun x hx=>?_,pm h.2 g h1 h2⟩
  rcases List.mem_or_eq_of_mem_set hx with hx | rfl
  ·exact h.1 x hx
  exact h1 b (h.1 a (List.mem_of_getElem? g))
theorem MapWf.set {es:List MapEntry} {clock i:Nat} {e e':MapEntry} (h:MapWf es clock) (g:es[i]?=some e) (hk:e'.key=e.key) (hb:e'.born=e.born):MapWf (es.set i e') clock where
 nd:=pm h.nd g (fun x hx=>by rw [hk];exact hx) (fun x hx=>by rw [hk];exact hx)
 bn:=pm h.bn g (fun x hx=>by rw [hb];exact hx) (fun x hx=>by rw [hb];exact hx)
 lt:=fun x hx=>by
  rcases List.mem_or_eq_of_mem_set hx with hx | rfl
  ·exact h.lt x hx
  rw [hb];exact h.lt e (List.mem_of_getElem? g)
theorem MapWf.push {es:List MapEntry} {clock:Nat} (h:MapWf es clock) {k v:Value} (hk:∀ e∈es,e.key≠k):MapWf (es++[⟨k,v,clock⟩]) (clock+1) where
 nd:=List.pairwise_append.2 ⟨h.nd,by simp,fun a ha b hb=>by simp at hb;subst hb;exact hk a ha⟩
 bn:=List.pairwise_append.2 ⟨h.bn,by simp,fun a ha b hb=>by simp at hb;subst hb;have:=h.lt a ha;show a.born≠clock;omega⟩
 lt:=fun x hx=>by
  rcases List.mem_append.1 hx with hx | hx
  ·have:=h.lt x hx;omega
  simp at hx;subst hx;show clock<clock+1;omega
end
section
variable {K V:Type} {ek:K→Value} {ev:V→PV} {xs:List (K×V)} {κ:Kr} {es:List MapEntry} {clock kt:Nat}
theorem og {i:Nat} {k':Value} {p:PV} (h:(ba ek ev xs)[i]?=some (k',p)):∃ k v,xs[i]?=some (k,v)∧k'=ek k∧p=ev v:=by
 unfold ba at h
 rw [List.getElem?_map] at h
 cases e:xs[i]? with
 | none=>rw [e] at h;cases h
 | some q=>rw [e] at h;simp only [Option.map_some,bE,Prod.mk.injEq] at h;exact ⟨q.1,q.2,rfl,h.1.symm,h.2.symm⟩
theorem mP (h:KVs κ (ba ek ev xs) es) (hw:MapWf es clock):MND xs:=by
 have h1:(es.map (·.key)).Pairwise (· ≠ ·):=List.pairwise_map.2 hw.nd
 rw [← h.keys,ba,List.map_map,List.pairwise_map] at h1
 exact h1.imp fun hab e=>hab (by simp [e])
theorem mQ {P:Value→Prop} (hP:∀ a,P (ek a)) (h:KVs κ (ba ek ev xs) es):∀ e∈es,P e.key:=by
 intro e he
 obtain ⟨i,hi,rfl⟩:=List.getElem_of_mem he
 obtain ⟨p,h1,_⟩:=h.get (List.getElem?_eq_getElem hi)
 obtain ⟨k,v,_,h2,_⟩:=og h1
 rw [h2];exact hP k
theorem gj (hinj:∀ a b,ek a=ek b→a=b) (h:KVs κ (ba ek ev xs) es) (hw:MapWf es clock) {k:K} {r:Option (Nat×Value)} (hf:Found (ek k) es r):(r=none∧(∀ p∈xs,p.1≠k)∧∀ e∈es,e.key≠ek k)∨∃ i e v,r=some (i,e.val)∧es[i]?=some e∧e.key=ek k∧xs[i]?=some (k,v)∧Rp κ (ev v) e.val:=by
 rcases hf with ⟨h1,h2⟩ | ⟨i,e,h1,h2,h3⟩
 ·left
  refine ⟨h1,fun p hp hpk=>?_,h2⟩
  obtain ⟨i,hi,rfl⟩:=List.getElem_of_mem hp
  have:(ba ek ev xs)[i]?=some (ek k,ev xs[i].2):=by unfold ba;rw [List.getElem?_map,List.getElem?_eq_getElem hi];simp [hpk]
  obtain ⟨e,g1,g2,_⟩:=h.get' this
  exact h2 e (List.mem_of_getElem? g1) g2
 right
 obtain ⟨p,g1,g2⟩:=h.get h2
 obtain ⟨k',v,g3,g4,g5⟩:=og g1
 have:k'=k:=hinj _ _ (g4.symm.trans h3)
 subst this
 exact ⟨i,e,v,h1,h2,h3,g3,by rw [← g5];exact g2⟩
end
section
variable {κ:Kr} {σ:Env} {ρ:List Res} {o:Oper} {K:Value→List Res→Kr→Prop}
theorem pn {t:Nat} (ho:o.op=.makeMap t none) (h:∀ b κ',Kle κ κ'→K (.map (some b)) (Res.mp (some b) [] 0::ρ) κ'):OpL o σ ρ κ K:=fun β hi Nx hk=>by
 unfold execOp
 simp only [ho,Option.map_none,Instr.makeMap,Sem.run_bind,run_newObj_alloc,Result.andThen_ok,Sem.run_pure,OutV]
 exact hk _ _ _ (hi.alloc _ (Res.mp (some κ.w.heap.size) [] 0) rfl rfl) (bO hi.fin _) (h _ _ (bO hi.fin _))
end
theorem gm {b clock:Nat} {es:Array MapEntry} {w:World} (hb:w.heap[b]?=some (.map es clock)):(getObj b).run Tryd.prog w=.ok (.map es clock) w:=by simp [getObj,Sem.run,hb]
theorem i4 {b clock:Nat} {es:Array MapEntry} {w:World} (o:Obj) (hb:w.heap[b]?=some (.map es clock)):(setObj b o).run Tryd.prog w=.ok () { w with heap:=w.heap.setIfInBounds b o }:=by simp [setObj,Sem.run,hb]
theorem lP {α:Type} {f:α→α}:∀ {l:List α} {i:Nat} {e:α},l[i]?=some e→l.modify i f=l.set i (f e)
 | _::_,0,_,h=>by simp only [List.getElem?_cons_zero,bE] at h;subst h;rfl
 | _::l,i+1,_,h=>by simp only [List.getElem?_cons_succ] at h;simp [lP h]
theorem po {t kt et b clock:Nat} {z v:Value} {sz by':Nat} {P:Value→Prop} (ht:bX t=some (.map kt et)) (hz:cK et=some (z,sz,by')) (L:KeyLaw kt P) (hv:P v) {es:List MapEntry} (hes:∀ e∈es,P e.key) {w:World} (hb:w.heap[b]?=some (.map es.toArray clock)) (c:Bool):∃ r,Found v es r∧(Instr.lookup t (.map (some b)) v c).run Tryd.prog w=.ok (if c then .tuple #[(r.map (·.2)).getD z,.bool r.isSome] else (r.map (·.2)).getD z) w:=by
 obtain ⟨r,h1,h2⟩:=L.find v es hv hes w
 refine ⟨r,h2,?_⟩
 simp only [Instr.lookup,Sem.run_bind,run_underlying (aF ht),Result.andThen_ok,gm hb,Sem.run_pure,L.chk v hv,h1]
 cases r with
 | none=>simp [cb hz]
 | some q=>simp
theorem kR {t kt et:Nat} {z v:Value} {sz by':Nat} {P:Value→Prop} (ht:bX t=some (.map kt et)) (hz:cK et=some (z,sz,by')) (L:KeyLaw kt P) (hv:P v) {w:World} (c:Bool):(Instr.lookup t (.map none) v c).run Tryd.prog w=.ok (if c then .tuple #[z,.bool false] else z) w:=by
 obtain ⟨r,h1,h2⟩:=L.find v [] hv (fun e h=>by cases h) w
 have hr:r=none:=by
  rcases h2 with h2 | ⟨i,e,_,h2,_⟩
  ·exact h2.1
  simp at h2
 subst hr
 simp [Instr.lookup,run_underlying (aF ht),L.chk v hv,h1,cb hz]
theorem ln {t kt et b clock:Nat} {v u:Value} {P:Value→Prop} (ht:bX t=some (.map kt et)) (L:KeyLaw kt P) (hv:P v) {es:List MapEntry} (hes:∀ e∈es,P e.key) {w:World} (hb:w.heap[b]?=some (.map es.toArray clock)):∃ r es' clock',Found v es r∧(Instr.mapUpdate t (.map (some b)) v u).run Tryd.prog w=.ok () { w with heap:=w.heap.setIfInBounds b (.map es'.toArray clock') }∧((r=none∧es'=es++[⟨v,u,clock⟩]∧clock'=clock+1)∨∃ i e,es[i]?=some e∧e.key=v∧r=some (i,e.val)∧es'=es.set i ⟨v,u,e.born⟩∧clock'=clock):=by
 obtain ⟨r,h1,h2⟩:=L.find v es hv hes w
 have h2':=h2
 rcases h2 with ⟨rfl,h3⟩ | ⟨i,e,rfl,h3,h4⟩
 ·refine ⟨none,es++[⟨v,u,clock⟩],clock+1,h2',?_,.inl ⟨rfl,rfl,rfl⟩⟩
  simp only [Instr.mapUpdate,Sem.run_bind,run_underlying (aF ht),Result.andThen_ok,gm hb,L.chk v hv,h1,i4 _ hb]
  simp
 refine ⟨some (i,e.val),es.set i ⟨v,u,e.born⟩,clock,h2',?_,.inr ⟨i,e,h3,h4,rfl,rfl,rfl⟩⟩
 have hk:((es.toArray[i]?).map (·.key)).getD v=v:=by simp [h3,h4]
 have hst:(Instr.keyThatStays v v).run Tryd.prog w=.ok v w:=by simp [Instr.keyThatStays,L.same v hv]
 have hm:es.toArray.modify i (fun x=>({ x with key:=v,val:=u }:MapEntry))=(es.set i ⟨v,u,e.born⟩).toArray:=by
  apply Array.ext'
  simp only [Array.toList_modify]
  rw [lP h3]
 simp only [Instr.mapUpdate,Sem.run_bind,run_underlying (aF ht),Result.andThen_ok,gm hb,L.chk v hv,h1,hk,hst,hm,i4 _ hb]
section
variable {K V:Type} [DecidableEq K] {ek:K→Value} {vv:V→PV} {xs:List (K×V)} {κ:Kr} {es:List MapEntry} {clock kt:Nat}
theorem tc {es':List MapEntry} {clock':Nat} {k:K} {v:V} {u:Value} {r:Option (Nat×Value)} (hinj:∀ a b,ek a=ek b→a=b) (hw:MapWf es clock) (h:KVs κ (ba ek vv xs) es) (hf:Found (ek k) es r) (hv:Rp κ (vv v) u)
    (hc:(r=none∧es'=es++[⟨ek k,u,clock⟩]∧clock'=clock+1)∨∃ i e,es[i]?=some e∧e.key=ek k∧r=some (i,e.val)∧es'=es.set i ⟨ek k,u,e.born⟩∧clock'=clock):MapWf es' clock'∧KVs κ (ba ek vv (ib xs k v)) es':=by
  rcases hc with ⟨rfl,rfl,rfl⟩ | ⟨i,e,h1,h2,rfl,rfl,rfl⟩
  · rcases gj hinj h hw hf with ⟨_,h3,h4⟩ | ⟨i,e,v,h3,_⟩
    · refine ⟨hw.push h4,?_⟩
      rw [ra h3,ba,List.map_append]
      exact h.app (.cons (e:=⟨ek k,u,clock⟩) hv .nil)
    cases h3
  rcases gj hinj h hw hf with ⟨h3,_⟩ | ⟨i',e',v',h3,h4,h5,h6,h7⟩
  · cases h3
  have hi:i'=i:=by injection h3 with h3;injection h3 with h3 _;exact h3.symm
  subst hi
  refine ⟨hw.set h1 h2.symm rfl,?_⟩
  rw [(ql (mP h hw) h6).2.2 v,ba,List.map_set]
  have:=h.set h1 (e':=⟨ek k,u,e.born⟩) h2.symm hv
  rw [h2] at this
  exact this
theorem td {k:K} {z0:V} {z:Value} {r:Option (Nat×Value)} (hinj:∀ a b,ek a=ek b→a=b) (hw:MapWf es clock) (h:KVs κ (ba ek vv xs) es) (hf:Found (ek k) es r) (hz:Rp κ (vv z0) z):Rp κ (vv ((bM xs k).getD z0)) ((r.map (·.2)).getD z)∧r.isSome=(bM xs k).isSome:=by
 rcases gj hinj h hw hf with ⟨rfl,h3,h4⟩ | ⟨i,e,v,rfl,h4,h5,h6,h7⟩
 ·rw [q9 h3];exact ⟨hz,rfl⟩
 rw [(ql (mP h hw) h6).1];exact ⟨h7,rfl⟩
end
theorem jK {w:World} {b i:Nat} {o:Obj} (h:i≠b):({ w with heap:=w.heap.setIfInBounds b o }:World).heap[i]?=w.heap[i]?:=by
 show (w.heap.setIfInBounds b o)[i]?=_
 rw [Array.getElem?_setIfInBounds_ne (fun e=>h e.symm)]
theorem jL {w:World} {b:Nat} {o o':Obj} (h:w.heap[b]?=some o'):({ w with heap:=w.heap.setIfInBounds b o }:World).heap[b]?=some o:=by
 show (w.heap.setIfInBounds b o)[b]?=_
 have:b<w.heap.size:=by
  rcases Nat.lt_or_ge b w.heap.size with h1 | h1
  ·exact h1
  rw [Array.getElem?_eq_none h1] at h;cases h
 rw [Array.getElem?_setIfInBounds_self_of_lt this]
theorem Zd.mapTurn {β:Base} {l1 l2:List Res} {κ:Kr} {b clock clock':Nat} {es es':List MapEntry} (h:Zd β (l1++Res.mp (some b) es clock::l2) κ):Zd β (l1++Res.mp (some b) es' clock'::l2) ⟨{ κ.w with heap:=κ.w.heap.setIfInBounds b (.map es'.toArray clock') },κ.S⟩∧Kle κ ⟨{ κ.w with heap:=κ.w.heap.setIfInBounds b (.map es'.toArray clock') },κ.S⟩:=by
 have hb:κ.w.heap[b]?=some (.map es.toArray clock):=h.own (Res.mp (some b) es clock) (by simp)
 exact h.turn (r:=Res.mp (some b) es clock) (r':=Res.mp (some b) es' clock') (b:=b) rfl rfl rfl (fun i hi=>jK hi) (by simp) (jL hb) rfl rfl rfl (Nat.le_refl _)
section
variable {K V:Type} [DecidableEq K] {ek:K→Value} {vv:V→PV} {xs:List (K×V)} {o:Oper} {σ:PEnv} {ρ ρ':List PRes} {c:Bool} {x y y2:Operand} {t kt et:Nat} {KK:PV→List PRes→Prop} {k:K} {v z0:V} {z:Value} {sz by' b:Nat} {pk:PV} {mo:Option Nat}
theorem pq (ho:o.op=.makeMap t none) (h:∀ b,KK (.v (.map (some b))) (.mp (some b) []::ρ)):POpL o σ ρ KK:=fun κ σ' ρ' g hs hr =>
 pn ho fun b κ' hk=>⟨_,_,.v rfl,.cons (.mp (fun h=>by cases h) ⟨.nil,.nil,fun e h=>by cases h⟩ .nil) (hr.mono hk),h b⟩
def MapIs (ρ:List PRes) (mo:Option Nat) (kvs:List (Value×PV)):Prop:=∀ κ rs,RRels κ ρ rs→∃ es clock,Res.mp mo es clock∈rs∧(mo=none→es=[])∧MapWf es clock∧KVs κ kvs es
theorem dv {kvs:List (Value×PV)} (h:PRes.mp mo kvs∈ρ):MapIs ρ mo kvs:=fun κ rs hr=>by
 obtain ⟨r,h1,h2⟩:=hr.mem h
 cases h2 with
 | mp hn hw hk=>exact ⟨_,_,h1,hn,hw,hk⟩
theorem pr {es:List MapEntry} {clock:Nat} (hw:MapWf es clock) {u:Value} {r r':Option (Nat×Value)} (h:Found u es r) (h':Found u es r'):r=r':=by
 rcases h with ⟨rfl,h1⟩ | ⟨i,e,rfl,h1,h2⟩ <;> rcases h' with ⟨rfl,h3⟩ | ⟨j,f,rfl,h3,h4⟩
 ·rfl
 ·exact absurd h4 (h1 f (List.mem_of_getElem? h3))
 ·exact absurd h2 (h3 e (List.mem_of_getElem? h1))
 have hij:i=j:=by
  obtain ⟨li,ei⟩:=List.getElem?_eq_some_iff.1 h1
  obtain ⟨lj,ej⟩:=List.getElem?_eq_some_iff.1 h3
  have pw:=List.pairwise_iff_getElem.1 hw.nd
  rcases Nat.lt_trichotomy i j with h | h | h
  ·exact absurd (by rw [ei,ej,h2,h4]) (pw i j li lj h)
  ·exact h
  exact absurd (by rw [ei,ej,h2,h4]) (pw j i lj li h)
 subst hij
 rw [h1] at h3;injection h3 with h3;rw [h3]
theorem te (cm:Bool) (ho:o.op=.lookup t x y cm) (ht:bX t=some (.map kt et)) (hz:cK et=some (z,sz,by')) (hzp:∀ κ,Rp κ (vv z0) z) (L:KEnc kt ek) (hx:PEv σ c x (.v (.map mo))) (hy:PEv σ c y pk) (hk:∀ κ u,Rp κ pk u→u=ek k) (hm:MapIs ρ mo (ba ek vv xs)) {κ:Kr} {σ':Env} {ρ':List Res} (hs:Sim κ σ σ') (hr:RRels κ ρ ρ'):c=true→∃ u,Rp κ (vv ((bM xs k).getD z0)) u∧∀ w,Stab ρ' κ w→(execOp (SX.ev σ') o).run Tryd.prog w=.ok (.value (if cm then .tuple #[u,.bool (bM xs k).isSome] else u)) w:=by
 intro hc
 obtain ⟨P,hL,hP⟩:=L.law
 have e1:SX.ev σ' x=.map mo:=hs.ve hx hc
 have e2:SX.ev σ' y=ek k:=hk κ _ (hs.pe hy hc)
 obtain ⟨es,clock,h1,hn,h2,h3⟩:=hm κ ρ' hr
 obtain ⟨r,g1,g2⟩:=hL.find (ek k) es (hP k) (mQ hP h3) κ.w
 obtain ⟨l1,l2⟩:=td L.inj h2 h3 g2 (hzp κ)
 refine ⟨_,l1,fun w hw=>?_⟩
 cases mo with
 | none =>
  have:=hn rfl;subst this
  have hr0:r=none:=by
   rcases g2 with g2 | ⟨i,e,_,g2,_⟩
   ·exact g2.1
   simp at g2
  subst hr0
  rw [← l2]
  simp only [execOp,ho,e1,e2,Sem.run_bind,kR ht hz hL (hP k) cm,Result.andThen_ok,Sem.run_pure]
  rfl
 | some b =>
  have hb:w.heap[b]?=some (.map es.toArray clock):=hw.own _ h1
  obtain ⟨r',f1,f2⟩:=po ht hz hL (hP k) (mQ hP h3) hb cm
  have:=pr h2 f1 g2;subst this
  rw [← l2]
  simp only [execOp,ho,e1,e2,Sem.run_bind,f2,Result.andThen_ok,Sem.run_pure]
theorem ew (ho:o.op=.lookup t x y false) (ht:bX t=some (.map kt et)) (hz:cK et=some (z,sz,by')) (hzp:∀ κ,Rp κ (vv z0) z) (L:KEnc kt ek) (hx:PEv σ c x (.v (.map mo))) (hy:PEv σ c y pk) (hk:∀ κ u,Rp κ pk u→u=ek k) (hm:MapIs ρ mo (ba ek vv xs)):POpQ c o σ ρ (vv ((bM xs k).getD z0)):=fun κ σ' ρ' g hs hr=>by
 cases c with
 | false=>exact oF
 | true =>
  obtain ⟨u,h1,h2⟩:=te false ho ht hz hzp L hx hy hk hm hs hr rfl
  exact ⟨u,fun _=>h1,fun _ w hw=>h2 w hw⟩
theorem jM (ho:o.op=.lookup t x y true) (ht:bX t=some (.map kt et)) (hz:cK et=some (z,sz,by')) (hzp:∀ κ,Rp κ (vv z0) z) (L:KEnc kt ek) (hx:PEv σ c x (.v (.map mo))) (hy:PEv σ c y pk) (hk:∀ κ u,Rp κ pk u→u=ek k) (hm:MapIs ρ mo (ba ek vv xs)):POpQ c o σ ρ (.tup [vv ((bM xs k).getD z0),.v (.bool (bM xs k).isSome)]):=fun κ σ' ρ' g hs hr=>by
 cases c with
 | false=>exact oF
 | true =>
  obtain ⟨u,h1,h2⟩:=te true ho ht hz hzp L hx hy hk hm hs hr rfl
  exact ⟨_,fun _=>.tup (ws:=[u,.bool (bM xs k).isSome]) (.cons h1 (.cons (.v rfl) .nil)),fun _ w hw=>h2 w hw⟩
theorem fc (ho:o.op=.mapUpdate t x y y2) (ht:bX t=some (.map kt et)) (L:KEnc kt ek) (hx:aB σ x=.v (.map (some b))) (hy:aB σ y=pk) (hk:∀ κ u,Rp κ pk u→u=ek k) (hv:aB σ y2=vv v) (hu:PUpd ρ (.mp (some b) (ba ek vv xs)) (.mp (some b) (ba ek vv (ib xs k v))) ρ') (h:KK (.v undef) ρ'):POpL o σ ρ KK:=fun κ σ' rr g hs hr=>by
 obtain ⟨P,hL,hP⟩:=L.law
 obtain ⟨r0,l1,l2,rfl,h4,h5⟩:=hr.upd hu
 cases h4 with
 | mp hn hw hkv =>
  rename_i es clock
  intro β hi Nx hnx
  have hb:κ.w.heap[b]?=some (.map es.toArray clock):=hi.own (Res.mp (some b) es clock) (by simp)
  have e1:SX.ev σ' x=.map (some b):=hs.v1 hx
  have e2:SX.ev σ' y=ek k:=hk κ _ (by have:=hs.ev y;rwa [hy] at this)
  have rv:Rp κ (vv v) (SX.ev σ' y2):=by have:=hs.ev y2;rwa [hv] at this
  obtain ⟨r,es',clock',f1,f2,f3⟩:=ln (u:=SX.ev σ' y2) ht hL (hP k) (mQ hP hkv) hb
  obtain ⟨w1,w2⟩:=tc (v:=v) L.inj hw hkv f1 rv f3
  obtain ⟨i1,i2⟩:=hi.mapTurn (es':=es') (clock':=clock')
  simp only [execOp,ho,e1,e2,Sem.run_bind,f2,Result.andThen_ok,Sem.run_pure,OutV]
  exact hnx _ _ _ i1 i2 ⟨.v undef,ρ',.v rfl,h5 _ _ i2 (.mp (fun h=>by cases h) w1 (w2.mono i2)),h⟩
end
def kI (a:Int):Value:=.int .i64 a
def vI (a:Int):PV:=.v (.int .i64 a)
def vT (a:Bool):PV:=.v (.bool a)
def vL {α:Type} (e:α→List PV) (xs:List α):PV:=.slc xs.length (xs.map e)
theorem fL {kt:Nat} (hu:bX kt=some (.int .i64)):KEnc kt kI:=⟨⟨IntKey,key_int hu,fun a=>⟨a,rfl⟩⟩,fun a b h=>by injection h⟩
theorem dU {a:Int}:∀ (κ:Kr) (u:Value),Rp κ (.v (.int .i64 a)) u→u=kI a:=fun _ _ h=>h.val
theorem fM {K V:Type} {o:Oper} {σ:PEnv} {ρ:List PRes} {t:Nat} {KK:PV→List PRes→Prop} (ek:K→Value) (vv:V→PV) (ho:o.op=.makeMap t none) (h:∀ b,KK (.v (.map (some b))) (.mp (some b) (ba ek vv [])::ρ)):POpL o σ ρ KK:=pq ho h
theorem wl_gT {β:Base} {n:Nat} {ops:Array Oper} {o:Oper} {rest:List Oper} {K:Post} {σ:Env} {ρ:List Res} {κ:Kr} {d:Nat} (hg:GuardIs ops σ o true) (hd':o.dst=some d) (hlt:Nat.blt d n=true) (h:OpL o σ ρ κ fun v ρ' κ'=>WL β n ops rest K (upd σ d v) ρ' κ'):WL β n ops (o::rest) K σ ρ κ:=fun hi df a hr Q hk=>by
 simp only [← cu hd'] at h
 have hd:=cQ hd' hlt
 unfold wpList
 rw [dz hr,hg]
 exact .inl (ef hr.eval (h β hi (fun v w=>wpList Tryd.prog ops Q rest (a.put o.dst v) w) fun v ρ' κ' hi' hle hw=>hw hi' _ (hr.put hd v) Q fun a' σ' ρ'' κ'' h1 h2 h3 h4=>hk a' σ' ρ'' κ'' h1 h2 (hle.trans h3) h4) fun _ _ h=>h)
section
variable {n:Nat} {ops:Array Oper} {o:Oper} {rest:List Oper} {K:PPost} {σ:PEnv} {ρ:List PRes} {d:Nat}
theorem tf (hg:PGuardIs ops σ o true) (hd:o.dst=some d) (hlt:Nat.blt d n=true) (h:POpL o σ ρ fun p ρ'=>PWL n ops rest K (cC σ d p) ρ'):PWL n ops (o::rest) K σ ρ:=fun β κ σ' ρ' g hs hr =>
 wl_gT (hg κ σ' hs) hd hlt ((h κ σ' ρ' g hs hr).mono fun v ρ1 κ1 hk ⟨pv,ρp,h1,h2,h3⟩=>h3 β κ1 _ _ (g.mono hk) ((hs.mono hk).upd h1) h2)
theorem tg {p:PV} (hg:PGuardIs ops σ o false) (hd:o.dst=some d) (hlt:Nat.blt d n=true) (h:PWL n ops rest K (cC σ d (pgv false p)) ρ):PWL n ops (o::rest) K σ ρ :=
 dS (p:=p) hg hd hlt (fun κ σ' ρ' g hs hr=>oF) h
theorem th {ρ':List PRes} (hp:ρ.Perm ρ') (h:PWL n ops rest K σ ρ'):PWL n ops rest K σ ρ:=fun β κ σ' r g hs hr=>by
 obtain ⟨rs',h1,h2⟩:=hr.perm hp
 exact fun hi=>h β κ σ' rs' g hs h2 (hi.perm h1)
theorem pt {c:Bool} {f:Nat} {ags:List Operand} {ts:Array Nat} {pargs:List PV} {r:PV} {r0 r1:PRes} {l0:List PRes} (hg:PGuardIs ops σ o c) (hd:o.dst=some d) (hlt:Nat.blt d n=true) (ho:o.op=.call { callee:=.value (.func f),args:=ags.toArray,argTypes:=ts }) (hp:PPick ρ r0 l0) (ha:c=true→ags.map (aB σ)=pargs) (hc:c=true→PCall f pargs [r0] (fun pv ρ'=>pv=r∧ρ'=[r1])) (hn:c=false→r1=r0) (hw:PWL n ops rest K (cC σ d (pgv c r)) (r1::l0)):PWL n ops (o::rest) K σ ρ:=by
 cases c with
 | true =>
  refine tf hg hd hlt (bo ho (ha rfl) (ρ1:=[r0]) (ρ2:=l0) hp (hc rfl) ?_)
  rintro _ _ ⟨rfl,rfl⟩
  rw [eM] at hw;exact hw
 | false =>
  have:=hn rfl;subst this
  exact tg (p:=r) hg hd hlt (th hp hw)
end
def gdp {α β:Type} [Inhabited α] (c:Bool) (x:Option (α×β)) (m:β):Option (α×β):=cond c x (some (default,m))
theorem gdp_t {α β:Type} [Inhabited α] {c:Bool} {x:Option (α×β)} {m:β} {v:α×β} (h:gdp c x m=some v) (hc:c=true):x=some v:=by subst hc;exact h
theorem gdp_f {α β:Type} [Inhabited α] {c:Bool} {x:Option (α×β)} {m:β} {v:α×β} (h:gdp c x m=some v) (hc:c=false):v.2=m:=by subst hc;simp only [gdp,fm,bE] at h;rw [← h]
theorem ti {a:Option Addr} {n c T sz k:Nat} {css:List (List Value)} (hk:k≤n):∀ o,(Res.row a n c T sz css).says o→(Res.row a k c T sz (css.take k)).says o:=fun o h=>by
 cases a with
 | none=>obtain ⟨rfl,rfl,rfl⟩:=h;exact ⟨by omega,rfl,by simp⟩
 | some ad =>
  obtain ⟨h1,h2,h3,h4,h5,cur,h6,h7,h8⟩:=h
  refine ⟨h1,by rw [List.length_take];omega,fun cs hcs=>h3 cs (List.mem_of_mem_take hcs),by omega,h5,cur,h6,h7,?_⟩
  have hle:k*sz≤n*sz:=Nat.mul_le_mul_right _ hk
  have e:cur.toList.take (k*sz)=(css.flatten).take (k*sz):=by rw [← h8,List.take_take,Nat.min_eq_left hle]
  rw [e]
  have hw:∀ cs∈css.take k,cs.length=sz:=fun cs hcs=>h3 cs (List.mem_of_mem_take hcs)
  have hl:((css.take k).flatten).length=k*sz:=by rw [cM hw,List.length_take];congr 1;omega
  have hsplit:css.flatten=(css.take k).flatten++(css.drop k).flatten:=by rw [← List.flatten_append,List.take_append_drop]
  rw [hsplit,List.take_append_of_le_length (by omega),List.take_of_length_le (by omega)]
theorem row_blk {a:Option Addr} {n c T sz k:Nat} {css dss:List (List Value)}:(Res.row a k c T sz dss).blk=(Res.row a n c T sz css).blk:=by cases a <;> rfl
theorem rb {o:Oper} {σ:PEnv} {ρ l:List PRes} {x y:Operand} {t T T2 sz by' n c:Nat} {a:Option Addr} {kd:IntKind} {i:Int} {z:Value} {K:PV→List PRes→Prop} {α:Type} {enc:α→List PV} {xs zs:List α} (ho:o.op=.slice t x none (some y) none) (hu:bX t=some (.slice T)) (hi:cK T=some (z,sz,by')) (hx:aB σ x=.v (.slice a n c)) (hy:aB σ y=.v (.int kd i)) (hp:PPick ρ (.row a n c T2 sz (xs.map enc)) l) (hm:sub xs 0 i=some zs) (h:K (.v (.slice a zs.length c)) (.row a zs.length c T2 sz (zs.map enc)::l)):POpL o σ ρ K:=fun κ σ' ρ' g hs hr β hinv Nx hk=>by
 obtain ⟨⟨h0,h1,h2⟩,hz⟩:=iX hm
 have hz:zs=xs.take i.toNat:=by rw [hz];rfl
 obtain ⟨r,l',k1,k2,k3⟩:=hr.pick hp
 cases k2 with
 | row hb ho1 hc =>
  rename_i dss
  have hi2:=hinv.perm k1
  have hown:=eJ (hi2.own (Res.row a n c T2 sz dss) (by simp))
  have hl:xs.length=n:=by have e:=hc.len;rw [List.length_map] at e;omega
  have hcap:n≤c:=by
   have hh:=hi2.own (Res.row a n c T2 sz dss) (by simp)
   cases a with
   | none=>obtain ⟨e1,e2,_⟩:=hh;omega
   | some ad=>exact hh.2.2.2.1
  have hq:OpQ true o σ' ρ' κ (.slice a i.toNat c):=kC (c:=true) (k:=i.toNat) ho hu hi (.p (hs.v1 hx)) (.p (hs.v1 hy)) (fun _=>by omega) (fun _=>by omega)
  have hzl:zs.length=i.toNat:=by rw [hz,List.length_take];omega
  have hv:=hinv.view (r':=Res.row a i.toNat c T2 sz (dss.take i.toNat)) k1 row_blk (ti (by omega))
  rw [hq rfl κ.w hinv.stab]
  refine hk _ (Res.row a i.toNat c T2 sz (dss.take i.toNat)::l') κ hv (.refl _) ⟨.v (.slice a zs.length c),.row a zs.length c T2 sz (zs.map enc)::l,by rw [hzl];exact .v rfl,.cons ?_ k3,h⟩
  rw [hzl]
  refine .row (by omega) (fun d hd=>ho1 d (List.mem_of_mem_take hd)) ?_
  rw [hz,List.map_take]
  exact hc.take _
section
variable {o:Oper} {σ:PEnv} {ρ ρ':List PRes} {x y:Operand} {t T T2 sz by' n c:Nat} {a:Option Addr} {kd:IntKind} {i j:Int} {z:Value} {α:Type} {enc:α→List PV} {xs zs:List α} {m:α} {K:PV→List PRes→Prop}
end
section
variable {α:Type} (lt:α→α→Bool)
def ins (x:α):List α→List α
 | []=>[x]
 | y::l=>cond (lt y x) (y::ins x l) (x::y::l)
def oh:List α→List α
 | []=>[]
 | x::l=>ins lt x (oh l)
variable {lt}
theorem kS {x:α}:∀ {l:List α},(ins lt x l).Perm (x::l)
 | []=>List.Perm.refl _
 | y::l=>by
  unfold ins
  cases lt y x
  ·exact List.Perm.refl _
  exact (List.Perm.cons y kS).trans (List.Perm.swap x y l)
theorem iE:∀ {l:List α},(oh lt l).Perm l
 | []=>List.Perm.refl _
 | x::l=>kS.trans (List.Perm.cons x iE)
theorem kT (htr:∀ x y z,lt x y=true→lt y z=true→lt x z=true) (hnt:∀ x y z,lt x y=false→lt y z=false→lt x z=false) (hir:∀ x,lt x x=false) {x:α}:∀ {l:List α},l.Pairwise (fun a b=>lt b a=false)→(ins lt x l).Pairwise (fun a b=>lt b a=false)
 | [],_=>List.pairwise_singleton _ _
 | y::l,h=>by
  unfold ins
  obtain ⟨h1,h2⟩:=List.pairwise_cons.1 h
  have asym:∀ a b,lt a b=true→lt b a=false:=fun a b hab=>by
   cases hba:lt b a
   ·rfl
   have:=htr a b a hab hba;rw [hir] at this;cases this
  cases hy:lt y x
  ·refine List.pairwise_cons.2 ⟨fun z hz=>?_,h⟩
   rcases List.mem_cons.1 hz with rfl | hz
   ·exact hy
   exact hnt z y x (h1 z hz) hy
  refine List.pairwise_cons.2 ⟨fun z hz=>?_,kT htr hnt hir h2⟩
  rcases List.mem_cons.1 (kS.mem_iff.1 hz) with rfl | hz
  ·exact asym y z hy
  exact h1 z hz
theorem i5 (htr:∀ x y z,lt x y=true→lt y z=true→lt x z=true) (hnt:∀ x y z,lt x y=false→lt y z=false→lt x z=false) (hir:∀ x,lt x x=false):∀ (l:List α),(oh lt l).Pairwise (fun a b=>lt b a=false)
 | []=>List.Pairwise.nil
 | x::l=>kT htr hnt hir (i5 htr hnt hir l)
theorem jN (ha:∀ x y,lt x y=false→lt y x=false→x=y):∀ {l m:List α},l.Pairwise (fun a b=>lt b a=false)→m.Pairwise (fun a b=>lt b a=false)→l.Perm m→l=m
 | [],m,_,_,hp=>(List.nil_perm.1 hp).symm
 | x::l,m,h1,h2,hp=>by
  obtain ⟨g1,g2⟩:=List.pairwise_cons.1 h1
  match m,h2,hp with
  | [],_,hp=>exact absurd (List.perm_nil.1 hp) (by simp)
  | y::m,h2,hp =>
   obtain ⟨k1,k2⟩:=List.pairwise_cons.1 h2
   have hxy:x=y:=by
    have hx:x∈y::m:=hp.mem_iff.1 (by simp)
    have hy:y∈x::l:=hp.mem_iff.2 (by simp)
    rcases List.mem_cons.1 hx with e | hx
    ·exact e
    rcases List.mem_cons.1 hy with e | hy
    ·exact e.symm
    exact ha x y (k1 x hx) (g1 y hy)
   subst hxy
   rw [jN ha g2 k2 ((List.perm_cons x).1 hp)]
end
theorem qm {α β:Type} {x:Option α} {f:α→Option β} {a:α} (h:x=some a):x.bind f=f a:=by rw [h];rfl
theorem fF {r:Int} (h1 : -9223372036854775808≤r) (h2:r≤9223372036854775807):IntKind.i64.wrap r=r:=nj ⟨h1,h2⟩
theorem i6 {n:Nat} (h:n≤1267650600228229401496703205000):n<FUEL:=Nat.lt_of_le_of_lt h (by unfold FUEL;omega)
theorem cy {α:Type} {xs:List α} {k:Nat} (h:k<xs.length):idx xs (k:Int)=some xs[k]:=by
 unfold idx;rw [if_pos (by omega)];simp [h]
theorem dw {α:Type} [Inhabited α] {x:Option α}:gd true x=x:=rfl
theorem lQ {α:Type} [Inhabited α] {x:Option α}:gd false x=some default:=rfl
theorem gn {α:Type} {l:List α} {k:Nat} (h:0<k) (hk:k<l.length) (hl:l.length≤4611686018427387904):idx l (IntKind.i64.wrap ((k:Int) - 1))=some (l[k - 1]'(by omega)):=by
 rw [fF (by omega) (by omega),show (k:Int) - 1=((k - 1:Nat):Int) by omega]
 exact cy (by omega)
theorem i7 {k:Nat} {n:Nat} (hk:k<n) (hn:n≤4611686018427387904):IntKind.i64.wrap ((k:Int)+1)=((k+1:Nat):Int):=by rw [fF (by omega) (by omega)];omega
theorem dlt {k n:Nat} (h:k<n):decide ((k:Int)<(n:Int))=true:=by simp;omega
theorem mR (n:Nat):decide ((n:Int)<(n:Int))=false:=by simp
theorem d0k {k:Nat}:decide ((0:Int)<(k:Int))=decide (0<k):=by by_cases h:0<k <;> simp [h] <;> omega
theorem eU {α:Type} {by':Nat} {xs ys:List α} (h:(xs.length+ys.length)*by'≤140737488355328) (h2:xs.length+ys.length≤140737488355328):app by' xs ys=some (xs++ys):=by unfold app;rw [if_pos ⟨h,h2⟩]
theorem mS {α:Type} {xs:List α} {a b:Nat} (h:a≤b) (h2:b≤xs.length):sub xs (a:Int) (b:Int)=some ((xs.take b).drop a):=by
 unfold sub;rw [if_pos (by omega)];simp
def bindR {A B R:Type} (p:A⊕R) (g:A→B⊕R):B⊕R:=match p with | .inl a=>g a | .inr r=>.inr r
def run {α A R:Type} (f:Nat→α→A→A⊕R):List α→Nat→A→A⊕R
 | [],_,a=>.inl a
 | x::xs,k,a=>bindR (f k x a) (fun a'=>run f xs (k+1) a')
theorem kU {α A R:Type} (f:Nat→α→A→A⊕R) (x:α) (xs:List α) (k:Nat) (a:A):run f (x::xs) k a=bindR (f k x a) (run f xs (k+1)):=rfl
def outc {S T A R:Type} (g:A→S) (e:R→T):A⊕R→S⊕T
 | .inl a=>.inl (g a)
 | .inr r=>.inr (e r)
def outf {T A R:Type} (g:A→T) (e:R→T):A⊕R→T
 | .inl a=>g a
 | .inr r=>e r
theorem tj {S T α A R:Type} {l:List α} (hl:l.length≤4611686018427387904) {body:S→Option (S⊕T)} (pack:Int→A→S) (f:Nat→α→A→A⊕R) (fin:A→T) (exit:R→T) (P:Nat→A→Prop)
    (hstep:∀ (k:Nat) (hk:k<l.length) (a:A),P k a→body (pack (k:Int) a)=some (outc (pack ((k+1:Nat):Int)) exit (f k l[k] a))∧∀ a',f k l[k] a=.inl a'→P (k+1) a')
    (hend:∀ a,P l.length a→body (pack (l.length:Int) a)=some (.inr (fin a))) (a:A) (h0:P 0 a):bh body FUEL (pack 0 a)=some (outf fin exit (run f l 0 a))∧∀ a',run f l 0 a=.inl a'→P l.length a':=by
  have main:∀ (xs:List α) (k N:Nat) (a:A),l.drop k=xs→k≤l.length→P k a→xs.length<N→bh body N (pack (k:Int) a)=some (outf fin exit (run f xs k a))∧∀ a',run f xs k a=.inl a'→P l.length a':=by
    intro xs
    induction xs with
    | nil =>
      intro k N a hd hk hp hN
      have:k=l.length:=by
        have:=congrArg List.length hd;simp at this;omega
      subst this
      obtain ⟨N,rfl⟩:∃ M,N=M+1:=⟨N - 1,by omega⟩
      rw [er,hend a hp]
      exact ⟨rfl,fun a' h=>by injection h with h;exact h ▸ hp⟩
    | cons x xs ih =>
      intro k N a hd hk hp hN
      have hk':k<l.length:=by
        have:=congrArg List.length hd;simp at this;omega
      have hx:l[k]=x∧l.drop (k+1)=xs:=by
        rw [List.drop_eq_getElem_cons hk'] at hd;injection hd with h1 h2;exact ⟨h1,h2⟩
      obtain ⟨N,rfl⟩:∃ M,N=M+1:=⟨N - 1,by omega⟩
      obtain ⟨e1,e2⟩:=hstep k hk' a hp
      rw [hx.1] at e1 e2
      rw [er,e1]
      rw [kU]
      cases hf:f k x a with
      | inl a'=>exact ih (k+1) N a' hx.2 (by omega) (e2 a' hf) (by simp at hN;omega)
      | inr r=>exact ⟨rfl,fun a' h=>by change Sum.inr r=_ at h;cases h⟩
  exact main l 0 FUEL a rfl (by omega) h0 (i6 (by omega))
theorem tk {S T α A R β:Type} {l:List α} (hl:l.length≤4611686018427387904) {body:S→Option (S⊕T)} {k:T→Option β} (pack:Int→A→S) (f:Nat→α→A→A⊕R) (fin:A→T) (exit:R→T) (P:Nat→A→Prop) (a:A) (h0:P 0 a)
    (hstep:∀ (k:Nat) (hk:k<l.length) (a:A),P k a→body (pack (k:Int) a)=some (outc (pack ((k+1:Nat):Int)) exit (f k l[k] a))∧∀ a',f k l[k] a=.inl a'→P (k+1) a')
    (hend:∀ a,P l.length a→body (pack (l.length:Int) a)=some (.inr (fin a))):Option.bind (bh body FUEL (pack 0 a)) k=k (outf fin exit (run f l 0 a)):=qm (tj hl pack f fin exit P hstep hend a h0).1
def bA {α T:Type} (g:Nat→α→Option T):List α→Nat→Option T
 | [],_=>none
 | x::xs,k=>match g k x with | some t=>some t | none=>bA g xs (k+1)
def pu {T:Type} (k:Nat):Option T→Int⊕T
 | some t=>.inr t
 | none=>.inl ((k+1:Nat):Int)
theorem dn {T α β:Type} {l:List α} (hl:l.length≤4611686018427387904) {body:Int→Option (Int⊕T)} {k:T→Option β} (g:Nat→α→Option T) (e:T)
    (hstep:∀ (k:Nat) (hk:k<l.length),body (k:Int)=some (pu k (g k l[k]))) (hend:body (l.length:Int)=some (.inr e)):Option.bind (bh body FUEL 0) k=k ((bA g l 0).getD e):=by
  refine (tk hl (fun i (_:Unit)=>i) (fun k x _=>match g k x with | some t=>.inr t | none=>.inl ()) (fun _=>e) (fun (t:T)=>t) (fun _ _=>True) () trivial (fun k hk a _=>⟨by
    rw [hstep k hk];cases g k l[k] <;> rfl,fun _ _=>trivial⟩) (fun a _=>hend)).trans ?_
  congr 1
  generalize 0=i
  induction l generalizing i with
  | nil=>rfl
  | cons x xs ih =>
    clear hstep hend
    have ih2:∀ j,outf (fun _=>e) (fun t=>t) (run (fun k x (_:Unit)=>match g k x with | some t=>Sum.inr t | none=>Sum.inl ()) xs j ())=(bA g xs j).getD e:=by
      clear ih hl
      induction xs with
      | nil=>intro j;rfl
      | cons y ys ih=>intro j;rw [kU,bA];cases g j y with | some t=>rfl | none=>exact ih (j+1)
    rw [kU,bA]
    cases g i x with
    | some t=>rfl
    | none=>exact ih2 (i+1)
theorem lR {α T:Type} (p:α→Bool) (t:T):∀ (l:List α) (k:Nat),bA (fun _ x=>cond (p x) none (some t)) l k=cond (l.all p) none (some t)
 | [],_=>rfl
 | x::xs,k=>by
  rw [bA,List.all_cons,lR p t xs]
  cases p x <;> rfl
theorem kV {α T:Type} (p:α→Bool) (f:α→T):∀ (l:List α) (k:Nat),bA (fun _ x=>cond (p x) (some (f x)) none) l k=(l.find? p).map f
 | [],_=>rfl
 | x::xs,k=>by
  rw [bA,List.find?_cons,kV p f xs]
  cases p x <;> rfl
theorem iH {α T:Type} {g:Nat→α→Option T}:∀ {l:List α} {k:Nat},bA g l k=none↔∀ i x,l[i]?=some x→g (k+i) x=none
 | [],k=>by simp [bA]
 | x::xs,k=>by
  rw [bA]
  constructor
  ·intro h i y hy
   cases hg:g k x with
   | some t=>rw [hg] at h;cases h
   | none =>
    rw [hg] at h
    cases i with
    | zero=>simp at hy;subst hy;exact hg
    | succ i=>have:=iH.1 h i y (by simpa using hy);rw [show k+(i+1)=k+1+i by omega];exact this
  intro h
  have h0:=h 0 x rfl
  rw [Nat.add_zero] at h0
  rw [h0]
  exact iH.2 fun i y hy=>by have:=h (i+1) y (by simpa using hy);rw [show k+1+i=k+(i+1) by omega];exact this
theorem fN {α:Type} {l:List α} {k:Nat} (h:k<l.length) (d:α):l.getD k d=l[k]:=by simp [List.getD,h]
theorem u8tri (a b:UInt8):a<b∨a=b∨b<a:=by
 rcases Nat.lt_trichotomy a.toNat b.toNat with h | h | h
 ·exact .inl h
 ·exact .inr (.inl (UInt8.toNat_inj.1 h))
 exact .inr (.inr h)
theorem lS:∀ (x y:List UInt8),(Op.bytesLess x y||(x == y)) = !Op.bytesLess y x
 | [],[]=>by simp [Op.bytesLess]
 | _::_,[]=>by simp [Op.bytesLess]
 | [],_::_=>by simp [Op.bytesLess]
 | a::x,b::y=>by
  rw [Op.bytesLess,Op.bytesLess]
  have ih:=lS x y
  rcases u8tri a b with h | h | h
  ·have h1:¬ b<a:=fun h'=>by have:a.toNat<b.toNat:=h;have:b.toNat<a.toNat:=h';omega
   have h2:¬ b=a:=fun h'=>by subst h';have:b.toNat<b.toNat:=h;omega
   have h3:¬ a=b:=fun h'=>h2 h'.symm
   simp [h,h1,h2]
  ·subst h
   have h1:¬ a<a:=fun h'=>by have:a.toNat<a.toNat:=h';omega
   simp [h1] at ih ⊢
   rw [← ih]
  have h1:¬ a<b:=fun h'=>by have:a.toNat<b.toNat:=h';have:b.toNat<a.toNat:=h;omega
  have h3:¬ a=b:=fun h'=>by subst h';have:a.toNat<a.toNat:=h;omega
  simp [h,h1,h3]
theorem str_tot (x y:ByteArray):(Op.bytesLess x.toList y.toList||decide (x=y)) = !Op.bytesLess y.toList x.toList:=by
 rw [← l7];exact lS _ _
def k0 (W:World):Kr:=⟨W,fun b=>b<W.heap.size⟩
theorem bw {t:Nat} {z:Value} {s b:Nat} (h:cK t=some (z,s,b)):Tryd.prog.cellsOf t=s∧Tryd.prog.bytesOf t=b:=by
 obtain ⟨i,h1,h2,h3,h4⟩:=jY h
 constructor
 ·simp [Program.cellsOf,h1,h3]
 simp [Program.bytesOf,h1,h4]
def Light {H:Type} (t:Nat) (d:DataW H):Prop:=∀ n∈d.weights Tryd.prog t,n≤reachBytes
theorem tm {H:Type} (d:DataW H):1≤Rows.uptoBulk d:=by
 cases d with
 | lit l=>cases l <;> simp [Rows.uptoBulk]
 | nil=>simp [Rows.uptoBulk]
 | ptr d=>simp [Rows.uptoBulk]
 | slice elems spare=>simp [Rows.uptoBulk]
 | agg parts=>simp [Rows.uptoBulk]
 | iface t d=>simp [Rows.uptoBulk]
 | map entries=>simp [Rows.uptoBulk]
 | held h=>simp [Rows.uptoBulk]
theorem rc {H:Type} {d:DataW H} {l:List (DataW H)} (h:d∈l):Rows.uptoBulk d≤Rows.uptoBulkAll l:=by
 induction l with
 | nil=>cases h
 | cons x r ih =>
  simp only [Rows.uptoBulkAll]
  cases List.mem_cons.1 h with
  | inl e=>subst e;omega
  | inr e=>have:=ih e;omega
theorem tn {H:Type} (l:List (DataW H)):l.length≤Rows.uptoBulkAll l:=by
 induction l with
 | nil=>simp [Rows.uptoBulkAll]
 | cons x r ih=>have:=tm x;simp only [Rows.uptoBulkAll,List.length_cons];omega
def Opens {H:Type} (eh:TypeId×Value→H) {α:Type} (n:Nat) (t:Nat) (e:α→List PV) (B:α→Prop):Prop :=
 ∀ (W:World) (fuel:Nat) (cs:List Value) (x:DataW H×List MemPlace),DataW.trod eh Tryd.prog W 0 (fun _=>true) true fuel t cs=some x→Light t x.1→Rows.uptoBulk x.1≤n→∃ m,Rps (k0 W) (e m) cs∧One cs∧B m
section
variable {H:Type} {eh:TypeId×Value→H} {nb:Nat}
theorem tp {v:Value} (h:v.oneCell'=true):One [v]:=fun u hu=>by rw [List.mem_singleton.1 hu];exact h
theorem re {t:Nat} {k:IntKind} (h:bX t=some (.int k)):Opens eh nb t (fun x:Int=>[.v (.int k x)]) (fun _=>True):=fun W fuel cs x hx _ _=>by
 obtain ⟨n,rfl,_,_⟩:=DataW.trod_int (aF h) hx
 exact ⟨n,.cons (.v rfl) .nil,tp rfl,trivial⟩
theorem px {t:Nat} (h:bX t=some .bool):Opens eh nb t eT (fun _=>True):=fun W fuel cs x hx _ _=>by
 obtain ⟨n,rfl,_⟩:=DataW.trod_bool (aF h) hx
 exact ⟨n,.cons (.v rfl) .nil,tp rfl,trivial⟩
theorem rh {t:Nat} (h:bX t=some .string):Opens eh nb t eS (fun _=>True):=fun W fuel cs x hx hw _=>by
 obtain ⟨s,rfl,rfl,_⟩:=DataW.trod_string (aF h) hx
 have:=hw s.data.toList.length (by simp [DataW.weights])
 refine ⟨s,.cons (.v ?_) .nil,tp rfl,trivial⟩
 unfold reachBytes at this
 have e:s.data.toList.length=s.size:=by simp
 exact Nat.ble_eq_true_of_le (by omega)
theorem ic {e:Nat}:∀ {l:List (DataW H)} {d:DataW H} {n:Nat},d∈l→n∈d.weights Tryd.prog e→n∈DataW.weightsAll Tryd.prog e l
 | d'::l,d,n,hd,hn=>by
  simp only [DataW.weightsAll,List.mem_append]
  rcases List.mem_cons.1 hd with rfl | hd
  ·exact .inl hn
  exact .inr (ic hd hn)
theorem qn {α β:Type} {R:α→β→Prop}:∀ (l:List β),(∀ b∈l,∃ a,R a b)→∃ la:List α,la.length=l.length∧∀ (i:Nat) (b:β),l[i]?=some b→∃ a,la[i]?=some a∧R a b
 | [],_=>⟨[],rfl,fun i b h=>by simp at h⟩
 | b::l,h=>by
  obtain ⟨a,ha⟩:=h b (by simp)
  obtain ⟨la,h1,h2⟩:=qn l fun b hb=>h b (by simp [hb])
  refine ⟨a::la,by simp [h1],fun i b' hb=>?_⟩
  cases i with
  | zero=>simp only [List.getElem?_cons_zero,bE] at hb;subst hb;exact ⟨a,rfl,ha⟩
  | succ i=>simp only [List.getElem?_cons_succ] at hb ⊢;exact h2 i b' hb
def OpensN {H:Type} (eh:TypeId×Value→H) {α:Type} (N n:Nat) (t:Nat) (e:α→List PV) (B:α→Prop):Prop :=
 ∀ (W:World) (fuel:Nat) (cs:List Value) (x:DataW H×List MemPlace),fuel<N→DataW.trod eh Tryd.prog W 0 (fun _=>true) true fuel t cs=some x→Light t x.1→Rows.uptoBulk x.1≤n→∃ m,Rps (k0 W) (e m) cs∧One cs∧B m
theorem mT {α:Type} {N t E sz by':Nat} {z:Value} {e:α→List PV} {B:α→Prop} (hu:bX t=some (.slice E)) (hi:cK E=some (z,sz,by')) (h0:Nat.blt 0 sz=true) (hb0:Nat.blt 0 by'=true) (hE:OpensN eh N nb E e B):OpensN eh (N+1) nb t (eL e) (fun l=>l.length*by'≤140737488355328∧l.length≤nb∧∀ x∈l,B x):=fun W fuel cs x hfu hx hw hbk=>by
 obtain ⟨hcz,hby⟩:=bw hi
 have hsz:0<sz:=by have:=h0;simp [Nat.blt] at this;omega
 have hbp:0<by':=by have:=hb0;simp [Nat.blt] at this;omega
 rcases DataW.trod_slice (aF hu) hx with ⟨rfl,_⟩ | ⟨a,len,cap,elems,rest,n,rfl,rfl,rfl,_,hl,hm,hlen,hel,_,_⟩
 ·exact ⟨[],.cons (.slc (sz:=sz) (css:=[]) Sl.nil (Nat.zero_le _) (fun _ h=>by cases h) .nil) .nil,tp rfl,by simp,Nat.zero_le _,fun _ h=>by cases h⟩
 rw [hcz] at hel
 have hwl:(elems.length+rest.length)*by'≤reachBytes:=by
  have:=hw ((elems.length+rest.length)*by') (by simp only [DataW.weights,aF hu,hby,List.length_map];exact List.mem_cons_self)
  exact this
 have hn:len≤140737488355328:=by
  unfold reachBytes at hwl
  have:elems.length*1≤(elems.length+rest.length)*by':=Nat.mul_le_mul (by omega) (by omega)
  omega
 have hcells:∀ i∈List.range len,∃ p:α×List Value,W.cells? 0 (a.add (i*sz)) sz=some p.2∧Rps (k0 W) (e p.1) p.2∧One p.2∧B p.1:=fun i hi'=>by
  have hi':i<len:=List.mem_range.1 hi'
  have h1:=hel i hi'
  have hlt:i<elems.length:=by omega
  rw [List.getElem?_eq_getElem hlt] at h1
  obtain ⟨cs,h2,h3⟩:=Option.bind_eq_some_iff.1 h1
  obtain ⟨m,k1,k2,k3⟩:=hE W n cs _ (by omega) h3 (fun q hq=>hw q (by
   simp only [DataW.weights,aF hu]
   exact List.mem_cons_of_mem _ (List.mem_append.2 (.inl (ic (List.mem_map.2 ⟨_,List.getElem_mem hlt,rfl⟩) hq))))) (by
   have h9:=rc (l:=elems.map (·.1)) (List.mem_map.2 ⟨_,List.getElem_mem hlt,rfl⟩)
   simp only [Rows.uptoBulk] at hbk
   omega)
  exact ⟨(m,cs),h2,k1,k2,k3⟩
 obtain ⟨ps,g1,g2⟩:=qn (R:=fun (p:α×List Value) i=>W.cells? 0 (a.add (i*sz)) sz=some p.2∧Rps (k0 W) (e p.1) p.2∧One p.2∧B p.1) (List.range len) hcells
 rw [List.length_range] at g1
 have g3:∀ (i:Nat) (p:α×List Value),ps[i]?=some p→W.cells? 0 (a.add (i*sz)) sz=some p.2∧Rps (k0 W) (e p.1) p.2∧One p.2∧B p.1:=fun i p hp=>by
  have hlt:=(List.getElem?_eq_some_iff.1 hp).1
  obtain ⟨p',h1,h2⟩:=g2 i i (by rw [List.getElem?_range (by omega)])
  rw [hp] at h1;injection h1 with h1;subst h1;exact h2
 have hps:(ps.map (·.1)).length=len:=by simp [g1]
 refine ⟨ps.map (·.1),?_,tp rfl,?_,?_,?_⟩
 rotate_left
 ·rw [hps]
  have h9:len*by'≤(elems.length+rest.length)*by':=Nat.mul_le_mul_right _ (by omega)
  unfold reachBytes at hwl
  omega
 ·rw [hps]
  have h9:=tn (elems.map (·.1))
  rw [List.length_map] at h9
  simp only [Rows.uptoBulk] at hbk
  omega
 ·intro x hx
  obtain ⟨p,hp,rfl⟩:=List.mem_map.1 hx
  obtain ⟨i,hi',rfl⟩:=List.getElem_of_mem hp
  exact (g3 i _ (List.getElem?_eq_getElem hi')).2.2.2
 unfold eL;rw [hps]
 refine .cons (.slc (sz:=sz) (css:=ps.map (·.2)) ⟨by simp [g1],hl,?_,?_⟩ hn ?_ ?_) .nil
 ·intro c hc
  obtain ⟨p,hp,rfl⟩:=List.mem_map.1 hc
  obtain ⟨i,hi',rfl⟩:=List.getElem_of_mem hp
  exact (World.cells?_some (g3 i _ (List.getElem?_eq_getElem hi')).1).2.1
 ·intro hpos
  have hp0:0<ps.length:=by omega
  have hc0:=(World.cells?_some (g3 0 _ (List.getElem?_eq_getElem hp0)).1)
  have hread:=hc0.2.2 0 hsz
  have hspot:a.spot=none:=by
   have hlt:0<(ps[0]).2.length:=by rw [hc0.2.1];exact hsz
   rw [List.getElem?_eq_getElem hlt] at hread
   unfold World.cell? at hread
   cases hs:a.spot with
   | none=>rfl
   | some q =>
    have hsp:((a.add (0*sz)).add 0).spot.isSome=true:=by simp [Addr.add,hs]
    split at hread
    ·rw [if_pos hsp] at hread;cases hread
    cases hread
  obtain ⟨ab,ao,asp⟩:=a
  simp only at hspot;subst hspot
  refine ⟨ab,ao,rfl,fun j c hj=>?_⟩
  rw [List.getElem?_map] at hj
  cases hpj:ps[j]? with
  | none=>rw [hpj] at hj;cases hj
  | some p =>
   rw [hpj] at hj;simp only [Option.map_some,bE] at hj;subst hj
   have hcj:=World.cells?_some (g3 j p hpj).1
   refine ⟨?_,fun i u hu'=>?_⟩
   ·have h1:=hcj.2.2 0 hsz
    have hlt:0<p.2.length:=by rw [hcj.2.1];exact hsz
    rw [List.getElem?_eq_getElem hlt,cR,cR] at h1
    unfold World.cell? at h1
    split at h1
    ·rename_i heq
     have:=e9 heq
     exact this
    cases h1
   have hlt:i<sz:=by have:=(List.getElem?_eq_some_iff.1 hu').1;omega
   have h1:=hcj.2.2 i hlt
   rw [cR,cR] at h1
   rw [← hu'];exact h1
 ·intro c hc
  obtain ⟨p,hp,rfl⟩:=List.mem_map.1 hc
  obtain ⟨i,hi',rfl⟩:=List.getElem_of_mem hp
  exact (g3 i _ (List.getElem?_eq_getElem hi')).2.2.1
 have:∀ (l:List (α×List Value)),(∀ p∈l,Rps (k0 W) (e p.1) p.2)→Rpss (k0 W) ((l.map (·.1)).map e) (l.map (·.2)):=fun l=>by
  induction l with
  | nil=>exact fun _=>.nil
  | cons p l ih=>exact fun h=>.cons (h p (by simp)) (ih fun q hq=>h q (by simp [hq]))
 refine this ps fun p hp=>?_
 obtain ⟨i,hi',rfl⟩:=List.getElem_of_mem hp
 exact (g3 i _ (List.getElem?_eq_getElem hi')).2.1
theorem ie {α:Type} {t E sz by':Nat} {z:Value} {e:α→List PV} {B:α→Prop} (hu:bX t=some (.slice E)) (hi:cK E=some (z,sz,by')) (h0:Nat.blt 0 sz=true) (hb0:Nat.blt 0 by'=true) (hE:Opens eh nb E e B):Opens eh nb t (eL e) (fun l=>l.length*by'≤140737488355328∧l.length≤nb∧∀ x∈l,B x):=fun W fuel cs x hx hw =>
 mT (N:=fuel) hu hi h0 hb0 (fun W' f' cs' x' _=>hE W' f' cs' x') W fuel cs x (Nat.lt_succ_self _) hx hw
theorem dV {κ:Kr} {cs:List Value} {off sz:Nat} {ps qs:List PV} (h:Rps κ ps ((cs.drop off).take sz)) (h2:Rps κ qs (cs.drop (off+sz))):Rps κ (ps++qs) (cs.drop off):=by
 have e:cs.drop off=(cs.drop off).take sz++cs.drop (off+sz):=by rw [← List.drop_drop,List.take_append_drop]
 rw [e];exact h.app h2
theorem dW {cs:List Value} {off sz:Nat} (h:One ((cs.drop off).take sz)) (h2:One (cs.drop (off+sz))):One (cs.drop off):=by
 have e:cs.drop off=(cs.drop off).take sz++cs.drop (off+sz):=by rw [← List.drop_drop,List.take_append_drop]
 rw [e];exact fun u hu=>(List.mem_append.1 hu).elim (h u) (h2 u)
theorem qo {κ:Kr} {cs:List Value} {off:Nat} (h:cs.length=off):Rps κ [] (cs.drop off):=by rw [List.drop_of_length_le (by omega)];exact .nil
theorem qp {cs:List Value} {off:Nat} (h:cs.length=off):One (cs.drop off):=by rw [List.drop_of_length_le (by omega)];exact fun _ h=>by cases h
end
end SX
end Go.Proofs.YthbphcbhedmnoaaDoor
set_option maxRecDepth 100000
namespace Go.Proofs.YthbphcbhedmnoaaDoor
open Go Go.ChangeShapes Go.WideShapes Go.RowKit
namespace SX
theorem own_ok:ownKnob Tryd.prog.godebug=none:=by kernel_rfl
theorem py:laidOutB Tryd.prog=true:=by kernel_rfl
def lT:List (String×DataW Unit):=[("unicode/utf8.acceptRanges",Rows.laid_unicode_utf8_acceptRanges),("customs/nomenclature.lengths",Rows.laid_customs_nomenclature_lengths),("unicode/utf8.first",Rows.laid_unicode_utf8_first)]
mutual
def pz:DataW Unit→List Value
 | .lit (.int k n)=>[.int k n]
 | .agg ds=>qq ds
 | _=>[]
def qq:List (DataW Unit)→List Value
 | []=>[]
 | d::r=>pz d++qq r
end
def c_acc:Array Value:=(pz Rows.laid_unicode_utf8_acceptRanges).toArray
def oj:Array Value:=#[.int .i64 2,.int .i64 4,.int .i64 6,.int .i64 8]
def qr:Array Value:=(pz Rows.laid_unicode_utf8_first).toArray
def tq (h:Array Obj) (g:Nat) (cs:Array Value):Array Obj:=h.modify g fun | .cells _ t frozen=>.cells cs t frozen | o=>o
noncomputable def laidWorld (os:Os):World :=
 { World.holding Tryd.prog os ⟨#[],#[],[]⟩ with heap:=tq (tq (tq (World.holding Tryd.prog os ⟨#[],#[],[]⟩).heap 2 c_acc) 0 oj) 1 qr }
theorem kW:(lT.filter fun x=>x.2.handleName?.isSome)=[]:=by kernel_rfl
def tr (w:World):MemPlace→Bool
 | .cell b off=>match w.heap[b]? with
  | some (.cells c _ (0,0))=>match c[off]? with | some (.iface _ _)=>false | _=>true
  | _=>false
 | _=>true
theorem pA {w:World} {ps:List MemPlace} (h:ps.all (tr w)=true):∀ b off,MemPlace.cell b off∈ps→(∃ c t,w.heap[b]?=some (.cells c t (0,0)))∧∀ u v,w.cell? ⟨b,off,none⟩=some (.iface u v)→Value.okWide Tryd.prog w .any 0 u v:=fun b off hm=>by
 have:=List.all_eq_true.1 h _ hm
 unfold tr at this
 split at this
 ·rename_i b' off' e
  injection e with e1 e2;subst e1;subst e2
  split at this
  ·rename_i c t heq
   refine ⟨⟨c,t,heq⟩,fun u v hc=>?_⟩
   simp only [World.cell?,heq] at hc
   split at this
   ·cases this
   rename_i hno;exact absurd hc (by simpa using hno u v)
  cases this
 rename_i hno;exact absurd rfl (hno b off)
theorem lp (os:Os) (args:Array Value):laidMetH Tryd.prog lT ((laidWorld os).forCall (fun _ _=>0) ⟨#[],args,[]⟩).memory:=by
 unfold laidMetH
 rw [kW]
 refine ⟨_,⟨2,121,c_acc,8,[],_,by kernel_rfl,by kernel_rfl,by kernel_rfl,by kernel_rfl,⟨0,72,oj,8,[],_,by kernel_rfl,by kernel_rfl,by kernel_rfl,by kernel_rfl,⟨1,118,qr,8,[],_,by kernel_rfl,by kernel_rfl,by kernel_rfl,by kernel_rfl,rfl,rfl⟩,rfl⟩,rfl⟩,?_,?_⟩
 ·exact of_decide_eq_true (by kernel_rfl)
 exact pA (by kernel_rfl)
theorem fP {H:Type} {eh:TypeId×Value→H} {P:Program} {w:World} {base:Nat} {sp:Nat→Bool} {held:Bool} {fuel:Nat} {t:TypeId} {k:IntKind} {c:Value} {y:DataW H×List MemPlace} (ht:P.underlying t=some (.int k)) (h:DataW.trod eh P w base sp held fuel t [c]=some y):∃ n,c=.int k n∧y=(.lit (.int k n),[]):=by
 obtain ⟨n,h1,h2,_⟩:=DataW.trod_int ht h
 injection h1 with h1 _
 exact ⟨n,h1,h2⟩
theorem ol {W:World} (h:laidMetH Tryd.prog lT W):GOK (k0 W):=by
 unfold laidMetH at h
 rw [kW] at h
 obtain ⟨ps,⟨_,_,_,_,_,_,_,_,_,_,⟨g,t,cs,fuel,p,q,hg,ht,hvar,hd,_,_⟩,_⟩,_⟩:=h
 obtain rfl:=Option.some.inj ((show Tryd.prog.globalNamed "customs/nomenclature.lengths" = some 0 by kernel_rfl).symm.trans hg)
 obtain rfl:=Option.some.inj ((show (Tryd.prog.globals[0]?).map (·.type)=some 72 by kernel_rfl).symm.trans ht)
 have hcs:cs=oj:=by
  obtain ⟨l⟩:=cs
  cases fuel with
  | zero=>simp [DataW.trod] at hd
  | succ fuel =>
   have hc1:=(bw (t:=72) rfl).1
   have hc2:=(bw (t:=3) rfl).1
   have hu1:Tryd.prog.underlying 72=some (.array 4 3):=aF rfl
   simp only [DataW.trod,hu1,hc1,hc2] at hd
   split at hd
   ·rename_i hl
    obtain ⟨c0,c1,c2,c3,rfl⟩:∃ c0 c1 c2 c3,l=[c0,c1,c2,c3]:=by
     match l,hl with
     | [a,b,c,d],_=>exact ⟨a,b,c,d,rfl⟩
    have e:List.range 4=[0,1,2,3]:=rfl
    rw [e] at hd
    simp only [Option.map_eq_some_iff,List.mapM_cons,List.mapM_nil,Option.bind_eq_bind,Option.bind_eq_some_iff,Option.pure_def,bE] at hd
    obtain ⟨xs,⟨y0,h0,_,⟨y1,h1,_,⟨y2,h2,_,⟨y3,h3,_,rfl,rfl⟩,rfl⟩,rfl⟩,rfl⟩,hx⟩:=hd
    have hui:Tryd.prog.underlying 3=some (.int .i64):=aF rfl
    obtain ⟨n0,rfl,rfl⟩:=fP hui h0
    obtain ⟨n1,rfl,rfl⟩:=fP hui h1
    obtain ⟨n2,rfl,rfl⟩:=fP hui h2
    obtain ⟨n3,rfl,rfl⟩:=fP hui h3
    simp [Rows.laid_customs_nomenclature_lengths] at hx
    obtain ⟨⟨rfl,rfl,rfl,rfl⟩,_⟩:=hx
    rfl
   cases hd
 subst hcs
 have hcell:∀ j u,oj[j]?=some u→W.cell? ⟨0,j,none⟩=some u:=fun j u hu=>by
  have:=World.var?_cell hg hvar j
  rw [this];exact hu
 refine ⟨?_,fun j u hu=>?_⟩
 ·have h0:=hcell 0 _ rfl
  unfold World.cell? at h0
  split at h0
  ·rename_i heq;exact e9 heq
  cases h0
 rw [Nat.zero_add];exact hcell j u (by simpa [oj] using hu)
end SX
end Go.Proofs.YthbphcbhedmnoaaDoor
set_option maxRecDepth 100000
namespace Go.Proofs.YthbphcbhedmnoaaDoor
open Go Go.ChangeShapes Go.WideShapes Go.RowKit
namespace SX
theorem inv0 (W:World):Zd ⟨k0 W,[],none⟩ [] (k0 W):=⟨.refl _ _,fun _ h=>h,(fun _ h=>by cases h),(fun _ h=>by cases h),.nil⟩
theorem tu {W:World} {ρ:List Res} {κ:Kr} (h:Zd ⟨k0 W,[],none⟩ ρ κ):Below W.heap.size W κ.w:=⟨h.le.os,h.le.tape,h.le.output,h.le.kle.size,fun k hk=>h.le.same k hk (by simp)⟩
section
variable {H:Type} {eh:TypeId×Value→H}
theorem lq {W W':World} (hb:Below W.heap.size W W') {ts:List TypeId} (hr:∀ t∈ts,Tryd.prog.readableRec t=true∧t<Tryd.prog.types.size):∀ {vs:List Value} {ds:List (DataW H)} {ps:List MemPlace},DataW.TrodAll eh Tryd.prog W 0 (fun _=>true) true ts vs ds ps→(∀ p∈ps,p.block<W.heap.size)→DataW.TrodAll eh Tryd.prog W' 0 (fun b=>decide (b<W.heap.size)) true ts vs ds ps:=by
 induction ts with
 | nil=>intro vs ds ps h _;cases vs <;> cases ds <;> first | exact h | cases h
 | cons t ts ih =>
  intro vs ds ps h hlt
  cases vs with
  | nil=>cases h
  | cons v vs =>
   cases ds with
   | nil=>cases h
   | cons d ds =>
    obtain ⟨p,q,h1,h2,e⟩:=h
    have ht:=hr t (by simp)
    exact ⟨p,q,Below.trod py ht.1 ht.2 h1 hb (fun x hx=>hlt x (by rw [e];simp [hx])),ih (fun u hu=>hr u (by simp [hu])) h2 (fun x hx=>hlt x (by rw [e];simp [hx])),e⟩
theorem readB {ts:List TypeId} (h:(ts.all fun t=>Tryd.prog.readableRec t&&Nat.blt t Tryd.prog.types.size)=true):∀ t∈ts,Tryd.prog.readableRec t=true∧t<Tryd.prog.types.size:=fun t ht=>by
 have:=List.all_eq_true.1 h t ht
 rw [Bool.and_eq_true] at this
 exact ⟨this.1,by have h2:=this.2;exact Nat.le_of_ble_eq_true h2⟩
theorem tv {f tb:Nat} {fn:Func} {s:ChangeSpec} {W:World} {args:Array Value} {ds gs:List (DataW H)} {before:List MemPlace} {pargs:List PV}
    (hrd:∀ t∈fn.params.toList,Tryd.prog.readableRec t=true∧t<Tryd.prog.types.size) (hres:fn.resultTypes=#[tb]) (hub:Tryd.prog.underlying tb=some .bool) (hvars:s.vars=[])
    (hspec:s.fn H ds={ results:=[.lit (.bool true)],args:=ds }) (hW:DataW.Whole eh Tryd.prog fn.params.toList s.vars false W args.toList ds gs before) (hG:GOK (k0 W)) (hargs:Rps (k0 W) pargs args.toList) (hPF:PF f pargs (.v (.bool true))) :
    Calls Tryd.prog f args W fun e W'=>∃ v,e=.returned v∧s.post eh Tryd.prog fn false true false false W args v W':=by
  have hc:=(hPF (k0 W) args.toList hG hargs).2 (inv0 W)
  have e:args.toList.toArray=args:=by simp
  rw [e] at hc
  refine Calls.mono hc fun en W' ⟨v,ρ',κ',h1,h2,h3,h4,h5⟩=>⟨v,h1,?_⟩
  subst h2
  have hv:=h5.val
  subst hv
  have hb:=tu h3
  have hW':=hW
  obtain ⟨p,q,hA,hV,rfl,hfz,hnd⟩:=hW
  rw [hvars] at hV
  obtain ⟨rfl,rfl⟩:gs=[]∧q=[]:=by
    cases gs with
    | nil=>exact ⟨rfl,hV⟩
    | cons g r=>exact absurd hV (by intro h;cases h)
  refine ⟨ds,[],_,[],p,[],hW',?_,?_,?_,hb.frame _,fun h=>by cases h⟩
  · rw [List.append_nil,hspec,hres];exact trodAll_mk1 (shut_bool hub true)
  · rw [List.append_nil,hspec];exact lq hb hrd hA (DataW.TrodAll.lt hA)
  rw [hvars,List.append_nil,hspec];rfl
theorem trodAll_cons {W:World} {t:TypeId} {ts:List TypeId} {vs:List Value} {ds:List (DataW H)} {ps:List MemPlace} (h:DataW.TrodAll eh Tryd.prog W 0 (fun _=>true) true (t::ts) vs ds ps):∃ v vs' d ds' p q,vs=v::vs'∧ds=d::ds'∧DataW.Trod eh Tryd.prog W 0 (fun _=>true) true t v d p∧DataW.TrodAll eh Tryd.prog W 0 (fun _=>true) true ts vs' ds' q:=by
 cases vs with
 | nil=>cases h
 | cons v vs =>
  cases ds with
  | nil=>cases h
  | cons d ds=>obtain ⟨p,q,h1,h2,_⟩:=h;exact ⟨v,vs,d,ds,p,q,rfl,rfl,h1,h2⟩
theorem trodAll_nil {W:World} {vs:List Value} {ds:List (DataW H)} {ps:List MemPlace} (h:DataW.TrodAll eh Tryd.prog W 0 (fun _=>true) true [] vs ds ps):vs=[]∧ds=[]:=by
 cases vs <;> cases ds <;> first | exact ⟨rfl,rfl⟩ | cases h
theorem om {l:Array TypeId} (h:(l.toList.all fun t => !Tryd.prog.wantsStandIn t)=true) {j:Nat} {t:TypeId} (ht:l[j]?=some t):Tryd.prog.wantsStandIn t=false:=by
 have:=List.all_eq_true.1 h t (by have:=Array.mem_of_getElem? ht;simpa using this)
 simpa using this
theorem light_head {t:Nat} {ts:List Nat} {d:DataW H} {ds:List (DataW H)} (h:(DataW.weightsEach Tryd.prog (t::ts) (d::ds)).all (· ≤ reachBytes)=true):Light t d∧(DataW.weightsEach Tryd.prog ts ds).all (· ≤ reachBytes)=true:=by
 simp only [DataW.weightsEach,List.all_append,Bool.and_eq_true] at h
 exact ⟨fun n hn=>by simpa using List.all_eq_true.1 h.1 n hn,h.2⟩
def kX:TypeDesc→Bool
 | .int _ | .bool | .string | .slice _=>true
 | _=>false
theorem not_agg {W:World} {r:Reach} {base t:Nat} {v:Value} {D:TypeDesc} (hu:bX t=some D) (hD:kX D=true) (h:Value.okWide Tryd.prog W r base t v):∀ cs,v.cells.toList=[cs]→v=cs:=fun cs he=>by
 cases v with
 | agg arr =>
  exfalso
  unfold Value.okWide at h
  rw [aF hu] at h
  cases D <;> first | (revert hD;simp [kX];done) | (simp only at h;unfold Cell.okWide at h;rw [aF hu] at h;simp only at h;unfold Cell.ok at h;rw [aF hu] at h;simp at h)
 | _=>simpa [Value.cells] using he
theorem arg_agg {nb:Nat} {W:World} {r:Reach} {base t:Nat} {v:Value} {D:TypeDesc} {α:Type} {e:α→List PV} {B:α→Prop} {d:DataW H} {ps:List MemPlace} (hu:bX t=some D) (hD:eg D=true) (hO:Opens eh nb t e B) (h:Value.okWide Tryd.prog W r base t v) (hd:DataW.Trod eh Tryd.prog W 0 (fun _=>true) true t v d ps) (hl:Light t d) (hn:Rows.uptoBulk d≤nb):∃ m,Rp (k0 W) (.agg (e m)) v∧B m:=by
 obtain ⟨fuel,hf⟩:=hd
 obtain ⟨m,h1,h2,h9⟩:=hO W fuel _ _ hf hl hn
 have:∃ cs,v=.agg cs:=by
  unfold Value.okWide at h
  rw [aF hu] at h
  cases D <;> first | (revert hD;simp [eg];done) | (obtain ⟨cs,e,_⟩:=h;exact ⟨cs,e⟩)
 obtain ⟨cs,rfl⟩:=this
 refine ⟨m,?_,h9⟩
 have e2:(Value.agg cs)=.agg cs.toList.toArray:=by simp
 rw [e2]
 exact .agg h2 h1
theorem ka {nb:Nat} {W:World} {r:Reach} {base t:Nat} {v:Value} {D:TypeDesc} {α:Type} {e:α→List PV} {B:α→Prop} {d:DataW H} {ps:List MemPlace} (hu:bX t=some D) (hD:kX D=true) (hO:Opens eh nb t e B) (h1:∀ m,∃ p,e m=[p]) (h:Value.okWide Tryd.prog W r base t v) (hd:DataW.Trod eh Tryd.prog W 0 (fun _=>true) true t v d ps) (hl:Light t d) (hn:Rows.uptoBulk d≤nb):∃ m,Rps (k0 W) (e m) [v]∧B m:=by
 obtain ⟨fuel,hf⟩:=hd
 obtain ⟨m,h2,_,h9⟩:=hO W fuel _ _ hf hl hn
 refine ⟨m,?_,h9⟩
 obtain ⟨p,hp⟩:=h1 m
 rw [hp] at h2
 generalize hc:v.cells.toList=cs at h2
 obtain ⟨w,ws,rfl,h3,h4⟩:=h2.cons_inv
 rw [h4.nil_inv] at hc
 rw [not_agg hu hD h w hc,hp]
 exact .cons h3 .nil
end
theorem qt {κ:Kr} {ps:List PV} {vs:List Value} {k:Nat} {s:ByteArray} (h:Rps κ ps vs) (hk:ps[k]?=some (.v (.string s))):s.size≤140737488355328:=by
 obtain ⟨v,_,h2⟩:=h.get hk
 exact Nat.le_of_ble_eq_true h2.ok
theorem qu {κ:Kr} {ps:List PV} {vs:List Value} {k mm:Nat} {xs:List (List PV)} (h:Rps κ ps vs) (hk:ps[k]?=some (.slc mm xs)):xs.length≤140737488355328:=by
 obtain ⟨v,_,h2⟩:=h.get hk
 cases h2 with
 | slc hs hb _ hss=>rw [hss.len,hs.len];exact hb
theorem rps_agg {κ:Kr} {cs:List PV} {vs:List Value} (h:Rps κ [.agg cs] vs):∃ ds,Rps κ cs ds:=by
 obtain ⟨v,ws,rfl,h1,_⟩:=h.cons_inv
 cases h1 with
 | agg _ hc=>exact ⟨_,hc⟩
theorem tw {κ:Kr} {ps:List PV} {vs:List Value} {k mm:Nat} {xs:List (List PV)} {x:List PV} (h:Rps κ ps vs) (hk:ps[k]?=some (.slc mm xs)) (hx:x∈xs):∃ ds,Rps κ x ds:=by
 obtain ⟨v,_,h2⟩:=h.get hk
 cases h2 with
 | slc hs hb _ hss =>
  obtain ⟨i,hi,rfl⟩:=List.getElem_of_mem hx
  obtain ⟨ds,_,h3⟩:=hss.get (List.getElem?_eq_getElem hi)
  exact ⟨ds,h3⟩
end SX
end Go.Proofs.YthbphcbhedmnoaaDoor
namespace Go.Proofs.YthbphcbhedmnoaaDoor
namespace SX
open Go
structure Zb where
 Product:Int
 Value:Int
 deriving Inhabited,DecidableEq
def Zb.enc (m:Zb):List PV:=[pI m.Product,pI m.Value]
structure Za where
 ID:Int
 Code:ByteArray
 Country:ByteArray
 Price:Int
 Obtained:Bool
 Processes:(List ByteArray)
 Inputs:(List Zb)
 deriving Inhabited,DecidableEq
def Za.enc (m:Za):List PV:=[pI m.ID,pS m.Code,pS m.Country,pI m.Price,pB m.Obtained,pL eS m.Processes,pL Zb.enc m.Inputs]
structure Zc where
 L:(List Int)
 I:Int
 deriving Inhabited,DecidableEq
def Zc.enc (m:Zc):List PV:=[pL eI m.L,pI m.I]
abbrev an (m:Za):List PV:=[pI m.ID,pS m.Code,pS m.Country,pI m.Price,pB m.Obtained,pL eS m.Processes,pL Zb.enc m.Inputs]

section
variable {o:Oper} {σ:PEnv} {ρ:List PRes} {f:Nat} {l:List Operand} {ts:Array Nat} {pargs caps:List PV} {x:Operand} {KV:PV→List PRes→Prop}
theorem ri {R:PV→List PRes→Prop} {ρ1 ρ2:List PRes} (ho:o.op=.call { callee:=.value x,args:=l.toArray,argTypes:=ts }) (hx:aB σ x=.fn f caps) (ha:l.map (aB σ)++caps=pargs) (hp:ρ.Perm (ρ1++ρ2)) (hc:PCall f pargs ρ1 R) (h:∀ pv ρ',R pv ρ'→KV pv (ρ'++ρ2)):POpL o σ ρ KV:=fun κ σ' ρ' g hs hr=>by
 obtain ⟨rs,h1,h2⟩:=hr.perm hp
 obtain ⟨r1,r2,rfl,h3,h4⟩:=h2.split
 have hv:=hs.ev x
 rw [hx] at hv
 generalize hw:ev σ' x=fv at hv
 cases hv with
 | fn hcap=>exact nl (first:=[]) ho hw rfl h1 (hc κ _ r1 g (by rw [← ha];exact (eK hs l).app hcap) h3) fun v ρ'' κ' hk ⟨pv,ρp,g1,g2,g3⟩=>⟨pv,ρp++ρ2,g1,g2.app (h4.mono hk),h pv ρp g3⟩
end
theorem mU {n:Nat} {x:Code} {K:Exit→PPost} {σ:PEnv} {ρ l:List PRes} {b k T:Nat} {cs:List PV} (t:Nat) (ht:σ t=.v (.pointer (some ⟨b,k,none⟩))) (hp:PPick ρ (.b b T cs) l) (h:PWC n x K (cC σ t (.ref cs k)) (.frb b cs::l)):PWC n x K σ ρ:=fun β κ σ' ρ' g hs hr=>by
  obtain ⟨r,l',h1,h2,h3⟩:=hr.pick hp
  cases h2 with
  | b ho hc=>exact r8 h1 rfl fun κ' hk hS hsay=>nF (by
      have hfr:RRel κ' (.frb b cs) kD:=.frb (oR hS hsay) ho (hc.mono hk)
      exact h β κ' σ' _ (g.mono hk) (f4 (hs.mono hk) (so hfr (by have:=hs t;rw [ht] at this;exact this.val))) (.cons hfr (h3.mono hk)))
theorem pC {o:Oper} {σ:PEnv} {ρ:List PRes} {K:PV→List PRes→Prop} (h:POpL { o with guard:=none } σ ρ K):POpL o σ ρ K:=h
theorem i9 {n:Nat} {ops:Array Oper} {o:Oper} {rest:List Oper} {K:PPost} {σ:PEnv} {ρ:List PRes} {d t E len sz by':Nat} {c:Bool} {z:Value} {parts:List (Nat×Operand)} {css:List (List PV)} (hg:PGuardIs ops σ o c) (hd:o.dst=some d) (hlt:Nat.blt d n=true) (ho:o.op=.buildSlice t len parts.toArray) (hu:bX t=some (.slice E)) (hi:cK E=some (z,sz,by')) (hz:Nat.beq z.cells.size sz=true)
    (hp:c=true→PLit σ 0 parts css) (hl:Nat.beq css.length len=true) (hw:(css.all fun cs=>Nat.beq cs.length sz)=true) (hb:Nat.ble (len*sz) 16777216=true) (hb2:Nat.ble len 16777216=true) (h:PWL n ops rest K (cC σ d (pgv c (.slc len css))) ρ):PWL n ops (o::rest) K σ ρ:=by
  cases c with
  | true =>
    refine tf hg hd hlt (pC (pl_fz (bT (o:={ o with guard:=none }) rfl ho hu hi hz (hp rfl) hl hw hb hb2 fun b=>⟨_,_,_,_,_,_,_,rfl,bf,?_⟩)))
    rw [eM] at h;exact h
  | false=>exact tg hg hd hlt h
section
variable {o:Oper} {σ:PEnv} {ρ:List PRes} {x y:Operand} {t:Nat} {K:PV→List PRes→Prop} {α:Type} {enc:α→List PV} {xs:List α} {m m':α} {i:Int}
end


def memN (t:Nat):List Nat→Bool
 | []=>false
 | x::l=>cond (Nat.beq t x) true (memN t l)
def rs (ds:List Nat) (σ:PEnv):PEnv:=fun t=>cond (memN t ds) (σ t) .any
inductive Flow (σ:PEnv) (ρ:List PRes):List Oper→List (List Nat)→List (Nat×PV)→Prop
 | nil:Flow σ ρ [] [] []
 | cons {o:Oper} {l:List Oper} {ds:List Nat} {D:List (List Nat)} {d:Nat} {p:PV} {dp:List (Nat×PV)} (h:POpL o (rs ds σ) ρ fun pv ρ'=>pv=p∧ρ'=ρ) (hs:Flow σ ρ l D dp):Flow σ ρ (o::l) (ds::D) ((d,p)::dp)
section
variable {σ:PEnv} {ρ:List PRes} {o:Oper} {l:List Oper} {ds:List Nat} {D:List (List Nat)} {d:Nat} {p:PV} {dp:List (Nat×PV)}
theorem Flow.get:∀ {l:List Oper} {D:List (List Nat)} {dp:List (Nat×PV)} {i:Nat} {o:Oper},Flow σ ρ l D dp→l[i]?=some o→∃ ds d p,D[i]?=some ds∧dp[i]?=some (d,p)∧POpL o (rs ds σ) ρ fun pv ρ'=>pv=p∧ρ'=ρ
 | _,_,_,0,_,.cons h _,e=>by simp only [List.getElem?_cons_zero,bE] at e;subst e;exact ⟨_,_,_,rfl,rfl,h⟩
 | _,_,_,i+1,_,.cons _ hs,e=>by simp only [List.getElem?_cons_succ] at e ⊢;exact hs.get e
theorem Flow.len:∀ {l:List Oper} {D:List (List Nat)} {dp:List (Nat×PV)},Flow σ ρ l D dp→D.length=l.length∧dp.length=l.length
 | _,_,_,.nil=>⟨rfl,rfl⟩
 | _,_,_,.cons _ hs=>⟨by simp [hs.len.1],by simp [hs.len.2]⟩
end
end SX
namespace SX
open Go
attribute [local irreducible] PWL PWC PWD POpL POpQ PEv PGuardIs PSub PPick PUpd PSplice PFill PLit PF PFV PCall FOk eN dj iT iU gI iy Cov PHolds bh idx app mk gd lb nz sB cat sub lm jt ior qQ oV gT qS qT IntKind.wrap Int.tmod Int.tdiv Op.bytesLess strOfNums
theorem aL {n:Nat} {l:List Oper} {KC:Exit→PPost} {σ:PEnv} {ρ:List PRes} {id:Nat} (D:List Nat) (h:ia n l.toArray ρ l [] [] σ [] D=fU n l.toArray ρ l [] [] σ []) (hw:KC .normal (gi σ D []) ρ):PWC n (.region id l.toArray false) KC σ ρ:=aN [] D [] cf h hw
theorem cX {n:Nat} {l:List Oper} {KC:Exit→PPost} {σ:PEnv} {ρ:List PRes} {id:Nat} (H D:List Nat) (X:List (Nat×PV)) (h:ia n l.toArray ρ l H [] σ (X.map (·.1)) D=fU n l.toArray ρ l H [] σ (X.map (·.2))) (hw:KC .normal (gi σ D X) ρ):PWC n (.region id l.toArray false) KC σ ρ:=aN H D X cf h hw
theorem ai {n:Nat} {l:List Oper} {KC:Exit→PPost} {σ:PEnv} {ρ:List PRes} {id:Nat} (X:List (Nat×PV)) (h:ia n l.toArray ρ l [] [] σ (X.map (·.1)) []=fU n l.toArray ρ l [] [] σ (X.map (·.2))) (hw:KC .normal (gi σ [] X) ρ):PWC n (.region id l.toArray false) KC σ ρ:=aN [] [] X cf h hw
theorem ah {n:Nat} {l:List Oper} {KC:Exit→PPost} {σ:PEnv} {ρ:List PRes} {id:Nat} (D:List Nat) (X:List (Nat×PV)) (h:ia n l.toArray ρ l [] [] σ (X.map (·.1)) D=fU n l.toArray ρ l [] [] σ (X.map (·.2))) (hw:KC .normal (gi σ D X) ρ):PWC n (.region id l.toArray false) KC σ ρ:=aN [] D X cf h hw
theorem tx {n:Nat} {ops:Array Oper} {l:List (Nat×Oper)} {K:PPost} {σ:PEnv} {ρd ρs:List PRes} (k:Nat) (H D:List Nat) (X:List (Nat×PV)) (h:od n ops ρs (l.take k) H [] σ (X.map (·.1)) D=fU n ops ρs ((l.take k).map (·.2)) H [] σ (X.map (·.2))) (hw:PWD n ops K (l.drop k) (gi σ D X) ρd ρs):PWD n ops K l σ ρd ρs:=cn k H D X cf h hw
theorem kY {n:Nat} {ops:Array Oper} {l:List (Nat×Oper)} {K:PPost} {σ:PEnv} {ρd ρs:List PRes} (k:Nat) (X:List (Nat×PV)) (h:od n ops ρs (l.take k) [] [] σ (X.map (·.1)) []=fU n ops ρs ((l.take k).map (·.2)) [] [] σ (X.map (·.2))) (hw:PWD n ops K (l.drop k) (gi σ [] X) ρd ρs):PWD n ops K l σ ρd ρs:=cn k [] [] X cf h hw
theorem kZ {n:Nat} {ops:Array Oper} {l:List (Nat×Oper)} {K:PPost} {σ:PEnv} {ρd ρs:List PRes} (k:Nat) (D:List Nat) (X:List (Nat×PV)) (h:od n ops ρs (l.take k) [] [] σ (X.map (·.1)) D=fU n ops ρs ((l.take k).map (·.2)) [] [] σ (X.map (·.2))) (hw:PWD n ops K (l.drop k) (gi σ D X) ρd ρs):PWD n ops K l σ ρd ρs:=cn k [] D X cf h hw
theorem eO {n:Nat} {ops:Array Oper} {l:List Oper} {K:PPost} {σ:PEnv} {ρ:List PRes} (D:List Nat) (h:ia n ops ρ l [] [] σ [] D=fU n ops ρ l [] [] σ []) (hw:K (gi σ D []) ρ):PWL n ops l K σ ρ:=fb [] D [] cf h hw
theorem aV {n:Nat} {ops:Array Oper} {l:List Oper} {K:PPost} {σ:PEnv} {ρ:List PRes} (X:List (Nat×PV)) (h:ia n ops ρ l [] [] σ (X.map (·.1)) []=fU n ops ρ l [] [] σ (X.map (·.2))) (hw:K (gi σ [] X) ρ):PWL n ops l K σ ρ:=fb [] [] X cf h hw
theorem ig {n:Nat} {ops:Array Oper} {l:List Oper} {K:PPost} {σ:PEnv} {ρ:List PRes} (D:List Nat) (X:List (Nat×PV)) (h:ia n ops ρ l [] [] σ (X.map (·.1)) D=fU n ops ρ l [] [] σ (X.map (·.2))) (hw:K (gi σ D X) ρ):PWL n ops l K σ ρ:=fb [] D X cf h hw
theorem tz {n:Nat} {ops:Array Oper} {l:List Oper} {K:PPost} {σ:PEnv} {ρ:List PRes} (k:Nat) (H:List Nat) (X:List (Nat×PV)) (h:ia n ops ρ (l.take k) H [] σ (X.map (·.1)) []=fU n ops ρ (l.take k) H [] σ (X.map (·.2))) (hw:PWL n ops (l.drop k) K (gi σ [] X) ρ):PWL n ops l K σ ρ:=bj k H [] X cf h hw
theorem cg {n:Nat} {ops:Array Oper} {l:List Oper} {K:PPost} {σ:PEnv} {ρ:List PRes} (k:Nat) (H D:List Nat) (X:List (Nat×PV)) (h:ia n ops ρ (l.take k) H [] σ (X.map (·.1)) D=fU n ops ρ (l.take k) H [] σ (X.map (·.2))) (hw:PWL n ops (l.drop k) K (gi σ D X) ρ):PWL n ops l K σ ρ:=bj k H D X cf h hw
theorem aw {n:Nat} {ops:Array Oper} {l:List Oper} {K:PPost} {σ:PEnv} {ρ:List PRes} (k:Nat) (X:List (Nat×PV)) (h:ia n ops ρ (l.take k) [] [] σ (X.map (·.1)) []=fU n ops ρ (l.take k) [] [] σ (X.map (·.2))) (hw:PWL n ops (l.drop k) K (gi σ [] X) ρ):PWL n ops l K σ ρ:=bj k [] [] X cf h hw
theorem fw {n:Nat} {ops:Array Oper} {l:List Oper} {K:PPost} {σ:PEnv} {ρ:List PRes} (k:Nat) (D:List Nat) (X:List (Nat×PV)) (h:ia n ops ρ (l.take k) [] [] σ (X.map (·.1)) D=fU n ops ρ (l.take k) [] [] σ (X.map (·.2))) (hw:PWL n ops (l.drop k) K (gi σ D X) ρ):PWL n ops l K σ ρ:=bj k [] D X cf h hw
theorem aA {n:Nat} {ops:Array Oper} {o:Oper} {rest:List Oper} {K:PPost} {σ:PEnv} {ρ:List PRes} {d:Nat} (hg:(o.guard,o.dst,Nat.blt d n)=(none,some d,true)) (h:POpL o σ ρ fun p ρ'=>PWL n ops rest K (cC σ d p) ρ'):PWL n ops (o::rest) K σ ρ:=sm (Prod.mk.inj hg).1 (Prod.mk.inj (Prod.mk.inj hg).2).1 (Prod.mk.inj (Prod.mk.inj hg).2).2 h
theorem zz {α:Type} {t:Nat} {enc:α→PV} {σ:PEnv} {ρ:List PRes} {v:α} (r:α) (h:some v=some r) (e:σ t=enc v):iy [.tmp t] (fun pv ρ'=>pv=enc r∧ρ'=[]) .ret σ ρ:=by cases h;exact bJ (fu (bS e)) dr ⟨rfl,rfl⟩
theorem bC {x y1:Code} {K1:Exit→PPost} {ρ1:List PRes} {n1:Nat} {σ1:PEnv} (h1:PWC n1 x (eN n1 y1 K1) σ1 ρ1):eN n1 (.seq x y1) K1 .normal σ1 ρ1:=aq (ae h1)
theorem cN {K1:Exit→PPost} {ρ1:List PRes} {n1:Nat} {σ1:PEnv} (h1:K1 .ret σ1 ρ1):eN n1 .ret K1 .normal σ1 ρ1:=aq (dk h1)
theorem cO {p:Bool} {x y1:Code} {K1:Exit→PPost} {ρ1:List PRes} {n1:Nat} {c:Operand} {σ1:PEnv} {α:Type} {a b r:α} (hc:aB σ1 c=.v (.bool p)) (h1:cond p a b=r) (ht:p=true→a=r→PWC n1 x K1 σ1 ρ1) (hf:p=false→b=r→PWC n1 y1 K1 σ1 ρ1):eN n1 (.cond c x y1) K1 .normal σ1 ρ1:=aq (qf hc h1 ht hf)
theorem fE {y1 x1 y:Code} {K1:Exit→PPost} {ρ:List PRes} {n:Nat} {σ:PEnv} (h:PWC n x1 (eN n y (eN n y1 K1)) σ ρ):eN n (.seq (.seq x1 y) y1) K1 .normal σ ρ:=bC (ae h)
def gp (p0:(List Int)) (p1:Int):Option (List Int):=cond (decide (p1<(p0.length:Int))) ((sub p0 0 p1).bind fun l2=>some l2) (some p0)
theorem oo {p0:(List Int)} {p1:Int} {r:(List Int)}  (h:gp p0 p1=some r):PF 9 [pL eI p0,pI p1] (pL eI r):=by
 unfold gp at h
 refine bH ?_
 refine aH Tryd.func9 rfl Tryd.ntmps9 Tryd.results9 rfl (ae (aL [4] (by kernel_rfl) (fE (ah [5,6,7] [(8,pB (decide (p1<(p0.length:Int))))] (by kernel_rfl) (cO rfl h (fun hc1 h=>?_) fun hc1 h=>?_)))))
 ·refine ae ?_
  refine aa h fun l2 hl2 h=>aN [] [9,10,11] [(4,pL eI l2)] (sP 2 eI 1 (fun _=>rfl) hl2 cf) (by kernel_rfl) (cN (aj ?_))
  exact zz r h rfl
 refine al ?_
 refine bC (ah [12] [(4,pL eI p0)] (by kernel_rfl) (cN ?_))
 exact zz r h rfl
def cd (p0:Int) (p1:Int):Option Int:=(nz p1).bind fun u1=>(nz p1).bind fun u2=>lb ((Int.tmod (IntKind.i64.wrap ((Int.tmod p0 p1)+p1)) p1)) (fun w3=>some w3)
theorem dd {p0:Int} {p1:Int} {r:Int}  (h:cd p0 p1=some r):PF 5 [pI p0,pI p1] (pI r):=by
 unfold cd at h
 refine bH ?_
 refine aH Tryd.func5 rfl Tryd.ntmps5 Tryd.results5 rfl (ae (aL [4] (by kernel_rfl) (bC (aa h fun u1 hu1 h=>aa h fun u2 hu2 h=>?_))))
 refine qd h ?_;clear h;intro w3 hw3 h
 refine ag (bj 7 [] (rg 5 6) [(11,pI (Int.tmod (IntKind.i64.wrap ((Int.tmod p0 p1)+p1)) p1))] (fonz 2 hu1 (fonz 6 hu2 cf)) (by kernel_rfl) (bG rfl rfl rfl (ip rfl (.p (congrArg (fun z=>PV.v (Value.int .i64 z)) hw3))) (bg (cN ?_))))
 exact zz r h rfl
def aE (p0:Zc) (p1:Int):Option (Int×Zc):=cond (decide ((p0.L.length:Int)≤p0.I)) (some ((0:Int),p0)) ((idx p0.L (IntKind.i64.wrap ((IntKind.i64.wrap (p0.I+1)) - 1))).bind fun m2=>(cd m2 p1).bind fun x3=>some (x3,(⟨p0.L,(IntKind.i64.wrap (p0.I+1))⟩:Zc)))
theorem aM {p0:Zc} {p1:Int} {b0:Nat} {r:(Int×Zc)}  (h:aE p0 p1=some r):PCall 10 [pP b0 0,pI p1] [PRes.b b0 40 [pL eI p0.L,pI p0.I]] (fun pv ρ'=>pv=pI r.1∧ρ'=[PRes.b b0 40 [pL eI r.2.L,pI r.2.I]]):=by
 unfold aE at h
 refine aH Tryd.func10 rfl Tryd.ntmps10 Tryd.results10 rfl (ae (aL [4] (by kernel_rfl) (fE (cw (ρd:=[]) [(0,0),(1,0),(2,0),(3,0),(4,0),(5,0),(6,0),(7,0),(8,0),(9,0)] _ (List.Perm.refl _) (by kernel_rfl) rfl (tx 10 [0,0] (rg 5 9) [(14,pB (decide ((p0.L.length:Int)≤p0.I)))] (by kernel_rfl) (da (cO rfl h (fun hc1 h=>?_) fun hc1 h=>?_)))))))
 ·refine ae ?_
  refine ai [(4,pI 0)] (by kernel_rfl) (cN (aj ?_))
  obtain rfl:=osi h
  exact bJ (fu (bS rfl)) eF ⟨rfl,rfl⟩
 refine al ?_
 refine bC (ag (cg 7 [0] [15,16,17,18,20] [(19,pI (IntKind.i64.wrap (p0.I+1))),(21,pP b0 1)] (by kernel_rfl) (bR rfl rfl (bL (vs:=[pI (IntKind.i64.wrap (p0.I+1))]) rfl rfl rfl rfl rfl gF (du lg) (bg (bC (cw (ρd:=[]) [(0,0),(1,0),(2,0),(3,0),(4,0),(5,0),(6,0),(7,0),(8,0),(9,0),(10,0),(11,0),(12,1),(13,0)] _ (List.Perm.refl _) (by kernel_rfl) rfl (aa h fun m2 hm2 h=>aa h fun x3 hx3 h=>cn 14 [0,0] (rg 22 13) [(4,pI x3)] (eb 9 eI hm2 (dD 12 (dd hx3) cf)) (by kernel_rfl) (da (cN ?_))))))))))
 obtain rfl:=osi h
 exact bJ (fu (bS rfl)) eF ⟨rfl,rfl⟩
def cF (p0:Zc) (p1:Int):Option (ByteArray×Zc):=(aE p0 2).bind fun x1=>(bh (S:=(List Int)×(List Int)×Int) (T:=((List Int)×(List Int)×Int)) (fun (l5,l8,v9)=>cond (decide (((l5.length:Nat):Int)<p1)) ((aE (⟨l8,v9⟩:Zc) 3).bind fun x19=>(app 1 l5 [48,(IntKind.u8.wrap (IntKind.i64.wrap (49+x19.1)))]).bind fun l22=>some (.inl (l22,x19.2.L,x19.2.I))) (some (.inr (l5,l8,v9)))) FUEL ([57,(IntKind.u8.wrap (IntKind.i64.wrap (52+x1.1)))],x1.2.L,x1.2.I)).bind fun (l13,l14,v15)=>some ((strOfNums l13),(⟨l14,v15⟩:Zc))
theorem iq {p0:Zc} {p1:Int} {b0:Nat} {r:(ByteArray×Zc)}  (h:cF p0 p1=some r):PCall 11 [pP b0 0,pI p1] [PRes.b b0 40 [pL eI p0.L,pI p0.I]] (fun pv ρ'=>pv=pS r.1∧ρ'=[PRes.b b0 40 [pL eI r.2.L,pI r.2.I]]):=by
 unfold cF at h
 refine aH Tryd.func11 rfl Tryd.ntmps11 Tryd.results11 rfl (ae (aL [4] (by kernel_rfl) (bC (aa h fun x1 hx1 h=>ag (aw 1 [(6,pP b0 0)] (by kernel_rfl) ?_)))))
 refine aA rfl (bo rfl rfl (ρ1:=[_]) (aR (by exact bf) (List.Perm.refl _)) (aM hx1) ?_);rintro _ _ ⟨rfl,rfl⟩
 refine fw 2 [8] [(9,pY (IntKind.u8.wrap (IntKind.i64.wrap (52+x1.1))))] (by kernel_rfl) (aA rfl (bT rfl rfl rfl rfl rfl (ga rfl (ga rfl iM)) rfl rfl rfl rfl (fun b2=>aV [(5,pO (some ⟨b2,0,none⟩) 2 2)] (by kernel_rfl) (bC (aa h fun q17 hq17 h=>?_)))))
 refine aP (Y:=(Option Addr×Nat)×((List Int)×(List Int)×Int)) (fun ((a11,c12),(l13,l14,v15))=>[(5,pO a11 l13.length c12)]) (fun ((a11,c12),(l13,l14,v15))=>[PRes.b b0 40 [pL eI l14,pI v15],PRes.row a11 l13.length c12 5 1 (List.map eB l13)]) (fun ((a11,c12),(l13,l14,v15))=>q17=(l13,l14,v15)) ?_ ?_
 ·refine am ?_
  refine aQ (Y:=Option Addr×Nat) (S:=(List Int)×(List Int)×Int) _ hq17 (fun (a6,c7) (l5,l8,v9)=>[(0,pP b0 0),(1,pI p1),(5,pO a6 l5.length c7)]) (fun (a6,c7) (l5,l8,v9)=>[PRes.b b0 40 [pL eI l8,pI v9],PRes.row a6 l5.length c7 5 1 (List.map eB l5)]) ((some ⟨b2,0,none⟩),2) (nT rfl) (cH (bc bf) eF) ?_
  rintro ⟨a6,c7⟩ ⟨l5,l8,v9⟩ o τ hb16;(try dsimp only at hb16);dsimp only [aG]
  refine ae (ae (ah [11,12,13] [(14,pB (decide (((l5.length:Nat):Int)<p1)))] (by kernel_rfl) (cO rfl hb16 (fun hc18 hb16=>?_) fun hc18 hb16=>?_)))
  ·refine al ?_
   refine aq (am (aa hb16 fun x19 hx19 hb16=>ag (aw 2 [(15,pO a6 l5.length c7),(16,pP b0 0)] (by kernel_rfl) ?_)))
   refine aA rfl (bo rfl rfl (ρ1:=[_]) (aR (by exact bf) (List.Perm.refl _)) (aM hx19) ?_);rintro _ _ ⟨rfl,rfl⟩
   refine fw 2 [18] [(19,pY (IntKind.u8.wrap (IntKind.i64.wrap (49+x19.1))))] (by kernel_rfl) (aA rfl (bT rfl rfl rfl rfl rfl (ga rfl (ga rfl iM)) rfl rfl rfl rfl (fun b20=>aa hb16 fun l22 hl22 hb16=>?_)))
   refine aA rfl (cx (enc:=eB) rfl rfl rfl rfl rfl rfl rfl rfl rfl gw (by exact bc (bc bf)) hl22 (fun a23 c24=>?_))
   refine aV [(5,pO a23 l22.length c24)] (by kernel_rfl) (ak ?_)
   exact bd hb16 (a23,c24) (nT rfl) (cH (bc (bc bf)) eF)
  refine aT ?_
  refine ar (ap hb16 (fun ht=>au rfl ?_))
  exact aO ((a6,c7),(l5,l8,v9)) (j6 rfl) mD ht.symm
 rintro ⟨⟨a11,c12⟩,⟨l13,l14,v15⟩⟩ τ hz;(try dsimp only at hz);subst q17;(try dsimp only at h);dsimp only [aG]
 refine ae (ag (aw 1 [(22,pO a11 l13.length c12)] (by kernel_rfl) (aA rfl (sF rfl rfl rfl rfl rfl (xs:=l13) qW rfl (aV [(4,pS (strOfNums l13))] (by kernel_rfl) (cN ?_))))))
 obtain rfl:=osi h
 exact bJ (fu (bS rfl)) eF ⟨rfl,rfl⟩
def dX  : Option (List ByteArray):=some [(⟨#[65,65]⟩:ByteArray),(⟨#[66,66]⟩:ByteArray),(⟨#[67,67]⟩:ByteArray),(⟨#[68,68]⟩:ByteArray),(⟨#[69,69]⟩:ByteArray),(⟨#[70,70]⟩:ByteArray)]
theorem ja  {r:(List ByteArray)}  (h:dX  = some r):PF 12 [] (pL eS r):=by
 unfold dX at h
 refine bH ?_
 refine aH Tryd.func12 rfl Tryd.ntmps12 Tryd.results12 rfl (ae (aL [0] (by kernel_rfl) (bC (ag (aA rfl (bT rfl rfl rfl rfl rfl (ga rfl (ga rfl (ga rfl (ga rfl (ga rfl (ga rfl iM)))))) rfl rfl rfl rfl (fun b1=>aV [(0,pO (some ⟨b1,0,none⟩) 6 6)] (by kernel_rfl) (aq ?_))))))))
 refine dT (enc:=eS) (xs:=[(⟨#[65,65]⟩:ByteArray),(⟨#[66,66]⟩:ByteArray),(⟨#[67,67]⟩:ByteArray),(⟨#[68,68]⟩:ByteArray),(⟨#[69,69]⟩:ByteArray),(⟨#[70,70]⟩:ByteArray)]) 0 rfl (by exact bf) ?_
 refine dk ?_
 exact zz r h rfl
def bD (p0:Zc):Option ((List ByteArray)×Zc):=(aE p0 32).bind fun x1=>(bh (S:=(List ByteArray)×Int) (T:=((List ByteArray))) (fun (l3,v6)=>cond (decide (v6<5)) (((sB v6).bind fun u20=>cond ((jt .i64 (gT .i64 x1.1 v6) 1) == 1) ((idx [(⟨#[97,110,100]⟩:ByteArray),(⟨#[99,117,116]⟩:ByteArray),(⟨#[111,114]⟩:ByteArray),(⟨#[115,101,119]⟩:ByteArray),(⟨#[115,112,105,110]⟩:ByteArray)] v6).bind fun m24=>(app 16 l3 [m24]).bind fun l27=>some l27) (some l3)).bind fun l18=>some (.inl (l18,(IntKind.i64.wrap (v6+1))))) (some (.inr l3))) FUEL (([]:List ByteArray),0)).bind fun l10=>some (l10,x1.2)
theorem fV {p0:Zc} {b0:Nat} {r:((List ByteArray)×Zc)}  (h:bD p0=some r):PCall 13 [pP b0 0] [PRes.b b0 40 [pL eI p0.L,pI p0.I]] (fun pv ρ'=>pv=pL eS r.1∧ρ'=[PRes.b b0 40 [pL eI r.2.L,pI r.2.I]]):=by
 unfold bD at h
 refine aH Tryd.func13 rfl Tryd.ntmps13 Tryd.results13 rfl (ae (aL [2] (by kernel_rfl) (bC (ai [(3,pN)] (by kernel_rfl) (bC (aa h fun x1 hx1 h=>ag (aw 1 [(6,pP b0 0)] (by kernel_rfl) ?_)))))))
 refine aA rfl (bo rfl rfl (ρ1:=[_]) (aR (by exact bf) (List.Perm.refl _)) (aM hx1) ?_);rintro _ _ ⟨rfl,rfl⟩
 refine aV [(4,pI x1.1)] (by kernel_rfl) (fE (ai [(5,pI 0)] (by kernel_rfl) (aq (dC 9 1 (aa h fun q12 hq12 h=>?_)))))
 refine aP (Y:=(Option Addr×Nat)×((List ByteArray))) (fun ((a8,c9),l10)=>[(3,pO a8 l10.length c9)]) (fun ((a8,c9),l10)=>[PRes.b b0 40 [pL eI x1.2.L,pI x1.2.I],PRes.row a8 l10.length c9 9 1 (List.map eS l10)]) (fun ((a8,c9),l10)=>q12=l10) ?_ ?_
 ·refine am ?_
  refine aQ (Y:=Option Addr×Nat) (S:=(List ByteArray)×Int) _ hq12 (fun (a4,c5) (l3,v6)=>[(3,pO a4 l3.length c5),(4,pI x1.1),(5,pI v6)]) (fun (a4,c5) (l3,v6)=>[PRes.b b0 40 [pL eI x1.2.L,pI x1.2.I],PRes.row a4 l3.length c5 9 1 (List.map eS l3)]) (none,0) (nT rfl) (cH (bc bf) eF) ?_
  rintro ⟨a4,c5⟩ ⟨l3,v6⟩ o τ hb11;(try dsimp only at hb11);dsimp only [aG]
  refine ae (ae (ah [8] [(9,pB (decide (v6<5)))] (by kernel_rfl) (cO rfl hb11 (fun hc14 hb11=>?_) fun hc14 hb11=>?_)))
  ·refine al ?_
   refine bC (aa hb11 fun q19 hq19 hb11=>?_)
   refine aP (Y:=(Option Addr×Nat)×((List ByteArray))) (fun ((a16,c17),l18)=>[(3,pO a16 l18.length c17),(4,pI x1.1),(5,pI v6)]) (fun ((a16,c17),l18)=>[PRes.b b0 40 [pL eI x1.2.L,pI x1.2.I],PRes.row a16 l18.length c17 9 1 (List.map eS l18)]) (fun ((a16,c17),l18)=>q19=l18) ?_ ?_
   ·skip
    refine am (ae (aa hq19 fun u20 hu20 hq19=>aN [] [12,13,14,15] [(16,pB ((jt .i64 (gT .i64 x1.1 v6) 1) == 1))] (foge 2 hu20 cf) (by kernel_rfl) (cO rfl hq19 (fun hc21 hq19=>?_) fun hc21 hq19=>?_)))
    ·refine ag ?_
     refine aw 1 [(17,pO a4 l3.length c5)] (by kernel_rfl) (aA rfl (bT rfl rfl rfl rfl rfl (ga rfl (ga rfl (ga rfl (ga rfl (ga rfl iM))))) rfl rfl rfl rfl (fun b22=>aa hq19 fun m24 hm24 hq19=>aw 1 [(19,pI v6)] (by kernel_rfl) (bG rfl rfl rfl (ce (enc:=eS) (xs:=[(⟨#[97,110,100]⟩:ByteArray),(⟨#[99,117,116]⟩:ByteArray),(⟨#[111,114]⟩:ByteArray),(⟨#[115,101,119]⟩:ByteArray),(⟨#[115,112,105,110]⟩:ByteArray)]) rfl rfl rfl (.p rfl) gw (.p rfl) (fun _=>hm24)) (bG rfl rfl rfl (dm (sz:=1) (p:=pS m24) (enc:=eS) (xs:=[(⟨#[97,110,100]⟩:ByteArray),(⟨#[99,117,116]⟩:ByteArray),(⟨#[111,114]⟩:ByteArray),(⟨#[115,101,119]⟩:ByteArray),(⟨#[115,112,105,110]⟩:ByteArray)]) (a:=(some ⟨b22,0,none⟩)) v6 0 m24 rfl (.p rfl) rfl gw (fun _=>hm24) rfl) (aA rfl (bT rfl rfl rfl rfl rfl (ga rfl iM) rfl rfl rfl rfl (fun b25=>aa hq19 fun l27 hl27 hq19=>?_))))))))
     refine aA rfl (cx (enc:=eS) rfl rfl rfl rfl rfl rfl rfl rfl rfl gw (by exact bc (bc (bc bf))) hl27 (fun a28 c29=>?_))
     refine aV [(3,pO a28 l27.length c29)] (by kernel_rfl) (ak ?_)
     obtain rfl:=osi hq19
     exact aO ((a28,c29),l27) (nT rfl) (cH (bc (bc (bc bf))) eF) rfl
    refine al ?_
    refine ak ?_
    obtain rfl:=osi hq19
    exact aO ((a4,c5),l3) (nT rfl) mD rfl
   rintro ⟨⟨a16,c17⟩,l18⟩ τ hz;(try dsimp only at hz);subst q19;(try dsimp only at hb11);dsimp only [aG]
   refine ah [10,11] [(5,pI (IntKind.i64.wrap (v6+1)))] (by kernel_rfl) ?_
   exact bd hb11 (a16,c17) (nT rfl) mD
  refine aT ?_
  refine ar (ap hb11 (fun ht=>au rfl ?_))
  exact aO ((a4,c5),l3) (j6 rfl) mD ht.symm
 rintro ⟨⟨a8,c9⟩,l10⟩ τ hz;(try dsimp only at hz);subst q12;(try dsimp only at h);dsimp only [aG]
 refine ae (ah [24] [(2,pO a8 l10.length c9)] (by kernel_rfl) (aq ?_))
 refine dT (enc:=eS) (xs:=l10) 2 rfl (by exact bc bf) ?_
 refine dk ?_
 obtain rfl:=osi h
 exact bJ (fu (bS rfl)) (cH (bc bf) dr) ⟨rfl,rfl⟩
def gq (p0:(List Int)):Option (List Za):=(gp p0 300).bind fun x1=>(aE (⟨x1,0⟩:Zc) 10).bind fun x3=>(bh (S:=(List Za)×Int×(List Int)×Int) (T:=((List Za))) (fun (l5,v8,l9,v10)=>cond (decide (v8≤(IntKind.i64.wrap (1+x3.1)))) ((aE (⟨l9,v10⟩:Zc) 2).bind fun x19=>(cF x19.2 (IntKind.i64.wrap (6+(IntKind.i64.wrap (2*x19.1))))).bind fun x20=>(dX).bind fun x21=>(aE x20.2 4).bind fun x22=>(idx x21 x22.1).bind fun m23=>(aE x22.2 200).bind fun x24=>(bD x24.2).bind fun x25=>(aE x25.2 4).bind fun x26=>(aE x26.2 1024).bind fun x28=>(bh (S:=Int×(List Int)×Int×(List Zb)) (T:=((List Int)×Int×(List Zb))) (fun (v29,l30,v31,l33)=>cond (((decide (v29≤(IntKind.i64.wrap (1+x3.1))))&&(decide (((l33.length:Nat):Int)<4)))&&(!(x26.1 == 1))) (((sB (IntKind.i64.wrap (v29 - 1))).bind fun u55=>(gdp (((jt .i64 (gT .i64 x28.1 (IntKind.i64.wrap (v29 - 1))) 1) == 1)&&(!(decide (v29<v8)))) (aE (⟨l30,v31⟩:Zc) 3) (⟨l30,v31⟩:Zc)).bind fun x56=>cond (((jt .i64 (gT .i64 x28.1 (IntKind.i64.wrap (v29 - 1))) 1) == 1)&&((decide (v29<v8))||(x56.1 == 1))) ((aE x56.2 100).bind fun x58=>(app 16 l33 [(⟨(IntKind.i64.wrap (3*v29)),x58.1⟩:Zb)]).bind fun l61=>some (x58.2.L,x58.2.I,l61)) (some (x56.2.L,x56.2.I,l33))).bind fun (l48,v49,l53)=>some (.inl ((IntKind.i64.wrap (v29+1)),l48,v49,l53))) (some (.inr (l30,v31,l33)))) FUEL (1,x28.2.L,x28.2.I,([]:List Zb))).bind fun (l37,v38,l42)=>(app 104 l5 [(⟨(IntKind.i64.wrap (3*v8)),x20.1,m23,(IntKind.i64.wrap (1+x24.1)),(x26.1 == 1),x25.1,l42⟩:Za)]).bind fun l68=>some (.inl (l68,(IntKind.i64.wrap (v8+1)),l37,v38))) (some (.inr l5))) FUEL (([]:List Za),1,x3.2.L,x3.2.I)).bind fun l14=>some l14
theorem mV {p0:(List Int)} {r:(List Za)}  (h:gq p0=some r):PCall 4 [pL eI p0] [] (fun pv ρ'=>∃ a c,pv=.v (.slice a r.length c)∧ρ'=[PRes.row a r.length c 26 7 (List.map Za.enc r)]):=by
 unfold gq at h
 refine aH Tryd.func4 rfl Tryd.ntmps4 Tryd.results4 rfl (ae (aL [2] (by kernel_rfl) (bC (aa h fun x1 hx1 h=>ag (bj 3 [] [10,11] [(12,.agg [pL eI x1,pI 0])] (dD 1 (oo hx1) cf) (by kernel_rfl) (aA rfl (gK (cs:=[pL eI x1,pI 0]) rfl rfl (fun b2=>aV [(3,pP b2 0)] (by kernel_rfl) (bC (aa h fun x3 hx3 h=>ag (aw 1 [(14,pP b2 0)] (by kernel_rfl) ?_)))))))))))
 refine aA rfl (bo rfl rfl (ρ1:=[_]) (aR (by exact bf) (List.Perm.refl _)) (aM hx3) ?_);rintro _ _ ⟨rfl,rfl⟩
 refine ig [16] [(4,pI (IntKind.i64.wrap (1+x3.1)))] (by kernel_rfl) (bC (ai [(5,pN)] (by kernel_rfl) (fE (ai [(6,pI 1)] (by kernel_rfl) (aq (dC 26 7 (aa h fun q16 hq16 h=>?_)))))))
 refine aP (Y:=(Option Addr×Nat)×((List Za))) (fun ((a12,c13),l14)=>[(5,pO a12 l14.length c13)]) (fun ((a12,c13),l14)=>[PRes.row a12 l14.length c13 26 7 (List.map Za.enc l14)]) (fun ((a12,c13),l14)=>q16=l14) ?_ ?_
 ·refine am ?_
  refine aQ (Y:=Option Addr×Nat) (S:=(List Za)×Int×(List Int)×Int) _ hq16 (fun (a6,c7) (l5,v8,l9,v10)=>[(3,pP b2 0),(4,pI (IntKind.i64.wrap (1+x3.1))),(5,pO a6 l5.length c7),(6,pI v8)]) (fun (a6,c7) (l5,v8,l9,v10)=>[PRes.b b2 40 [pL eI l9,pI v10],PRes.row a6 l5.length c7 26 7 (List.map Za.enc l5)]) (none,0) (mE rfl) (cH (bc bf) eF) ?_
  rintro ⟨a6,c7⟩ ⟨l5,v8,l9,v10⟩ o τ hb15;(try dsimp only at hb15);dsimp only [aG]
  refine ae (ae (ah [17,18] [(19,pB (decide (v8≤(IntKind.i64.wrap (1+x3.1)))))] (by kernel_rfl) (cO rfl hb15 (fun hc18 hb15=>?_) fun hc18 hb15=>?_)))
  ·refine al ?_
   refine bC (am (ae (cw (ρd:=[PRes.b b2 _ _]) [(0,0),(1,0),(2,0),(3,0),(9,0),(13,0),(16,0),(18,0),(4,1),(5,0),(6,0),(7,1),(8,1),(10,1),(11,0),(12,0),(14,1),(15,0),(17,1),(19,1),(20,0),(21,0),(22,2),(23,1)] _ (List.Perm.refl _) (by kernel_rfl) rfl (aa hb15 fun x19 hx19 hb15=>kZ 8 [22] [(23,pI (IntKind.i64.wrap (3*v8))),(24,pP b2 0),(25,pP b2 0),(31,pP b2 0),(35,pP b2 0),(38,pP b2 0),(40,pP b2 0)] (by kernel_rfl) ?_))))
   refine gb rfl rfl rfl (bo rfl rfl (ρ1:=[_]) (aR (by exact bf) (List.Perm.refl _)) (aM hx19) ?_);rintro _ _ ⟨rfl,rfl⟩
   refine aa hb15 fun x20 hx20 hb15=>kZ 2 [27] [(28,pI (IntKind.i64.wrap (6+(IntKind.i64.wrap (2*x19.1)))))] (by kernel_rfl) ?_
   refine gb rfl rfl rfl (bo rfl rfl (ρ1:=[_]) (aR (by exact bf) (List.Perm.refl _)) (iq hx20) ?_);rintro _ _ ⟨rfl,rfl⟩
   refine aa hb15 fun x21 hx21 hb15=>aa hb15 fun x22 hx22 hb15=>cn 1 [] [] [(30,pL eS x21)] (dD 0 (ja hx21) cf) (by kernel_rfl) ?_
   refine gb rfl rfl rfl (bo rfl rfl (ρ1:=[_]) (aR (by exact bf) (List.Perm.refl _)) (aM hx22) ?_);rintro _ _ ⟨rfl,rfl⟩
   refine aa hb15 fun m23 hm23 hb15=>aa hb15 fun x24 hx24 hb15=>cn 2 [] [33] [(34,pS m23)] (eb 0 eS hm23 cf) (by kernel_rfl) ?_
   refine gb rfl rfl rfl (bo rfl rfl (ρ1:=[_]) (aR (by exact bf) (List.Perm.refl _)) (aM hx24) ?_);rintro _ _ ⟨rfl,rfl⟩
   refine aa hb15 fun x25 hx25 hb15=>kY 1 [(37,pI (IntKind.i64.wrap (1+x24.1)))] (by kernel_rfl) ?_
   refine gb rfl rfl rfl (bo rfl rfl (ρ1:=[_]) (aR (by exact bf) (List.Perm.refl _)) (fV hx25) ?_);rintro _ _ ⟨rfl,rfl⟩
   refine aa hb15 fun x26 hx26 hb15=>?_
   refine gb rfl rfl rfl (bo rfl rfl (ρ1:=[_]) (aR (by exact bf) (List.Perm.refl _)) (aM hx26) ?_);rintro _ _ ⟨rfl,rfl⟩
   refine kZ 2 [42] [(43,.agg [pI (IntKind.i64.wrap (3*v8)),pS x20.1,pS m23,pI (IntKind.i64.wrap (1+x24.1)),pB (x26.1 == 1),pL eS x25.1,pN])] (by kernel_rfl) (nM (nL rfl rfl rfl rfl rfl) (fun _=>rfl) rfl (fun b27=>oW rfl rfl (bL (vs:=[pI (IntKind.i64.wrap (3*v8)),pS x20.1,pS m23,pI (IntKind.i64.wrap (1+x24.1)),pB (x26.1 == 1),pL eS x25.1,pN]) rfl rfl rfl rfl rfl gF sI (da (bC (aa hb15 fun x28 hx28 hb15=>ag (aw 1 [(44,pP b2 0)] (by kernel_rfl) ?_)))))))
   refine aA rfl (bo rfl rfl (ρ1:=[_]) (aR (by exact bc bf) (List.Perm.refl _)) (aM hx28) ?_);rintro _ _ ⟨rfl,rfl⟩
   refine aV [(8,pI x28.1)] (by kernel_rfl) (fE (ai [(9,pI 1)] (by kernel_rfl) (aq (dC 32 2 (aa hb15 fun q44 hq44 hb15=>?_)))))
   refine aP (Y:=(Option Addr×Nat)×((List Int)×Int×(List Zb))) (fun ((a40,c41),(l37,v38,l42))=>[(3,pP b2 0),(4,pI (IntKind.i64.wrap (1+x3.1))),(5,pO a6 l5.length c7),(6,pI v8),(7,pP b27 0)]) (fun ((a40,c41),(l37,v38,l42))=>[PRes.b b2 40 [pL eI l37,pI v38],PRes.b b27 26 [pI (IntKind.i64.wrap (3*v8)),pS x20.1,pS m23,pI (IntKind.i64.wrap (1+x24.1)),pB (x26.1 == 1),pL eS x25.1,pO a40 l42.length c41],PRes.row a6 l5.length c7 26 7 (List.map Za.enc l5),PRes.row a40 l42.length c41 32 2 (List.map Zb.enc l42)]) (fun ((a40,c41),(l37,v38,l42))=>q44=(l37,v38,l42)) ?_ ?_
   ·refine am ?_
    refine aQ (Y:=Option Addr×Nat) (S:=Int×(List Int)×Int×(List Zb)) _ hq44 (fun (a34,c35) (v29,l30,v31,l33)=>[(3,pP b2 0),(4,pI (IntKind.i64.wrap (1+x3.1))),(5,pO a6 l5.length c7),(6,pI v8),(7,pP b27 0),(8,pI x28.1),(9,pI v29)]) (fun (a34,c35) (v29,l30,v31,l33)=>[PRes.b b2 40 [pL eI l30,pI v31],PRes.b b27 26 [pI (IntKind.i64.wrap (3*v8)),pS x20.1,pS m23,pI (IntKind.i64.wrap (1+x24.1)),pB (x26.1 == 1),pL eS x25.1,pO a34 l33.length c35],PRes.row a34 l33.length c35 32 2 (List.map Zb.enc l33),PRes.row a6 l5.length c7 26 7 (List.map Za.enc l5)]) (none,0) (sH rfl) (cH (bc bf) (cH (bc bf) mD)) ?_
    rintro ⟨a34,c35⟩ ⟨v29,l30,v31,l33⟩ o τ hb43;(try dsimp only at hb43);dsimp only [aG]
    refine ae (ae (cX [1,1] (rg 46 13) [(59,pB (((decide (v29≤(IntKind.i64.wrap (1+x3.1))))&&(decide (((l33.length:Nat):Int)<4)))&&(!(x26.1 == 1))))] (by kernel_rfl) (cO rfl hb43 (fun hc46 hb43=>?_) fun hc46 hb43=>?_)))
    ·refine al ?_
     refine bC (aa hb43 fun q54 hq54 hb43=>?_)
     refine aP (Y:=(Option Addr×Nat)×((List Int)×Int×(List Zb))) (fun ((a51,c52),(l48,v49,l53))=>[(3,pP b2 0),(4,pI (IntKind.i64.wrap (1+x3.1))),(5,pO a6 l5.length c7),(6,pI v8),(7,pP b27 0),(8,pI x28.1),(9,pI v29)]) (fun ((a51,c52),(l48,v49,l53))=>[PRes.b b2 40 [pL eI l48,pI v49],PRes.b b27 26 [pI (IntKind.i64.wrap (3*v8)),pS x20.1,pS m23,pI (IntKind.i64.wrap (1+x24.1)),pB (x26.1 == 1),pL eS x25.1,pO a51 l53.length c52],PRes.row a6 l5.length c7 26 7 (List.map Za.enc l5),PRes.row a51 l53.length c52 32 2 (List.map Zb.enc l53)]) (fun ((a51,c52),(l48,v49,l53))=>q54=(l48,v49,l53)) ?_ ?_
     ·skip
      refine am (ae (aa hq54 fun u55 hu55 hq54=>aa hq54 fun x56 hx56 hq54=>ag (bj 12 [] ((rg 62 6)++[69,70,71]) [(68,pB ((jt .i64 (gT .i64 x28.1 (IntKind.i64.wrap (v29 - 1))) 1) == 1)),(72,pgv ((jt .i64 (gT .i64 x28.1 (IntKind.i64.wrap (v29 - 1))) 1) == 1) (pB (decide (v29<v8)))),(73,pgv (((jt .i64 (gT .i64 x28.1 (IntKind.i64.wrap (v29 - 1))) 1) == 1)&&(!(decide (v29<v8)))) (pP b2 0))] (foge 3 hu55 cf) (by kernel_rfl) ?_)))
      refine pt (js rfl rfl rfl) rfl rfl rfl (by exact bf) (bv (.g rfl) (bv (.p rfl) eu)) (fun hc=>aM (gdp_t hx56 hc)) (fun hc=>by rw [gdp_f hx56 hc]) ?_
      refine dS (js rfl rfl rfl) rfl rfl (oU rfl (.g rfl) (.p rfl) rfl) (dS (cU rfl rfl rfl) rfl rfl (sr rfl (.g rfl) (.p rfl) (.g rfl)) (bG rfl rfl rfl (hT rfl (.p rfl) (.p rfl) (.g rfl)) (bg (cO rfl hq54 (fun hc57 hq54=>?_) fun hc57 hq54=>?_))))
      ·refine aa hq54 ?_;clear hq54;intro x58 hx58 hq54
       refine aa hq54 fun l61 hl61 hq54=>?_
       refine hR (Y:=Option Addr×Nat) (fun (a62,c63)=>[(3,pP b2 0),(4,pI (IntKind.i64.wrap (1+x3.1))),(5,pO a6 l5.length c7),(6,pI v8),(7,pP b27 0),(8,pI x28.1),(9,pI v29)]) (fun (a62,c63)=>[PRes.b b2 40 [pL eI x58.2.L,pI x58.2.I],PRes.b b27 26 [pI (IntKind.i64.wrap (3*v8)),pS x20.1,pS m23,pI (IntKind.i64.wrap (1+x24.1)),pB (x26.1 == 1),pL eS x25.1,pO a62 l61.length c63],PRes.row a6 l5.length c7 26 7 (List.map Za.enc l5),PRes.row a62 l61.length c63 32 2 (List.map Zb.enc l61)]) (fun _=>True) ?_ ?_
       ·refine lL (ρd:=[PRes.b b2 _ _,PRes.row a34 _ _ _ _ _,PRes.b b27 _ _]) _ (aR bf (aR (bc bf) (List.Perm.refl _))) ?_
        refine cD 0 (by kernel_rfl) rfl rfl rfl rfl (bu rfl rfl rfl rfl rfl (.p rfl)) (cD 2 (by kernel_rfl) rfl rfl rfl rfl (dl (p:=pI v29) rfl (.p rfl)) (cD 3 (by kernel_rfl) rfl rfl rfl rfl (nI rfl (.p rfl) (.p rfl) rfl) (cD 4 (by kernel_rfl) rfl rfl rfl rfl (dl (p:=pP b2 0) rfl (.p rfl)) ?_)))
        refine j5 1 5 (by kernel_rfl) ?_ ?_
        ·skip
         refine bB rfl rfl rfl rfl (nK (f9 (p:=pO a34 l33.length c35) rfl (.p rfl) zm2 rfl) (bP 5 (by kernel_rfl) ?_))
         refine bB rfl rfl rfl rfl (bo rfl rfl (ρ1:=[_]) (aR (by exact bf) (List.Perm.refl _)) (aM hx58) ?_);rintro _ _ ⟨rfl,rfl⟩
         refine cD 6 (by kernel_rfl) rfl rfl rfl rfl (hU (cs:=[pI (IntKind.i64.wrap (3*v29)),pI x58.1]) rfl rfl rfl rfl rfl rfl rfl (zfc rfl rfl rfl rfl lg (zfc rfl rfl rfl rfl (du lg) zfn))) (bP 7 (by kernel_rfl) (bB rfl rfl rfl rfl (bT rfl rfl rfl rfl rfl (ga rfl iM) rfl rfl rfl rfl (fun b59=>bP 8 (by kernel_rfl) ?_))))
         refine bB rfl rfl rfl rfl (cx (enc:=Zb.enc) rfl rfl rfl rfl rfl rfl rfl rfl rfl gw (by exact bc (bc bf)) hl61 (fun a62 c63=>?_))
         refine cD 9 (by kernel_rfl) rfl rfl rfl rfl (bu rfl rfl rfl rfl rfl (.p rfl)) (bP 10 (by kernel_rfl) (gf rfl rfl rfl (bL (vs:=[pO a62 l61.length c63]) rfl rfl rfl rfl rfl (jj (jj (jj gF))) (du (du (du (du (du (du lg)))))) (gc (by kernel_rfl) ?_))))
         exact gH (a62,c63) (sH rfl) (cH (bc (bc bf)) (cH (bc (bc bf)) (cH (bc (bc bf)) eF))) trivial
        skip
        refine bB rfl rfl rfl rfl (bo rfl rfl (ρ1:=[_]) (aR (by exact bf) (List.Perm.refl _)) (aM hx58) ?_);rintro _ _ ⟨rfl,rfl⟩
        refine cD 6 (by kernel_rfl) rfl rfl rfl rfl (hU (cs:=[pI (IntKind.i64.wrap (3*v29)),pI x58.1]) rfl rfl rfl rfl rfl rfl rfl (zfc rfl rfl rfl rfl lg (zfc rfl rfl rfl rfl (du lg) zfn))) ?_
        refine j5 1 7 (by kernel_rfl) ?_ ?_
        ·skip
         refine bB rfl rfl rfl rfl (nK (f9 (p:=pO a34 l33.length c35) rfl (.p rfl) zm2 rfl) (bP 7 (by kernel_rfl) (bB rfl rfl rfl rfl (bT rfl rfl rfl rfl rfl (ga rfl iM) rfl rfl rfl rfl (fun b59=>bP 8 (by kernel_rfl) ?_)))))
         refine bB rfl rfl rfl rfl (cx (enc:=Zb.enc) rfl rfl rfl rfl rfl rfl rfl rfl rfl gw (by exact bc (bc bf)) hl61 (fun a62 c63=>?_))
         refine cD 9 (by kernel_rfl) rfl rfl rfl rfl (bu rfl rfl rfl rfl rfl (.p rfl)) (bP 10 (by kernel_rfl) (gf rfl rfl rfl (bL (vs:=[pO a62 l61.length c63]) rfl rfl rfl rfl rfl (jj (jj (jj gF))) (du (du (du (du (du (du lg)))))) (gc (by kernel_rfl) ?_))))
         exact gH (a62,c63) (sH rfl) (cH (bc (bc bf)) (cH (bc (bc bf)) (cH (bc (bc bf)) eF))) trivial
        skip
        refine bB rfl rfl rfl rfl (bT rfl rfl rfl rfl rfl (ga rfl iM) rfl rfl rfl rfl (fun b59=>bP 1 (by kernel_rfl) (bB rfl rfl rfl rfl (nK (f9 (p:=pO a34 l33.length c35) rfl (.p rfl) zm3 rfl) (bP 8 (by kernel_rfl) ?_)))))
        refine bB rfl rfl rfl rfl (cx (enc:=Zb.enc) rfl rfl rfl rfl rfl rfl rfl rfl rfl gw (by exact bc (bc bf)) hl61 (fun a62 c63=>?_))
        refine cD 9 (by kernel_rfl) rfl rfl rfl rfl (bu rfl rfl rfl rfl rfl (.p rfl)) (bP 10 (by kernel_rfl) (gf rfl rfl rfl (bL (vs:=[pO a62 l61.length c63]) rfl rfl rfl rfl rfl (jj (jj (jj gF))) (du (du (du (du (du (du lg)))))) (gc (by kernel_rfl) ?_))))
        exact gH (a62,c63) (sH rfl) (cH (bc (bc bf)) (cH (bc (bc bf)) (cH (bc (bc bf)) eF))) trivial
       rintro ⟨a62,c63⟩ τ ρ1 hsub65 _;(try dsimp only at hsub65);dsimp only [aG]
       refine ak ?_
       obtain rfl:=osi hq54
       exact aO ((a62,c63),(x58.2.L,x58.2.I,l61)) (sH rfl) (PSub.trans zs4 hsub65) rfl
      refine al ?_
      refine ak ?_
      obtain rfl:=osi hq54
      exact aO ((a34,c35),(x56.2.L,x56.2.I,l33)) (sH rfl) (cH bf (cH bf (cH (bc bf) eF))) rfl
     rintro ⟨⟨a51,c52⟩,⟨l48,v49,l53⟩⟩ τ hz;(try dsimp only at hz);subst q54;(try dsimp only at hb43);dsimp only [aG]
     refine ah [60,61] [(9,pI (IntKind.i64.wrap (v29+1)))] (by kernel_rfl) ?_
     exact bd hb43 (a51,c52) (sH rfl) (cH bf (cH bf (cH (bc bf) eF)))
    refine aT ?_
    refine ar (ap hb43 (fun ht=>au rfl ?_))
    exact aO ((a34,c35),(l30,v31,l33)) (rz rfl) (cH bf (cH bf (cH (bc bf) eF))) ht.symm
   rintro ⟨⟨a40,c41⟩,⟨l37,v38,l42⟩⟩ τ hz;(try dsimp only at hz);subst q44;(try dsimp only at hb15);dsimp only [aG]
   refine ag (aw 1 [(88,pO a6 l5.length c7)] (by kernel_rfl) ?_)
   refine qa (css:=List.map Zb.enc l42) (a:=a40) (by exact bc (bc (bc bf))) ?_
   refine qP (k:=6) (enc:=Zb.enc) (xs:=l42) (b:=b27) (a:=a40) rfl gw (jj (jj gF)) (tz 1 [2] [(89,.agg [pI (IntKind.i64.wrap (3*v8)),pS x20.1,pS m23,pI (IntKind.i64.wrap (1+x24.1)),pB (x26.1 == 1),pL eS x25.1,pL Zb.enc l42])] (by kernel_rfl) (aA rfl (bT rfl rfl rfl rfl rfl (ga rfl iM) rfl rfl rfl rfl (fun b66=>aa hb15 fun l68 hl68 hb15=>?_))))
   refine aA rfl (cx (enc:=Za.enc) rfl rfl rfl rfl rfl rfl rfl rfl rfl gw (by exact bc (bc (bc (bc bf)))) hl68 (fun a69 c70=>?_))
   refine aV [(5,pO a69 l68.length c70)] (by kernel_rfl) (ak (aq (ah [20,21] [(6,pI (IntKind.i64.wrap (v8+1)))] (by kernel_rfl) ?_)))
   exact bd hb15 (a69,c70) (mE rfl) (cH (bc (bc (bc bf))) eF)
  refine aT ?_
  refine ar (ap hb15 (fun ht=>au rfl ?_))
  exact aO ((a6,c7),l5) (j6 rfl) (cH (bc bf) dr) ht.symm
 rintro ⟨⟨a12,c13⟩,l14⟩ τ hz;(try dsimp only at hz);subst q16;(try dsimp only at h);dsimp only [aG]
 refine ae (ah [92] [(2,pO a12 l14.length c13)] (by kernel_rfl) (cN ?_))
 obtain rfl:=osi h
 exact bJ (fu (bS rfl)) eF ⟨_,_,rfl,rfl⟩
def bN (p0:Int):Option Bool:=some ((decide (65≤p0))&&(decide (p0≤90)))
theorem dH {p0:Int} {r:Bool}  (h:bN p0=some r):PF 39 [pY p0] (pB r):=by
 unfold bN at h
 refine bH ?_
 refine aH Tryd.func39 rfl Tryd.ntmps39 Tryd.results39 rfl (ae (aL [2] (by kernel_rfl) (bC (ah (rg 3 6) [(2,pB ((decide (65≤p0))&&(decide (p0≤90))))] (by kernel_rfl) (cN ?_)))))
 exact zz r h rfl
def bq (p0:ByteArray):Option Bool:=(gd ((p0.size:Int) == 2) (idx p0.data.toList 0)).bind fun c1=>(gd ((p0.size:Int) == 2) (bN (c1.toNat:Int))).bind fun x2=>(gd (((p0.size:Int) == 2)&&x2) (idx p0.data.toList 1)).bind fun c3=>(gd (((p0.size:Int) == 2)&&x2) (bN (c3.toNat:Int))).bind fun x4=>some ((((p0.size:Int) == 2)&&x2)&&x4)
theorem fx {p0:ByteArray} {r:Bool}  (h:bq p0=some r):PF 26 [pS p0] (pB r):=by
 unfold bq at h
 refine bH ?_
 refine aH Tryd.func26 rfl Tryd.ntmps26 Tryd.results26 rfl (ae (aL [2] (by kernel_rfl) (bC (aa h fun c1 hc1 h=>aa h fun x2 hx2 h=>aa h fun c3 hc3 h=>aa h fun x4 hx4 h=>aN [] (rg 3 13) [(2,pB ((((p0.size:Int) == 2)&&x2)&&x4))] (jJ 5 (cW hc1) (hY 6 (fun hc=>dH (cW hx2 hc)) (jJ 10 (cW hc3) (hY 11 (fun hc=>dH (cW hx4 hc)) cf)))) (by kernel_rfl) (cN ?_)))))
 exact zz r h rfl
def aK (p0:(List Za)) (p1:(Za→Option Bool)):Option Int:=(bh (S:=Int) (T:=(Unit)⊕(_)) (fun v1=>cond (decide (v1<(p0.length:Int))) ((idx p0 v1).bind fun m5=>(p1 m5).bind fun x6=>cond x6 (some (.inr (.inr v1))) (some (.inl (IntKind.i64.wrap (v1+1))))) (some (.inr (.inl ())))) FUEL 0).bind fun q=>match q with | .inl _=>some (-1) | .inr e=>some e
theorem cL {p0:(List Za)} {p1:(Za→Option Bool)} {r:Int} {g1:PV} (hg1:∀ {y0:Za} {w:Bool},p1 y0=some w→PFV g1 [.agg (an y0)] (pB w)) (h:aK p0 p1=some r):PF 41 [pL Za.enc p0,g1] (pI r):=by
 unfold aK at h
 refine bH ?_
 refine aH Tryd.func41 rfl Tryd.ntmps41 Tryd.results41 rfl (ae (aL [4] (by kernel_rfl) (fE (ah [6] [(7,pI (p0.length:Int)),(8,pI 0)] (by kernel_rfl) (aq (aa h fun q3 hq3 h=>?_))))))
 refine aP (Y:=Unit×Unit) (fun (_,_)=>[]) (fun (_,_)=>[]) (fun (_,_)=>q3=Sum.inl ()) ?_ ?_
 ·refine am ?_
  refine aQ (Y:=Unit) (S:=Int) _ hq3 (fun _ v1=>[(0,pL Za.enc p0),(1,g1),(7,pI (p0.length:Int)),(8,pI v1)]) (fun _ v1=>[]) () (mE rfl) dr ?_
  rintro _ v1 o τ hb2;(try dsimp only at hb2);dsimp only [aG]
  refine ae (ai [(9,pB (decide (v1<(p0.length:Int))))] (by kernel_rfl) (bC (qf rfl hb2 (fun hc4 hb2=>?_) fun hc4 hb2=>?_)))
  ·refine al ?_
   refine bC (am (ae (ah [10] [(5,pI v1)] (by kernel_rfl) (bC (aa hb2 fun m5 hm5 hb2=>aa hb2 fun x6 hx6 hb2=>aN [] (rg 11 5) [(16,pB x6)] (eb 3 Za.enc hm5 (focv 5 (hg1 hx6) cf)) (by kernel_rfl) (cO rfl hb2 (fun hc7 hb2=>?_) fun hc7 hb2=>?_))))))
   ·refine ae ?_
    refine ah [17] [(4,pI v1)] (by kernel_rfl) (cN (af (aj ?_)))
    refine av hb2 (fun ht=>?_);subst ht
    refine af (az ?_)
    exact zz r h rfl
   refine al ?_
   refine ak (aq (ah [18] [(8,pI (IntKind.i64.wrap (v1+1)))] (by kernel_rfl) ?_))
   exact bd hb2 () (mE rfl) dr
  refine aT ?_
  refine ar (ap hb2 (fun ht=>au rfl ?_))
  exact aO ((),()) lG dr ht.symm
 rintro ⟨_,_⟩ τ hz;(try dsimp only at hz);subst q3;(try dsimp only at h);dsimp only [aG]
 refine ae (ai [(4,pI (-1))] (by kernel_rfl) (cN ?_))
 exact zz r h rfl
def aC (p0:(List Za)) (p1:(Za→Option Bool)):Option Bool:=(aK p0 p1).bind fun x1=>some (decide (0≤x1))
theorem cA {p0:(List Za)} {p1:(Za→Option Bool)} {r:Bool} {g1:PV} (hg1:∀ {y0:Za} {w:Bool},p1 y0=some w→PFV g1 [.agg (an y0)] (pB w)) (h:aC p0 p1=some r):PF 28 [pL Za.enc p0,g1] (pB r):=by
 unfold aC at h
 refine bH ?_
 refine aH Tryd.func28 rfl Tryd.ntmps28 Tryd.results28 rfl (ae (aL [4] (by kernel_rfl) (bC (aa h fun x1 hx1 h=>aN [] [5,6,7,8] [(4,pB (decide (0≤x1)))] (dD 2 (cL hg1 hx1) cf) (by kernel_rfl) (cN ?_)))))
 exact zz r h rfl
def aZ (p0:Za) (p1:Zb):Option Bool:=some (p0.ID == p1.Product)
theorem ex {p0:Za} {p1:Zb} {r:Bool}  (h:aZ p0 p1=some r):PF 29 [.agg (an p0),.ref [pI p1.Product,pI p1.Value] 0] (pB r):=by
 unfold aZ at h
 refine bH ?_
 refine aH Tryd.func29 rfl Tryd.ntmps29 Tryd.results29 rfl (ae (ag (aA rfl (gK (cs:=(an p0)) rfl rfl (fun b1=>eO [3] (by kernel_rfl) (bC (cX [0] (rg 4 5) [(3,pB (p0.ID == p1.Product))] (by kernel_rfl) (cN ?_))))))))
 exact zz r h rfl
def bk (p0:(List Za)) (p1:(List Zb)):Option Int:=(bh (S:=Int) (T:=(Unit)⊕(_)) (fun v1=>cond (decide (v1<(p1.length:Int))) ((idx p1 v1).bind fun m5=>(gd (decide (0<v1)) (idx p1 (IntKind.i64.wrap (v1 - 1)))).bind fun m7=>cond ((decide (0<v1))&&(decide (m5.Product≤m7.Product))) (some (.inr (.inr (9:Int)))) ((aC p0 (fun y9=>aZ y9 m5)).bind fun x10=>cond (!x10) (some (.inr (.inr (6:Int)))) (cond ((decide (m5.Value<0))||(decide (1000000000000<m5.Value))) (some (.inr (.inr (2:Int)))) (some (.inl (IntKind.i64.wrap (v1+1))))))) (some (.inr (.inl ())))) FUEL 0).bind fun q=>match q with | .inl _=>some (0:Int) | .inr e=>some e
theorem eV {p0:(List Za)} {p1:(List Zb)} {r:Int}  (h:bk p0 p1=some r):PF 15 [pL Za.enc p0,pL Zb.enc p1] (pI r):=by
 unfold bk at h
 refine bH ?_
 refine aH Tryd.func15 rfl Tryd.ntmps15 Tryd.results15 rfl (ae (aL [4] (by kernel_rfl) (fE (ai [(7,pL Zb.enc p1),(8,pI (p1.length:Int)),(9,pI 0)] (by kernel_rfl) (aq (aa h fun q3 hq3 h=>?_))))))
 refine aP (Y:=Unit×Unit) (fun (_,_)=>[]) (fun (_,_)=>[]) (fun (_,_)=>q3=Sum.inl ()) ?_ ?_
 ·refine am ?_
  refine aQ (Y:=Unit) (S:=Int) _ hq3 (fun _ v1=>[(0,pL Za.enc p0),(1,pL Zb.enc p1),(7,pL Zb.enc p1),(8,pI (p1.length:Int)),(9,pI v1)]) (fun _ v1=>[]) () (rz rfl) dr ?_
  rintro _ v1 o τ hb2;(try dsimp only at hb2);dsimp only [aG]
  refine ae (ai [(10,pB (decide (v1<(p1.length:Int))))] (by kernel_rfl) (bC (qf rfl hb2 (fun hc4 hb2=>?_) fun hc4 hb2=>?_)))
  ·refine al ?_
   refine bC (am (ae (aa hb2 fun m5 hm5 hb2=>ag (bj 3 [] [12] [(11,pI v1),(13,.agg [pI m5.Product,pI m5.Value])] (eb 1 Zb.enc hm5 cf) (by kernel_rfl) (aA rfl (dc (cs:=[pI 0,pI 0]) rfl rfl rfl rfl (fun b6=>aw 1 [(5,pI v1)] (by kernel_rfl) (bR rfl rfl (bL (vs:=[pI m5.Product,pI m5.Value]) rfl rfl rfl rfl rfl gF zl2 (bg (fE (cw (ρd:=[]) [(0,0),(1,0),(2,0),(3,0),(4,0),(5,0),(6,0),(7,0),(8,0),(9,0),(10,0),(11,0),(12,0)] _ (List.Perm.refl _) (by kernel_rfl) rfl (aa hb2 fun m7 hm7 hb2=>cn 13 [0] (rg 14 12) [(26,pB ((decide (0<v1))&&(decide (m5.Product≤m7.Product))))] (gh 8 Zb.enc (cW hm7) cf) (by kernel_rfl) (da (cO rfl hb2 (fun hc8 hb2=>?_) fun hc8 hb2=>?_)))))))))))))))
   ·refine ae ?_
    refine ai [(4,pI 9)] (by kernel_rfl) (cN (aj (af (aj ?_))))
    refine av hb2 (fun ht=>?_);subst ht
    refine af (az ?_)
    exact zz r h rfl
   refine al ?_
   refine fE (ag (aw 1 [(27,pL Za.enc p0)] (by kernel_rfl) ?_))
   refine qb 6 rfl (by exact bf) ?_
   refine aa hb2 fun x10 hx10 hb2=>fb [] [28,29] [(30,pB (!x10))] (dD 1 (cA (fun hr=>oT (ex hr)) hx10) cf) (by kernel_rfl) (cO rfl hb2 (fun hc11 hb2=>?_) fun hc11 hb2=>?_)
   ·refine ae ?_
    refine ai [(4,pI 6)] (by kernel_rfl) (cN (aj (af (aj ?_))))
    refine av hb2 (fun ht=>?_);subst ht
    refine af (az ?_)
    exact zz r h rfl
   refine al ?_
   refine bC (ah (rg 31 7) [(38,pB ((decide (m5.Value<0))||(decide (1000000000000<m5.Value))))] (by kernel_rfl) (cO rfl hb2 (fun hc12 hb2=>?_) fun hc12 hb2=>?_))
   ·refine ae ?_
    refine ai [(4,pI 2)] (by kernel_rfl) (cN (af (aj ?_)))
    refine av hb2 (fun ht=>?_);subst ht
    refine af (az ?_)
    exact zz r h rfl
   refine al ?_
   refine ak (aq (ah [39] [(9,pI (IntKind.i64.wrap (v1+1)))] (by kernel_rfl) ?_))
   exact bd hb2 () (rz rfl) dr
  refine aT ?_
  refine ar (ap hb2 (fun ht=>au rfl ?_))
  exact aO ((),()) lG dr ht.symm
 rintro ⟨_,_⟩ τ hz;(try dsimp only at hz);subst q3;(try dsimp only at h);dsimp only [aG]
 refine ae (ai [(4,pI 0)] (by kernel_rfl) (cN ?_))
 exact zz r h rfl
def dI (p0:ByteArray):Option Int:=(bh (S:=Int) (T:=(Unit)⊕(_)) (fun v1=>cond (decide (v1<(p0.size:Int))) ((idx p0.data.toList v1).bind fun c5=>(gd (!(decide ((c5.toNat:Int)<48))) (idx p0.data.toList v1)).bind fun c6=>cond ((decide ((c5.toNat:Int)<48))||(decide (57<(c6.toNat:Int)))) (some (.inr (.inr (0:Int)))) (some (.inl (IntKind.i64.wrap (v1+1))))) (some (.inr (.inl ())))) FUEL 0).bind fun q=>match q with | .inl _=>cond ((decide (8<(p0.size:Int)))||((Int.tmod (p0.size:Int) 2) == 1)) (some (0:Int)) (some (p0.size:Int)) | .inr e=>some e
theorem k7 {p0:ByteArray} {r:Int}  (h:dI p0=some r):PF 16 [pS p0] (pI r):=by
 unfold dI at h
 refine bH ?_
 refine aH Tryd.func16 rfl Tryd.ntmps16 Tryd.results16 rfl (ae (aL [2] (by kernel_rfl) (fE (ai [(3,pI 0)] (by kernel_rfl) (aq (aa h fun q3 hq3 h=>?_))))))
 refine aP (Y:=Unit×Unit) (fun (_,_)=>[(0,pS p0)]) (fun (_,_)=>[]) (fun (_,_)=>q3=Sum.inl ()) ?_ ?_
 ·refine am ?_
  refine aQ (Y:=Unit) (S:=Int) _ hq3 (fun _ v1=>[(0,pS p0),(3,pI v1)]) (fun _ v1=>[]) () (tU rfl) dr ?_
  rintro _ v1 o τ hb2;(try dsimp only at hb2);dsimp only [aG]
  refine ae (ae (ah [4,5,6] [(7,pB (decide (v1<(p0.size:Int))))] (by kernel_rfl) (cO rfl hb2 (fun hc4 hb2=>?_) fun hc4 hb2=>?_)))
  ·refine al ?_
   refine bC (am (ae (aa hb2 fun c5 hc5 hb2=>aa hb2 fun c6 hc6 hb2=>aN [] (rg 10 9) [(19,pB ((decide ((c5.toNat:Int)<48))||(decide (57<(c6.toNat:Int)))))] (fosx 2 hc5 (jJ 7 (cW hc6) cf)) (by kernel_rfl) (cO rfl hb2 (fun hc7 hb2=>?_) fun hc7 hb2=>?_))))
   ·refine ae ?_
    refine ai [(2,pI 0)] (by kernel_rfl) (cN (af (aj ?_)))
    refine av hb2 (fun ht=>?_);subst ht
    refine af (az ?_)
    exact zz r h rfl
   refine al ?_
   refine ak (aq (ah [8,9] [(3,pI (IntKind.i64.wrap (v1+1)))] (by kernel_rfl) ?_))
   exact bd hb2 () (tU rfl) dr
  refine aT ?_
  refine ar (ap hb2 (fun ht=>au rfl ?_))
  exact aO ((),()) (j6 rfl) dr ht.symm
 rintro ⟨_,_⟩ τ hz;(try dsimp only at hz);subst q3;(try dsimp only at h);dsimp only [aG]
 refine ae (ae (ah (rg 20 8) [(28,pB ((decide (8<(p0.size:Int)))||((Int.tmod (p0.size:Int) 2) == 1)))] (by kernel_rfl) (cO rfl h (fun hc8 h=>?_) fun hc8 h=>?_)))
 ·refine ae ?_
  refine ai [(2,pI 0)] (by kernel_rfl) (cN (aj ?_))
  exact zz r h rfl
 refine al ?_
 refine bC (ah [29,30] [(2,pI (p0.size:Int))] (by kernel_rfl) (cN ?_))
 exact zz r h rfl
def cY (p0:ByteArray):Option Bool:=(gd ((p0.size:Int) == 2) (idx p0.data.toList 0)).bind fun c1=>(gd (((p0.size:Int) == 2)&&(decide (65≤(c1.toNat:Int)))) (idx p0.data.toList 0)).bind fun c2=>(gd ((((p0.size:Int) == 2)&&(decide (65≤(c1.toNat:Int))))&&(decide ((c2.toNat:Int)≤90))) (idx p0.data.toList 1)).bind fun c3=>(gd (((((p0.size:Int) == 2)&&(decide (65≤(c1.toNat:Int))))&&(decide ((c2.toNat:Int)≤90)))&&(decide (65≤(c3.toNat:Int)))) (idx p0.data.toList 1)).bind fun c4=>some ((((((p0.size:Int) == 2)&&(decide (65≤(c1.toNat:Int))))&&(decide ((c2.toNat:Int)≤90)))&&(decide (65≤(c3.toNat:Int))))&&(decide ((c4.toNat:Int)≤90)))
theorem jy {p0:ByteArray} {r:Bool}  (h:cY p0=some r):PF 17 [pS p0] (pB r):=by
 unfold cY at h
 refine bH ?_
 refine aH Tryd.func17 rfl Tryd.ntmps17 Tryd.results17 rfl (ae (aL [2] (by kernel_rfl) (bC (aa h fun c1 hc1 h=>aa h fun c2 hc2 h=>aa h fun c3 hc3 h=>aa h fun c4 hc4 h=>aN [] (rg 3 23) [(2,pB ((((((p0.size:Int) == 2)&&(decide (65≤(c1.toNat:Int))))&&(decide ((c2.toNat:Int)≤90)))&&(decide (65≤(c3.toNat:Int))))&&(decide ((c4.toNat:Int)≤90))))] (jJ 5 (cW hc1) (jJ 10 (cW hc2) (jJ 15 (cW hc3) (jJ 20 (cW hc4) cf)))) (by kernel_rfl) (cN ?_)))))
 exact zz r h rfl
def fy (p0:ByteArray):Option Bool:=(bh (S:=Int) (T:=(Unit)⊕(_)) (fun v1=>cond (decide (v1<(p0.size:Int))) ((idx p0.data.toList v1).bind fun c5=>(gd (!(decide ((c5.toNat:Int)<97))) (idx p0.data.toList v1)).bind fun c6=>cond ((decide ((c5.toNat:Int)<97))||(decide (122<(c6.toNat:Int)))) (some (.inr (.inr false))) (some (.inl (IntKind.i64.wrap (v1+1))))) (some (.inr (.inl ())))) FUEL 0).bind fun q=>match q with | .inl _=>some ((decide (1≤(p0.size:Int)))&&(decide ((p0.size:Int)≤12))) | .inr e=>some e
theorem lr {p0:ByteArray} {r:Bool}  (h:fy p0=some r):PF 30 [pS p0] (pB r):=by
 unfold fy at h
 refine bH ?_
 refine aH Tryd.func30 rfl Tryd.ntmps30 Tryd.results30 rfl (ae (aL [2] (by kernel_rfl) (fE (ai [(3,pI 0)] (by kernel_rfl) (aq (aa h fun q3 hq3 h=>?_))))))
 refine aP (Y:=Unit×Unit) (fun (_,_)=>[(0,pS p0)]) (fun (_,_)=>[]) (fun (_,_)=>q3=Sum.inl ()) ?_ ?_
 ·refine am ?_
  refine aQ (Y:=Unit) (S:=Int) _ hq3 (fun _ v1=>[(0,pS p0),(3,pI v1)]) (fun _ v1=>[]) () (tU rfl) dr ?_
  rintro _ v1 o τ hb2;(try dsimp only at hb2);dsimp only [aG]
  refine ae (ae (ah [4,5,6] [(7,pB (decide (v1<(p0.size:Int))))] (by kernel_rfl) (cO rfl hb2 (fun hc4 hb2=>?_) fun hc4 hb2=>?_)))
  ·refine al ?_
   refine bC (am (ae (aa hb2 fun c5 hc5 hb2=>aa hb2 fun c6 hc6 hb2=>aN [] (rg 10 9) [(19,pB ((decide ((c5.toNat:Int)<97))||(decide (122<(c6.toNat:Int)))))] (fosx 2 hc5 (jJ 7 (cW hc6) cf)) (by kernel_rfl) (cO rfl hb2 (fun hc7 hb2=>?_) fun hc7 hb2=>?_))))
   ·refine ae ?_
    refine ai [(2,pB false)] (by kernel_rfl) (cN (af (aj ?_)))
    refine av hb2 (fun ht=>?_);subst ht
    refine af (az ?_)
    exact zz r h rfl
   refine al ?_
   refine ak (aq (ah [8,9] [(3,pI (IntKind.i64.wrap (v1+1)))] (by kernel_rfl) ?_))
   exact bd hb2 () (tU rfl) dr
  refine aT ?_
  refine ar (ap hb2 (fun ht=>au rfl ?_))
  exact aO ((),()) (j6 rfl) dr ht.symm
 rintro ⟨_,_⟩ τ hz;(try dsimp only at hz);subst q3;(try dsimp only at h);dsimp only [aG]
 refine ae (ah (rg 20 8) [(2,pB ((decide (1≤(p0.size:Int)))&&(decide ((p0.size:Int)≤12))))] (by kernel_rfl) (cN ?_))
 exact zz r h rfl
def dJ (p0:(List ByteArray)):Option Bool:=(bh (S:=Int) (T:=(Unit)⊕(_)) (fun v1=>cond (decide (v1<(p0.length:Int))) ((idx p0 v1).bind fun m5=>(fy m5).bind fun x6=>(gd ((!(!x6))&&(decide (0<v1))) (idx p0 (IntKind.i64.wrap (v1 - 1)))).bind fun m7=>(gd ((!(!x6))&&(decide (0<v1))) (idx p0 v1)).bind fun m8=>cond ((!x6)||((decide (0<v1))&&(!Op.bytesLess m7.toList m8.toList))) (some (.inr (.inr false))) (some (.inl (IntKind.i64.wrap (v1+1))))) (some (.inr (.inl ())))) FUEL 0).bind fun q=>match q with | .inl _=>some (decide ((p0.length:Int)≤8)) | .inr e=>some e
theorem k8 {p0:(List ByteArray)} {r:Bool}  (h:dJ p0=some r):PF 18 [pL eS p0] (pB r):=by
 unfold dJ at h
 refine bH ?_
 refine aH Tryd.func18 rfl Tryd.ntmps18 Tryd.results18 rfl (ae (aL [2] (by kernel_rfl) (fE (ai [(3,pI 0)] (by kernel_rfl) (aq (aa h fun q3 hq3 h=>?_))))))
 refine aP (Y:=Unit×Unit) (fun (_,_)=>[(0,pL eS p0)]) (fun (_,_)=>[]) (fun (_,_)=>q3=Sum.inl ()) ?_ ?_
 ·refine am ?_
  refine aQ (Y:=Unit) (S:=Int) _ hq3 (fun _ v1=>[(0,pL eS p0),(3,pI v1)]) (fun _ v1=>[]) () (tU rfl) dr ?_
  rintro _ v1 o τ hb2;(try dsimp only at hb2);dsimp only [aG]
  refine ae (ae (ah [4,5,6] [(7,pB (decide (v1<(p0.length:Int))))] (by kernel_rfl) (cO rfl hb2 (fun hc4 hb2=>?_) fun hc4 hb2=>?_)))
  ·refine al ?_
   refine bC (am (ae (cw (ρd:=[]) [(0,0),(1,0),(2,0),(3,0),(4,1),(5,0),(6,0),(7,0),(8,0),(9,0),(10,0),(11,0),(12,0),(13,0),(14,0),(15,0),(16,0),(17,0),(18,0),(19,0),(20,0),(21,0)] _ (List.Perm.refl _) (by kernel_rfl) rfl (aa hb2 fun m5 hm5 hb2=>aa hb2 fun x6 hx6 hb2=>aa hb2 fun m7 hm7 hb2=>aa hb2 fun m8 hm8 hb2=>cn 22 [] (rg 10 21) [(31,pB ((!x6)||((decide (0<v1))&&(!Op.bytesLess m7.toList m8.toList))))] (eb 2 eS hm5 (dD 4 (lr hx6) (gh 13 eS (cW hm7) (gh 17 eS (cW hm8) cf)))) (by kernel_rfl) (da (cO rfl hb2 (fun hc9 hb2=>?_) fun hc9 hb2=>?_))))))
   ·refine ae ?_
    refine ai [(2,pB false)] (by kernel_rfl) (cN (af (aj ?_)))
    refine av hb2 (fun ht=>?_);subst ht
    refine af (az ?_)
    exact zz r h rfl
   refine al ?_
   refine ak (aq (ah [8,9] [(3,pI (IntKind.i64.wrap (v1+1)))] (by kernel_rfl) ?_))
   exact bd hb2 () (tU rfl) dr
  refine aT ?_
  refine ar (ap hb2 (fun ht=>au rfl ?_))
  exact aO ((),()) (j6 rfl) dr ht.symm
 rintro ⟨_,_⟩ τ hz;(try dsimp only at hz);subst q3;(try dsimp only at h);dsimp only [aG]
 refine ae (ah [32,33,34] [(2,pB (decide ((p0.length:Int)≤8)))] (by kernel_rfl) (cN ?_))
 exact zz r h rfl
def de (p0:(List Za)) (p1:Int):Option (Za×Bool):=(bh (S:=Int) (T:=(Unit)⊕(_)) (fun v2=>cond (decide (v2<(p0.length:Int))) ((idx p0 v2).bind fun m6=>cond (m6.ID == p1) ((idx p0 v2).bind fun m8=>some (.inr (.inr (m8,true)))) (some (.inl (IntKind.i64.wrap (v2+1))))) (some (.inr (.inl ())))) FUEL 0).bind fun q=>match q with | .inl _=>some ((⟨0,ByteArray.empty,ByteArray.empty,0,false,[],[]⟩:Za),false) | .inr e=>some e
theorem ls {p0:(List Za)} {p1:Int} {r:(Za×Bool)}  (h:de p0 p1=some r):PF 19 [pL Za.enc p0,pI p1] (.tup [.agg (an r.1),pB r.2]):=by
 unfold de at h
 refine bH ?_
 refine aH Tryd.func19 rfl Tryd.ntmps19 Tryd.results19 rfl (ae (ag (aA rfl (dc (cs:=[pI 0,pS ByteArray.empty,pS ByteArray.empty,pI 0,pB false,pN,pN]) rfl rfl rfl rfl (fun b1=>eO [5] (by kernel_rfl) (fE (ai [(6,pI 0)] (by kernel_rfl) (aq (aa h fun q4 hq4 h=>?_)))))))))
 refine aP (Y:=Unit×Unit) (fun (_,_)=>[(4,pP b1 0)]) (fun (_,_)=>[PRes.b b1 26 [pI 0,pS ByteArray.empty,pS ByteArray.empty,pI 0,pB false,pN,pN]]) (fun (_,_)=>q4=Sum.inl ()) ?_ ?_
 ·refine am ?_
  refine aQ (Y:=Unit) (S:=Int) _ hq4 (fun _ v2=>[(0,pL Za.enc p0),(1,pI p1),(4,pP b1 0),(6,pI v2)]) (fun _ v2=>[PRes.b b1 26 [pI 0,pS ByteArray.empty,pS ByteArray.empty,pI 0,pB false,pN,pN]]) () (mE rfl) eF ?_
  rintro _ v2 o τ hb3;(try dsimp only at hb3);dsimp only [aG]
  refine ae (ae (ah [7,8,9] [(10,pB (decide (v2<(p0.length:Int))))] (by kernel_rfl) (cO rfl hb3 (fun hc5 hb3=>?_) fun hc5 hb3=>?_)))
  ·refine al ?_
   refine bC (am (ae (aa hb3 fun m6 hm6 hb3=>aN [] (rg 13 6) [(19,pB (m6.ID == p1))] (eb 2 Za.enc hm6 cf) (by kernel_rfl) (cO rfl hb3 (fun hc7 hb3=>?_) fun hc7 hb3=>?_))))
   ·refine ae ?_
    refine aa hb3 fun m8 hm8 hb3=>ag (bj 4 [] [20,21,22] [(23,.agg (an m8))] (eb 2 Za.enc hm8 cf) (by kernel_rfl) (bR rfl rfl (bL (vs:=(an m8)) rfl rfl rfl rfl rfl gF sI (aV [(5,pB true)] (by kernel_rfl) (cN (af (aj ?_)))))))
    refine av hb3 (fun ht=>?_);subst ht
    refine af (az ?_)
    obtain rfl:=osi h
    exact bJ (lH (sn rfl gw rfl) (bS rfl)) dr ⟨rfl,rfl⟩
   refine al ?_
   refine ak (aq (ah [11,12] [(6,pI (IntKind.i64.wrap (v2+1)))] (by kernel_rfl) ?_))
   exact bd hb3 () (mE rfl) eF
  refine aT ?_
  refine ar (ap hb3 (fun ht=>au rfl ?_))
  exact aO ((),()) (j6 rfl) eF ht.symm
 rintro ⟨_,_⟩ τ hz;(try dsimp only at hz);subst q4;(try dsimp only at h);dsimp only [aG]
 refine ae (ag (aw 1 [(24,.agg [pI 0,pS ByteArray.empty,pS ByteArray.empty,pI 0,pB false,pN,pN])] (by kernel_rfl) (bR rfl rfl (bL (vs:=[pI 0,pS ByteArray.empty,pS ByteArray.empty,pI 0,pB false,pN,pN]) rfl rfl rfl rfl rfl gF sI (aV [(5,pB false)] (by kernel_rfl) (aq (nQ (k:=5) (b:=b1) rfl gF (nQ (k:=6) (b:=b1) rfl gF (dk ?_)))))))))
 obtain rfl:=osi h
 exact bJ (lH (sn rfl gw rfl) (bS rfl)) dr ⟨rfl,rfl⟩
def fz (p0:(List Za)):Option Int:=cond (decide (64<(p0.length:Int))) (some (8:Int)) ((bh (S:=Int) (T:=(Unit)⊕(_)) (fun v2=>cond (decide (v2<(p0.length:Int))) ((idx p0 v2).bind fun m6=>cond ((decide (m6.ID<1))||(decide (1000000<m6.ID))) (some (.inr (.inr (2:Int)))) ((gd (decide (0<v2)) (idx p0 (IntKind.i64.wrap (v2 - 1)))).bind fun m9=>cond ((decide (0<v2))&&(decide (m6.ID≤m9.ID))) (some (.inr (.inr (9:Int)))) ((dI m6.Code).bind fun x11=>(gd (!(decide (x11<6))) (cY m6.Country)).bind fun x12=>(gd (!((decide (x11<6))||(!x12))) (dJ m6.Processes)).bind fun x13=>cond (((decide (x11<6))||(!x12))||(!x13)) (some (.inr (.inr (1:Int)))) (cond ((decide (m6.Price<1))||(decide (1000000000000<m6.Price))) (some (.inr (.inr (2:Int)))) (cond (decide (8<(m6.Inputs.length:Int))) (some (.inr (.inr (8:Int)))) (cond (m6.Obtained&&(decide (0<(m6.Inputs.length:Int)))) (some (.inr (.inr (1:Int)))) ((bh (S:=Int) (T:=(Unit)⊕(_)) (fun v18=>cond (decide (v18<(m6.Inputs.length:Int))) ((gd (decide (0<v18)) (idx m6.Inputs v18)).bind fun m22=>(gd (decide (0<v18)) (idx m6.Inputs (IntKind.i64.wrap (v18 - 1)))).bind fun m23=>cond ((decide (0<v18))&&(decide (m22.Product≤m23.Product))) (some (.inr (.inr (.inr (.inr (9:Int)))))) ((idx m6.Inputs v18).bind fun m25=>(de p0 m25.Product).bind fun x26=>cond (!x26.2) (some (.inr (.inr (.inr (.inr (6:Int)))))) ((idx m6.Inputs v18).bind fun m29=>(gd (!(decide (m29.Value<0))) (idx m6.Inputs v18)).bind fun m30=>cond ((decide (m29.Value<0))||(decide (1000000000000<m30.Value))) (some (.inr (.inr (.inr (.inr (2:Int)))))) (some (.inl (IntKind.i64.wrap (v18+1))))))) (some (.inr (.inl ())))) FUEL 0).bind fun q=>match q with | .inl _=>some (.inl (IntKind.i64.wrap (v2+1))) | .inr e=>some e))))))) (some (.inr (.inl ())))) FUEL 0).bind fun q=>match q with | .inl _=>some (0:Int) | .inr e=>some e)
theorem lu {p0:(List Za)} {r:Int}  (h:fz p0=some r):PF 7 [pL Za.enc p0] (pI r):=by
 unfold fz at h
 refine bH ?_
 refine aH Tryd.func7 rfl Tryd.ntmps7 Tryd.results7 rfl (ae (aL [2] (by kernel_rfl) (fE (ah [8,9] [(10,pB (decide (64<(p0.length:Int))))] (by kernel_rfl) (cO rfl h (fun hc1 h=>?_) fun hc1 h=>?_)))))
 ·refine ae ?_
  refine ai [(2,pI 8)] (by kernel_rfl) (cN (aj ?_))
  exact zz r h rfl
 refine al ?_
 refine fE (ai [(3,pI 0)] (by kernel_rfl) (aq (aa h fun q4 hq4 h=>?_)))
 refine aP (Y:=Unit×Unit) (fun (_,_)=>[]) (fun (_,_)=>[]) (fun (_,_)=>q4=Sum.inl ()) ?_ ?_
 ·refine am ?_
  refine aQ (Y:=Unit) (S:=Int) _ hq4 (fun _ v2=>[(0,pL Za.enc p0),(3,pI v2)]) (fun _ v2=>[]) () (tU rfl) dr ?_
  rintro _ v2 o τ hb3;(try dsimp only at hb3);dsimp only [aG]
  refine ae (ae (ah [11,12,13] [(14,pB (decide (v2<(p0.length:Int))))] (by kernel_rfl) (cO rfl hb3 (fun hc5 hb3=>?_) fun hc5 hb3=>?_)))
  ·refine al ?_
   refine bC (am (ae (aa hb3 fun m6 hm6 hb3=>ag (bj 4 [] [17,18,19] [(20,.agg (an m6))] (eb 2 Za.enc hm6 cf) (by kernel_rfl) (aA rfl (dc (cs:=[pI 0,pS ByteArray.empty,pS ByteArray.empty,pI 0,pB false,pN,pN]) rfl rfl rfl rfl (fun b7=>bR rfl rfl (bL (vs:=(an m6)) rfl rfl rfl rfl rfl gF sI (bg (bC (am (ae (cX [0,0] (rg 22 8) [(21,pB ((decide (m6.ID<1))||(decide (1000000<m6.ID))))] (by kernel_rfl) (cO rfl hb3 (fun hc8 hb3=>?_) fun hc8 hb3=>?_))))))))))))))
   ·refine ae ?_
    refine ai [(2,pI 2)] (by kernel_rfl) (cN (af (aj (af (aj ?_)))))
    refine av hb3 (fun ht=>?_);subst ht
    refine af (az ?_)
    exact zz r h rfl
   refine ae ?_
   refine cw (ρd:=[]) [(0,0),(1,0),(2,0),(3,0),(4,0),(5,0),(6,0),(7,0),(8,0),(9,0),(10,0),(11,0),(12,0),(13,0)] _ (List.Perm.refl _) (by kernel_rfl) rfl (aa hb3 fun m9 hm9 hb3=>cn 14 [0] (rg 31 13) [(30,pB ((decide (0<v2))&&(decide (m6.ID≤m9.ID))))] (gh 8 Za.enc (cW hm9) cf) (by kernel_rfl) (da (cO rfl hb3 (fun hc10 hb3=>?_) fun hc10 hb3=>?_)))
   ·refine ae ?_
    refine ai [(2,pI 9)] (by kernel_rfl) (cN (af (aj (af (aj ?_)))))
    refine av hb3 (fun ht=>?_);subst ht
    refine af (az ?_)
    exact zz r h rfl
   refine ae ?_
   refine aa hb3 fun x11 hx11 hb3=>aa hb3 fun x12 hx12 hb3=>aa hb3 fun x13 hx13 hb3=>aN [0,0,0] (rg 45 16) [(44,pB (((decide (x11<6))||(!x12))||(!x13)))] (dD 2 (k7 hx11) (hY 7 (fun hc=>jy (cW hx12 hc)) (hY 13 (fun hc=>k8 (cW hx13 hc)) cf))) (by kernel_rfl) (cO rfl hb3 (fun hc14 hb3=>?_) fun hc14 hb3=>?_)
   ·refine ae ?_
    refine ai [(2,pI 1)] (by kernel_rfl) (cN (af (aj (af (aj ?_)))))
    refine av hb3 (fun ht=>?_);subst ht
    refine af (az ?_)
    exact zz r h rfl
   refine ae ?_
   refine cX [0,0] (rg 62 8) [(61,pB ((decide (m6.Price<1))||(decide (1000000000000<m6.Price))))] (by kernel_rfl) (cO rfl hb3 (fun hc15 hb3=>?_) fun hc15 hb3=>?_)
   ·refine ae ?_
    refine ai [(2,pI 2)] (by kernel_rfl) (cN (af (aj (af (aj ?_)))))
    refine av hb3 (fun ht=>?_);subst ht
    refine af (az ?_)
    exact zz r h rfl
   refine ae ?_
   refine cX [0] [71,72,73,74] [(70,pB (decide (8<(m6.Inputs.length:Int))))] (by kernel_rfl) (cO rfl hb3 (fun hc16 hb3=>?_) fun hc16 hb3=>?_)
   ·refine ae ?_
    refine ai [(2,pI 8)] (by kernel_rfl) (cN (af (aj (af (aj ?_)))))
    refine av hb3 (fun ht=>?_);subst ht
    refine af (az ?_)
    exact zz r h rfl
   refine ae ?_
   refine cX [0,0] (rg 76 8) [(75,pB (m6.Obtained&&(decide (0<(m6.Inputs.length:Int)))))] (by kernel_rfl) (cO rfl hb3 (fun hc17 hb3=>?_) fun hc17 hb3=>?_)
   ·refine ae ?_
    refine ai [(2,pI 1)] (by kernel_rfl) (cN (af (aj (af (aj ?_)))))
    refine av hb3 (fun ht=>?_);subst ht
    refine af (az ?_)
    exact zz r h rfl
   refine al ?_
   refine ak (bC (ai [(5,pI 0)] (by kernel_rfl) (aq (aa hb3 fun q20 hq20 hb3=>?_))))
   refine hR (Y:=Unit×Unit) (fun (_,_)=>[(0,pL Za.enc p0),(3,pI v2)]) (fun (_,_)=>[]) (fun (_,_)=>q20=Sum.inl ()) ?_ ?_
   ·refine am ?_
    refine aQ (Y:=Unit) (S:=Int) _ hq20 (fun _ v18=>[(0,pL Za.enc p0),(3,pI v2),(4,pP b7 0),(5,pI v18)]) (fun _ v18=>[PRes.b b7 26 (an m6)]) () (mE rfl) eF ?_
    rintro _ v18 o τ hb19;(try dsimp only at hb19);dsimp only [aG]
    refine ae (ae (cX [0] [84,85,86,87] [(88,pB (decide (v18<(m6.Inputs.length:Int))))] (by kernel_rfl) (cO rfl hb19 (fun hc21 hb19=>?_) fun hc21 hb19=>?_)))
    ·refine al ?_
     refine bC (am (ae (ae (cw (ρd:=[]) [(0,0),(1,0),(2,0),(3,0),(4,0),(5,0),(6,0),(7,0),(8,0),(9,0),(10,0),(11,0),(12,0),(13,0),(14,0),(15,0),(16,0),(17,0)] _ (List.Perm.refl _) (by kernel_rfl) rfl (aa hb19 fun m22 hm22 hb19=>aa hb19 fun m23 hm23 hb19=>cn 18 [0,0] (rg 91 17) [(108,pB ((decide (0<v18))&&(decide (m22.Product≤m23.Product))))] (gh 6 Zb.enc (cW hm22) (gh 13 Zb.enc (cW hm23) cf)) (by kernel_rfl) (da (cO rfl hb19 (fun hc24 hb19=>?_) fun hc24 hb19=>?_)))))))
     ·refine ae ?_
      refine ai [(2,pI 9)] (by kernel_rfl) (cN (aj (af (aj ?_))))
      refine av hb19 (fun ht=>?_);subst ht
      refine af (dB (af (aj ?_)))
      refine av hb3 (fun ht=>?_);subst ht
      refine af (az ?_)
      exact zz r h rfl
     refine al ?_
     refine fE (aa hb19 fun m25 hm25 hb19=>aa hb19 fun x26 hx26 hb19=>ag (bj 11 [0] ((rg 110 8)++[109]) [(118,.agg (an x26.1)),(119,pB x26.2)] (eb 4 Zb.enc hm25 (dD 7 (ls hx26) cf)) (by kernel_rfl) (aA rfl (dc (cs:=[pI 0,pS ByteArray.empty,pS ByteArray.empty,pI 0,pB false,pN,pN]) rfl rfl rfl rfl (fun b27=>bR rfl rfl (bL (vs:=(an x26.1)) rfl rfl rfl rfl rfl gF sI (aV [(7,pB x26.2)] (by kernel_rfl) (bC (ah [120] [(121,pB (!x26.2))] (by kernel_rfl) (cO rfl hb19 (fun hc28 hb19=>?_) fun hc28 hb19=>?_))))))))))
     ·refine ae ?_
      refine ai [(2,pI 6)] (by kernel_rfl) (cN (aj (af (aj ?_))))
      refine av hb19 (fun ht=>?_);subst ht
      refine af (dB (af (aj ?_)))
      refine av hb3 (fun ht=>?_);subst ht
      refine af (az ?_)
      exact zz r h rfl
     refine al ?_
     refine bC (aa hb19 fun m29 hm29 hb19=>aa hb19 fun m30 hm30 hb19=>aN [1,1] (rg 122 15) [(137,pB ((decide (m29.Value<0))||(decide (1000000000000<m30.Value))))] (eb 3 Zb.enc hm29 (gh 11 Zb.enc (cW hm30) cf)) (by kernel_rfl) (cO rfl hb19 (fun hc31 hb19=>?_) fun hc31 hb19=>?_))
     ·refine ae ?_
      refine ai [(2,pI 2)] (by kernel_rfl) (cN (af (aj ?_)))
      refine av hb19 (fun ht=>?_);subst ht
      refine af (dB (af (aj ?_)))
      refine av hb3 (fun ht=>?_);subst ht
      refine af (az ?_)
      exact zz r h rfl
     refine al ?_
     refine ak (aq (ah [89,90] [(5,pI (IntKind.i64.wrap (v18+1)))] (by kernel_rfl) ?_))
     exact bd hb19 () (mE rfl) (cH (bc bf) dr)
    refine aT ?_
    refine ar (ap hb19 (fun ht=>au rfl ?_))
    exact gH ((),()) (tU rfl) dr ht.symm
   rintro ⟨_,_⟩ τ ρ1 hsub32 hz;(try dsimp only at hz hsub32);subst q20;(try dsimp only at hb3);dsimp only [aG]
   refine ak (aq (mw hsub32 (ah [15,16] [(3,pI (IntKind.i64.wrap (v2+1)))] (by kernel_rfl) ?_)))
   exact bd hb3 () (tU rfl) dr
  refine aT ?_
  refine ar (ap hb3 (fun ht=>au rfl ?_))
  exact aO ((),()) lG dr ht.symm
 rintro ⟨_,_⟩ τ hz;(try dsimp only at hz);subst q4;(try dsimp only at h);dsimp only [aG]
 refine ae (ai [(2,pI 0)] (by kernel_rfl) (cN ?_))
 exact zz r h rfl
def aU (p0:(List Za)) (p1:Int) (p2:(Za→Int→Option Int)):Option (Int×Bool):=(bh (S:=Int×Int) (T:=(Int)) (fun (v1,v2)=>cond (decide (v1<v2)) (lb ((IntKind.i64.wrap (gT .u64 (IntKind.u64.wrap (IntKind.i64.wrap (v1+v2))) 1))) (fun w7=>(idx p0 w7).bind fun m8=>(p2 m8 p1).bind fun x9=>cond (decide (x9<0)) (some (.inl ((IntKind.i64.wrap (w7+1)),v2))) (some (.inl (v1,w7))))) (some (.inr v1))) FUEL (0,(p0.length:Int))).bind fun v3=>(gd (decide (v3<(p0.length:Int))) (idx p0 v3)).bind fun m11=>(gd (decide (v3<(p0.length:Int))) (p2 m11 p1)).bind fun x12=>some (v3,((decide (v3<(p0.length:Int)))&&(x12 == 0)))
theorem bV {p0:(List Za)} {p1:Int} {p2:(Za→Int→Option Int)} {r:(Int×Bool)} {g2:PV} (hg2:∀ {y0:Za} {y1:Int} {w:Int},p2 y0 y1=some w→PFV g2 [.agg (an y0),pI y1] (pI w)) (h:aU p0 p1 p2=some r):PF 45 [pL Za.enc p0,pI p1,g2] (.tup [pI r.1,pB r.2]):=by
 unfold aU at h
 refine bH ?_
 refine aH Tryd.func45 rfl Tryd.ntmps45 Tryd.results45 rfl (ae (aL [6,7] (by kernel_rfl) (bC (ah [12,13] [(8,pI (p0.length:Int))] (by kernel_rfl) (bC (ah [14] [(9,pI 0),(10,pI (p0.length:Int))] (by kernel_rfl) (bC (aa h fun q5 hq5 h=>?_))))))))
 refine aP (Y:=Unit×Int) (fun (_,v3)=>[(0,pL Za.enc p0),(1,pI p1),(2,g2),(8,pI (p0.length:Int)),(9,pI v3)]) (fun (_,v3)=>[]) (fun (_,v3)=>q5=v3) ?_ ?_
 ·refine am ?_
  refine aQ (Y:=Unit) (S:=Int×Int) _ hq5 (fun _ (v1,v2)=>[(0,pL Za.enc p0),(1,pI p1),(2,g2),(8,pI (p0.length:Int)),(9,pI v1),(10,pI v2)]) (fun _ (v1,v2)=>[]) () (o8 rfl) dr ?_
  rintro _ ⟨v1,v2⟩ o τ hb4;(try dsimp only at hb4);dsimp only [aG]
  refine ae (ae (ah [15,16] [(17,pB (decide (v1<v2)))] (by kernel_rfl) (cO rfl hb4 (fun hc6 hb4=>?_) fun hc6 hb4=>?_)))
  ·refine al ?_
   refine aq (am (ae ?_))
   refine qd hb4 ?_;clear hb4;intro w7 hw7 hb4
   refine ag (fw 6 (rg 18 5) [(23,pI (IntKind.i64.wrap (gT .u64 (IntKind.u64.wrap (IntKind.i64.wrap (v1+v2))) 1)))] (by kernel_rfl) (bG rfl rfl rfl (ip rfl (.p (congrArg (fun z=>PV.v (Value.int .i64 z)) hw7))) (bg (bC (aa hb4 fun m8 hm8 hb4=>aa hb4 fun x9 hx9 hb4=>aN [] (rg 24 7) [(31,pB (decide (x9<0)))] (eb 3 Za.enc hm8 (focv 6 (hg2 hx9) cf)) (by kernel_rfl) (cO rfl hb4 (fun hc10 hb4=>?_) fun hc10 hb4=>?_))))))
   ·refine ah [32,33] [(9,pI (IntKind.i64.wrap (w7+1)))] (by kernel_rfl) ?_
    refine ak ?_
    exact bd hb4 () (o8 rfl) dr
   refine ah [34] [(10,pI w7)] (by kernel_rfl) ?_
   refine ak ?_
   exact bd hb4 () (o8 rfl) dr
  refine aT ?_
  refine ar (ap hb4 (fun ht=>au rfl ?_))
  exact aO ((),v1) (rz rfl) dr ht.symm
 rintro ⟨_,v3⟩ τ hz;(try dsimp only at hz);subst q5;(try dsimp only at h);dsimp only [aG]
 refine ae (aa h fun m11 hm11 h=>aa h fun x12 hx12 h=>aN [] (rg 35 14) [(6,pI v3),(7,pB ((decide (v3<(p0.length:Int)))&&(x12 == 0)))] (gh 8 Za.enc (cW hm11) (focvg 11 (fun hc=>hg2 (cW hx12 hc)) cf)) (by kernel_rfl) (cN ?_))
 obtain rfl:=osi h
 exact bJ (lH (bS rfl) (bS rfl)) dr ⟨rfl,rfl⟩
def eG (p0:Int):Option Bool:=some (p0 != p0)
theorem gr {p0:Int} {r:Bool}  (h:eG p0=some r):PF 61 [pI p0] (pB r):=by
 unfold eG at h
 refine bH ?_
 refine aH Tryd.func61 rfl Tryd.ntmps61 Tryd.results61 rfl (ae (aL [2] (by kernel_rfl) (bC (ah [3,4,5] [(2,pB (p0 != p0))] (by kernel_rfl) (cN ?_)))))
 exact zz r h rfl
def eW (p0:Int) (p1:Int):Option Int:=(eG p0).bind fun x1=>(eG p1).bind fun x2=>cond x1 (cond x2 (some (0:Int)) (some (-1))) (cond x2 (some (1:Int)) (cond (decide (p0<p1)) (some (-1)) (cond (decide (p1<p0)) (some (1:Int)) (some (0:Int)))))
theorem iI {p0:Int} {p1:Int} {r:Int}  (h:eW p0 p1=some r):PF 47 [pI p0,pI p1] (pI r):=by
 unfold eW at h
 refine bH ?_
 refine aH Tryd.func47 rfl Tryd.ntmps47 Tryd.results47 rfl (ae (aL [4] (by kernel_rfl) (bC (aa h fun x1 hx1 h=>aN [] [7,8] [(5,pB x1)] (dD 1 (gr hx1) cf) (by kernel_rfl) (bC (aa h fun x2 hx2 h=>aN [] [9,10] [(6,pB x2)] (dD 1 (gr hx2) cf) (by kernel_rfl) (fE (ai [(11,pB x1)] (by kernel_rfl) (cO rfl h (fun hc3 h=>?_) fun hc3 h=>?_)))))))))
 ·refine ae ?_
  refine ae (ai [(12,pB x2)] (by kernel_rfl) (cO rfl h (fun hc4 h=>?_) fun hc4 h=>?_))
  ·refine ae ?_
   refine ai [(4,pI 0)] (by kernel_rfl) (cN (aj (aj ?_)))
   exact zz r h rfl
  refine al ?_
  refine bC (ai [(4,pI (-1))] (by kernel_rfl) (cN (aj ?_)))
  exact zz r h rfl
 refine al ?_
 refine fE (ai [(13,pB x2)] (by kernel_rfl) (cO rfl h (fun hc5 h=>?_) fun hc5 h=>?_))
 ·refine ae ?_
  refine ai [(4,pI 1)] (by kernel_rfl) (cN (aj ?_))
  exact zz r h rfl
 refine al ?_
 refine fE (ah [14,15] [(16,pB (decide (p0<p1)))] (by kernel_rfl) (cO rfl h (fun hc6 h=>?_) fun hc6 h=>?_))
 ·refine ae ?_
  refine ai [(4,pI (-1))] (by kernel_rfl) (cN (aj ?_))
  exact zz r h rfl
 refine al ?_
 refine fE (ah [17,18] [(19,pB (decide (p1<p0)))] (by kernel_rfl) (cO rfl h (fun hc7 h=>?_) fun hc7 h=>?_))
 ·refine ae ?_
  refine ai [(4,pI 1)] (by kernel_rfl) (cN (aj ?_))
  exact zz r h rfl
 refine al ?_
 refine bC (ai [(4,pI 0)] (by kernel_rfl) (cN ?_))
 exact zz r h rfl
def dt (p0:Za) (p1:Int):Option Int:=(eW p0.ID p1).bind fun x2=>some x2
theorem gO {p0:Za} {p1:Int} {r:Int}  (h:dt p0 p1=some r):PF 46 [.agg (an p0),pI p1] (pI r):=by
 unfold dt at h
 refine bH ?_
 refine aH Tryd.func46 rfl Tryd.ntmps46 Tryd.results46 rfl (ae (ag (aA rfl (gK (cs:=(an p0)) rfl rfl (fun b1=>eO [4] (by kernel_rfl) (bC (aa h fun x2 hx2 h=>aN [0] [5,6,7,8] [(4,pI x2)] (dD 3 (iI hx2) cf) (by kernel_rfl) (cN ?_))))))))
 exact zz r h rfl
def dY (p0:(List Za)) (p1:Int):Option (Int×Bool):=(aU p0 p1 (fun y1 y2=>dt y1 y2)).bind fun x3=>some (x3.1,x3.2)
theorem ii {p0:(List Za)} {p1:Int} {r:(Int×Bool)}  (h:dY p0 p1=some r):PF 33 [pL Za.enc p0,pI p1] (.tup [pI r.1,pB r.2]):=by
 unfold dY at h
 refine bH ?_
 refine aH Tryd.func33 rfl Tryd.ntmps33 Tryd.results33 rfl (ae (aL [4,5] (by kernel_rfl) (bC (aa h fun x3 hx3 h=>aN [] (rg 6 5) [(4,pI x3.1),(5,pB x3.2)] (dD 2 (bV (fun hr=>oT (gO hr)) hx3) cf) (by kernel_rfl) (cN ?_)))))
 obtain rfl:=osi h
 exact bJ (lH (bS rfl) (bS rfl)) dr ⟨rfl,rfl⟩
def dg (p0:(List Int)) (p1:Int):Option Int:=(bh (S:=Int) (T:=(Unit)⊕(_)) (fun v1=>cond (decide (v1<(p0.length:Int))) ((idx p0 v1).bind fun m5=>cond (p1 == m5) (some (.inr (.inr v1))) (some (.inl (IntKind.i64.wrap (v1+1))))) (some (.inr (.inl ())))) FUEL 0).bind fun q=>match q with | .inl _=>some (-1) | .inr e=>some e
theorem gt {p0:(List Int)} {p1:Int} {r:Int}  (h:dg p0 p1=some r):PF 59 [pL eI p0,pI p1] (pI r):=by
 unfold dg at h
 refine bH ?_
 refine aH Tryd.func59 rfl Tryd.ntmps59 Tryd.results59 rfl (ae (aL [4] (by kernel_rfl) (fE (ah [6] [(7,pI (p0.length:Int)),(8,pI 0)] (by kernel_rfl) (aq (aa h fun q3 hq3 h=>?_))))))
 refine aP (Y:=Unit×Unit) (fun (_,_)=>[]) (fun (_,_)=>[]) (fun (_,_)=>q3=Sum.inl ()) ?_ ?_
 ·refine am ?_
  refine aQ (Y:=Unit) (S:=Int) _ hq3 (fun _ v1=>[(0,pL eI p0),(1,pI p1),(7,pI (p0.length:Int)),(8,pI v1)]) (fun _ v1=>[]) () (mE rfl) dr ?_
  rintro _ v1 o τ hb2;(try dsimp only at hb2);dsimp only [aG]
  refine ae (ai [(9,pB (decide (v1<(p0.length:Int))))] (by kernel_rfl) (bC (qf rfl hb2 (fun hc4 hb2=>?_) fun hc4 hb2=>?_)))
  ·refine al ?_
   refine bC (am (ae (ah [10] [(5,pI v1)] (by kernel_rfl) (bC (aa hb2 fun m5 hm5 hb2=>aN [] (rg 11 5) [(16,pB (p1 == m5))] (eb 3 eI hm5 cf) (by kernel_rfl) (cO rfl hb2 (fun hc6 hb2=>?_) fun hc6 hb2=>?_))))))
   ·refine ae ?_
    refine ah [17] [(4,pI v1)] (by kernel_rfl) (cN (af (aj ?_)))
    refine av hb2 (fun ht=>?_);subst ht
    refine af (az ?_)
    exact zz r h rfl
   refine al ?_
   refine ak (aq (ah [18] [(8,pI (IntKind.i64.wrap (v1+1)))] (by kernel_rfl) ?_))
   exact bd hb2 () (mE rfl) dr
  refine aT ?_
  refine ar (ap hb2 (fun ht=>au rfl ?_))
  exact aO ((),()) lG dr ht.symm
 rintro ⟨_,_⟩ τ hz;(try dsimp only at hz);subst q3;(try dsimp only at h);dsimp only [aG]
 refine ae (ai [(4,pI (-1))] (by kernel_rfl) (cN ?_))
 exact zz r h rfl
def bQ (p0:(List Int)) (p1:Int):Option Bool:=(dg p0 p1).bind fun x1=>some (decide (0≤x1))
theorem dh {p0:(List Int)} {p1:Int} {r:Bool}  (h:bQ p0 p1=some r):PF 42 [pL eI p0,pI p1] (pB r):=by
 unfold bQ at h
 refine bH ?_
 refine aH Tryd.func42 rfl Tryd.ntmps42 Tryd.results42 rfl (ae (aL [4] (by kernel_rfl) (bC (aa h fun x1 hx1 h=>aN [] [5,6,7,8] [(4,pB (decide (0≤x1)))] (dD 2 (gt hx1) cf) (by kernel_rfl) (cN ?_)))))
 exact zz r h rfl
def cP (p0:(List Za)) (p1:(List (Int×(List Int)))) (p2:Int):Option (List Int):=(bh (S:=(List Int)×Int) (T:=((List Int))) (fun (l2,v5)=>cond (decide (v5<(p0.length:Int))) (((idx p0 v5).bind fun m19=>(gd (!(m19.ID == p2)) (bQ ((bM p1 p2).getD []) m19.ID)).bind fun x21=>(gd ((!(m19.ID == p2))&&x21) (bQ ((bM p1 m19.ID).getD []) p2)).bind fun x22=>cond ((m19.ID == p2)||(x21&&x22)) ((app 8 l2 [m19.ID]).bind fun l26=>some l26) (some l2)).bind fun l17=>some (.inl (l17,(IntKind.i64.wrap (v5+1))))) (some (.inr l2))) FUEL (([]:List Int),0)).bind fun l9=>some l9
theorem fG {p0:(List Za)} {p1:(List (Int×(List Int)))} {p2:Int} {m1_:Nat} {r:(List Int)}  (h:cP p0 p1 p2=some r):PCall 31 [pL Za.enc p0,.v (.map (some m1_)),pI p2] [PRes.mp (some m1_) (ba kI (vL eI) p1)] (fun pv ρ'=>pv=pL eI r∧ρ'=[PRes.mp (some m1_) (ba kI (vL eI) p1)]):=by
 unfold cP at h
 refine aH Tryd.func31 rfl Tryd.ntmps31 Tryd.results31 rfl (ae (aL [6] (by kernel_rfl) (bC (ai [(7,pN)] (by kernel_rfl) (fE (ai [(10,pL Za.enc p0),(11,pI (p0.length:Int)),(12,pI 0)] (by kernel_rfl) (aq (dC 3 1 (aa h fun q11 hq11 h=>?_)))))))))
 refine aP (Y:=(Option Addr×Nat)×((List Int))) (fun ((a7,c8),l9)=>[(7,pO a7 l9.length c8)]) (fun ((a7,c8),l9)=>[PRes.mp (some m1_) (ba kI (vL eI) p1),PRes.row a7 l9.length c8 3 1 (List.map eI l9)]) (fun ((a7,c8),l9)=>q11=l9) ?_ ?_
 ·refine am ?_
  refine aQ (Y:=Option Addr×Nat) (S:=(List Int)×Int) _ hq11 (fun (a3,c4) (l2,v5)=>[(1,.v (.map (some m1_))),(2,pI p2),(7,pO a3 l2.length c4),(10,pL Za.enc p0),(11,pI (p0.length:Int)),(12,pI v5)]) (fun (a3,c4) (l2,v5)=>[PRes.mp (some m1_) (ba kI (vL eI) p1),PRes.row a3 l2.length c4 3 1 (List.map eI l2)]) (none,0) (o8 rfl) (cH (bc bf) eF) ?_
  rintro ⟨a3,c4⟩ ⟨l2,v5⟩ o τ hb10;(try dsimp only at hb10);dsimp only [aG]
  refine ae (ai [(13,pB (decide (v5<(p0.length:Int))))] (by kernel_rfl) (bC (qf rfl hb10 (fun hc13 hb10=>?_) fun hc13 hb10=>?_)))
  ·refine al ?_
   refine bC (aa hb10 fun q18 hq18 hb10=>?_)
   refine aP (Y:=(Option Addr×Nat)×((List Int))) (fun ((a15,c16),l17)=>[(1,.v (.map (some m1_))),(2,pI p2),(7,pO a15 l17.length c16),(10,pL Za.enc p0),(11,pI (p0.length:Int)),(12,pI v5)]) (fun ((a15,c16),l17)=>[PRes.mp (some m1_) (ba kI (vL eI) p1),PRes.row a15 l17.length c16 3 1 (List.map eI l17)]) (fun ((a15,c16),l17)=>q18=l17) ?_ ?_
   ·skip
    refine am (ae (aa hq18 fun m19 hm19 hq18=>ag (bj 2 [] [14] [(15,.agg (an m19))] (eb 0 Za.enc hm19 cf) (by kernel_rfl) (aA rfl (dc (cs:=[pI 0,pS ByteArray.empty,pS ByteArray.empty,pI 0,pB false,pN,pN]) rfl rfl rfl rfl (fun b20=>bR rfl rfl (bL (vs:=(an m19)) rfl rfl rfl rfl rfl gF sI (bg (bC (ag (cg 7 [0] [16,17,18,19] [(20,pB (m19.ID == p2)),(21,pgv (!(m19.ID == p2)) (.v (.map (some m1_)))),(22,pgv (!(m19.ID == p2)) (pI p2))] (by kernel_rfl) (dS (hM rfl rfl rfl) rfl rfl (show POpQ _ _ _ _ (pL eI ((bM p1 p2).getD [])) from ew (xs:=p1) (k:=p2) (ek:=kI) (vv:=(vL eI)) (z0:=[]) rfl rfl rfl (fun _=>gJ) (fL rfl) (.g rfl) (.g rfl) dU (dv qW)) (aa hq18 fun x21 hx21 hq18=>cg 2 [0] [24] [(25,pgv (!(m19.ID == p2)) (pI m19.ID))] (by kernel_rfl) (fk (hM rfl rfl rfl) rfl rfl rfl (bv (.g rfl) (bv (.g rfl) eu)) (fun hc=>dh (cW hx21 hc)) (dS (hM rfl rfl rfl) rfl rfl (dl (p:=pB x21) rfl (.g rfl)) (dS (ep rfl rfl rfl) rfl rfl (dl (p:=.v (.map (some m1_))) rfl (.p rfl)) (dS (ep rfl rfl rfl) rfl rfl (bu rfl rfl rfl rfl rfl (.p rfl)) (dS (ep rfl rfl rfl) rfl rfl (f9 (p:=pI m19.ID) rfl (.g rfl) gw rfl) (dS (ep rfl rfl rfl) rfl rfl (show POpQ _ _ _ _ (pL eI ((bM p1 m19.ID).getD [])) from ew (xs:=p1) (k:=m19.ID) (ek:=kI) (vv:=(vL eI)) (z0:=[]) rfl rfl rfl (fun _=>gJ) (fL rfl) (.g rfl) (.g rfl) dU (dv qW)) (dS (ep rfl rfl rfl) rfl rfl (dl (p:=pI p2) rfl (.p rfl)) (aa hq18 fun x22 hx22 hq18=>fk (ep rfl rfl rfl) rfl rfl rfl (bv (.g rfl) (bv (.g rfl) eu)) (fun hc=>dh (cW hx22 hc)) (dS (hM rfl rfl rfl) rfl rfl (hT rfl (.g rfl) (.p rfl) (.g rfl)) (bG rfl rfl rfl (sr rfl (.p rfl) (.p rfl) (.g rfl)) (bg (cO rfl hq18 (fun hc23 hq18=>?_) fun hc23 hq18=>?_)))))))))))))))))))))))))
    ·refine ag ?_
     refine cg 3 [0] [37] [(36,pO a3 l2.length c4),(38,pI m19.ID)] (by kernel_rfl) (aA rfl (bT rfl rfl rfl rfl rfl (ga rfl iM) rfl rfl rfl rfl (fun b24=>aa hq18 fun l26 hl26 hq18=>?_)))
     refine aA rfl (cx (enc:=eI) rfl rfl rfl rfl rfl rfl rfl rfl rfl gw (by exact bc (bc (bc bf))) hl26 (fun a27 c28=>?_))
     refine aV [(7,pO a27 l26.length c28)] (by kernel_rfl) (ak ?_)
     obtain rfl:=osi hq18
     exact aO ((a27,c28),l26) (o8 rfl) (cH (bc (bc (bc bf))) eF) rfl
    refine al ?_
    refine ak ?_
    obtain rfl:=osi hq18
    exact aO ((a3,c4),l2) (o8 rfl) (cH (bc bf) (cH (bc bf) dr)) rfl
   rintro ⟨⟨a15,c16⟩,l17⟩ τ hz;(try dsimp only at hz);subst q18;(try dsimp only at hb10);dsimp only [aG]
   refine ah [41] [(12,pI (IntKind.i64.wrap (v5+1)))] (by kernel_rfl) ?_
   exact bd hb10 (a15,c16) (o8 rfl) mD
  refine aT ?_
  refine ar (ap hb10 (fun ht=>au rfl ?_))
  exact aO ((a3,c4),l2) (j6 rfl) mD ht.symm
 rintro ⟨⟨a7,c8⟩,l9⟩ τ hz;(try dsimp only at hz);subst q11;(try dsimp only at h);dsimp only [aG]
 refine ae (ah [42] [(6,pO a7 l9.length c8)] (by kernel_rfl) (aq ?_))
 refine dT (enc:=eI) (xs:=l9) 6 rfl (by exact bc bf) ?_
 refine dk ?_
 obtain rfl:=osi h
 exact bJ (fu (bS rfl)) (cH (bc bf) dr) ⟨rfl,rfl⟩
def cj (p0:Int) (p1:(List (Int×(List Int)))) (p2:(List (Int×Int))) (p3:Za):Option Bool:=some ((bM p1 ((bM p2 p0).getD (0:Int))).isSome&&(((bM p2 p0).getD (0:Int)) != p3.ID))
theorem eP {p0:Int} {p1:(List (Int×(List Int)))} {p2:(List (Int×Int))} {p3:Za} {m1_:Nat}  {m2_:Nat} {r:Bool}  (h:cj p0 p1 p2 p3=some r):PCall 44 [pI p0,.ref [.v (.map (some m1_))] 0,.ref [.v (.map (some m2_))] 0,.ref (an p3) 0] [PRes.mp (some m1_) (ba kI (vL eI) p1),PRes.mp (some m2_) (ba kI vI p2)] (fun pv ρ'=>pv=pB r∧ρ'=[PRes.mp (some m1_) (ba kI (vL eI) p1),PRes.mp (some m2_) (ba kI vI p2)]):=by
 unfold cj at h
 refine aH Tryd.func44 rfl Tryd.ntmps44 Tryd.results44 rfl (ae (aL [5] (by kernel_rfl) (bC (ag (aw 3 [(9,.v (.map (some m1_))),(10,.v (.map (some m2_))),(11,pI p0)] (by kernel_rfl) (bG rfl rfl rfl (show POpQ _ _ _ _ (pI ((bM p2 p0).getD (0:Int))) from ew (xs:=p2) (k:=p0) (ek:=kI) (vv:=vI) (z0:=(0:Int)) rfl rfl rfl (fun _=>.v rfl) (fL rfl) (.p rfl) (.p rfl) dU (dv qW)) (bG rfl rfl rfl (show POpQ _ _ _ _ (.tup [pL eI ((bM p1 ((bM p2 p0).getD (0:Int))).getD []),pB ((bM p1 ((bM p2 p0).getD (0:Int))).isSome)]) from jM (xs:=p1) (k:=((bM p2 p0).getD (0:Int))) (ek:=kI) (vv:=(vL eI)) (z0:=[]) rfl rfl rfl (fun _=>gJ) (fL rfl) (.p rfl) (.p rfl) dU (dv gw)) (ig [8,14,15,6] [(7,pB ((bM p1 ((bM p2 p0).getD (0:Int))).isSome))] (by kernel_rfl) (bC (ag (fw 4 [16] [(17,pB ((bM p1 ((bM p2 p0).getD (0:Int))).isSome)),(18,pgv ((bM p1 ((bM p2 p0).getD (0:Int))).isSome) (.v (.map (some m2_)))),(19,pgv ((bM p1 ((bM p2 p0).getD (0:Int))).isSome) (pI p0))] (by kernel_rfl) (dS (cU rfl rfl rfl) rfl rfl (show POpQ _ _ _ _ (pI ((bM p2 p0).getD (0:Int))) from ew (xs:=p2) (k:=p0) (ek:=kI) (vv:=vI) (z0:=(0:Int)) rfl rfl rfl (fun _=>.v rfl) (fL rfl) (.g rfl) (.g rfl) dU (dv qW)) (fw 2 [21] [(22,pgv ((bM p1 ((bM p2 p0).getD (0:Int))).isSome) (pI p3.ID))] (by kernel_rfl) (dS (cU rfl rfl rfl) rfl rfl (oU rfl (.g rfl) (.g rfl) rfl) (bG rfl rfl rfl (hT rfl (.p rfl) (.p rfl) (.g rfl)) (aV [(5,pB ((bM p1 ((bM p2 p0).getD (0:Int))).isSome&&(((bM p2 p0).getD (0:Int)) != p3.ID)))] (by kernel_rfl) (cN ?_)))))))))))))))))
 obtain rfl:=osi h
 exact bJ (fu (bS rfl)) mD ⟨rfl,rfl⟩
def bY (p0:(List Int)) (p1_0:(List (Int×(List Int)))) (p1_1:(List (Int×Int))) (p1_2:Za):Option Int:=(bh (S:=Int) (T:=(Unit)⊕(_)) (fun v1=>cond (decide (v1<(p0.length:Int))) ((idx p0 v1).bind fun m5=>(cj m5 p1_0 p1_1 p1_2).bind fun x6=>cond x6 (some (.inr (.inr v1))) (some (.inl (IntKind.i64.wrap (v1+1))))) (some (.inr (.inl ())))) FUEL 0).bind fun q=>match q with | .inl _=>some (-1) | .inr e=>some e
theorem ey {p0:(List Int)} {p1_0:(List (Int×(List Int)))} {p1_1:(List (Int×Int))} {p1_2:Za} {m1_0_:Nat}  {m1_1_:Nat} {r:Int}  (h:bY p0 p1_0 p1_1 p1_2=some r):PCall 60 [pL eI p0,.fn 44 [.ref [.v (.map (some m1_0_))] 0,.ref [.v (.map (some m1_1_))] 0,.ref (an p1_2) 0]] [PRes.mp (some m1_0_) (ba kI (vL eI) p1_0),PRes.mp (some m1_1_) (ba kI vI p1_1)] (fun pv ρ'=>pv=pI r∧ρ'=[PRes.mp (some m1_0_) (ba kI (vL eI) p1_0),PRes.mp (some m1_1_) (ba kI vI p1_1)]):=by
 unfold bY at h
 refine aH Tryd.func60 rfl Tryd.ntmps60 Tryd.results60 rfl (ae (aL [4] (by kernel_rfl) (fE (ah [6] [(7,pI (p0.length:Int)),(8,pI 0)] (by kernel_rfl) (aq (aa h fun q3 hq3 h=>?_))))))
 refine aP (Y:=Unit×Unit) (fun (_,_)=>[]) (fun (_,_)=>[PRes.mp (some m1_0_) (ba kI (vL eI) p1_0),PRes.mp (some m1_1_) (ba kI vI p1_1)]) (fun (_,_)=>q3=Sum.inl ()) ?_ ?_
 ·refine am ?_
  refine aQ (Y:=Unit) (S:=Int) _ hq3 (fun _ v1=>[(0,pL eI p0),(1,.fn 44 [.ref [.v (.map (some m1_0_))] 0,.ref [.v (.map (some m1_1_))] 0,.ref (an p1_2) 0]),(7,pI (p0.length:Int)),(8,pI v1)]) (fun _ v1=>[PRes.mp (some m1_0_) (ba kI (vL eI) p1_0),PRes.mp (some m1_1_) (ba kI vI p1_1)]) () (mE rfl) mD ?_
  rintro _ v1 o τ hb2;(try dsimp only at hb2);dsimp only [aG]
  refine ae (ai [(9,pB (decide (v1<(p0.length:Int))))] (by kernel_rfl) (bC (qf rfl hb2 (fun hc4 hb2=>?_) fun hc4 hb2=>?_)))
  ·refine al ?_
   refine bC (am (ae (ah [10] [(5,pI v1)] (by kernel_rfl) (bC (aa hb2 fun m5 hm5 hb2=>aa hb2 fun x6 hx6 hb2=>ag (bj 5 [] [12,13,14] [(11,.fn 44 [.ref [.v (.map (some m1_0_))] 0,.ref [.v (.map (some m1_1_))] 0,.ref (an p1_2) 0]),(15,pI m5)] (eb 3 eI hm5 cf) (by kernel_rfl) ?_))))))
   refine aA rfl (ri rfl rfl rfl (ρ1:=[_,_]) (aR (by exact bf) (aR (by exact bf) (List.Perm.refl _))) (eP hx6) ?_);rintro _ _ ⟨rfl,rfl⟩
   refine bg (cO rfl hb2 (fun hc7 hb2=>?_) fun hc7 hb2=>?_)
   ·refine ae ?_
    refine ah [17] [(4,pI v1)] (by kernel_rfl) (cN (af (aj ?_)))
    refine av hb2 (fun ht=>?_);subst ht
    refine af (az ?_)
    obtain rfl:=osi h
    exact bJ (fu (bS rfl)) mD ⟨rfl,rfl⟩
   refine al ?_
   refine ak (aq (ah [18] [(8,pI (IntKind.i64.wrap (v1+1)))] (by kernel_rfl) ?_))
   exact bd hb2 () (mE rfl) mD
  refine aT ?_
  refine ar (ap hb2 (fun ht=>au rfl ?_))
  exact aO ((),()) lG mD ht.symm
 rintro ⟨_,_⟩ τ hz;(try dsimp only at hz);subst q3;(try dsimp only at h);dsimp only [aG]
 refine ae (ai [(4,pI (-1))] (by kernel_rfl) (cN ?_))
 obtain rfl:=osi h
 exact bJ (fu (bS rfl)) mD ⟨rfl,rfl⟩
def bF (p0:(List Int)) (p1_0:(List (Int×(List Int)))) (p1_1:(List (Int×Int))) (p1_2:Za):Option Bool:=(bY p0 p1_0 p1_1 p1_2).bind fun x1=>some (decide (0≤x1))
theorem dM {p0:(List Int)} {p1_0:(List (Int×(List Int)))} {p1_1:(List (Int×Int))} {p1_2:Za} {m1_0_:Nat}  {m1_1_:Nat} {r:Bool}  (h:bF p0 p1_0 p1_1 p1_2=some r):PCall 43 [pL eI p0,.fn 44 [.ref [.v (.map (some m1_0_))] 0,.ref [.v (.map (some m1_1_))] 0,.ref (an p1_2) 0]] [PRes.mp (some m1_0_) (ba kI (vL eI) p1_0),PRes.mp (some m1_1_) (ba kI vI p1_1)] (fun pv ρ'=>pv=pB r∧ρ'=[PRes.mp (some m1_0_) (ba kI (vL eI) p1_0),PRes.mp (some m1_1_) (ba kI vI p1_1)]):=by
 unfold bF at h
 refine aH Tryd.func43 rfl Tryd.ntmps43 Tryd.results43 rfl (ae (aL [4] (by kernel_rfl) (bC (aa h fun x1 hx1 h=>ag (aw 2 [(5,pL eI p0),(6,.fn 44 [.ref [.v (.map (some m1_0_))] 0,.ref [.v (.map (some m1_1_))] 0,.ref (an p1_2) 0])] (by kernel_rfl) ?_)))))
 refine aA rfl (bo rfl rfl (ρ1:=[_,_]) (aR (by exact bf) (aR (by exact bf) (List.Perm.refl _))) (ey hx1) ?_);rintro _ _ ⟨rfl,rfl⟩
 refine ig [8] [(4,pB (decide (0≤x1)))] (by kernel_rfl) (cN ?_)
 obtain rfl:=osi h
 exact bJ (fu (bS rfl)) mD ⟨rfl,rfl⟩
def cB (p0:(List Za)) (p1:(List (Int×(List Int)))) (p2:(List (Int×Int))) (p3:(List (Int×(List Int)))):Option (Int×Bool):=(bh (S:=Int) (T:=(Unit)⊕(_)) (fun v3=>cond (decide (v3<(p0.length:Int))) (Option.bind (α:=(Unit)⊕_) ((idx p0 v3).bind fun m8=>cond (!((bM p3 m8.ID).isSome)) (some (.inl ())) ((bF ((bM p1 m8.ID).getD []) p3 p2 m8).bind fun x11=>cond (!x11) (some (.inr (.inr (.inr (m8.ID,true))))) (some (.inl ())))) (fun q=>match q with | .inl _=>some (.inl (IntKind.i64.wrap (v3+1))) | .inr e=>some e)) (some (.inr (.inl ())))) FUEL 0).bind fun q=>match q with | .inl _=>some ((0:Int),false) | .inr e=>some e
theorem fe {p0:(List Za)} {p1:(List (Int×(List Int)))} {p2:(List (Int×Int))} {p3:(List (Int×(List Int)))} {m1_:Nat}  {m2_:Nat}  {m3_:Nat} {r:(Int×Bool)}  (h:cB p0 p1 p2 p3=some r):PCall 32 [pL Za.enc p0,.v (.map (some m1_)),.v (.map (some m2_)),.v (.map (some m3_))] [PRes.mp (some m1_) (ba kI (vL eI) p1),PRes.mp (some m2_) (ba kI vI p2),PRes.mp (some m3_) (ba kI (vL eI) p3)] (fun pv ρ'=>pv=.tup [pI r.1,pB r.2]∧ρ'=[PRes.mp (some m1_) (ba kI (vL eI) p1),PRes.mp (some m2_) (ba kI vI p2),PRes.mp (some m3_) (ba kI (vL eI) p3)]):=by
 unfold cB at h
 refine aH Tryd.func32 rfl Tryd.ntmps32 Tryd.results32 rfl (ae (ag (aA rfl (gK (cs:=[.v (.map (some m2_))]) rfl rfl (fun b1=>aA rfl (gK (cs:=[.v (.map (some m3_))]) rfl rfl (fun b2=>eO [8,9] (by kernel_rfl) (fE (ai [(15,pL Za.enc p0),(16,pI (p0.length:Int)),(17,pI 0)] (by kernel_rfl) (aq ?_))))))))))
 refine mU 6 rfl (by exact bc bf) ?_
 refine mU 7 rfl (by exact bc bf) ?_
 refine aa h fun q5 hq5 h=>?_
 refine aP (Y:=Unit×Unit) (fun (_,_)=>[]) (fun (_,_)=>[PRes.mp (some m1_) (ba kI (vL eI) p1),PRes.mp (some m2_) (ba kI vI p2),PRes.mp (some m3_) (ba kI (vL eI) p3)]) (fun (_,_)=>q5=Sum.inl ()) ?_ ?_
 ·refine am ?_
  refine aQ (Y:=Unit) (S:=Int) _ hq5 (fun _ v3=>[(1,.v (.map (some m1_))),(6,.ref [.v (.map (some m2_))] 0),(7,.ref [.v (.map (some m3_))] 0),(15,pL Za.enc p0),(16,pI (p0.length:Int)),(17,pI v3)]) (fun _ v3=>[PRes.mp (some m1_) (ba kI (vL eI) p1),PRes.mp (some m2_) (ba kI vI p2),PRes.mp (some m3_) (ba kI (vL eI) p3)]) () (o8 rfl) (cH (bc (bc bf)) (cH (bc (bc bf)) (cH (bc (bc bf)) dr))) ?_
  rintro _ v3 o τ hb4;(try dsimp only at hb4);dsimp only [aG]
  refine ae (ai [(18,pB (decide (v3<(p0.length:Int))))] (by kernel_rfl) (bC (qf rfl hb4 (fun hc6 hb4=>?_) fun hc6 hb4=>?_)))
  ·refine al ?_
   refine bC (aa hb4 fun q7 hq7 hb4=>?_)
   refine aP (Y:=Unit×Unit) (fun (_,_)=>[(1,.v (.map (some m1_))),(6,.ref [.v (.map (some m2_))] 0),(7,.ref [.v (.map (some m3_))] 0),(15,pL Za.enc p0),(16,pI (p0.length:Int)),(17,pI v3)]) (fun (_,_)=>[PRes.mp (some m1_) (ba kI (vL eI) p1),PRes.mp (some m2_) (ba kI vI p2),PRes.mp (some m3_) (ba kI (vL eI) p3)]) (fun (_,_)=>q7=Sum.inl ()) ?_ ?_
   ·skip
    refine am (ae (aa hq7 fun m8 hm8 hq7=>ag (bj 2 [] [19] [(20,.agg (an m8))] (eb 0 Za.enc hm8 cf) (by kernel_rfl) (aA rfl (dc (cs:=[pI 0,pS ByteArray.empty,pS ByteArray.empty,pI 0,pB false,pN,pN]) rfl rfl rfl rfl (fun b9=>bR rfl rfl (bL (vs:=(an m8)) rfl rfl rfl rfl rfl gF sI (bg (fE (ag (cg 3 [0] [23] [(22,.v (.map (some m3_))),(24,pI m8.ID)] (by kernel_rfl) (bG rfl rfl rfl (show POpQ _ _ _ _ (.tup [pL eI ((bM p3 m8.ID).getD []),pB ((bM p3 m8.ID).isSome)]) from jM (xs:=p3) (k:=m8.ID) (ek:=kI) (vv:=(vL eI)) (z0:=[]) rfl rfl rfl (fun _=>gJ) (fL rfl) (.p rfl) (.p rfl) dU (dv zm3)) (ig [21,26,27,12] [(13,pB ((bM p3 m8.ID).isSome))] (by kernel_rfl) (bC (ah [28] [(29,pB (!((bM p3 m8.ID).isSome)))] (by kernel_rfl) (cO rfl hq7 (fun hc10 hq7=>?_) fun hc10 hq7=>?_))))))))))))))))
    ·refine aT ?_
     refine ar (au rfl ?_)
     obtain rfl:=osi hq7
     exact aO ((),()) (o8 rfl) (cH (bc bf) (cH (bc bf) (cH (bc bf) dr))) rfl
    refine al ?_
    refine bC (ag (cg 3 [0] [31] [(30,.v (.map (some m1_))),(32,pI m8.ID)] (by kernel_rfl) (bG rfl rfl rfl (show POpQ _ _ _ _ (pL eI ((bM p1 m8.ID).getD [])) from ew (xs:=p1) (k:=m8.ID) (ek:=kI) (vv:=(vL eI)) (z0:=[]) rfl rfl rfl (fun _=>gJ) (fL rfl) (.p rfl) (.p rfl) dU (dv qW)) ?_)))
    refine qb 11 rfl (by exact bf) ?_
    refine aa hq7 fun x11 hx11 hq7=>aw 1 [(34,.fn 44 [.ref [.v (.map (some m3_))] 0,.ref [.v (.map (some m2_))] 0,.ref (an m8) 0])] (by kernel_rfl) ?_
    refine aA rfl (bo rfl rfl (ρ1:=[_,_]) (aR (by exact bc (bc (bc bf))) (aR (by exact bc (bc bf)) (List.Perm.refl _))) (dM hx11) ?_);rintro _ _ ⟨rfl,rfl⟩
    refine aV [(14,pB x11)] (by kernel_rfl) (bC (ah [36] [(37,pB (!x11))] (by kernel_rfl) (cO rfl hq7 (fun hc12 hq7=>?_) fun hc12 hq7=>?_)))
    ·refine ae ?_
     refine ah [38,39] [(8,pI m8.ID),(9,pB true)] (by kernel_rfl) (cN (af (az ?_)))
     obtain rfl:=osi hq7
     refine av hb4 (fun ht=>?_);subst ht
     refine af (az ?_)
     obtain rfl:=osi h
     exact bJ (lH (bS rfl) (bS rfl)) (cH (bc (bc (bc bf))) (cH (bc bf) eF)) ⟨rfl,rfl⟩
    refine al ?_
    refine ak ?_
    obtain rfl:=osi hq7
    exact aO ((),()) (o8 rfl) (cH (bc (bc (bc bf))) (cH (bc bf) eF)) rfl
   rintro ⟨_,_⟩ τ hz;(try dsimp only at hz);subst q7;(try dsimp only at hb4);dsimp only [aG]
   refine ah [40] [(17,pI (IntKind.i64.wrap (v3+1)))] (by kernel_rfl) ?_
   exact bd hb4 () (o8 rfl) zs3
  refine aT ?_
  refine ar (ap hb4 (fun ht=>au rfl ?_))
  exact aO ((),()) lG zs3 ht.symm
 rintro ⟨_,_⟩ τ hz;(try dsimp only at hz);subst q5;(try dsimp only at h);dsimp only [aG]
 refine ae (ai [(8,pI 0),(9,pB false)] (by kernel_rfl) (cN ?_))
 obtain rfl:=osi h
 exact bJ (lH (bS rfl) (bS rfl)) zs3 ⟨rfl,rfl⟩
def dK  : Option (List Za):=some [(⟨1,(⟨#[57,52,48,49,48,49]⟩:ByteArray),(⟨#[65,65]⟩:ByteArray),10,false,[],[(⟨2,0⟩:Zb),(⟨3,0⟩:Zb)]⟩:Za),(⟨2,(⟨#[57,52,48,49,48,50]⟩:ByteArray),(⟨#[65,65]⟩:ByteArray),10,false,[],[(⟨1,0⟩:Zb)]⟩:Za),(⟨3,(⟨#[57,52,48,49,48,51]⟩:ByteArray),(⟨#[66,66]⟩:ByteArray),10,true,[],[]⟩:Za)]
theorem dZ  {r:(List Za)}  (h:dK  = some r):PF 21 [] (pL Za.enc r):=by
 unfold dK at h
 refine bH ?_
 refine aH Tryd.func21 rfl Tryd.ntmps21 Tryd.results21 rfl (ae (aL [0] (by kernel_rfl) (bC (ag (aw 2 [(1,.agg [pI 2,pI 0]),(2,.agg [pI 3,pI 0])] (by kernel_rfl) (aA rfl (bT rfl rfl rfl rfl rfl (ga rfl (ga rfl iM)) rfl rfl rfl rfl (fun b1=>?_))))))))
 refine iV (enc:=Zb.enc) (xs:=[(⟨2,0⟩:Zb),(⟨3,0⟩:Zb)]) 3 rfl (by exact bf) ?_
 refine aw 2 [(4,.agg [pI 1,pS (⟨#[57,52,48,49,48,49]⟩:ByteArray),pS (⟨#[65,65]⟩:ByteArray),pI 10,pB false,pN,pL Zb.enc [(⟨2,0⟩:Zb),(⟨3,0⟩:Zb)]]),(5,.agg [pI 1,pI 0])] (by kernel_rfl) (aA rfl (bT rfl rfl rfl rfl rfl (ga rfl iM) rfl rfl rfl rfl (fun b3=>?_)))
 refine iV (enc:=Zb.enc) (xs:=[(⟨1,0⟩:Zb)]) 6 rfl (by exact bf) ?_
 refine aw 2 [(7,.agg [pI 2,pS (⟨#[57,52,48,49,48,50]⟩:ByteArray),pS (⟨#[65,65]⟩:ByteArray),pI 10,pB false,pN,pL Zb.enc [(⟨1,0⟩:Zb)]]),(8,.agg [pI 3,pS (⟨#[57,52,48,49,48,51]⟩:ByteArray),pS (⟨#[66,66]⟩:ByteArray),pI 10,pB true,pN,pN])] (by kernel_rfl) (gN 4 5 rfl rfl (gN 7 5 rfl rfl (gN 8 5 rfl rfl (gN 8 6 rfl rfl (aA rfl (bT rfl rfl rfl rfl rfl (ga rfl (ga rfl (ga rfl iM))) rfl rfl rfl rfl (fun b5=>aV [(0,pO (some ⟨b5,0,none⟩) 3 3)] (by kernel_rfl) (aq ?_))))))))
 refine dT (enc:=Za.enc) (xs:=[(⟨1,(⟨#[57,52,48,49,48,49]⟩:ByteArray),(⟨#[65,65]⟩:ByteArray),10,false,[],[(⟨2,0⟩:Zb),(⟨3,0⟩:Zb)]⟩:Za),(⟨2,(⟨#[57,52,48,49,48,50]⟩:ByteArray),(⟨#[65,65]⟩:ByteArray),10,false,[],[(⟨1,0⟩:Zb)]⟩:Za),(⟨3,(⟨#[57,52,48,49,48,51]⟩:ByteArray),(⟨#[66,66]⟩:ByteArray),10,true,[],[]⟩:Za)]) 0 rfl (by exact bf) ?_
 refine dk ?_
 exact zz r h rfl
def ez (p0:(List Int)) (p1:(List Int)):Option Bool:=cond ((p0.length:Int) != (p1.length:Int)) (some false) ((bh (S:=Int) (T:=(Unit)⊕(_)) (fun v2=>cond (decide (v2<(p0.length:Int))) ((idx p0 v2).bind fun m6=>(idx p1 v2).bind fun m7=>cond (m6 != m7) (some (.inr (.inr false))) (some (.inl (IntKind.i64.wrap (v2+1))))) (some (.inr (.inl ())))) FUEL 0).bind fun q=>match q with | .inl _=>some true | .inr e=>some e)
theorem eH {p0:(List Int)} {p1:(List Int)} {r:Bool}  (h:ez p0 p1=some r):PF 22 [pL eI p0,pL eI p1] (pB r):=by
 unfold ez at h
 refine bH ?_
 refine aH Tryd.func22 rfl Tryd.ntmps22 Tryd.results22 rfl (ae (aL [4] (by kernel_rfl) (fE (ah [6,7,8,9] [(10,pB ((p0.length:Int) != (p1.length:Int)))] (by kernel_rfl) (cO rfl h (fun hc1 h=>?_) fun hc1 h=>?_)))))
 ·refine ae ?_
  refine ai [(4,pB false)] (by kernel_rfl) (cN (aj ?_))
  exact zz r h rfl
 refine al ?_
 refine fE (ai [(5,pI 0)] (by kernel_rfl) (aq (aa h fun q4 hq4 h=>?_)))
 refine aP (Y:=Unit×Unit) (fun (_,_)=>[]) (fun (_,_)=>[]) (fun (_,_)=>q4=Sum.inl ()) ?_ ?_
 ·refine am ?_
  refine aQ (Y:=Unit) (S:=Int) _ hq4 (fun _ v2=>[(0,pL eI p0),(1,pL eI p1),(5,pI v2)]) (fun _ v2=>[]) () (nT rfl) dr ?_
  rintro _ v2 o τ hb3;(try dsimp only at hb3);dsimp only [aG]
  refine ae (ae (ah [11,12,13] [(14,pB (decide (v2<(p0.length:Int))))] (by kernel_rfl) (cO rfl hb3 (fun hc5 hb3=>?_) fun hc5 hb3=>?_)))
  ·refine al ?_
   refine bC (am (ae (cw (ρd:=[]) [(0,0),(1,0),(2,0),(3,0),(4,0),(5,0),(6,0),(7,0),(8,0)] _ (List.Perm.refl _) (by kernel_rfl) rfl (aa hb3 fun m6 hm6 hb3=>aa hb3 fun m7 hm7 hb3=>cn 9 [] (rg 17 8) [(25,pB (m6 != m7))] (eb 2 eI hm6 (eb 6 eI hm7 cf)) (by kernel_rfl) (da (cO rfl hb3 (fun hc8 hb3=>?_) fun hc8 hb3=>?_))))))
   ·refine ae ?_
    refine ai [(4,pB false)] (by kernel_rfl) (cN (af (aj ?_)))
    refine av hb3 (fun ht=>?_);subst ht
    refine af (az ?_)
    exact zz r h rfl
   refine al ?_
   refine ak (aq (ah [15,16] [(5,pI (IntKind.i64.wrap (v2+1)))] (by kernel_rfl) ?_))
   exact bd hb3 () (nT rfl) dr
  refine aT ?_
  refine ar (ap hb3 (fun ht=>au rfl ?_))
  exact aO ((),()) lG dr ht.symm
 rintro ⟨_,_⟩ τ hz;(try dsimp only at hz);subst q4;(try dsimp only at h);dsimp only [aG]
 refine ae (ai [(4,pB true)] (by kernel_rfl) (cN ?_))
 exact zz r h rfl
def aX (p0:(List Zb)) (p1:(Zb→Option Bool)):Option Int:=(bh (S:=Int) (T:=(Unit)⊕(_)) (fun v1=>cond (decide (v1<(p0.length:Int))) ((idx p0 v1).bind fun m5=>(p1 m5).bind fun x6=>cond x6 (some (.inr (.inr v1))) (some (.inl (IntKind.i64.wrap (v1+1))))) (some (.inr (.inl ())))) FUEL 0).bind fun q=>match q with | .inl _=>some (-1) | .inr e=>some e
theorem co {p0:(List Zb)} {p1:(Zb→Option Bool)} {r:Int} {g1:PV} (hg1:∀ {y0:Zb} {w:Bool},p1 y0=some w→PFV g1 [.agg [pI y0.Product,pI y0.Value]] (pB w)) (h:aX p0 p1=some r):PF 51 [pL Zb.enc p0,g1] (pI r):=by
 unfold aX at h
 refine bH ?_
 refine aH Tryd.func51 rfl Tryd.ntmps51 Tryd.results51 rfl (ae (aL [4] (by kernel_rfl) (fE (ah [6] [(7,pI (p0.length:Int)),(8,pI 0)] (by kernel_rfl) (aq (aa h fun q3 hq3 h=>?_))))))
 refine aP (Y:=Unit×Unit) (fun (_,_)=>[]) (fun (_,_)=>[]) (fun (_,_)=>q3=Sum.inl ()) ?_ ?_
 ·refine am ?_
  refine aQ (Y:=Unit) (S:=Int) _ hq3 (fun _ v1=>[(0,pL Zb.enc p0),(1,g1),(7,pI (p0.length:Int)),(8,pI v1)]) (fun _ v1=>[]) () (mE rfl) dr ?_
  rintro _ v1 o τ hb2;(try dsimp only at hb2);dsimp only [aG]
  refine ae (ai [(9,pB (decide (v1<(p0.length:Int))))] (by kernel_rfl) (bC (qf rfl hb2 (fun hc4 hb2=>?_) fun hc4 hb2=>?_)))
  ·refine al ?_
   refine bC (am (ae (ah [10] [(5,pI v1)] (by kernel_rfl) (bC (aa hb2 fun m5 hm5 hb2=>aa hb2 fun x6 hx6 hb2=>aN [] (rg 11 5) [(16,pB x6)] (eb 3 Zb.enc hm5 (focv 5 (hg1 hx6) cf)) (by kernel_rfl) (cO rfl hb2 (fun hc7 hb2=>?_) fun hc7 hb2=>?_))))))
   ·refine ae ?_
    refine ah [17] [(4,pI v1)] (by kernel_rfl) (cN (af (aj ?_)))
    refine av hb2 (fun ht=>?_);subst ht
    refine af (az ?_)
    exact zz r h rfl
   refine al ?_
   refine ak (aq (ah [18] [(8,pI (IntKind.i64.wrap (v1+1)))] (by kernel_rfl) ?_))
   exact bd hb2 () (mE rfl) dr
  refine aT ?_
  refine ar (ap hb2 (fun ht=>au rfl ?_))
  exact aO ((),()) lG dr ht.symm
 rintro ⟨_,_⟩ τ hz;(try dsimp only at hz);subst q3;(try dsimp only at h);dsimp only [aG]
 refine ae (ai [(4,pI (-1))] (by kernel_rfl) (cN ?_))
 exact zz r h rfl
def aW (p0:(List Zb)) (p1:(Zb→Option Bool)):Option Bool:=(aX p0 p1).bind fun x1=>some (decide (0≤x1))
theorem bZ {p0:(List Zb)} {p1:(Zb→Option Bool)} {r:Bool} {g1:PV} (hg1:∀ {y0:Zb} {w:Bool},p1 y0=some w→PFV g1 [.agg [pI y0.Product,pI y0.Value]] (pB w)) (h:aW p0 p1=some r):PF 36 [pL Zb.enc p0,g1] (pB r):=by
 unfold aW at h
 refine bH ?_
 refine aH Tryd.func36 rfl Tryd.ntmps36 Tryd.results36 rfl (ae (aL [4] (by kernel_rfl) (bC (aa h fun x1 hx1 h=>aN [] [5,6,7,8] [(4,pB (decide (0≤x1)))] (dD 2 (co hg1 hx1) cf) (by kernel_rfl) (cN ?_)))))
 exact zz r h rfl
def dE (p0:Zb) (p1:Int):Option Bool:=some (p0.Product == p1)
theorem gV {p0:Zb} {p1:Int} {r:Bool}  (h:dE p0 p1=some r):PF 37 [.agg [pI p0.Product,pI p0.Value],.ref [pI p1] 0] (pB r):=by
 unfold dE at h
 refine bH ?_
 refine aH Tryd.func37 rfl Tryd.ntmps37 Tryd.results37 rfl (ae (ag (aA rfl (gK (cs:=[pI p0.Product,pI p0.Value]) rfl rfl (fun b1=>eO [3] (by kernel_rfl) (bC (cX [0] [4,5,6,7] [(3,pB (p0.Product == p1))] (by kernel_rfl) (cN ?_))))))))
 exact zz r h rfl
def eA (p0:(List Za)) (p1:Int):Option (List Int):=(bh (S:=(List Int)×Int) (T:=((List Int))) (fun (l3,v6)=>cond (decide (v6<(p0.length:Int))) (((idx p0 v6).bind fun m20=>(aW m20.Inputs (fun y22=>dE y22 p1)).bind fun x23=>cond x23 ((app 8 l3 [m20.ID]).bind fun l27=>some l27) (some l3)).bind fun l18=>some (.inl (l18,(IntKind.i64.wrap (v6+1))))) (some (.inr l3))) FUEL (([]:List Int),0)).bind fun l10=>some l10
theorem ir {p0:(List Za)} {p1:Int} {r:(List Int)}  (h:eA p0 p1=some r):PF 24 [pL Za.enc p0,pI p1] (pL eI r):=by
 unfold eA at h
 refine bH ?_
 refine aH Tryd.func24 rfl Tryd.ntmps24 Tryd.results24 rfl (ae (ag (aA rfl (gK (cs:=[pI p1]) rfl rfl (fun b1=>eO [4] (by kernel_rfl) (bC (ai [(5,pN)] (by kernel_rfl) (fE (ai [(8,pL Za.enc p0),(9,pI (p0.length:Int)),(10,pI 0)] (by kernel_rfl) (aq ?_))))))))))
 refine mU 3 rfl (by exact bf) ?_
 refine dC 3 1 (aa h fun q12 hq12 h=>?_)
 refine aP (Y:=(Option Addr×Nat)×((List Int))) (fun ((a8,c9),l10)=>[(5,pO a8 l10.length c9)]) (fun ((a8,c9),l10)=>[PRes.row a8 l10.length c9 3 1 (List.map eI l10)]) (fun ((a8,c9),l10)=>q12=l10) ?_ ?_
 ·refine am ?_
  refine aQ (Y:=Option Addr×Nat) (S:=(List Int)×Int) _ hq12 (fun (a4,c5) (l3,v6)=>[(3,.ref [pI p1] 0),(5,pO a4 l3.length c5),(8,pL Za.enc p0),(9,pI (p0.length:Int)),(10,pI v6)]) (fun (a4,c5) (l3,v6)=>[PRes.row a4 l3.length c5 3 1 (List.map eI l3)]) (none,0) (rz rfl) eF ?_
  rintro ⟨a4,c5⟩ ⟨l3,v6⟩ o τ hb11;(try dsimp only at hb11);dsimp only [aG]
  refine ae (ai [(11,pB (decide (v6<(p0.length:Int))))] (by kernel_rfl) (bC (qf rfl hb11 (fun hc14 hb11=>?_) fun hc14 hb11=>?_)))
  ·refine al ?_
   refine bC (aa hb11 fun q19 hq19 hb11=>?_)
   refine aP (Y:=(Option Addr×Nat)×((List Int))) (fun ((a16,c17),l18)=>[(3,.ref [pI p1] 0),(5,pO a16 l18.length c17),(8,pL Za.enc p0),(9,pI (p0.length:Int)),(10,pI v6)]) (fun ((a16,c17),l18)=>[PRes.row a16 l18.length c17 3 1 (List.map eI l18)]) (fun ((a16,c17),l18)=>q19=l18) ?_ ?_
   ·skip
    refine am (ae (aa hq19 fun m20 hm20 hq19=>ag (bj 2 [] [12] [(13,.agg (an m20))] (eb 0 Za.enc hm20 cf) (by kernel_rfl) (aA rfl (dc (cs:=[pI 0,pS ByteArray.empty,pS ByteArray.empty,pI 0,pB false,pN,pN]) rfl rfl rfl rfl (fun b21=>bR rfl rfl (bL (vs:=(an m20)) rfl rfl rfl rfl rfl gF sI (bg (bC (aa hq19 fun x23 hx23 hq19=>aN [0] [14,15,16] [(17,pB x23)] (dD 3 (bZ (fun hr=>oT (gV hr)) hx23) cf) (by kernel_rfl) (cO rfl hq19 (fun hc24 hq19=>?_) fun hc24 hq19=>?_)))))))))))
    ·refine ag ?_
     refine cg 3 [0] [19] [(18,pO a4 l3.length c5),(20,pI m20.ID)] (by kernel_rfl) (aA rfl (bT rfl rfl rfl rfl rfl (ga rfl iM) rfl rfl rfl rfl (fun b25=>aa hq19 fun l27 hl27 hq19=>?_)))
     refine aA rfl (cx (enc:=eI) rfl rfl rfl rfl rfl rfl rfl rfl rfl gw (by exact bc (bc bf)) hl27 (fun a28 c29=>?_))
     refine aV [(5,pO a28 l27.length c29)] (by kernel_rfl) (ak ?_)
     obtain rfl:=osi hq19
     exact aO ((a28,c29),l27) (rz rfl) eF rfl
    refine al ?_
    refine ak ?_
    obtain rfl:=osi hq19
    exact aO ((a4,c5),l3) (rz rfl) (cH (bc bf) dr) rfl
   rintro ⟨⟨a16,c17⟩,l18⟩ τ hz;(try dsimp only at hz);subst q19;(try dsimp only at hb11);dsimp only [aG]
   refine ah [23] [(10,pI (IntKind.i64.wrap (v6+1)))] (by kernel_rfl) ?_
   exact bd hb11 (a16,c17) (rz rfl) eF
  refine aT ?_
  refine ar (ap hb11 (fun ht=>au rfl ?_))
  exact aO ((a4,c5),l3) (j6 rfl) eF ht.symm
 rintro ⟨⟨a8,c9⟩,l10⟩ τ hz;(try dsimp only at hz);subst q12;(try dsimp only at h);dsimp only [aG]
 refine ae (ah [24] [(4,pO a8 l10.length c9)] (by kernel_rfl) (aq ?_))
 refine dT (enc:=eI) (xs:=l10) 4 rfl (by exact bf) ?_
 refine dk ?_
 exact zz r h rfl
end SX
namespace SX
open Go
abbrev bl (s:ByteArray):List UInt8:=s.data.toList
theorem bl_hi (s:ByteArray) (k:Nat):bl (s.extract 0 k)=(bl s).take k:=by simp [bl]
theorem bl_lo (s:ByteArray) (k:Nat):bl (s.extract k s.size)=(bl s).drop k:=by
  simp only [bl,ByteArray.data_extract,Array.toList_extract,List.extract_eq_take_drop]
  rw [List.take_of_length_le];simp
theorem ff (s:ByteArray):s.size=(bl s).length:=by simp [bl]
theorem bl_inj {s u:ByteArray} (h:bl s=bl u):s=u:=by
  obtain ⟨⟨x⟩⟩:=s;obtain ⟨⟨y⟩⟩:=u;simp [bl] at h;subst h;rfl
def d7 (n:Nat):Bool:=decide (48≤n∧n≤57)
def ck (p:Nat→Bool):List Value:=(List.range 256).map fun i=>.bool (p i)
theorem ca (p:Nat→Bool):(ck p).length=256:=by simp [ck]
theorem fg (p:Nat→Bool) {j:Nat} (h:j<256):(ck p)[j]?=some (.bool (p j)):=by simp [ck,h]
theorem mW (p q:Nat→Bool) {j:Nat} (h:∀ i,q i=(decide (i=j)||p i)):(ck p).set j (.bool true)=ck q:=by
  apply List.ext_getElem?
  intro i
  rw [List.getElem?_set]
  simp only [ca]
  rcases Nat.lt_or_ge i 256 with hi | hi
  · rw [fg q hi,fg p hi,h i]
    by_cases e:j=i
    · subst e;simp [hi]
    · rw [if_neg e];simp [show ¬ i=j from fun h=>e h.symm]
  · rw [List.getElem?_eq_none (by rw [ca];exact hi),List.getElem?_eq_none (by rw [ca];exact hi)]
    split
    · rw [if_neg (by omega)]
    · rfl
section
variable {o:Oper} {σ:Env} {ρ:List Res} {κ:Kr} {c:Bool} {x y:Operand} {K:Value→List Res→Kr→Prop}
theorem Sh.at1 {b k:Nat} {cs:List Value} {v:Value} (h:Sh κ b 0 cs) (hv:cs[k]?=some v):Sh κ b (0+k*1) [v]:=⟨h.1,fun j u hu=>by
  cases j with
  | zero=>simp at hu;subst hu;have:=h.2 k v hv;simpa using this
  | succ j=>simp at hu⟩
theorem oq {t b T sz by':Nat} {cs:List Value} {z:Value} {d:TypeDesc} (ho:o.op=.load t x) (hx:Ev σ c x (.pointer (some ⟨b,0,none⟩))) (hm:Res.b b T cs∈ρ) (hd:bX t=some d) (ha:eg d=true) (hi:cK t=some (z,sz,by')) (hl:cs.length=sz):OpQ c o σ ρ κ (.agg cs.toArray):=by
  refine ly ho hx hm ?_
  unfold dP
  simp only [hd,hi,ha,cond_true,List.drop_zero]
  rw [Nat.ble_eq_true_of_le (by omega)]
  simp [← hl]
end
attribute [local irreducible] WL WC WD OpL OpQ OpG Ev GuardIs oK eR rT Call CallP midK kA Holds ke Sub Pick WS Step Lit Upd SetAt SpliceAt FillR Sh LateRun
theorem jO (κ:Kr) (b:Nat) (p:Nat→Bool) (m:Int) (hs:Sh κ b 0 (ck p)) (h0:0≤m) (h1:m≤255):CallP 65 [.pointer (some ⟨b,0,none⟩),.int .u8 m] κ fun v _=>v=.bool (p m.toNat):=by
  (unfold CallP;apply gC Tryd.func65 (rU Tryd.func65 rfl) rfl Tryd.ntmps65 Tryd.results65 rfl)
  repeat (first | (first | (apply bK rfl rfl rfl;(focus (first | exact aS (v:=(.int _ _)) rfl (.p rfl) | exact aS (v:=(.pointer _)) rfl (.p rfl) | exact aY (v:=(.bool _)) rfl (.p rfl) | exact hI rfl (.p rfl)))) | apply bm) | (first | apply bt | apply aD | apply br))
  apply bK rfl rfl rfl (lD (j:=m.toNat) rfl rfl rfl (.p rfl) (.p rfl) (fun _=>by omega) (fun _=>by omega))
  apply bK rfl rfl rfl (jo rfl (.p rfl) (fun _=>(hs.mono (by (repeat (exact Kle.refl _)))).at1 (fg p (by omega))) rfl)
  repeat (first | (first | (apply bK rfl rfl rfl;(focus (exact aY (v:=(.bool _)) rfl (.p rfl)))) | apply bm) | (first | apply br | apply fp))
  exact fT (mr (v:=.bool _) rfl) .none ⟨rfl,rfl⟩
def dx:ByteArray:=⟨#[48,49,50,51,52,53,54,55,56,57]⟩
theorem mX:∀ {k:Nat},k<10→((dx.data.toList.getD k 0).toNat:Int)=48+(k:Int):=by decide
theorem tA (κ:Kr):CallP 54 [.string dx] κ fun v _=>v=.tuple #[.agg (ck d7).toArray,.bool true]:=by
  (unfold CallP;apply gC Tryd.func54 (rU Tryd.func54 rfl) rfl Tryd.ntmps54 Tryd.results54 rfl)
  repeat (first | (first | (apply bK rfl rfl rfl;(focus (first | exact aY (v:=(.int _ _)) rfl (.p rfl) | exact aY (v:=(.bool _)) rfl (.p rfl)))) | (apply nh rfl rfl rfl;apply lz rfl rfl;intro _ _ _) | apply bm) | (first | apply bt | apply aD | apply dO | apply br))
  rename_i b2 κ1 _
  have e0:List.replicate 256 (Value.bool false)=ck (fun i=>decide (48≤i∧i<48+0)):=by
    apply List.ext_getElem?
    intro i
    rcases Nat.lt_or_ge i 256 with hi | hi
    · rw [fg _ hi,List.getElem?_replicate,if_pos hi];congr 2;symm;rw [decide_eq_false_iff_not];omega
    · rw [List.getElem?_eq_none (by simpa using hi),List.getElem?_eq_none (by rw [ca];exact hi)]
  rw [e0]
  refine iR (X:=Nat) (fun k=>[(0,.string dx),(2,.pointer (some ⟨b2,0,none⟩)),(4,.int .i64 (k:Int))]) (fun k=>[Res.b b2 86 (ck fun i=>decide (48≤i∧i<48+k))]) (fun k _=>k≤10) (fun k=>10 - k) 0 (by (repeat (first | exact Holds.nil | apply Holds.cons rfl))) (by (repeat (first | exact Sub.nil | (apply Sub.cons;(focus (repeat (exact Pick.h))))))) (by omega) ?_
  intro k τ κ2 _ hk
  simp only [ke]
  repeat (first | (first | (apply bK rfl rfl rfl;(focus (first | exact aS (v:=(.int _ _)) rfl (.p rfl) | exact aS (v:=(.string _)) rfl (.p rfl) | exact gz rfl (.p rfl) (.p rfl) rfl | exact fH rfl rfl (.p rfl)))) | apply bm) | (first | apply bt | apply aD | apply br))
  apply ms rfl <;> intro hc
  · have hk10:k<10:=by
      have e:(dx.size:Int)=10:=rfl
      rw [e] at hc;omega
    repeat (first | (apply bK rfl rfl rfl;(focus (first | exact aS (v:=(.int _ _)) rfl (.p rfl) | exact aS (v:=(.string _)) rfl (.p rfl)))) | (first | apply bt | apply aD | apply dO | apply br | apply dN))
    apply bK rfl rfl rfl (fX (s:=dx) (j:=k) rfl rfl (.p rfl) (.p rfl) (fun _=>rfl) (fun _=>hk10))
    rw [mX hk10]
    repeat (first | (first | (apply bK rfl rfl rfl;(focus (first | exact aS (v:=(.int _ _)) rfl (.p rfl) | exact aY (v:=(.int _ _)) rfl (.p rfl) | exact gz rfl (.p rfl) (.p rfl) rfl))) | apply bm) | (first | apply bt | apply aD | apply br))
    apply rL (by have:¬ (128:Int)≤48+(k:Int):=by omega
                 simp [ev,upd,this])
    repeat (first | (apply bK rfl rfl rfl;(focus (exact aS (v:=(.int _ _)) rfl (.p rfl)))) | (first | apply aD | apply br | apply dN))
    apply bK rfl rfl rfl (lD (j:=48+k) rfl rfl rfl (.p rfl) (.p rfl) (fun _=>by omega) (fun _=>by omega))
    apply pU rfl rfl
    apply qM (v:=.bool true) rfl rfl rfl rfl rfl rfl (by (repeat (exact Upd.h))) (by rw [ca];omega)
    intro κ3 _
    have e1:(ck fun i=>decide (48≤i∧i<48+k)).set (0+(48+k)*1) (.bool true)=ck fun i=>decide (48≤i∧i<48+(k+1)) :=
      mW _ _ fun i=>by rw [Bool.eq_iff_iff];simp;omega
    rw [e1]
    repeat (first | (first | (apply bK rfl rfl rfl;(focus (first | exact aS (v:=(.int _ _)) rfl (.p rfl) | exact aY (v:=(.int _ _)) rfl (.p rfl) | exact gA rfl (.p rfl) (.p rfl) rfl (fun _=>by omega)))) | apply bm) | (first | apply aD | apply br | apply im))
    exact mq (k+1) (by (repeat (first | exact Holds.nil | apply Holds.cons rfl))) (by (repeat (first | exact Sub.nil | (apply Sub.cons;(focus (repeat (exact Pick.h))))))) (by omega) (by omega)
  · have hk10:k=10:=by
      have e:(dx.size:Int)=10:=rfl
      rw [e] at hc;omega
    subst hk10
    have e2:(fun i=>decide (48≤i∧i<48+10))=d7:=by funext i;simp only [d7];rw [Bool.eq_iff_iff];simp;omega
    rw [e2]
    apply gy;apply em;apply dG;apply eo rfl;apply br;apply bt;apply aD
    apply bK rfl rfl rfl (oq rfl (.p rfl) (by (repeat (exact List.Mem.head _))) rfl rfl rfl (ca _))
    apply pU rfl rfl
    apply lA rfl rfl rfl rfl (ca _) (by simp [ck,Value.oneCell']) (by (repeat (exact Upd.h))) rfl
    intro κ3 _
    repeat (first | (first | (apply bK rfl rfl rfl;(focus (exact aY (v:=(.bool _)) rfl (.p rfl)))) | apply bm) | (first | apply br | apply fp))
    refine fT (rv_2 (RV1.cell rfl (by (repeat (exact List.Mem.head _))) ?_) (rv1_t (v:=.bool _) rfl)) .none ⟨rfl,rfl⟩
    unfold dP
    simp only [show bX 86=some (.array 256 4) from rfl,show cK 86=some (.agg (List.replicate 256 (.bool false)).toArray,256,256) from rfl,eg,cond_true,List.drop_zero,ca]
    rw [List.take_of_length_le (by rw [ca];omega)];rfl
theorem kb {l:List UInt8} {j:Nat} (h:j<l.length):l.getD j 0=l[j]:=by simp [List.getD_eq_getElem?_getD,h]
theorem mY (κ:Kr) (b:Nat) (s:ByteArray) (hs:Sh κ b 0 (ck d7)) (hz:s.size≤1000000000):CallP 56 [.string s,.pointer (some ⟨b,0,none⟩)] κ fun v _=>∃ u k,v=.string u∧bl u=(bl s).take k∧k≤(bl s).length∧(∀ c∈(bl s).drop k,d7 c.toNat=true)∧(∀ c,(bl u).getLast?=some c→d7 c.toNat=false):=by
  (unfold CallP;apply gC Tryd.func56 (rU Tryd.func56 rfl) rfl Tryd.ntmps56 Tryd.results56 rfl)
  repeat (first | (first | (apply bK rfl rfl rfl;(focus (exact aY (v:=(.string _)) rfl (.p rfl)))) | apply bm) | (first | apply bt | apply aD | apply dO | apply br))
  refine iR (X:=ByteArray×Nat) (fun z=>[(0,.string z.1),(1,.pointer (some ⟨b,0,none⟩))]) (fun _=>[]) (fun z _=>bl z.1=(bl s).take z.2∧z.2≤(bl s).length∧∀ c∈(bl s).drop z.2,d7 c.toNat=true) (fun z=>z.2) (s,(bl s).length) (by (repeat (first | exact Holds.nil | apply Holds.cons rfl))) (by (repeat (exact Sub.nil))) ⟨(List.take_length).symm,Nat.le_refl _,by rw [List.drop_length];simp⟩ ?_
  rw [ff] at hz
  rintro ⟨u,k⟩ τ κ2 _ ⟨h1,h2,h3⟩
  dsimp only at h1 h2 h3
  have hsz:u.size=k:=by rw [ff,h1,List.length_take];omega
  simp only [ke]
  repeat (first | (first | (apply bK rfl rfl rfl;(focus (first | exact aS (v:=(.string _)) rfl (.p rfl) | exact gz rfl (.p rfl) (.p rfl) rfl | exact fH rfl rfl (.p rfl)))) | apply bm) | (first | apply bt | apply aD | apply br))
  apply ms rfl <;> intro hc
  · have hk0:0<k:=by omega
    repeat (first | (apply bK rfl rfl rfl;(focus (first | exact aS (v:=(.pointer _)) rfl (.p rfl) | exact aS (v:=(.string _)) rfl (.p rfl) | exact gA rfl (.p rfl) (.p rfl) rfl (fun _=>by omega) | exact fH rfl rfl (.p rfl)))) | (first | apply bt | apply aD | apply dO | apply br | apply dN))
    apply bK rfl rfl rfl (fX (j:=k - 1) rfl rfl (.p rfl) (.p rfl) (fun _=>by omega) (fun _=>by omega))
    have hlast:(bl u).getLast?=some ((bl u).getD (k - 1) 0):=by
      rw [List.getLast?_eq_getElem?,← ff,hsz,kb (by rw [← ff];omega),List.getElem?_eq_getElem]
    apply nh rfl rfl rfl;apply fY rfl rfl (jO _ b d7 ((u.data.toList.getD (k - 1) 0).toNat:Int) (hs.mono (by (repeat (assumption)))) (by omega) (by have:=(u.data.toList.getD (k - 1) 0).toNat_lt;omega))
    rintro v κ3 _ rfl
    repeat (first | (first | (apply bK rfl rfl rfl;(focus (exact oM rfl (.p rfl)))) | apply bm) | (apply br))
    rw [Int.toNat_natCast]
    apply eZ rfl <;> intro hb
    · repeat (first | (first | (apply bK rfl rfl rfl;(focus (first | exact aS (v:=(.string _)) rfl (.p rfl) | exact aY (v:=(.string _)) rfl (.p rfl)))) | apply bm) | (first | apply bt | apply aD | apply br | apply fp | apply gy | apply em | apply eo rfl | apply kz rfl | apply dG))
      refine fT (mr (v:=.string _) rfl) .none ⟨rfl,u,k,rfl,h1,h2,h3,fun c hc=>?_⟩
      rw [hlast] at hc;injection hc with hc;subst hc;simpa using hb
    · repeat (first | (apply bK rfl rfl rfl;(focus (first | exact aS (v:=(.string _)) rfl (.p rfl) | exact gA rfl (.p rfl) (.p rfl) rfl (fun _=>by omega) | exact fH rfl rfl (.p rfl)))) | (first | apply aD | apply br | apply dN))
      apply bK rfl rfl rfl (jF (h:=k - 1) rfl rfl (.p rfl) (.p rfl) (fun _=>by omega) (fun _=>by omega))
      repeat (first | (first | (apply bK rfl rfl rfl;(focus (exact aY (v:=(.string _)) rfl (.p rfl)))) | apply bm) | (apply im))
      refine mq (u.extract 0 (k - 1),k - 1) (by (repeat (first | exact Holds.nil | apply Holds.cons rfl))) (by (repeat (exact Sub.nil))) ⟨?_,by ((try dsimp only at *) <;> omega),?_⟩ (by ((try dsimp only at *) <;> omega))
      · rw [bl_hi,h1,List.take_take];congr 1;omega
      · intro c hc
        rw [List.drop_eq_getElem_cons (by omega)] at hc
        rcases List.mem_cons.1 hc with rfl | hc
        · have e:(bl u).getD (k - 1) 0=(bl s)[k - 1]'(by omega):=by
            rw [kb (by rw [← ff];omega)];simp [h1]
          rw [← e];simpa using hb
        · rw [show k - 1+1=k by omega] at hc;exact h3 c hc
  · repeat (first | (first | (apply bK rfl rfl rfl;(focus (first | exact aS (v:=(.string _)) rfl (.p rfl) | exact aY (v:=(.string _)) rfl (.p rfl)))) | apply bm) | (first | apply bt | apply aD | apply br | apply fp | apply gy | apply em | apply eo rfl | apply dG))
    refine fT (mr (v:=.string _) rfl) .none ⟨rfl,u,k,rfl,h1,h2,h3,fun c hc'=>?_⟩
    have:bl u=[]:=List.eq_nil_of_length_eq_zero (by rw [← ff];omega)
    rw [this] at hc';cases hc'
end SX
namespace SX
open Go
attribute [local irreducible] WL WC WD OpL OpQ OpG Ev GuardIs oK eR rT Call CallP midK kA Holds ke Sub Pick WS Step Lit Upd SetAt SpliceAt FillR Sh LateRun
theorem ot (κ:Kr) (b:Nat) (s:ByteArray) (hs:Sh κ b 0 (ck d7)):CallP 55 [.string s,.pointer (some ⟨b,0,none⟩)] κ fun v _=>∃ u k,v=.string u∧bl u=(bl s).drop k∧k≤(bl s).length∧(∀ c∈(bl s).take k,d7 c.toNat=true)∧(∀ c,(bl u).head?=some c→d7 c.toNat=false):=by
  (unfold CallP;apply gC Tryd.func55 (rU Tryd.func55 rfl) rfl Tryd.ntmps55 Tryd.results55 rfl)
  repeat (first | (first | (apply bK rfl rfl rfl;(focus (exact aY (v:=(.string _)) rfl (.p rfl)))) | apply bm) | (first | apply bt | apply aD | apply dO | apply br))
  refine iR (X:=ByteArray×Nat) (fun z=>[(0,.string z.1),(1,.pointer (some ⟨b,0,none⟩))]) (fun _=>[]) (fun z _=>bl z.1=(bl s).drop z.2∧z.2≤(bl s).length∧∀ c∈(bl s).take z.2,d7 c.toNat=true) (fun z=>(bl s).length - z.2) (s,0) (by (repeat (first | exact Holds.nil | apply Holds.cons rfl))) (by (repeat (exact Sub.nil))) ⟨rfl,Nat.zero_le _,by simp⟩ ?_
  rintro ⟨u,k⟩ τ κ2 _ ⟨h1,h2,h3⟩
  dsimp only at h1 h2 h3
  have hsz:u.size=(bl s).length - k:=by rw [ff,h1,List.length_drop]
  simp only [ke]
  repeat (first | (first | (apply bK rfl rfl rfl;(focus (first | exact aS (v:=(.string _)) rfl (.p rfl) | exact gz rfl (.p rfl) (.p rfl) rfl | exact fH rfl rfl (.p rfl)))) | apply bm) | (first | apply bt | apply aD | apply br))
  apply ms rfl <;> intro hc
  · have hk0:k<(bl s).length:=by omega
    have hu0:0<(bl u).length:=by rw [← ff];omega
    repeat (first | (apply bK rfl rfl rfl;(focus (first | exact aS (v:=(.pointer _)) rfl (.p rfl) | exact aS (v:=(.string _)) rfl (.p rfl)))) | (first | apply bt | apply aD | apply dO | apply br | apply dN))
    apply bK rfl rfl rfl (fX (j:=0) rfl rfl (.p rfl) (.p rfl) (fun _=>by omega) (fun _=>by omega))
    have hhead:(bl u).head?=some ((bl u).getD 0 0):=by
      rw [List.head?_eq_getElem?,kb hu0,List.getElem?_eq_getElem hu0]
    apply nh rfl rfl rfl;apply fY rfl rfl (jO _ b d7 ((u.data.toList.getD 0 0).toNat:Int) (hs.mono (by (repeat (assumption)))) (by omega) (by have:=(u.data.toList.getD 0 0).toNat_lt;omega))
    rintro v κ3 _ rfl
    repeat (first | (first | (apply bK rfl rfl rfl;(focus (exact oM rfl (.p rfl)))) | apply bm) | (apply br))
    rw [Int.toNat_natCast]
    apply eZ rfl <;> intro hb
    · repeat (first | (first | (apply bK rfl rfl rfl;(focus (first | exact aS (v:=(.string _)) rfl (.p rfl) | exact aY (v:=(.string _)) rfl (.p rfl)))) | apply bm) | (first | apply bt | apply aD | apply br | apply fp | apply gy | apply em | apply eo rfl | apply kz rfl | apply dG))
      refine fT (mr (v:=.string _) rfl) .none ⟨rfl,u,k,rfl,h1,h2,h3,fun c hc=>?_⟩
      rw [hhead] at hc;injection hc with hc;subst hc;simpa using hb
    · repeat (first | (apply bK rfl rfl rfl;(focus (exact aS (v:=(.string _)) rfl (.p rfl)))) | (first | apply aD | apply br | apply dN))
      apply bK rfl rfl rfl (jG (l:=1) rfl rfl (.p rfl) (.p rfl) (fun _=>by omega) (fun _=>by omega))
      repeat (first | (first | (apply bK rfl rfl rfl;(focus (exact aY (v:=(.string _)) rfl (.p rfl)))) | apply bm) | (apply im))
      refine mq (u.extract 1 u.size,k+1) (by (repeat (first | exact Holds.nil | apply Holds.cons rfl))) (by (repeat (exact Sub.nil))) ⟨?_,by ((try dsimp only at *) <;> omega),?_⟩ (by ((try dsimp only at *) <;> omega))
      · rw [bl_lo,h1,List.drop_drop]
      · intro c hc
        rw [List.take_add_one] at hc
        rcases List.mem_append.1 hc with hc | hc
        · exact h3 c hc
        · have e:(bl u).getD 0 0=(bl s)[k]'hk0:=by rw [kb hu0];simp [h1]
          rw [List.getElem?_eq_getElem hk0] at hc
          simp only [Option.toList_some,List.mem_cons,List.not_mem_nil,or_false] at hc
          subst hc;rw [← e];simpa using hb
  · repeat (first | (first | (apply bK rfl rfl rfl;(focus (first | exact aS (v:=(.string _)) rfl (.p rfl) | exact aY (v:=(.string _)) rfl (.p rfl)))) | apply bm) | (first | apply bt | apply aD | apply br | apply fp | apply gy | apply em | apply eo rfl | apply dG))
    refine fT (mr (v:=.string _) rfl) .none ⟨rfl,u,k,rfl,h1,h2,h3,fun c hc'=>?_⟩
    have:bl u=[]:=List.eq_nil_of_length_eq_zero (by rw [← ff];omega)
    rw [this] at hc';cases hc'
def eC (s:ByteArray):Bool:=(bl s).all fun c=>d7 c.toNat
theorem lU {s:ByteArray}:s=⟨#[]⟩↔bl s=[]:=⟨fun h=>by rw [h],fun h=>bl_inj (by rw [h])⟩
theorem trim_ok (κ:Kr) (s:ByteArray) (hz:s.size≤1000000000):CallP 38 [.string s,.string dx] κ fun v _=>∃ u,v=.string u∧(u=⟨#[]⟩↔eC s=true):=by
  (unfold CallP;apply gC Tryd.func38 (rU Tryd.func38 rfl) rfl Tryd.ntmps38 Tryd.results38 rfl)
  repeat (first | (first | (apply bK rfl rfl rfl;(focus (first | exact aS (v:=(.bool _)) rfl (.p rfl) | exact aS (v:=(.string _)) rfl (.p rfl) | exact aY (v:=(.string _)) rfl (.p rfl) | exact oq_or rfl (.p rfl) (.p rfl) (.g rfl) | exact ma rfl (.p rfl) (.p rfl) rfl))) | (apply kj;(focus (exact pT rfl rfl rfl));rfl;rfl;(focus (first | (apply aS (v:=(.string _)) rfl;(focus (exact Ev.p rfl))) | (apply ma rfl (by (focus (exact Ev.g rfl))) (by (focus (exact Ev.p rfl)));rfl)))) | apply bm) | (first | apply bt | apply aD | apply br))
  apply eZ rfl <;> intro hb
  · repeat (first | (first | (apply bK rfl rfl rfl;(focus (first | exact aS (v:=(.string _)) rfl (.p rfl) | exact aY (v:=(.string _)) rfl (.p rfl)))) | apply bm) | (first | apply bt | apply aD | apply br | apply fp | apply jr))
    have:s=⟨#[]⟩:=by simpa [dx] using hb
    refine fT (mr (v:=.string _) rfl) .none ⟨rfl,s,rfl,?_⟩
    subst this;simp [eC,bl]
  · have hne:¬ bl s=[]:=fun h=>by rw [lU.2 h] at hb;simp at hb
    repeat (first | (first | (apply bK rfl rfl rfl;(focus (first | exact aS (v:=(.bool _)) rfl (.p rfl) | exact aS (v:=(.string _)) rfl (.p rfl) | exact gz rfl (.p rfl) (.p rfl) rfl | exact fH rfl rfl (.p rfl)))) | (apply kj;(focus (exact gx rfl rfl rfl));rfl;rfl;(focus (apply aS (v:=(.string _)) rfl;(focus (exact Ev.p rfl)))))) | (first | apply bt | apply aD | apply br | apply dN))
    apply kj;(focus (exact gx rfl rfl rfl));rfl;rfl;exact fX (s:=dx) (j:=0) rfl rfl (.g rfl) (.p rfl) (fun _=>rfl) (fun _=>by decide)
    repeat (first | (first | (apply bK rfl rfl rfl;(focus (exact oL rfl (.p rfl) (.p rfl) (.g rfl)))) | (apply kj;(focus (exact gx rfl rfl rfl));rfl;rfl;(focus (apply gz rfl (by (focus (exact Ev.g rfl))) (by (focus (exact Ev.p rfl)));rfl))) | apply bm) | (apply br))
    apply eZ rfl <;> intro hb2
    · have e:(dx.size:Int)=10:=rfl
      rw [e] at hb2;simp at hb2
    repeat (first | (apply bK rfl rfl rfl;(focus (exact aS (v:=(.string _)) rfl (.p rfl)))) | (first | apply bt | apply aD | apply br | apply dN))
    refine wl_fun rfl rfl rfl rfl rfl (tA _) fun κ1 _=>?_
    repeat (first | (first | (apply bK rfl rfl rfl;(focus (first | exact aS (v:=(.bool _)) rfl (.p rfl) | exact aS (v:=(.tuple _)) rfl (.p rfl) | exact aY (v:=(.bool _)) rfl (.p rfl) | exact kl rfl (.p rfl) rfl))) | (apply nh rfl rfl rfl;apply lz rfl rfl;intro _ _ _) | (apply pU rfl rfl;apply lA rfl rfl rfl rfl rfl rfl;(focus (repeat (exact Upd.h)));rfl;intro _ _) | apply bm) | (first | apply bt | apply aD | apply br))
    rename_i b5 _ _ _ _
    apply r8 (b:=b5) Pick.h rfl;intro κ3 _ hS hsays
    have hset:=oR hS hsays
    apply rK rfl
    repeat (first | (apply bK rfl rfl rfl;(focus (exact aS (v:=(.string _)) rfl (.p rfl)))) | (first | apply bt | apply aD))
    apply nh rfl rfl rfl;apply fY rfl rfl (mY _ b5 s (hset.mono (by (repeat (exact Kle.refl _)))) hz)
    rintro v κ4 _ ⟨u,k,rfl,h1,h2,h3,h4⟩
    apply nh rfl rfl rfl;apply fY rfl rfl (ot _ b5 u (hset.mono (by (repeat (assumption)))))
    rintro v κ5 _ ⟨u2,k2,rfl,g1,g2,g3,g4⟩
    repeat (first | (first | (apply bK rfl rfl rfl;(focus (exact aY (v:=(.string _)) rfl (.p rfl)))) | apply bm) | (first | apply br | apply fp | apply jr))
    refine fT (mr (v:=.string _) rfl) .none ⟨rfl,u2,rfl,?_⟩
    rw [lU]
    unfold eC
    rw [List.all_eq_true]
    constructor
    · intro h
      have hk2:k2=(bl u).length:=by
        have:=congrArg List.length (g1.symm.trans h);simp only [List.length_drop,List.length_nil] at this;omega
      intro c hc
      rw [← List.take_append_drop k (bl s)] at hc
      rcases List.mem_append.1 hc with hc | hc
      · rw [← h1] at hc;rw [hk2,List.take_length] at g3;exact g3 c hc
      · exact h3 c hc
    · intro h
      have hu:bl u=[]:=by
        rcases List.eq_nil_or_concat (bl u) with hu | ⟨l,c,hu⟩
        · exact hu
        · have hc:=h4 c (by rw [hu];simp)
          have hm:c∈bl s:=List.mem_of_mem_take (i:=k) (by rw [← h1,hu];simp)
          rw [h c hm] at hc;cases hc
      rw [g1,hu];simp
def Glob (κ:Kr):Prop:=Sh κ 0 0 [.int .i64 2,.int .i64 4,.int .i64 6,.int .i64 8]
theorem Glob.mono {κ κ':Kr} (h:Glob κ) (k:Kle κ κ'):Glob κ':=Sh.mono h k
def bW (s:ByteArray):Int:=if (s.size=2∨s.size=4∨s.size=6∨s.size=8)∧eC s=true then (s.size:Int) else 0
theorem gv_some {c:Bool} {v:Value} {P:ByteArray→Prop} (h:c=true→∃ u,v=.string u∧P u):∃ u,gv c v=gv c (.string u)∧(c=true→P u):=by
  cases c
  · exact ⟨⟨#[]⟩,by rw [db,db],fun h=>by cases h⟩
  · obtain ⟨u,rfl,h2⟩:=h rfl;exact ⟨u,rfl,fun _=>h2⟩
theorem tB (κ:Kr) (s:ByteArray) (hg:Glob κ):CallP 25 [.string s] κ fun v _=>v=.int .i64 (bW s):=by
  (unfold CallP;apply gC Tryd.func25 (rU Tryd.func25 rfl) rfl Tryd.ntmps25 Tryd.results25 rfl)
  repeat (first | (first | (apply bK rfl rfl rfl;(focus (exact aY (v:=(.int _ _)) rfl (.p rfl)))) | apply bm) | (first | apply bt | apply aD | apply br))
  apply bK rfl rfl rfl (jo rfl (.p rfl) (fun _=>hg) rfl)
  repeat (first | (first | (apply bK rfl rfl rfl;(focus (exact aS (v:=(.int _ _)) rfl (.p rfl)))) | apply bm) | (first | apply dO | apply br))
  refine iR (X:=Nat) (fun k=>[(0,.string s),(5,.agg #[.int .i64 2,.int .i64 4,.int .i64 6,.int .i64 8]),(6,.int .i64 (k:Int))]) (fun _=>[]) (fun k _=>k≤4∧∀ j,j<k→¬ (s.size=2*(j+1)∧eC s=true)) (fun k=>4 - k) 0 (by (repeat (first | exact Holds.nil | apply Holds.cons rfl))) (by (repeat (exact Sub.nil))) ⟨by omega,by omega⟩ ?_
  rintro k τ κ1 _ ⟨hk,hno⟩
  simp only [ke]
  repeat (first | (first | (apply bK rfl rfl rfl;(focus (exact gz rfl (.p rfl) (.p rfl) rfl))) | apply bm) | (first | apply bt | apply aD | apply br))
  apply ms rfl <;> intro hc
  · have hk4:k<4:=by omega
    repeat (first | apply bt | apply aD | apply dO | apply br | apply dN)
    apply bK rfl rfl rfl (qL (cs:=[.int .i64 2,.int .i64 4,.int .i64 6,.int .i64 8]) (v:=.int .i64 (2*((k:Int)+1))) (j:=k) rfl rfl rfl rfl rfl (.p rfl) (.p rfl) (fun _=>rfl) (fun _=>hk4) (fun _=>by
      have:k=0∨k=1∨k=2∨k=3:=by omega
      rcases this with rfl | rfl | rfl | rfl <;> rfl))
    repeat (first | (first | (apply bK rfl rfl rfl;(focus (first | exact aS (v:=(.int _ _)) rfl (.p rfl) | exact aS (v:=(.bool _)) rfl (.p rfl) | exact aS (v:=(.string _)) rfl (.p rfl) | exact aY (v:=(.int _ _)) rfl (.p rfl) | exact gz rfl (.p rfl) (.p rfl) rfl | exact fH rfl rfl (.p rfl)))) | (apply kj;(focus (exact gx rfl rfl rfl));rfl;rfl;(focus (apply aS (v:=(.string _)) rfl;(focus (exact Ev.p rfl))))) | apply bm) | (first | apply bt | apply aD | apply br))
    apply wl_g;(focus (exact gx rfl rfl rfl));rfl;rfl
    refine kp rfl (ar2 (.g rfl) (.p rfl)) (fun hcc=>trim_ok _ s (by simp at hcc;omega)) fun v κ2 _ hv=>?_
    obtain ⟨u,hu,hP⟩:=gv_some hv
    rw [hu]
    repeat (first | (first | (apply bK rfl rfl rfl;(focus (exact oL rfl (.p rfl) (.p rfl) (.g rfl)))) | (apply kj;(focus (exact gx rfl rfl rfl));rfl;rfl;(focus (apply ma rfl (by (focus (exact Ev.g rfl))) (by (focus (exact Ev.p rfl)));rfl))) | apply bm) | (apply br))
    apply eZ rfl <;> intro hb
    · simp only [Bool.and_eq_true,beq_iff_eq,decide_eq_true_eq] at hb
      have hd:eC s=true:=(hP (by simpa using hb.1)).1 hb.2
      repeat (first | (first | (apply bK rfl rfl rfl;(focus (first | exact aS (v:=(.int _ _)) rfl (.p rfl) | exact aY (v:=(.int _ _)) rfl (.p rfl)))) | apply bm) | (first | apply bt | apply aD | apply br | apply fp | apply jr | apply nu | apply oO))
      refine fT (mr (v:=.int _ _) rfl) .none ⟨rfl,?_⟩
      show Value.int .i64 (2*((k:Int)+1))=.int .i64 (bW s)
      unfold bW
      rw [if_pos ⟨by omega,hd⟩,← hb.1]
    · repeat (first | (first | (apply bK rfl rfl rfl;(focus (first | exact aS (v:=(.int _ _)) rfl (.p rfl) | exact gA rfl (.p rfl) (.p rfl) rfl (fun _=>by omega)))) | apply bm) | (first | apply aD | apply br | apply dN | apply im))
      refine mq (k+1) (by (repeat (first | exact Holds.nil | apply Holds.cons rfl))) (by (repeat (exact Sub.nil))) ⟨by omega,fun j hj=>?_⟩ (by omega)
      rcases Nat.lt_or_ge j k with h | h
      · exact hno j h
      · have:j=k:=by omega
        subst this
        rintro ⟨h1,h2⟩
        have hcc:((s.size:Int) == 2*((j:Int)+1))=true:=by simp;omega
        have:=(hP (by simpa using hcc)).2 h2
        subst this
        rw [hcc] at hb;simp at hb
  · repeat (first | (first | (apply bK rfl rfl rfl;(focus (exact aY (v:=(.int _ _)) rfl (.p rfl)))) | apply bm) | (first | apply bt | apply aD | apply br | apply fp | apply gy | apply em | apply eo rfl | apply dG))
    refine fT (mr (v:=.int _ _) rfl) .none ⟨rfl,?_⟩
    show Value.int .i64 0=.int .i64 (bW s)
    unfold bW
    rw [if_neg]
    rintro ⟨h1,h2⟩
    have:k=4:=by omega
    subst this
    rcases h1 with h1 | h1 | h1 | h1
    · exact hno 0 (by omega) ⟨h1,h2⟩
    · exact hno 1 (by omega) ⟨h1,h2⟩
    · exact hno 2 (by omega) ⟨h1,h2⟩
    · exact hno 3 (by omega) ⟨h1,h2⟩
end SX
namespace SX
open Go
def fA (p0:ByteArray):Option Int:=some (bW p0)
theorem gW {p0:ByteArray} {r:Int} (h:fA p0=some r):PF 25 [.v (.string p0)] (.v (.int .i64 r)):=fun κ args g ha=>by
 obtain ⟨v,ws,rfl,h1,h2⟩:=ha.cons_inv
 rw [h2.nil_inv,h1.val]
 have h:=Option.some.inj h;subst h
 exact (tB κ p0 (gok_len g)).mono fun v κ' _ hv=>by subst hv;exact .v rfl
def itr (b:Nat) (s:ByteArray) (pos:Nat):Res:=⟨some b,fun o=>o=some (.stringIter s pos)⟩
theorem tC {o:Oper} {σ:PEnv} {ρ:List PRes} {x:Operand} {t:Nat} {s:ByteArray} {K:PV→List PRes→Prop} (ho:o.op=.range t x) (hu:bX t=some .string) (hx:aB σ x=.v (.string s)) (h:∀ b,K (.v (.pointer (some ⟨b,0,none⟩))) (.raw (itr b s 0)::ρ)):POpL o σ ρ K:=fun κ σ' ρ' g hs hr β hi Nx hk=>by
 have e1:=hs.v1 hx
 have h1:=run_underlying (w:=κ.w) (aF hu)
 have hrun:(execOp (ev σ') o).run Tryd.prog κ.w=.ok (.value (.pointer (some ⟨κ.w.heap.size,0,none⟩))) (κ.w.alloc (.stringIter s 0)):=by
  simp [execOp,ho,e1,Instr.range,h1,run_newObj_alloc]
 rw [hrun]
 exact hk _ _ ⟨κ.w.alloc (.stringIter s 0),κ.S⟩ (hi.alloc _ (itr κ.w.heap.size s 0) rfl rfl) (bO hi.fin _) ⟨_,_,.v rfl,.cons .raw (hr.mono (bO hi.fin _)),h _⟩
theorem pl_next {o:Oper} {σ:PEnv} {ρ ρ1:List PRes} {x:Operand} {b pos:Nat} {s:ByteArray} {K:PV→List PRes→Prop} (ho:o.op=.next x true) (hx:aB σ x=.v (.pointer (some ⟨b,0,none⟩))) (hu:PUpd ρ (.raw (itr b s pos)) (.raw (itr b s (pos+(Utf8.decode s pos).2))) ρ1) (h1:pos<s.size→K (.tup [.v (.bool true),.v (.int .i64 (pos:Int)),.v (.int .i32 ((Utf8.decode s pos).1:Int))]) ρ1) (h2:s.size≤pos→K (.tup [.v (.bool false)]) ρ):POpL o σ ρ K:=fun κ σ' ρ' g hs hr β hi Nx hk=>by
 have e1:=hs.v1 hx
 have hr0:=hr
 obtain ⟨r0,l1,l2,rfl,h4,h5⟩:=hr.upd hu
 cases h4 with
 | raw =>
  have hb:κ.w.heap[b]?=some (.stringIter s pos):=hi.own (itr b s pos) (by simp)
  have hg:(getObj b).run Tryd.prog κ.w=.ok (.stringIter s pos) κ.w:=by simp [getObj,Sem.run,hb]
  have hset:∀ ob,(setObj b ob).run Tryd.prog κ.w=.ok () { κ.w with heap:=κ.w.heap.setIfInBounds b ob }:=fun ob=>by simp [setObj,Sem.run,hb]
  rcases Nat.lt_or_ge pos s.size with hlt | hge
  ·have hrun:(execOp (ev σ') o).run Tryd.prog κ.w=.ok (.value (.tuple #[.bool true,goInt pos,.int .i32 ((Utf8.decode s pos).1:Int)])) { κ.w with heap:=κ.w.heap.setIfInBounds b (.stringIter s (pos+(Utf8.decode s pos).2)) }:=by
    simp [execOp,ho,e1,Instr.next,hg,hlt,hset]
   rw [hrun]
   obtain ⟨i1,i2⟩:=hi.turn (r:=itr b s pos) (r':=itr b s (pos+(Utf8.decode s pos).2)) (b:=b) (w':={ κ.w with heap:=κ.w.heap.setIfInBounds b (.stringIter s (pos+(Utf8.decode s pos).2)) }) rfl rfl rfl (fun i hi=>jK hi) (by simp) (jL hb) rfl rfl rfl (Nat.le_refl _)
   exact hk _ _ _ i1 i2 ⟨_,ρ1,.tup (ws:=[_,_,_]) (.cons (.v rfl) (.cons (.v rfl) (.cons (.v rfl) .nil))),h5 _ _ i2 .raw,h1 hlt⟩
  ·have hrun:(execOp (ev σ') o).run Tryd.prog κ.w=.ok (.value (.tuple #[.bool false])) κ.w:=by
    simp [execOp,ho,e1,Instr.next,hg,Nat.not_lt.2 hge]
   rw [hrun]
   exact hk _ _ κ hi (.refl _) ⟨_,ρ,.tup (ws:=[_]) (.cons (.v rfl) .nil),hr0,h2 hge⟩
def dL (s:ByteArray) (pos:Nat):Option (Nat⊕Bool):=cond (Nat.blt pos s.size) (cond (decide (((Utf8.decode s pos).1:Int)<97)||decide (122<((Utf8.decode s pos).1:Int))) (some (.inr false)) (some (.inl (pos+(Utf8.decode s pos).2)))) (some (.inr true))
def d8 (p0:ByteArray):Option Bool:=cond (decide ((p0.size:Int)<1)||decide (12<(p0.size:Int))) (some false) (bh (dL p0) FUEL 0)
attribute [local irreducible] PWL PWC PWD POpL POpQ PEv PGuardIs PSub PPick PUpd PSplice PFill PLit PF PFV PCall FOk eN dj iT iU gI iy Cov PHolds bh dL
theorem jU {p0:ByteArray} {r:Bool} (h:d8 p0=some r):PF 40 [pS p0] (pB r):=by
 unfold d8 at h
 refine bH ?_
 refine aH Tryd.func40 rfl Tryd.ntmps40 Tryd.results40 rfl ?_
 (repeat refine ae ?_)
 refine aN [] [2] [] cf (by kernel_rfl) ?_
 (repeat (first | apply ak | apply aq))
 (repeat refine ae ?_)
 refine aN [] [5,6,7,8,9,10,11] [(12,pB (decide ((p0.size:Int)<1)||decide (12<(p0.size:Int))))] cf (by kernel_rfl) ?_
 (repeat (first | apply ak | apply aq))
 (repeat refine ae ?_)
 refine hQ rfl (fun hc=>?_) (fun hc=>?_)
 ·replace h:=oX hc h
  (repeat refine ae ?_)
  refine aN [] [] [(2,pB false)] cf (by kernel_rfl) ?_
  (repeat (first | apply ak | apply aq))
  (repeat refine ae ?_)
  refine dk ?_
  (repeat (first | apply aj | apply af | apply az | apply dB))
  obtain rfl:=Option.some.inj h
  exact bJ (fu (bS rfl)) dr ⟨rfl,rfl⟩
 replace h:=oY hc h
 refine al ?_
 (repeat (first | apply ak | apply aq))
 (repeat refine ae ?_)
 refine ag ?_
 refine bj 1 [] [] [(13,pS p0)] cf (by kernel_rfl) ?_
 refine sm rfl rfl rfl (tC rfl rfl rfl fun b=>?_)
 refine bg ?_
 (repeat (first | apply ak | apply aq))
 (repeat refine ae ?_)
 refine aP (Y:=Unit) (fun _=>[]) (fun _=>[]) (fun _=>r=true) ?_ ?_
 ·refine am ?_
  refine aQ (Y:=Unit) (S:=Nat) _ h (fun _ _=>[(14,pP b 0)]) (fun _ pos=>[PRes.raw (itr b p0 pos)]) () (by (repeat (first | exact lG | apply iK rfl))) (by (repeat (first | exact dr | (apply cH;(focus (repeat (first | exact bf | apply bc))))))) ?_
  rintro _ pos o τ hb;dsimp only [aG]
  unfold dL at hb
  (repeat refine ae ?_)
  refine ag ?_
  refine sm rfl rfl rfl (pl_next rfl rfl gF (fun hlt=>?_) (fun hge=>?_))
  ·have hlt':Nat.blt pos p0.size=true:=by simp [Nat.blt];omega
   rw [hlt'] at hb;simp only [ee] at hb
   refine fb [] [] [(16,pB true)] cf (by kernel_rfl) ?_
   (repeat (first | apply ak | apply aq))
   (repeat refine ae ?_)
   refine hQ (p:=true) rfl (fun _=>?_) (fun hf=>by cases hf)
   refine al ?_
   (repeat (first | apply ak | apply aq))
   (repeat refine ae ?_)
   refine am ?_
   (repeat refine ae ?_)
   refine aN [] [17] [(4,.v (.int .i32 ((Utf8.decode p0 pos).1:Int)))] cf (by kernel_rfl) ?_
   (repeat (first | apply ak | apply aq))
   (repeat refine ae ?_)
   refine aN [] [18,19,20,21,22] [(23,pB (decide (((Utf8.decode p0 pos).1:Int)<97)||decide (122<((Utf8.decode p0 pos).1:Int))))] cf (by kernel_rfl) ?_
   (repeat (first | apply ak | apply aq))
   (repeat refine ae ?_)
   refine hQ rfl (fun hc2=>?_) (fun hc2=>?_)
   ·replace hb:=oX hc2 hb
    (repeat refine ae ?_)
    refine aN [] [] [(2,pB false)] cf (by kernel_rfl) ?_
    (repeat (first | apply ak | apply aq))
    (repeat refine ae ?_)
    refine dk ?_
    (repeat (first | apply aj | apply af | apply az | apply dB))
    refine av hb (fun ht=>?_);subst ht
    (repeat (first | apply aj | apply af | apply az | apply dB))
    exact bJ (fu (bS rfl)) dr ⟨rfl,rfl⟩
   replace hb:=oY hc2 hb
   refine al ?_
   (repeat apply ak)
   exact bd hb () (by (repeat (first | exact lG | apply iK rfl))) (by (repeat (first | exact dr | (apply cH;(focus (repeat (first | exact bf | apply bc)))))))
  have hge':Nat.blt pos p0.size=false:=by cases e:Nat.blt pos p0.size;rfl;exact absurd (Nat.le_of_ble_eq_true e) (by omega)
  rw [hge'] at hb;simp only [fm] at hb
  refine fb [] [] [(16,pB false)] cf (by kernel_rfl) ?_
  (repeat (first | apply ak | apply aq))
  (repeat refine ae ?_)
  refine hQ (p:=false) rfl (fun hf=>by cases hf) (fun _=>?_)
  refine aT ?_
  (repeat (first | apply ar | apply nD | apply nE | apply jH rfl))
  refine ap hb (fun ht=>?_)
  refine au rfl ?_
  exact aO () lG dr ht.symm
 rintro _ τ hz;subst hz;dsimp only [aG]
 (repeat refine ae ?_)
 refine aN [] [] [(2,pB true)] cf (by kernel_rfl) ?_
 (repeat (first | apply ak | apply aq))
 (repeat refine ae ?_)
 refine dk ?_
 (repeat (first | apply aj | apply af | apply az | apply dB))
 exact bJ (fu (bS rfl)) dr ⟨rfl,rfl⟩
end SX
end Go.Proofs.YthbphcbhedmnoaaDoor
set_option maxRecDepth 100000
namespace Go.Proofs.YthbphcbhedmnoaaDoor
namespace SX
open Go Go.RowKit
theorem Zd.fresh {β:Base} {r':Res} {l:List Res} {κ:Kr} {w':World} (h:Zd β l κ) (hB:Below κ.w.heap.size κ.w w') (hs:r'.holds w') (hlt:∀ b,r'.blk=some b→κ.w.heap.size≤b∧b<w'.heap.size) (hdr:DrGo κ.w.drawn w'.drawn) :
    Zd β (r'::l) ⟨w',κ.S⟩∧Kle κ ⟨w',κ.S⟩:=by
  obtain ⟨hle,hfin,hown,hblk,hnd⟩:=h
  have hk:Kle κ ⟨w',κ.S⟩:=⟨hB.size,fun _ h=>h,fun i hi=>hB.block i (hfin i hi)⟩
  refine ⟨⟨⟨hle.kle.trans hk,fun i hi hm=>(hB.block i (Nat.lt_of_lt_of_le hi hle.kle.size)).trans (hle.same i hi hm),hle.shNew,hB.os.trans hle.os,hB.tape.trans hle.tape,hB.output.trans hle.output,hle.drawn.trans hdr⟩,fun i hi=>Nat.lt_of_lt_of_le (hfin i hi) hB.size,?_,?_,?_⟩,hk⟩
  · intro s hs'
    rcases List.mem_cons.1 hs' with rfl | hs'
    · exact hs
    exact Res.holds_of (hown s hs') fun i hi=>hB.block i (hblk s hs' i hi).1
  · intro s hs' i hi
    rcases List.mem_cons.1 hs' with rfl | hs'
    · obtain ⟨h1,h2⟩:=hlt i hi
      refine ⟨h2,fun hS=>absurd (hfin i hS) (by omega),.inl ?_⟩
      have:=hle.kle.size;omega
    obtain ⟨h1,h2,h3⟩:=hblk s hs' i hi
    exact ⟨Nat.lt_of_lt_of_le h1 hB.size,h2,h3⟩
  refine List.pairwise_cons.2 ⟨fun s hs' b hb hb2=>?_,hnd⟩
  have h1:=(hlt b hb).1
  have h2:=(hblk s hs' b hb2).1
  omega
def inI (a:Int):Bool:=decide (-9223372036854775808≤a)&&decide (a≤9223372036854775807)
def ou (a b:Int):Bool:=decide (a<b)
def tD {V:Type} (xs:List (Int×V)):Option (List Int):=cond (xs.all (fun p=>inI p.1)&&decide (xs.length≤1000000000000)) (some (oh ou (xs.map (·.1)))) none
end SX
end Go.Proofs.YthbphcbhedmnoaaDoor
set_option maxRecDepth 100000
namespace Go.Proofs.YthbphcbhedmnoaaDoor
namespace SX
open Go Go.RowKit Go.Maps Go.Sort Go.Shelf
theorem sortsI {ρs ρo:Ren} (Lo:SlLaysM.n5 Tryd.prog ρo) (h:ρo.f 5=ρs.f 9) (m:Nat):AnyZI.SortsIn Tryd.prog ρs Fence.wide m:=by
 unfold AnyZI.SortsIn
 rw [← h]
 exact ⟨fun blk off cap ss W hH hblk hsz=>callsIn_wide.2 (AnyM.slices_Sort_int Lo blk off cap ss W hH hblk hsz),fun p cap W=>callsIn_wide.2 (AnyM.slices_Sort_int_none Lo p cap W)⟩
theorem tE {ρk:Ren} {fK fI mt:Nat} {mo:Option Nat} (Lk:SlLaysZI.n7 Tryd.prog ρk) (h1:ρk.f 7=fK) (h2:ρk.f 10=fI) (h3:ρk.t 23=mt) (fOk:FnOk fK) :
    PCall fK [.v (.map mo)] [] (fun pv ρ'=>∃ b,pv=.v (.func (.func fI) #[] #[.pointer (some ⟨b,0,none⟩)])∧ρ'=[PRes.b b mt [.v (.map mo)]]):=fun κ args ρ gk ha hr=>by
  subst h1 h2 h3
  obtain ⟨v,ws,rfl,ha1,ha2⟩:=ha.cons_inv
  rw [ha2.nil_inv,ha1.val]
  have:=hr.nil_inv;subst this
  refine ⟨fOk,fun hi=>?_⟩
  refine (callsIn_wide.1 (AnyZI.keys_in Lk Fence.wide 5 trivial rfl mo κ.w)).mono fun e w' ⟨h1,h2⟩=>?_
  subst h1 h2
  exact ⟨_,_,⟨_,κ.S⟩,rfl,rfl,hi.alloc (.cells #[.map mo] (ρk.t 23)) (Res.b κ.w.heap.size (ρk.t 23) [.map mo]) rfl rfl,_,_,.v rfl,.cons (.b (fun u hu=>by rw [List.mem_singleton.1 hu];rfl) (.cons (.v rfl) .nil)) .nil,_,rfl,rfl⟩
theorem jP {H:Type} (x:Go.Lit×DataW H):∀ l:List (Go.Lit×DataW H),(DataW.insert x l).Perm (x::l)
 | []=>.refl _
 | y::l=>by
  unfold DataW.insert
  split
  ·exact .refl _
  exact ((jP x l).cons y).trans (.swap _ _ _)
theorem d9 {H:Type}:∀ l:List (Go.Lit×DataW H),(l.foldr DataW.insert []).Perm l
 | []=>.refl _
 | x::l=>by rw [List.foldr_cons];exact (jP _ _).trans ((d9 l).cons x)
theorem ltI_t (x y z:Int) (h1:ou x y=true) (h2:ou y z=true):ou x z=true:=by
 unfold ou at *;simp only [decide_eq_true_eq] at *;omega
theorem ltI_n (x y z:Int) (h1:ou x y=false) (h2:ou y z=false):ou x z=false:=by
 unfold ou at *;simp only [decide_eq_false_iff_not] at *;omega
theorem ltI_i (x:Int):ou x x=false:=by unfold ou;simp
theorem ltI_a (x y:Int) (h1:ou x y=false) (h2:ou y x=false):x=y:=by
 unfold ou at *;simp only [decide_eq_false_iff_not] at *;omega
theorem jV {l m:List Int} (hp:l.Perm m):(l.mergeSort fun x y=>decide (x≤y))=oh ou m:=by
 refine jN (lt:=ou) ltI_a ?_ (i5 ltI_t ltI_n ltI_i m) (((List.mergeSort_perm _ _).trans hp).trans iE.symm)
 have h:=List.pairwise_mergeSort (le:=fun x y:Int=>decide (x≤y)) (fun a b c h1 h2=>by simp only [decide_eq_true_eq] at *;omega) (fun a b=>by simp only [Bool.or_eq_true,decide_eq_true_eq];omega) l
 exact h.imp fun {a b} hab=>by unfold ou;simp only [decide_eq_true_eq] at hab;simp only [decide_eq_false_iff_not];omega
theorem qv {κ:Kr}:∀ ks:List Int,Rpss κ (ks.map eI) (ks.map fun x=>[Value.int .i64 x])
 | []=>.nil
 | x::l=>.cons (.cons (.v rfl) .nil) (qv l)
theorem tF {V:Type} {vv:V→PV} {κ:Kr}:∀ {xs:List (Int×V)} {es:List MapEntry},KVs κ (ba kI vv xs) es→es.map (·.key)=xs.map fun p=>Value.int .i64 p.1:=fun {xs es} h=>by
 rw [← h.keys];simp [ba,kI]
theorem pD {V:Type} {vv:V→PV} {κ:Kr} {xs:List (Int×V)} {es:List MapEntry} {clock mb it:Nat} (ht:Tryd.prog.underlying it=some (.int .i64)) (hin:∀ p∈xs,inI p.1=true) (hlen:xs.length≤1000000000000) (hw:MapWf es clock) (hk:KVs κ (ba kI vv xs) es) (hb:κ.w.heap[mb]?=some (.map es.toArray clock)) :
    ∃ D0:DataW Unit,κ.w.ownsMap Tryd.prog it (fun _=>some (.nil,[])) mb es.length D0∧(intKeys D0).Perm (xs.map (·.1))∧Maps.size D0=xs.length:=by
  have hkeys:=tF hk
  have hl:es.length=xs.length:=by have:=congrArg List.length hkeys;simpa using this
  have hwf:∀ a:Int,inI a=true→(Go.Lit.int .i64 a).wf=true:=fun a h=>by
    unfold inI at h
    simp only [Bool.and_eq_true,decide_eq_true_eq] at h
    simp only [Go.Lit.wf,Bool.and_eq_true,decide_eq_true_eq]
    exact ⟨h.1,h.2⟩
  have hkey:∀ e∈es,∃ a,e.key=.int .i64 a∧inI a=true:=fun e he=>by
    have:e.key∈es.map (·.key):=List.mem_map.2 ⟨e,he,rfl⟩
    rw [hkeys] at this
    obtain ⟨p,hp,e1⟩:=List.mem_map.1 this
    exact ⟨p.1,e1.symm,hin p hp⟩
  have hrd:∀ e∈es,∃ a,e.key=.int .i64 a∧WideElems.rd Tryd.prog it (fun _=>some ((.nil:DataW Unit),[])) e=some (.int .i64 a,.nil):=fun e he=>by
    obtain ⟨a,h1,h2⟩:=hkey e he
    refine ⟨a,h1,?_⟩
    exact WideElems.rd_mk (R:=fun _=>some ((.nil:DataW Unit),[])) (yv:=((.nil:DataW Unit),[])) (key:=e.key) (val:=e.val) (born:=e.born) (by rw [h1];exact keyOf_int_mk ht (hwf a h2)) rfl
  have hrg:es.map (WideElems.rg Tryd.prog it (fun _=>some ((.nil:DataW Unit),[])))=xs.map fun p=>(Go.Lit.int .i64 p.1,(.nil:DataW Unit)):=by
    have:∀ (l:List MapEntry) (ys:List (Int×V)),l.map (·.key)=ys.map (fun p=>Value.int .i64 p.1)→(∀ e∈l,∃ a,e.key=.int .i64 a∧WideElems.rd Tryd.prog it (fun _=>some ((.nil:DataW Unit),[])) e=some (.int .i64 a,.nil))→l.map (WideElems.rg Tryd.prog it (fun _=>some ((.nil:DataW Unit),[])))=ys.map fun p=>(Go.Lit.int .i64 p.1,(.nil:DataW Unit)):=fun l=>by
      induction l with
      | nil=>intro ys h _;cases ys with | nil=>rfl | cons y ys=>cases h
      | cons e l ih =>
        intro ys h hr
        cases ys with
        | nil=>cases h
        | cons y ys =>
          rw [List.map_cons,List.map_cons] at h
          injection h with h1 h2
          rw [List.map_cons,List.map_cons,ih ys h2 fun e he=>hr e (List.mem_cons_of_mem _ he)]
          obtain ⟨a,g1,g2⟩:=hr e (List.mem_cons_self)
          rw [WideElems.rg_of g2]
          rw [h1] at g1;injection g1 with _ g1;subst g1;rfl
    exact this es xs hkeys hrd
  refine ⟨_,⟨es.toArray,clock,hb,⟨by simp only [List.size_toArray];unfold maxLen;omega,⟨fun x hx=>hw.lt x (by simpa using hx),?_,?_⟩,fun x hx=>by obtain ⟨a,_,h⟩:=hrd x (by simpa using hx);exact ⟨_,h⟩⟩,by simp,rfl⟩,?_,?_⟩
  · simp only [];exact List.pairwise_map.2 hw.bn
  · simp only [];exact List.pairwise_map.2 hw.nd
  · simp only [intKeys]
    refine ((d9 _).map _).trans ?_
    rw [hrg,List.map_map]
    exact .refl _
  simp only [Maps.size]
  rw [(d9 _).length_eq];simp [hl]
theorem pE {V:Type} {vv:V→PV} {xs:List (Int×V)} {ks:List Int} {b mb fS fI fO mt it:Nat} {ρk ρs ρo:Ren} (Lk:SlLaysZI.n7 Tryd.prog ρk) (Ls:SlLaysZI.n6 Tryd.prog ρs) (Lo:SlLaysM.n5 Tryd.prog ρo) (h1:ρs.f 6=fS) (h2:ρk.f 10=fI) (h3:ρo.f 5=fO) (h4:ρs.f 9=fO) (h5:ρk.t 26=it) (h6:ρs.t 26=it) (fOk:FnOk fS) (iOk:FnOk fI) (oOk:FnOk fO) (hd:lw=false) (h:tD xs=some ks) :
    PCall fS [.v (.func (.func fI) #[] #[.pointer (some ⟨b,0,none⟩)])] [PRes.b b mt [.v (.map (some mb))],PRes.mp (some mb) (ba kI vv xs)] (fun pv ρ'=>∃ a c,pv=.v (.slice a ks.length c)∧ρ'=[PRes.row a ks.length c it 1 (List.map eI ks),PRes.b b mt [.v (.map (some mb))],PRes.mp (some mb) (ba kI vv xs)]):=fun κ args ρ gk ha hr=>by
  subst h1 h2 h3
  have hit:Tryd.prog.underlying it=some (.int .i64):=by rw [← h5];exact Lk.t26
  obtain ⟨v,ws,rfl,ha1,ha2⟩:=ha.cons_inv
  rw [ha2.nil_inv,ha1.val]
  obtain ⟨r0,l',rfl,hr1,hr2⟩:=hr.cons_inv
  obtain ⟨r1,l'',rfl,hr3,hr4⟩:=hr2.cons_inv
  have:=hr4.nil_inv;subst this
  refine ⟨fOk,fun hi=>?_⟩
  unfold tD at h
  cases hc:(xs.all (fun p=>inI p.1)&&decide (xs.length≤1000000000000)) with
  | false=>rw [hc] at h;cases h
  | true =>
    rw [hc,ee] at h
    have hks:=(Option.some.inj h).symm
    rw [Bool.and_eq_true,List.all_eq_true,decide_eq_true_eq] at hc
    have hres:=hr
    cases hr1 with
    | b o1 hb1 =>
      cases hr3 with
      | mp hn hw hk =>
        obtain ⟨c0,cs0,rfl,hb2,hb3⟩:=hb1.cons_inv
        rw [hb3.nil_inv,hb2.val] at hi hres
        have hob:κ.w.heap[b]?=some (.cells #[.map (some mb)] mt (0,0)):=hi.own _ (List.mem_cons_self)
        have hom:κ.w.heap[mb]?=some (.map _ _):=hi.own _ (List.mem_cons_of_mem _ List.mem_cons_self)
        have hbl:b<κ.w.heap.size:=(hi.blk _ (List.mem_cons_self) b rfl).1
        have hcell:κ.w.cell? ⟨b,0,none⟩=some (.map (some mb)):=by simp [World.cell?,hob]
        obtain ⟨D0,hown,hperm,hsize⟩:=pD hit hc.1 hc.2 hw hk hom
        have hseq:=AnyZI.keys_gives (ρ:=ρk) { Lk with } Fence.wide 2 trivial rfl (by omega) b mb _ D0 κ.w hbl hcell (by rw [h5];exact hown)
        have cS:=AnyZI.sorted_in Ls Fence.wide 5 trivial trivial trivial trivial rfl (by omega) (sortsI Lo h4.symm _) (fun args w=>by rw [h4];exact dQ oOk args w) (ρk.f 10) #[.pointer (some ⟨b,0,none⟩)] trivial (fun args w=>dQ iOk args w) _ _ (by rw [hsize];unfold maxLen;omega) (by rw [hsize];omega) κ.w hseq
        refine (callsIn_wide.1 cS).mono fun e w' ⟨v,ss,g1,g2,g3,g4,g5⟩=>?_
        have hss:(ss.mergeSort fun x y=>decide (x≤y))=ks:=by rw [hks];exact jV (g2.trans hperm)
        have hsl:ss.length=ks.length:=by rw [← hss];exact (List.length_mergeSort _).symm
        rw [hss,hsl,h6] at g3
        have hkl:ks.length≤1000000000000:=by
          rw [hks,iE.length_eq,List.length_map];exact hc.2
        obtain ⟨a,c,hv,hrow,hblk⟩:∃ a c,v=.slice a ks.length c∧(Res.row a ks.length c it 1 (ks.map fun x=>[Value.int .i64 x])).holds w'∧∀ q,(Res.row a ks.length c it 1 (ks.map fun x=>[Value.int .i64 x])).blk=some q→κ.w.heap.size≤q∧q<w'.heap.size:=by
          rcases g3.2 with ⟨e1,e2⟩ | ⟨g,cap,cur,e1,e2,e3,e4,e5,e6,e7⟩
          · have:ks=[]:=List.eq_nil_of_length_eq_zero e2
            subst this
            exact ⟨none,0,e1,⟨rfl,rfl,rfl⟩,fun q hq=>by cases hq⟩
          refine ⟨some ⟨g,0,none⟩,cap,e1,⟨rfl,by simp,fun cs hcs=>by obtain ⟨x,_,rfl⟩:=List.mem_map.1 hcs;rfl,e4,e5,cur,e3,e6,?_⟩,fun q hq=>?_⟩
          · rw [e7,← List.flatMap_def];exact List.map_eq_flatMap
          injection hq with hq;subst hq
          exact ⟨e2,e9 e3⟩
        obtain ⟨i1,k1⟩:=hi.fresh g5 hrow hblk (fun hx=>by rw [hd] at hx;cases hx)
        subst g1 hv
        exact ⟨_,_,⟨w',κ.S⟩,rfl,rfl,i1,_,_,.v rfl,.cons (.row (by omega) (by intro cs hcs;obtain ⟨x,_,rfl⟩:=List.mem_map.1 hcs;exact fun u hu=>by rw [List.mem_singleton.1 hu];rfl) (qv ks)) (hres.mono k1),_,_,rfl,rfl⟩
end SX
end Go.Proofs.YthbphcbhedmnoaaDoor
namespace Go.Proofs
open Go.Shelf
def Tryd.lKeys_ren:Go.Shelf.Ren:=⟨fun | 7=>35 | 10=>50 | n=>n,fun | 23=>64 | 26=>3 | 3=>4 | 28=>68 | 0=>0 | 27=>67 | 33=>79 | 4=>4 | n=>n,fun | n=>n⟩
theorem Tryd.lKeys:Go.Proofs.SlLaysZI.n7 Tryd.prog Tryd.lKeys_ren:={
 mixed:=by kernel_rfl
 f7:=⟨Tryd.f35.name,by decide,Tryd.func35.trans (congrArg some (by kernel_rfl))⟩
 f10:=⟨Tryd.f50.name,by decide,Tryd.func50.trans (congrArg some (by kernel_rfl))⟩
 t0:=Tryd.underlying0
 a0:=Tryd.isAgg0
 z0:=Tryd.sizeOf0
 v0:=Tryd.zeroValue0
 t4:=Tryd.underlying4
 a4:=Tryd.isAgg4
 z4:=Tryd.sizeOf4
 v4:=Tryd.zeroValue4
 t23:=Tryd.underlying64
 a23:=Tryd.isAgg64
 z23:=Tryd.sizeOf64
 v23:=Tryd.zeroValue64
 t26:=Tryd.underlying3
 a26:=Tryd.isAgg3
 z26:=Tryd.sizeOf3
 v26:=Tryd.zeroValue3
 t27:=Tryd.underlying67
 a27:=Tryd.isAgg67
 z27:=Tryd.sizeOf67
 v27:=Tryd.zeroValue67
 t28:=Tryd.underlying68
 a28:=Tryd.isAgg68
 z28:=Tryd.sizeOf68
 v28:=Tryd.zeroValue68
 t33:=Tryd.underlying79
 a33:=Tryd.isAgg79
 z33:=Tryd.sizeOf79
 v33:=Tryd.zeroValue79 }
end Go.Proofs
namespace Go.Proofs
open Go.Shelf
def Tryd.lSorted_ren:Go.Shelf.Ren:=⟨fun | 6=>34 | 8=>48 | 9=>49 | 11=>62 | 13=>64 | 12=>63 | 23=>78 | 24=>79 | 14=>69 | 15=>70 | 16=>71 | 17=>72 | 18=>73 | 19=>74 | 20=>75 | 21=>76 | 22=>77 | 25=>83 | 26=>84 | 27=>85 | 28=>86 | 29=>87 | 30=>61 | 31=>92 | n=>n,fun | 26=>3 | 28=>68 | 24=>22 | 0=>0 | 3=>3 | 37=>30 | 48=>108 | 50=>110 | 4=>4 | 40=>101 | 39=>100 | 45=>62 | 5=>5 | 9=>9 | 51=>112 | 55=>116 | 57=>125 | 58=>126 | 33=>79 | n=>n,fun | n=>n⟩
theorem Tryd.lSorted:Go.Proofs.SlLaysZI.n6 Tryd.prog Tryd.lSorted_ren:={
 mixed:=by kernel_rfl
 f6:=⟨Tryd.f34.name,by decide,Tryd.func34.trans (congrArg some (by kernel_rfl))⟩
 f8:=⟨Tryd.f48.name,by decide,Tryd.func48.trans (congrArg some (by kernel_rfl))⟩
 f11:=⟨Tryd.f62.name,by decide,Tryd.func62.trans (congrArg some (by kernel_rfl))⟩
 t0:=Tryd.underlying0
 a0:=Tryd.isAgg0
 z0:=Tryd.sizeOf0
 v0:=Tryd.zeroValue0
 t24:=Tryd.underlying22
 a24:=Tryd.isAgg22
 z24:=Tryd.sizeOf22
 v24:=Tryd.zeroValue22
 t26:=Tryd.underlying3
 a26:=Tryd.isAgg3
 z26:=Tryd.sizeOf3
 v26:=Tryd.zeroValue3
 t28:=Tryd.underlying68
 a28:=Tryd.isAgg68
 z28:=Tryd.sizeOf68
 v28:=Tryd.zeroValue68
 i26:=by kernel_rfl }
end Go.Proofs
