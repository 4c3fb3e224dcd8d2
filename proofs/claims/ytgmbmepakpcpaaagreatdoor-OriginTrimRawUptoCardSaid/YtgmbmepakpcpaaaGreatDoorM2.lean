/- A part of the proof: texts of the walk and of the plain laws, merged. No condition. -/
import Derived.Test.YtgmbmepakpcpaaaGreatDoorM1
set_option linter.unusedVariables false
set_option linter.unusedSimpArgs false
set_option maxHeartbeats 4000000
set_option maxRecDepth 100000
namespace Go.Proofs.YtgmbmepakpcpaaaGreatDoor
namespace SX
open Go
def rC:TypeDesc→Bool
 | .interface _=>true
 | _=>false
section
variable {o:Oper} {σ:PEnv} {ρ:List PRes} {x:Operand} {t:Nat}
theorem sG {σ:Env} {ρ:List Res} {κ:Kr} {d:TypeDesc} (ho:o.op=.makeInterface t x) (hu:cP t=some d) (hn:rC d=false):OpQ true o σ ρ κ (.iface t (ev σ x)):=fun _ w _=>by
 have h:=run_underlying (w:=w) (bd hu)
 cases d <;> first | (cases hn;done) | simp [execOp,ho,Instr.makeInterface,h]
theorem sH {d:TypeDesc} (ho:o.op=.makeInterface t x) (hu:cP t=some d) (hn:rC d=false):POpQ true o σ ρ (.ifc t (ba σ x)):=fun κ σ' ρ' g hs hr=>⟨_,fun _=>.ifc (hs.ev x),sG ho hu hn⟩
def ta (T:Nat) (p:PV):Option PV:=match p with
 | .ifc t q=>cond (Nat.beq t T) (some (.tup [q,.v (.bool true)])) (match dG T with
  | some (.agg ⟨zs⟩,_,_)=>cond (zs.all Value.oneCell') (some (.tup [.agg (zs.map fun x=>cond (re x) (.v x) .any),.v (.bool false)])) none
  | _=>none)
 | _=>none
theorem oq_ta {σ:Env} {ρ:List Res} {κ:Kr} {xT T s:Nat} {v z:Value} {d:TypeDesc} {sz by':Nat} (ho:o.op=.typeAssert x xT T true) (hu:cP T=some d) (hn:rC d=false) (hz:dG T=some (z,sz,by')) (hx:ev σ x=.iface s v):OpQ true o σ ρ κ (if s=T then .tuple #[v,.bool true] else .tuple #[z,.bool false]):=fun _ w _=>by
 have h:=run_underlying (w:=w) (bd hu)
 have hzv:=cx hz w
 by_cases hst:s=T
 ·cases d <;> first | (cases hn;done) | simp [execOp,ho,hx,Instr.typeAssert,h,hst]
 cases d <;> first | (cases hn;done) | simp [execOp,ho,hx,Instr.typeAssert,h,hst,hzv]
theorem pq_ta {xT T:Nat} {d:TypeDesc} {p r:PV} (ho:o.op=.typeAssert x xT T true) (hu:cP T=some d) (hn:rC d=false) (hi:(dG T).isSome=true) (hx:ba σ x=p) (hr:ta T p=some r):POpQ true o σ ρ r:=fun κ σ' ρ' g hs hrr=>by
 obtain ⟨⟨z,sz,by'⟩,hz⟩:=Option.isSome_iff_exists.1 hi
 have h:=hs.ev x
 rw [hx] at h
 generalize he:ev σ' x=w at h
 cases h with
 | ifc h =>
  rename_i s q v
  have hq:=oq_ta (ρ:=ρ') (κ:=κ) ho hu hn hz he
  simp only [ta] at hr
  cases hb:Nat.beq s T
  ·have hne:s≠T:=fun e=>by rw [e] at hb;simp at hb
   rw [hb,hz] at hr
   simp only [i0] at hr
   rw [if_neg hne] at hq
   split at hr
   ·rename_i zs s1 b1 heq
    simp only [cu,Prod.mk.injEq] at heq
    obtain ⟨rfl,rfl,rfl⟩:=heq
    cases ho1:zs.all Value.oneCell'
    ·rw [ho1] at hr;cases hr
    rw [ho1] at hr;simp only [ga,cu] at hr;subst hr
    exact ⟨_,fun _=>.tup (ws:=[_,_]) (.cons (.agg (ds:=zs) (fun u hu=>List.all_eq_true.1 ho1 u hu) (gi zs)) (.cons (.v rfl) .nil)),hq⟩
   cases hr
  ·have hst:=Nat.eq_of_beq_eq_true hb
   rw [hb] at hr;simp only [ga,cu] at hr;subst hr
   rw [if_pos hst] at hq
   exact ⟨_,fun _=>.tup (ws:=[_,_]) (.cons h (.cons (.v rfl) .nil)),hq⟩
 | _=>simp only [ta] at hr;cases hr
end
structure MethOk (t:Nat) (name:String) (f:Nat):Prop where
 h:∀ (v:Value) (w:World),(method (Tryz.prog.types.size+Made.depth) t v name).run Tryz.prog w=.ok (f,v) w
theorem nU {o:Oper} {σ:Env} {ρ:List Res} {κ:Kr} {K:Value→List Res→Kr→Prop} {f t:Nat} {x:Operand} {name:String} {l:List Operand} {ts:Array Nat} {v:Value} {R:Value→Kr→Prop} (ho:o.op=.call { callee:=.invoke x name,args:=l.toArray,argTypes:=ts })
    (hx:ev σ x=.iface t v) (hm:MethOk t name f) (hc:CallP f (v::l.map (ev σ)) κ R) (h:∀ v κ',Kle κ κ'→R v κ'→K v ρ κ'):OpL o σ ρ κ K:=fun β hi Nx hk=>by
  have hi2:=hi.perm (List.Perm.refl ([]++ρ))
  have e1:(#[Value.iface t v]++(l.map (ev σ)).toArray)[0]?=some (.iface t v):=by simp
  have e2:(#[Value.iface t v]++(l.map (ev σ)).toArray).extract 1 (#[Value.iface t v]++(l.map (ev σ)).toArray).size=(l.map (ev σ)).toArray:=by simp;exact List.take_of_length_le (by simp)
  have e3:#[v]++(l.map (ev σ)).toArray=(v::l.map (ev σ)).toArray:=by simp
  have hp:(program).run Tryz.prog κ.w=.ok Tryz.prog κ.w:=rfl
  unfold execOp
  simp only [ho,resolve,Sem.run_bind,Sem.run_pure,Result.andThen_ok,invoke,List.map_toArray,hx,e1,e2,callMethod,hp,hm.h,e3,gZ hc.1,OutV]
  exact (hc.2 hi2.split).mono fun e w' ⟨v,ρ',κ',h1,h2,h3,h4⟩=>by
    subst h2
    obtain ⟨rfl,h4⟩:=h4
    exact ⟨v,h1,hk v ρ κ' (hi2.join h3) h3.le.kle (h v κ' h3.le.kle h4)⟩
def PFI (p:PV) (name:String) (pargs:List PV) (r:PV):Prop:=∃ t q f,p=.ifc t q∧MethOk t name f∧PF f (q::pargs) r
theorem nV {t f:Nat} {name:String} {q:PV} {pargs:List PV} {r:PV} (hm:MethOk t name f) (h:PF f (q::pargs) r):PFI (.ifc t q) name pargs r:=⟨t,q,f,rfl,hm,h⟩
theorem py {o:Oper} {σ:PEnv} {ρ:List PRes} {K:PV→List PRes→Prop} {x:Operand} {name:String} {l:List Operand} {ts:Array Nat} {pargs:List PV} {r:PV} (ho:o.op=.call { callee:=.invoke x name,args:=l.toArray,argTypes:=ts }) (ha:l.map (ba σ)=pargs) (hc:PFI (ba σ x) name pargs r) (h:K r ρ):POpL o σ ρ K:=fun κ σ' ρ' g hs hr=>by
 obtain ⟨t,q,f,e,hm,hf⟩:=hc
 have hx:=hs.ev x
 rw [e] at hx
 generalize he:ev σ' x=w at hx
 cases hx with
 | ifc hq=>exact nU ho he hm (hf κ _ g (.cons hq (by rw [← ha];exact gt hs l))) fun v κ' hk hv=>⟨r,ρ,hv,hr.mono hk,h⟩
abbrev pI (x:Int):PV:=.v (.int .i64 x)
abbrev pU (x:Int):PV:=.v (.int .u64 x)
abbrev pY (x:Int):PV:=.v (.int .u8 x)
abbrev pB (b:Bool):PV:=.v (.bool b)
abbrev pS (s:ByteArray):PV:=.v (.string s)
abbrev pP (b off:Nat):PV:=.v (.pointer (some ⟨b,off,none⟩))
abbrev pO (a:Option Addr) (n c:Nat):PV:=.v (.slice a n c)
abbrev pN:PV:=.v (.slice none 0 0)
abbrev pL {α:Type} (e:α→List PV) (xs:List α):PV:=.slc xs.length (List.map e xs)
def qM:IntKind→Nat
 | .i8=>0 | .i16=>1 | .i32=>2 | .i64=>3 | .u8=>4 | .u16=>5 | .u32=>6 | .u64=>7
theorem nc {a b:IntKind} (h:Nat.beq (qM a) (qM b)=true):a=b:=by cases a <;> cases b <;> first | rfl | cases h
def vW:Int→Bool
 | .ofNat (_+1)=>true
 | _=>false
def ge0l:Int→Bool
 | .ofNat _=>true
 | _=>false
theorem tw {b:Int} (h:vW b=true):b≠0:=by rintro rfl;cases h
theorem ge0l_ge {b:Int} (h:ge0l b=true):0≤b:=by cases b with | ofNat n=>exact Int.natCast_nonneg n | negSucc n=>cases h
def qcmp (op:BinOp) (a b:Int):Option Bool:=match op with | .eql=>some (a == b) | .neq=>some (a != b) | .lss=>some (decide (a<b)) | .leq=>some (decide (a≤b)) | .gtr=>some (decide (b<a)) | .geq=>some (decide (b≤a)) | _=>none
def qari (op:BinOp) (a b:Int):Option Int:=match op with | .add=>some (a+b) | .sub=>some (a - b) | .mul=>some (a*b) | _=>none
def qbit (op:BinOp) (k:IntKind) (a b:Int):Option Int:=match op with | .and=>some (fP k a b) | .or=>some (uT k a b) | .xor=>some (oO k a b) | _=>none
def qshf (op:BinOp) (k:IntKind) (a b:Int):Option Int:=match op with | .shl=>some (ft k a b) | .shr=>some (cS k a b) | _=>none
def qeqb (op:BinOp) (p q:Bool):Option Bool:=match op with | .eql=>some (p == q) | .neq=>some (p != q) | _=>none
def qstr (op:BinOp) (s u:ByteArray):Option Bool:=match op with | .eql=>some (decide (s=u)) | .neq=>some (!decide (s=u)) | .lss=>some (Op.bytesLess s.toList u.toList) | .leq=>some (Op.bytesLess s.toList u.toList||decide (s=u)) | .gtr=>some (!(Op.bytesLess s.toList u.toList||decide (s=u))) | .geq=>some (!Op.bytesLess s.toList u.toList) | _=>none
def qint (op:BinOp) (k k':IntKind) (a b:Int):Option PV :=
 match qshf op k a b with
 | some r=>cond (ge0l b) (some (.v (.int k r))) none
 | none=>cond (Nat.beq (qM k) (qM k'))
  (match qcmp op a b with
   | some r=>some (.v (.bool r))
   | none=>match qari op a b with
    | some r=>some (.v (.int k (k.wrap r)))
    | none=>match qbit op k a b with
     | some r=>some (.v (.int k r))
     | none=>match op with
      | .quo=>cond (vW b) (some (.v (.int k (k.wrap (a.tdiv b))))) none
      | .rem=>cond (vW b) (some (.v (.int k (a.tmod b)))) none
      | _=>none) none
def qbin (op:BinOp) (t:Nat) (p q:PV):Option PV:=match p,q with
 | .v (.int k a),.v (.int k' b)=>qint op k k' a b
 | .v (.bool p),.v (.bool q)=>(match cP t with | some .bool=>(qeqb op p q).map fun r=>.v (.bool r) | _=>none)
 | .v (.string s),.v (.string u)=>(qstr op s u).map fun r=>.v (.bool r)
 | _,_=>none
def qlen (t:Nat) (p:PV):Option PV:=match cP t,p with
 | some (.slice _),.slc m _=>some (.v (.int .i64 (m:Int)))
 | some (.slice _),.v (.slice _ m _)=>some (.v (.int .i64 (m:Int)))
 | some .string,.v (.string s)=>some (.v (.int .i64 (s.size:Int)))
 | _,_=>none
def qmm (mx:Bool) (p q:PV):Option PV:=match p,q with
 | .v (.int k a),.v (.int k' b)=>cond (Nat.beq (qM k) (qM k')) (some (.v (.int k (cond mx (oQ a b) (nL a b))))) none
 | _,_=>none
def rD (σ:PEnv) (fl:List (Nat×Nat)):List PV→List (Nat×Operand)→Option (List PV)
 | zs,[]=>some zs
 | zs,(i,x)::r=>match fl[i]? with
  | some (k,ty)=>match dG ty,fm (ba σ x) with
   | some (_,sz,_),some vs=>cond (Nat.beq vs.length sz&&Nat.ble (k+vs.length) zs.length) (rD σ fl (zs.take k++vs++zs.drop (k+vs.length)) r) none
   | _,_=>none
  | none=>none
theorem rE {σ:PEnv} {fl:List (Nat×Nat)}:∀ {parts:List (Nat×Operand)} {zs cs:List PV},rD σ fl zs parts=some cs→PFill σ fl zs parts cs
 | [],zs,cs,h=>by simp only [rD,cu] at h;exact h
 | (i,x)::r,zs,cs,h=>by
  simp only [rD] at h
  split at h
  ·rename_i k ty h1
   split at h
   ·rename_i z sz by' vs h2 h3
    cases hb:(Nat.beq vs.length sz&&Nat.ble (k+vs.length) zs.length)
    ·rw [hb] at h;cases h
    rw [hb] at h
    simp only [Bool.and_eq_true] at hb
    exact zfc h1 h2 h3 hb.1 ⟨rfl,Nat.le_of_ble_eq_true hb.2⟩ (rE h)
   cases h
  cases h
def qfa (s f:Nat) (p:PV):Option PV:=match lw s with
 | some l=>match l[f]? with
  | some (kk,ty)=>match dG ty with
   | some (_,sz,_)=>cond (Nat.blt 0 sz) (match p with
    | .v (.pointer (some ⟨b,off,none⟩))=>some (.v (.pointer (some ⟨b,off+kk,none⟩)))
    | .ref cs off=>some (.ref cs (off+kk))
    | _=>none) none
   | none=>none
  | none=>none
 | none=>none
def qfd (t f:Nat) (p:PV):Option PV:=match lw t with
 | some l=>match l[f]? with
  | some (kk,ty)=>match p with
   | .agg cs=>cond (Nat.ble kk cs.length) (fL ty (cs.drop kk)) none
   | _=>none
  | none=>none
 | none=>none
def qx (σ:PEnv) (ρ:List PRes) (at_:Nat):Op→Option (PV×Option (Nat×Nat))
 | .move x=>some (ba σ x,none)
 | .assign x=>some (ba σ x,none)
 | .binOp op t x y _=>(qbin op t (ba σ x) (ba σ y)).map fun p=>(p,none)
 | .unOp .not _ x=>(match ba σ x with | .v (.bool p)=>some (.v (.bool !p),none) | _=>none)
 | .unOp .neg _ x=>(match ba σ x with | .v (.int k a)=>some (.v (.int k (k.wrap (0 - a))),none) | _=>none)
 | .convert s d x=>(match cP s,cP d,ba σ x with | some _,some (.int k'),.v (.int _ a)=>some (.v (.int k' (k'.wrap a)),none) | _,_,_=>none)
 | .nilCheck x=>(match ba σ x with | .v (.pointer (some ad))=>some (.v (.pointer (some ad)),none) | .ref cs k=>some (.ref cs k,none) | .ifc t p=>some (.ifc t p,none) | _=>none)
 | .fieldAddr s x f=>(qfa s f (ba σ x)).map fun p=>(p,none)
 | .field t x f=>(qfd t f (ba σ x)).map fun p=>(p,none)
 | .extract x i=>(match ba σ x with | .tup vs=>(vs[i]?).map fun p=>(p,none) | _=>none)
 | .load t x=>(match ba σ x with
  | .ref cs off=>(fL t (cs.drop off)).map fun p=>(p,none)
  | .v (.pointer (some ⟨b,off,none⟩))=>(match ρ[at_]? with | some (.b b' _ cs)=>(fL t (cs.drop off)).map fun p=>(p,some (b,b')) | _=>none)
  | _=>none)
 | .call ⟨.builtin .len,⟨[x]⟩,⟨[t]⟩⟩=>(qlen t (ba σ x)).map fun p=>(p,none)
 | .call ⟨.builtin .min,⟨[x,y]⟩,_⟩=>(qmm false (ba σ x) (ba σ y)).map fun p=>(p,none)
 | .call ⟨.builtin .max,⟨[x,y]⟩,_⟩=>(qmm true (ba σ x) (ba σ y)).map fun p=>(p,none)
 | .makeFunc (.func f) ⟨[]⟩ ⟨l⟩=>some (.fn f (l.map (ba σ)),none)
 | .makeInterface t x=>(match cP t with | some d=>cond (rC d) none (some (.ifc t (ba σ x),none)) | none=>none)
 | .build t ⟨parts⟩=>(match dG t,lw t with
  | some (.agg ⟨zs⟩,_,_),some fl=>cond ((fl.all fun p=>(dG p.2).isSome)&&zs.all Value.oneCell') ((rD σ fl (zs.map fun x=>cond (re x) (.v x) .any) parts).map fun cs=>(.agg cs,none)) none
  | _,_=>none)
 | _=>none
section
variable {o:Oper} {σ:PEnv} {ρ:List PRes} {x y:Operand} {t t':Nat} {p:PV}
theorem map_none {a:Option PV} {p:PV} {e:Option (Nat×Nat)} (h:(a.map fun q=>(q,(none:Option (Nat×Nat))))=some (p,e)):a=some p:=by
 cases a with
 | none=>cases h
 | some q=>simp only [Option.map_some,cu,Prod.mk.injEq] at h;rw [h.1]
theorem qint_ok {op:BinOp} {k k':IntKind} {a b:Int} (ho:o.op=.binOp op t x y t') (hx:ba σ x=.v (.int k a)) (hy:ba σ y=.v (.int k' b)) (h:qint op k k' a b=some p):POpQ true o σ ρ p:=by
 unfold qint at h
 split at h
 ·rename_i r hr
  cases hb:ge0l b
  ·rw [hb] at h;cases h
  rw [hb] at h;simp only [ga,cu] at h;subst h
  exact nJ ho (.p hx) (.p hy) (fun _=>ge0l_ge hb) (by cases op <;> exact hr)
 cases hk:Nat.beq (qM k) (qM k')
 ·rw [hk] at h;cases h
 rw [hk] at h;simp only [ga] at h
 have:=nc hk;subst this
 split at h
 ·rename_i r hr;simp only [cu] at h;subst h;exact pq_cmp ho (.p hx) (.p hy) (by cases op <;> exact hr)
 split at h
 ·rename_i r hr;simp only [cu] at h;subst h;exact vL ho (.p hx) (.p hy) (by cases op <;> exact hr)
 split at h
 ·rename_i r hr;simp only [cu] at h;subst h;exact pq_bits ho (.p hx) (.p hy) (by cases op <;> exact hr)
 split at h
 ·cases hb:vW b
  ·rw [hb] at h;cases h
  rw [hb] at h;simp only [ga,cu] at h;subst h;exact vM ho (.p hx) (.p hy) fun _=>tw hb
 ·cases hb:vW b
  ·rw [hb] at h;cases h
  rw [hb] at h;simp only [ga,cu] at h;subst h;exact vN ho (.p hx) (.p hy) fun _=>tw hb
 cases h
theorem qbin_ok {op:BinOp} (ho:o.op=.binOp op t x y t') (h:qbin op t (ba σ x) (ba σ y)=some p):POpQ true o σ ρ p:=by
 unfold qbin at h
 split at h
 ·rename_i h1 h2;exact qint_ok ho h1 h2 h
 ·rename_i h1 h2
  split at h
  ·rename_i hu
   obtain ⟨r,hr,rfl⟩:=Option.map_eq_some_iff.1 h
   exact pq_eqB ho hu (.p h1) (.p h2) (by cases op <;> exact hr)
  cases h
 ·rename_i h1 h2
  obtain ⟨r,hr,rfl⟩:=Option.map_eq_some_iff.1 h
  exact pq_str ho (.p h1) (.p h2) (by cases op <;> exact hr)
 cases h
theorem qlen_ok (ho:o.op=.call { callee:=.builtin .len,args:=#[x],argTypes:=#[t] }) (h:qlen t (ba σ x)=some p):POpQ true o σ ρ p:=by
 unfold qlen at h
 split at h
 ·rename_i hu hx;simp only [cu] at h;subst h;exact pq_len ho hu (.p hx)
 ·rename_i hu hx;simp only [cu] at h;subst h;exact pq_lenO ho hu (.p hx)
 ·rename_i hu hx;simp only [cu] at h;subst h;exact pq_lenS ho hu (.p hx)
 cases h
theorem vX {mx:Bool} {ts:List Nat} (ho:o.op=.call { callee:=.builtin (cond mx .max .min),args:=#[x,y],argTypes:=ts.toArray }) (h:qmm mx (ba σ x) (ba σ y)=some p):POpQ true o σ ρ p:=by
 unfold qmm at h
 split at h
 ·rename_i k a k' b h1 h2
  cases hk:Nat.beq (qM k) (qM k')
  ·rw [hk] at h;cases h
  have:=nc hk;subst this
  rw [hk] at h
  simp only [ga,cu] at h;subst h
  cases mx
  ·exact pq_min ho (.p h1) (.p h2)
  exact pq_max ho (.p h1) (.p h2)
 cases h
theorem qfa_ok {s f:Nat} (ho:o.op=.fieldAddr s x f) (h:qfa s f (ba σ x)=some p):POpQ true o σ ρ p:=by
 unfold qfa at h
 split at h
 ·rename_i l h1
  split at h
  ·rename_i kk ty h2
   split at h
   ·rename_i z sz by' h3
    cases h4:Nat.blt 0 sz
    ·rw [h4] at h;cases h
    rw [h4] at h;simp only [ga] at h
    split at h
    ·rename_i hx;simp only [cu] at h;subst h;exact fQ ho h1 h2 h3 h4 (.p hx)
    ·rename_i hx;simp only [cu] at h;subst h;exact oP ho h1 h2 h3 h4 (.p hx)
    cases h
   cases h
  cases h
 cases h
theorem qfd_ok {f:Nat} (ho:o.op=.field t x f) (h:qfd t f (ba σ x)=some p):POpQ true o σ ρ p:=by
 unfold qfd at h
 split at h
 ·rename_i l h1
  split at h
  ·rename_i kk ty h2
   split at h
   ·rename_i cs hx
    cases h4:Nat.ble kk cs.length
    ·rw [h4] at h;cases h
    rw [h4] at h;exact vO ho h1 h2 (.p hx) h4 h
   cases h
  cases h
 cases h
theorem qv {c:Bool} {tt:Nat} {pp:PV} (ho:o.op=.nilCheck x) (hx:PEv σ c x (.ifc tt pp)):POpQ c o σ ρ (.ifc tt pp):=fun κ σ' ρ' g hs _=>by
 refine ⟨ev σ' x,hs.pe hx,fun hc w _=>?_⟩
 have h:=hs.pe hx hc
 generalize he:ev σ' x=y at h
 cases h with
 | ifc h=>simp [execOp,ho,he]
theorem qx_ok {k:Nat} {e:Option (Nat×Nat)} (h:qx σ ρ k o.op=some (p,e)) (he:∀ b b',e=some (b,b')→b=b'):POpQ true o σ ρ p:=by
 generalize ho:o.op=op at h
 unfold qx at h
 split at h
 ·simp only [cu,Prod.mk.injEq] at h;obtain ⟨rfl,_⟩:=h;exact fO ho (.p rfl)
 ·simp only [cu,Prod.mk.injEq] at h;obtain ⟨rfl,_⟩:=h;exact bi ho (.p rfl)
 ·exact qbin_ok ho (map_none h)
 ·split at h
  ·rename_i hx;simp only [cu,Prod.mk.injEq] at h;obtain ⟨rfl,_⟩:=h;exact pq_not ho (.p hx)
  cases h
 ·split at h
  ·rename_i hx;simp only [cu,Prod.mk.injEq] at h;obtain ⟨rfl,_⟩:=h;exact pq_neg ho (.p hx)
  cases h
 ·split at h
  ·rename_i h1 h2 hx;simp only [cu,Prod.mk.injEq] at h;obtain ⟨rfl,_⟩:=h;exact pq_conv ho h1 h2 (.p hx)
  cases h
 ·split at h
  ·rename_i hx;simp only [cu,Prod.mk.injEq] at h;obtain ⟨rfl,_⟩:=h;exact rq ho (.p hx)
  ·rename_i hx;simp only [cu,Prod.mk.injEq] at h;obtain ⟨rfl,_⟩:=h;exact qr ho (.p hx)
  ·rename_i hx;simp only [cu,Prod.mk.injEq] at h;obtain ⟨rfl,_⟩:=h;exact qv ho (.p hx)
  cases h
 ·exact qfa_ok ho (map_none h)
 ·exact qfd_ok ho (map_none h)
 ·split at h
  ·rename_i hx;exact nK ho (.p hx) (map_none h)
  cases h
 ·split at h
  ·rename_i hx;exact un ho (.p hx) (map_none h)
  ·rename_i b off hx
   split at h
   ·rename_i b' T cs hr
    obtain ⟨q,hq,h2⟩:=Option.map_eq_some_iff.1 h
    simp only [Prod.mk.injEq] at h2
    obtain ⟨rfl,rfl⟩:=h2
    have:=he b b' rfl;subst this
    exact kN ho (.p hx) (List.mem_of_getElem? hr) hq
   cases h
  cases h
 ·exact qlen_ok ho (map_none h)
 ·exact vX (mx:=false) (ts:=_) ho (map_none h)
 ·exact vX (mx:=true) (ts:=_) ho (map_none h)
 ·simp only [cu,Prod.mk.injEq] at h;obtain ⟨rfl,_⟩:=h;exact ru ho
 ·split at h
  ·rename_i d hu
   cases hn:rC d
   ·rw [hn] at h;simp only [i0,cu,Prod.mk.injEq] at h;obtain ⟨rfl,_⟩:=h;exact sH ho hu hn
   rw [hn] at h;cases h
  cases h
 ·split at h
  ·rename_i zs sz by' fl h1 h2
   cases hc:((fl.all fun p=>(dG p.2).isSome)&&zs.all Value.oneCell')
   ·rw [hc] at h;cases h
   rw [hc] at h
   simp only [ga] at h
   obtain ⟨q,hq,h3⟩:=Option.map_eq_some_iff.1 h
   simp only [Prod.mk.injEq] at h3
   obtain ⟨rfl,_⟩:=h3
   simp only [Bool.and_eq_true] at hc
   exact vP rfl ho h1 h2 hc.1 rfl hc.2 (rE hq)
  cases h
 cases h
end
structure GE where
 gs:List Bool
 p:PV
def gl (t:Nat):List (Nat×GE)→Option GE
 | []=>none
 | (d,e)::l=>cond (Nat.beq t d) (some e) (gl t l)
def vY (t:Nat):List (Nat×GE)→List (Nat×GE)
 | []=>[]
 | (d,e)::l=>cond (Nat.beq t d) (vY t l) ((d,e)::vY t l)
def vZ (d:Nat):List Nat→Bool
 | []=>false
 | k::l=>cond (Nat.beq d k) true (vZ d l)
theorem nf {d:Nat}:∀ {l:List Nat},vZ d l=true↔d∈l
 | []=>by simp [vZ]
 | k::l=>by
  unfold vZ
  cases h:Nat.beq d k
  ·have:d≠k:=fun e=>by rw [e] at h;simp at h
   simp [nf (l:=l),this]
  simp [Nat.eq_of_beq_eq_true h]
def dQ:List Operand→List Nat
 | []=>[]
 | .tmp t::l=>t::dQ l
 | _::l=>dQ l
def kb (σ:PEnv) (G:List (Nat×GE)) (ts:List Nat) (gs:List Bool):PEnv:=fun t=>match gl t G with
 | none=>σ t
 | some e=>cond (vZ t ts&&Nat.ble e.gs.length gs.length) e.p .any
def hC (G:List (Nat×GE)) (gs:List Bool):List Nat→List (Bool×Bool)
 | []=>[]
 | t::ts=>match gl t G with
  | none=>hC G gs ts
  | some e=>(e.gs.headD true,(gs.drop (gs.length - e.gs.length)).headD true)::hC G gs ts
def qw (ops:Array Oper) (σ:PEnv) (G:List (Nat×GE)):Option (Nat×Bool)→Option (List Bool)
 | none=>some []
 | some (j,pol)=>match (ops[j]?).bind (·.dst) with
  | none=>none
  | some d=>match gl d G with
   | none=>match σ d with | .v (.bool p)=>some [cond pol p (!p)] | _=>none
   | some e=>match e.p with | .v (.bool p)=>some ((e.gs.headD true&&cond pol p (!p))::e.gs) | _=>none
def StackOk (gs:List Bool):Prop:=gs.headD true=true→∀ b∈gs,b=true
def GInv (σ:PEnv) (G:List (Nat×GE)):Prop:=∀ t e,gl t G=some e→σ t=pgv (e.gs.headD true) e.p∧StackOk e.gs∧e.gs≠[]
def AllEq (l:List (Bool×Bool)):Prop:=l.map (·.1)=l.map (·.2)
theorem AllEq.nil:AllEq []:=rfl
theorem AllEq.cons {a b:Bool} {l:List (Bool×Bool)} (h:AllEq ((a,b)::l)):a=b∧AllEq l:=by
 unfold AllEq at h;simp only [List.map_cons,List.cons.injEq] at h;exact h
theorem AllEq.app {l m:List (Bool×Bool)} (h:AllEq (l++m)):AllEq l∧AllEq m:=by
 unfold AllEq at h;simp only [List.map_append] at h
 exact List.append_inj h (by simp)
theorem lD {G:List (Nat×GE)} {gs:List Bool} {t:Nat} {e:GE}:∀ {ts:List Nat},t∈ts→gl t G=some e→AllEq (hC G gs ts)→e.gs.headD true=(gs.drop (gs.length - e.gs.length)).headD true
 | u::ts,hm,hg,ha=>by
  simp only [hC] at ha
  rcases List.mem_cons.1 hm with rfl | hm
  ·rw [hg] at ha;exact ha.cons.1
  split at ha
  ·exact lD hm hg ha
  exact lD hm hg ha.cons.2
theorem nW {gs:List Bool} (h:StackOk gs) (hc:gs.headD true=true) (k:Nat):(gs.drop k).headD true=true:=by
 rw [List.headD_eq_head?_getD,List.head?_drop]
 cases e:gs[k]? with
 | none=>rfl
 | some b=>exact h hc b (List.mem_of_getElem? e)
theorem lE {κ:Kr} {σ:PEnv} {σ':Env} {G:List (Nat×GE)} {ts:List Nat} {gs:List Bool} (hs:Sim κ σ σ') (hi:GInv σ G) (ha:AllEq (hC G gs ts)) (hk:StackOk gs) (hc:gs.headD true=true):Sim κ (kb σ G ts gs) σ':=fun t=>by
 unfold kb
 cases hg:gl t G with
 | none=>exact hs t
 | some e =>
  simp only
  cases hb:(vZ t ts&&Nat.ble e.gs.length gs.length)
  ·exact .any
  simp only [Bool.and_eq_true,nf] at hb
  have h1:=lD hb.1 hg ha
  rw [nW hk hc] at h1
  have h2:=(hi t e hg).1
  rw [h1,jb] at h2
  have:=hs t
  rw [h2] at this
  exact this
theorem lX {o:Oper} {σ:PEnv} {ρ:List PRes} {G:List (Nat×GE)} {ts:List Nat} {gs:List Bool} {p:PV} (h:gs.headD true=true→POpQ true o (kb σ G ts gs) ρ p) (hi:GInv σ G) (ha:AllEq (hC G gs ts)) (hk:StackOk gs):POpQ (gs.headD true) o σ ρ p:=fun κ σ' ρ' g hs hr=>by
 cases hc:gs.headD true with
 | false=>exact tn
 | true=>exact h hc κ σ' ρ' g (lE hs hi ha hk hc) hr
theorem ux {ops:Array Oper} {σ:PEnv} {G:List (Nat×GE)} {o:Oper} {gs:List Bool} (hi:GInv σ G) (h:qw ops σ G o.guard=some gs):PGuardIs ops σ o (gs.headD true)∧StackOk gs:=by
 cases hg:o.guard with
 | none =>
  rw [hg] at h;simp only [qw,cu] at h;subst h
  exact ⟨fun κ σ' _=>sm hg,fun _ b hb=>by cases hb⟩
 | some jp =>
  obtain ⟨j,pol⟩:=jp
  rw [hg] at h;simp only [qw] at h
  split at h
  ·cases h
  rename_i d hd
  split at h
  ·split at h
   ·rename_i p hp
    simp only [cu] at h;subst h
    refine ⟨?_,fun hc b hb=>by rw [List.mem_singleton.1 hb];exact hc⟩
    cases pol
    ·exact vE hg hd hp
    exact vD hg hd hp
   cases h
  rename_i e hgl
  split at h
  ·rename_i p hp
   simp only [cu] at h;subst h
   obtain ⟨h1,h2,h3⟩:=hi d e hgl
   rw [hp] at h1
   refine ⟨?_,fun hc b hb=>?_⟩
   ·cases pol
    ·exact uj hg hd h1
    exact ui hg hd h1
   simp only [List.headD_cons,Bool.and_eq_true] at hc
   rcases List.mem_cons.1 hb with rfl | hb
   ·simp only [hc,Bool.and_self]
   exact h2 hc.1 b hb
  cases h
def tz (σ:PEnv) (G:List (Nat×GE)) (want:Bool):Operand→Option (PV×List (Bool×Bool))
 | .tmp t=>match gl t G with
  | some e=>some (e.p,[(e.gs.headD true,want)])
  | none=>some (σ t,[])
 | x=>some (ba σ x,[])
theorem rF {σ:PEnv} {G:List (Nat×GE)} {want:Bool} {x:Operand} {p:PV} {l:List (Bool×Bool)} (hi:GInv σ G) (h:tz σ G want x=some (p,l)) (ha:AllEq l):PEv σ want x p:=by
 unfold tz at h
 split at h
 ·rename_i t
  split at h
  ·rename_i e hg
   simp only [cu,Prod.mk.injEq] at h;obtain ⟨rfl,rfl⟩:=h
   have h1:=ha.cons.1
   have h2:=(hi t e hg).1
   rw [h1] at h2
   exact .g h2
  simp only [cu,Prod.mk.injEq] at h;obtain ⟨rfl,rfl⟩:=h;exact .p rfl
 simp only [cu,Prod.mk.injEq] at h;obtain ⟨rfl,rfl⟩:=h;exact .p rfl
def nX:PV→Option Bool
 | .v (.bool p)=>some p
 | _=>none
theorem lY {p:PV} {b:Bool} (h:nX p=some b):p=.v (.bool b):=by
 unfold nX at h;split at h
 ·simp only [cu] at h;rw [h]
 cases h
def qy:Operand→Bool
 | .const (.bool true)=>true
 | _=>false
def ng:Operand→Bool
 | .const (.bool false)=>true
 | _=>false
theorem uy {x:Operand} {σ:PEnv} (h:qy x=true):ba σ x=.v (.bool true):=by
 unfold qy at h;split at h
 ·rfl
 cases h
theorem sI {x:Operand} {σ:PEnv} (h:ng x=true):ba σ x=.v (.bool false):=by
 unfold ng at h;split at h
 ·rfl
 cases h
def wa (σ:PEnv) (G:List (Nat×GE)) (gs:List Bool) (cc a b:Operand):Option (PV×List (Bool×Bool)) :=
 match nX (ba (kb σ G (dQ [cc]) gs) cc) with
 | none=>none
 | some p=>cond (qy a)
  (match tz σ G (gs.headD true && !p) b with
   | some (q,l)=>match nX q with
    | some q=>some (.v (.bool (p||q)),hC G gs (dQ [cc])++l)
    | none=>none
   | none=>none)
  (cond (ng b)
   (match tz σ G (gs.headD true&&p) a with
    | some (q,l)=>match nX q with
     | some q=>some (.v (.bool (p&&q)),hC G gs (dQ [cc])++l)
     | none=>none
    | none=>none) none)
theorem tA {σ:PEnv} {G:List (Nat×GE)} {gs:List Bool} {x:Operand} {p:PV} (hi:GInv σ G) (hk:StackOk gs) (ha:AllEq (hC G gs (dQ [x]))) (h:ba (kb σ G (dQ [x]) gs) x=p) (hn:p≠.any):PEv σ (gs.headD true) x p:=fun hc=>by
 cases x with
 | tmp t =>
  simp only [ba,dQ] at h ⊢
  unfold kb at h
  cases hg:gl t G with
  | none=>rw [hg] at h;exact h
  | some e =>
   rw [hg] at h
   simp only at h
   cases hb:(vZ t [t]&&Nat.ble e.gs.length gs.length)
   ·rw [hb] at h;exact absurd h.symm hn
   ·rw [hb] at h;simp only [ga] at h
    have h1:=lD (t:=t) (ts:=[t]) (by simp) hg ha
    rw [nW hk hc] at h1
    have h2:=(hi t e hg).1
    rw [h1,jb] at h2
    rw [h2,h]
 | const x=>exact h
 | global g=>exact h
 | func f=>exact h
theorem wb {o:Oper} {σ:PEnv} {ρ:List PRes} {G:List (Nat×GE)} {gs:List Bool} {cc a b:Operand} {p:PV} {l:List (Bool×Bool)} (ho:o.op=.pick cc a b) (hi:GInv σ G) (hk:StackOk gs) (h:wa σ G gs cc a b=some (p,l)) (ha:AllEq l):POpQ (gs.headD true) o σ ρ p:=by
 unfold wa at h
 split at h
 ·cases h
 rename_i c hc
 have hc:=lY hc
 cases h1:qy a
 ·rw [h1] at h;simp only [i0] at h
  cases h2:ng b
  ·rw [h2] at h;cases h
  rw [h2] at h;simp only [ga] at h
  split at h
  ·rename_i q m hl
   split at h
   ·rename_i q' hq
    simp only [cu,Prod.mk.injEq] at h;obtain ⟨rfl,rfl⟩:=h
    have hl':=rF hi hl ha.app.2
    rw [lY hq] at hl'
    exact pq_and ho (tA hi hk ha.app.1 hc (by simp)) (.p (sI h2)) hl'
   cases h
  cases h
 rw [h1] at h;simp only [ga] at h
 split at h
 ·rename_i q m hl
  split at h
  ·rename_i q' hq
   simp only [cu,Prod.mk.injEq] at h;obtain ⟨rfl,rfl⟩:=h
   have hl':=rF hi hl ha.app.2
   rw [lY hq] at hl'
   exact pq_or ho (tA hi hk ha.app.1 hc (by simp)) (.p (uy h1)) hl'
  cases h
 cases h
inductive Fct where
 | ix (c:Bool) (css:List (List PV)) (i:Int) (cs:List PV)
 | sx (c:Bool) (s:ByteArray) (i:Int) (u:UInt8)
 | nz (c:Bool) (b:Int)
 | ge (c:Bool) (b:Int)
 | sl (c:Bool) (css:List (List PV)) (lo hi:Int) (zss:List (List PV)) (m sz:Nat)
 | ss (c:Bool) (s:ByteArray) (lo hi:Int) (z:ByteArray)
 | ct (c:Bool) (s u z:ByteArray)
 | eq (t:Nat) (ks:List Nat)
 | cl (c:Bool) (f:Nat) (pargs:List PV) (r:PV)
 | cv (c:Bool) (pf:PV) (pargs:List PV) (r:PV)
 | ci (c:Bool) (p:PV) (name:String) (pargs:List PV) (r:PV)
 | ta (T:Nat) (p r:PV)
structure EqOk (t:Nat) (ks:List Nat):Prop where
 h1:Tryz.prog.underlying t=some (.struct (Tryz.prog.fieldsOf t))
 h2:Tryz.prog.stoodInHeld t=false
 h3:Tryz.prog.eqGuardType Tryz.prog.depth t=false
 h4:flatK (Tryz.prog.fieldsOf t).toList 0 ks=true
def Fct.ok:Fct→Prop
 | .ix c css i cs=>c=true→idx css i=some cs
 | .sx c s i u=>c=true→idx s.data.toList i=some u
 | .nz c b=>c=true→b≠0
 | .ge c b=>c=true→0≤b
 | .sl c css lo hi zss m sz=>(c=true→sub css lo hi=some zss)∧m=zss.length∧∀ cs∈css,cs.length=sz
 | .ss c s lo hi z=>c=true→ka s lo hi=some z
 | .ct c s u z=>c=true→uU s u=some z
 | .eq t ks=>EqOk t ks
 | .cl c f pargs r=>c=true→PF f pargs r
 | .cv c pf pargs r=>c=true→PFV pf pargs r
 | .ci c p name pargs r=>c=true→PFI p name pargs r
 | .ta T p r=>SX.ta T p=some r
def FOk:List (Nat×Fct)→Prop
 | []=>True
 | f::l=>f.2.ok∧FOk l
theorem bo:FOk []:=trivial
section
variable {F:List (Nat×Fct)} {c:Bool} {α:Type} {xs zs:List α} {i lo hi b:Int} {m:α}
theorem gX (k:Nat) (e:α→List PV) (hm:c=true→idx xs i=some m) (h:FOk F):FOk ((k,.ix c (List.map e xs) i (e m))::F):=⟨fun hc=>by
 obtain ⟨h0,hmm⟩:=ig (hm hc)
 unfold idx;rw [if_pos h0,List.getElem?_map,hmm];rfl,h⟩
theorem cn (k:Nat) (e:α→List PV) (hm:idx xs i=some m) (h:FOk F):FOk ((k,.ix true (List.map e xs) i (e m))::F):=gX k e (fun _=>hm) h
theorem pz (k:Nat) (e:α→List PV) {cs:List PV} (he:e m=cs) (hm:idx xs i=some m) (h:FOk F):FOk ((k,.ix true (List.map e xs) i cs)::F):=by subst he;exact cn k e hm h
theorem fosxg (k:Nat) {s:ByteArray} {u:UInt8} (hm:c=true→idx s.data.toList i=some u) (h:FOk F):FOk ((k,.sx c s i u)::F):=⟨hm,h⟩
theorem fosx (k:Nat) {s:ByteArray} {u:UInt8} (hm:idx s.data.toList i=some u) (h:FOk F):FOk ((k,.sx true s i u)::F):=⟨fun _=>hm,h⟩
theorem uz (k:Nat) {u:Unit} (hm:SX.nz b=some u) (h:FOk F):FOk ((k,.nz true b)::F):=⟨fun _=>nz_some hm,h⟩
theorem wc (k:Nat) {u:Unit} (hm:nO b=some u) (h:FOk F):FOk ((k,.ge true b)::F):=⟨fun _=>gx hm,h⟩
theorem foslg (k:Nat) (e:α→List PV) (sz:Nat) (hw:∀ m,(e m).length=sz) (hm:c=true→sub xs lo hi=some zs) (h:FOk F):FOk ((k,.sl c (List.map e xs) lo hi (List.map e zs) zs.length sz)::F):=⟨⟨fun hc=>by
 obtain ⟨h1,rfl⟩:=dP (hm hc)
 unfold sub;rw [if_pos (by rw [List.length_map];exact h1),List.map_drop,List.map_take],by rw [List.length_map],fun cs hcs=>by obtain ⟨x,_,rfl⟩:=List.mem_map.1 hcs;exact hw x⟩,h⟩
theorem fosl (k:Nat) (e:α→List PV) (sz:Nat) (hw:∀ m,(e m).length=sz) (hm:sub xs lo hi=some zs) (h:FOk F):FOk ((k,.sl true (List.map e xs) lo hi (List.map e zs) zs.length sz)::F):=foslg k e sz hw (fun _=>hm) h
theorem fossg (k:Nat) {s z:ByteArray} (hm:c=true→ka s lo hi=some z) (h:FOk F):FOk ((k,.ss c s lo hi z)::F):=⟨hm,h⟩
theorem foss (k:Nat) {s z:ByteArray} (hm:ka s lo hi=some z) (h:FOk F):FOk ((k,.ss true s lo hi z)::F):=⟨fun _=>hm,h⟩
theorem rG (k:Nat) {t:Nat} {ks:List Nat} (hm:EqOk t ks) (h:FOk F):FOk ((k,.eq t ks)::F):=⟨hm,h⟩
theorem bA (k:Nat) {f:Nat} {pargs:List PV} {r:PV} (hm:PF f pargs r) (h:FOk F):FOk ((k,.cl true f pargs r)::F):=⟨fun _=>hm,h⟩
theorem dR (k:Nat) {f:Nat} {pargs:List PV} {r:PV} (hm:c=true→PF f pargs r) (h:FOk F):FOk ((k,.cl c f pargs r)::F):=⟨hm,h⟩
theorem foci (k:Nat) {p:PV} {name:String} {pargs:List PV} {r:PV} (hm:PFI p name pargs r) (h:FOk F):FOk ((k,.ci true p name pargs r)::F):=⟨fun _=>hm,h⟩
theorem fota (k:Nat) {T:Nat} {p r:PV} (hm:SX.ta T p=some r) (h:FOk F):FOk ((k,.ta T p r)::F):=⟨hm,h⟩
theorem sJ (k:Nat) {pf:PV} {pargs:List PV} {r:PV} (hm:PFV pf pargs r) (h:FOk F):FOk ((k,.cv true pf pargs r)::F):=⟨fun _=>hm,h⟩
theorem focvg (k:Nat) {pf:PV} {pargs:List PV} {r:PV} (hm:c=true→PFV pf pargs r) (h:FOk F):FOk ((k,.cv c pf pargs r)::F):=⟨hm,h⟩
end
inductive Eqn where
 | n (a:Nat)
 | b (a:Bool)
 | i (a:Int)
 | p (a:PV)
 | l (a:List PV)
 | q (a:List (List PV))
 | s (a:ByteArray)
 | m (a:String)
abbrev StepR:=PV×List Eqn×List Eqn
def sK (σ:PEnv) (c:Bool) (t:Nat) (p:PV) (lo hi:Option Operand):Fct→Option StepR
 | .sl c' css l h zss m sz=>(match cP t,p with
  | some (.slice E),.slc mm css'=>(match dG E with
   | some (_,sz',_)=>(match lo,hi with
    | none,some y=>(match ba σ y with | .v (.int _ b)=>some (.slc m zss,[.b c',.q css,.i l,.i h,.n sz],[.b c,.q css',.i 0,.i b,.n sz']) | _=>none)
    | some x,none=>(match ba σ x with | .v (.int _ a)=>some (.slc m zss,[.b c',.q css,.i l,.i h,.n sz],[.b c,.q css',.i a,.i (mm:Int),.n sz']) | _=>none)
    | _,_=>none)
   | none=>none)
  | _,_=>none)
 | .ss c' s l h z=>(match cP t,p with
  | some .string,.v (.string s')=>(match lo,hi with
   | none,some y=>(match ba σ y with | .v (.int _ b)=>some (.v (.string z),[.b c',.s s,.i l,.i h],[.b c,.s s',.i 0,.i b]) | _=>none)
   | some x,none=>(match ba σ x with | .v (.int _ a)=>some (.v (.string z),[.b c',.s s,.i l,.i h],[.b c,.s s',.i a,.i (s'.size:Int)]) | _=>none)
   | some x,some y=>(match ba σ x,ba σ y with | .v (.int _ a),.v (.int _ b)=>some (.v (.string z),[.b c',.s s,.i l,.i h],[.b c,.s s',.i a,.i b]) | _,_=>none)
   | none,none=>none)
  | _,_=>none)
 | _=>none
def wd (σ:PEnv) (c:Bool):Op→Fct→Option StepR
 | .indexAddr t x y,.ix c' css i cs=>(match cP t,ba σ x,ba σ y with
  | some (.slice E),.slc _ css',.v (.int _ i')=>(match dG E with | some (_,sz,_)=>some (.ref cs 0,[.b c',.q css,.i i,.n cs.length],[.b c,.q css',.i i',.n sz]) | none=>none)
  | _,_,_=>none)
 | .index t x y,.sx c' s i u=>(match cP t,ba σ x,ba σ y with
  | some .string,.v (.string s'),.v (.int _ i')=>some (.v (.int .u8 (u.toNat:Int)),[.b c',.s s,.i i],[.b c,.s s',.i i'])
  | _,_,_=>none)
 | .binOp .quo _ x y _,.nz c' b=>(match ba σ x,ba σ y with
  | .v (.int k a),.v (.int k' b')=>cond (Nat.beq (qM k) (qM k')) (some (.v (.int k (k.wrap (a.tdiv b))),[.b c',.i b],[.b c,.i b'])) none
  | _,_=>none)
 | .binOp .rem _ x y _,.nz c' b=>(match ba σ x,ba σ y with
  | .v (.int k a),.v (.int k' b')=>cond (Nat.beq (qM k) (qM k')) (some (.v (.int k (a.tmod b)),[.b c',.i b],[.b c,.i b'])) none
  | _,_=>none)
 | .binOp .shl _ x y _,.ge c' b=>(match ba σ x,ba σ y with
  | .v (.int k a),.v (.int _ b')=>some (.v (.int k (ft k a b)),[.b c',.i b],[.b c,.i b'])
  | _,_=>none)
 | .binOp .shr _ x y _,.ge c' b=>(match ba σ x,ba σ y with
  | .v (.int k a),.v (.int _ b')=>some (.v (.int k (cS k a b)),[.b c',.i b],[.b c,.i b'])
  | _,_=>none)
 | .binOp .add _ x y _,.ct c' s u z=>(match ba σ x,ba σ y with
  | .v (.string s'),.v (.string u')=>some (.v (.string z),[.b c',.s s,.s u],[.b c,.s s',.s u'])
  | _,_=>none)
 | .binOp .eql t x y _,.eq t' ks=>(match ba σ x,ba σ y with
  | .agg cs,.agg ds=>(match vS cs,vS ds with
   | some xs,some ys=>(match rz ks xs ys with | some r=>some (.v (.bool r),[.n t'],[.n t]) | none=>none)
   | _,_=>none)
  | _,_=>none)
 | .binOp .neq t x y _,.eq t' ks=>(match ba σ x,ba σ y with
  | .agg cs,.agg ds=>(match vS cs,vS ds with
   | some xs,some ys=>(match rz ks xs ys with | some r=>some (.v (.bool !r),[.n t'],[.n t]) | none=>none)
   | _,_=>none)
  | _,_=>none)
 | .slice t x lo hi none,f=>sK σ c t (ba σ x) lo hi f
 | .typeAssert x _ T true,.ta T' p r=>(match cP T with
  | some d=>cond (!rC d&&(dG T).isSome) (some (r,[.n T',.p p],[.n T,.p (ba σ x)])) none
  | none=>none)
 | _,_=>none
section
variable {o:Oper} {σ:PEnv} {ρ:List PRes} {x y:Operand} {t:Nat} {k:IntKind} {a b:Int} {css zss:List (List PV)}
theorem uA {E sz by' mm:Nat} {z:Value} {cs:List PV} (ho:o.op=.indexAddr t x y) (hu:cP t=some (.slice E)) (hi:dG E=some (z,sz,by')) (hw:cs.length=sz) (hx:ba σ x=.slc mm css) (hy:ba σ y=.v (.int k a)) (hm:idx css a=some cs):POpQ true o σ ρ (.ref cs 0):=fun κ σ' ρ' g hs hrr=>by
 obtain ⟨h0,hcs⟩:=ig hm
 have h:=hs.ev x
 rw [hx] at h
 generalize he:ev σ' x=w at h
 cases h with
 | slc hsl hb h1 hss =>
  rename_i ad cp sz' dss
  obtain ⟨ds,hd,hds⟩:=hss.get hcs
  have hlt:a.toNat<mm:=by rw [← hsl.len];exact (List.getElem?_eq_some_iff.1 hd).1
  obtain ⟨bb,off,ha,hsh⟩:=hsl.at_ (by omega)
  have hwid:sz'=sz:=by
   have e1:=hsl.wid ds (List.mem_of_getElem? hd)
   have e2:=hds.len
   omega
  subst hwid
  have h2:=nq (c:=true) (ρ:=ρ') (κ:=κ) (j:=a.toNat) ho hu hi (.p (by rw [he,ha])) (.p (hs.v1 hy)) (fun _=>by omega) (fun _=>hlt)
  exact ⟨_,fun _=>by have:=Rp.ref (k:=0) (hsh _ _ hd) (h1 ds (List.mem_of_getElem? hd)) hds;rwa [Nat.add_zero] at this,h2⟩
theorem rH {κ:Kr} {sz:Nat}:∀ {css:List (List PV)} {dss:List (List Value)},(∀ cs∈css,cs.length=sz)→Rpss κ css dss→∀ ds∈dss,ds.length=sz
 | _,_,_,.nil,ds,hd=>by cases hd
 | _,_,hw,.cons h hs,ds,hd=>by
  rcases List.mem_cons.1 hd with rfl | hd
  ·rw [← h.len];exact hw _ (by simp)
  exact rH (fun c hc=>hw c (by simp [hc])) hs ds hd
theorem sL {E sz by' mm:Nat} {z:Value} (ho:o.op=.slice t x none (some y) none) (hu:cP t=some (.slice E)) (hi:dG E=some (z,sz,by')) (hx:ba σ x=.slc mm css) (hy:ba σ y=.v (.int k b)) (hm:sub css 0 b=some zss):POpQ true o σ ρ (.slc zss.length zss):=fun κ σ' ρ' g hs hrr=>by
 obtain ⟨⟨h0,h1,h2⟩,rfl⟩:=dP hm
 have h:=hs.ev x
 rw [hx] at h
 generalize he:ev σ' x=w at h
 cases h with
 | slc hsl hb ho1 hss =>
  rename_i ad cp sz' dss
  have hl:css.length=mm:=by rw [← hsl.len,← hss.len]
  have hcap:=hsl.cap
  have hzl:((css.take b.toNat).drop (0:Int).toNat).length=b.toNat:=by simp;omega
  rw [hzl]
  refine ⟨.slice ad b.toNat cp,fun _=>?_,k8 (c:=true) (k:=b.toNat) ho hu hi (.p he) (.p (hs.v1 hy)) (fun _=>by omega) (fun _=>by omega)⟩
  have:=Rp.slc (hsl.take (m:=b.toNat) (by omega)) (by omega) (rx ho1 fun d hd=>List.mem_of_mem_take hd) (hss.take b.toNat)
  simpa using this
theorem sM {E sz by' mm:Nat} {z:Value} (ho:o.op=.slice t x (some y) none none) (hu:cP t=some (.slice E)) (hi:dG E=some (z,sz,by')) (hw:∀ cs∈css,cs.length=sz) (hx:ba σ x=.slc mm css) (hy:ba σ y=.v (.int k a)) (hm:sub css a (mm:Int)=some zss):POpQ true o σ ρ (.slc zss.length zss):=fun κ σ' ρ' g hs hrr=>by
 obtain ⟨⟨h0,h1,h2⟩,rfl⟩:=dP hm
 have h:=hs.ev x
 rw [hx] at h
 generalize he:ev σ' x=w at h
 cases h with
 | slc hsl hb ho1 hss =>
  rename_i ad cp sz' dss
  have hl:css.length=mm:=by rw [← hsl.len,← hss.len]
  have hcap:=hsl.cap
  have hq:=nF (c:=true) (ρ:=ρ') (κ:=κ) (k:=a.toNat) ho hu hi (.p he) (.p (hs.v1 hy)) (fun _=>by omega) (fun _=>by omega)
  have hd:=hsl.dropT (m:=a.toNat) (by omega)
  have e2:List.drop a.toNat (List.take (mm:Int).toNat css)=css.drop a.toNat:=by rw [Int.toNat_natCast,← hl,List.take_length]
  rw [e2]
  have hzl:(css.drop a.toNat).length=mm - a.toNat:=by simp [hl]
  rw [hzl]
  by_cases hz:mm - a.toNat=0
  ·refine ⟨_,fun _=>?_,hq⟩
   have e3:css.drop a.toNat=[]:=List.drop_of_length_le (by omega)
   rw [e3]
   exact .slc (sz:=sz) (css:=[]) ⟨by simp [hz],by omega,by simp,fun h=>absurd h (by omega)⟩ (by omega) (fun _ h=>by cases h) .nil
  have hszz:sz'=sz:=by
   have hlen:=hsl.len
   match dss,hlen with
   | [],hlen=>simp only [List.length_nil] at hlen;omega
   | d::ds,_=>rw [← hsl.wid d (by simp),rH hw hss d (by simp)]
  subst hszz
  exact ⟨_,fun _=>Rp.slc hd (by omega) (rx ho1 fun d hd=>List.mem_of_mem_drop hd) (hss.drop a.toNat),hq⟩
end
theorem uB {o:Oper} {σ:PEnv} {ρ:List PRes} {c:Bool} {x:Operand} {t:Nat} {lo hi:Option Operand} {f:Fct} {p:PV} {L R:List Eqn} (ho:o.op=.slice t x lo hi none) (h:sK σ c t (ba σ x) lo hi f=some (p,L,R)) (he:L=R) (hf:f.ok) (hc:c=true):POpQ true o σ ρ p:=by
 unfold sK at h
 split at h
 ·rename_i c' css l hh zss m sz
  split at h
  ·rename_i E mm css' hu hx
   split at h
   ·rename_i z sz' by' hi'
    split at h
    ·rename_i y
     split at h
     ·rename_i k b hy
      simp only [cu,Prod.mk.injEq] at h;obtain ⟨rfl,rfl,rfl⟩:=h
      simp only [List.cons.injEq,Eqn.b.injEq,Eqn.q.injEq,Eqn.i.injEq,Eqn.n.injEq,and_true] at he
      obtain ⟨rfl,rfl,rfl,rfl,rfl⟩:=he
      obtain ⟨h1,rfl,h3⟩:=hf
      exact sL ho hu hi' hx hy (h1 hc)
     cases h
    ·rename_i y
     split at h
     ·rename_i k b hy
      simp only [cu,Prod.mk.injEq] at h;obtain ⟨rfl,rfl,rfl⟩:=h
      simp only [List.cons.injEq,Eqn.b.injEq,Eqn.q.injEq,Eqn.i.injEq,Eqn.n.injEq,and_true] at he
      obtain ⟨rfl,rfl,rfl,rfl,rfl⟩:=he
      obtain ⟨h1,rfl,h3⟩:=hf
      exact sM ho hu hi' h3 hx hy (h1 hc)
     cases h
    cases h
   cases h
  cases h
 ·rename_i c' s l hh z
  split at h
  ·rename_i s' hu hx
   split at h
   ·split at h
    ·rename_i hy
     simp only [cu,Prod.mk.injEq] at h;obtain ⟨rfl,rfl,rfl⟩:=h
     simp only [List.cons.injEq,Eqn.b.injEq,Eqn.s.injEq,Eqn.i.injEq,and_true] at he
     obtain ⟨rfl,rfl,rfl,rfl⟩:=he
     exact sE ho hu (.p hx) (.p hy) (fun _=>hf hc)
    cases h
   ·split at h
    ·rename_i hy
     simp only [cu,Prod.mk.injEq] at h;obtain ⟨rfl,rfl,rfl⟩:=h
     simp only [List.cons.injEq,Eqn.b.injEq,Eqn.s.injEq,Eqn.i.injEq,and_true] at he
     obtain ⟨rfl,rfl,rfl,rfl⟩:=he
     exact sF ho hu (.p hx) (.p hy) (fun _=>hf hc)
    cases h
   ·split at h
    ·rename_i hy hy2
     simp only [cu,Prod.mk.injEq] at h;obtain ⟨rfl,rfl,rfl⟩:=h
     simp only [List.cons.injEq,Eqn.b.injEq,Eqn.s.injEq,Eqn.i.injEq,and_true] at he
     obtain ⟨rfl,rfl,rfl,rfl⟩:=he
     exact ry ho hu (.p hx) (.p hy) (.p hy2) (fun _=>hf hc)
    cases h
   cases h
  cases h
 cases h
theorem we {o:Oper} {σ:PEnv} {ρ:List PRes} {c:Bool} {f:Fct} {p:PV} {L R:List Eqn} (h:wd σ c o.op f=some (p,L,R)) (he:L=R) (hf:f.ok) (hc:c=true):POpQ true o σ ρ p:=by
 generalize ho:o.op=op at h
 unfold wd at h
 split at h
 ·split at h
  ·rename_i hu hx hy
   split at h
   ·rename_i hi
    simp only [cu,Prod.mk.injEq] at h;obtain ⟨rfl,rfl,rfl⟩:=h
    simp only [List.cons.injEq,Eqn.b.injEq,Eqn.q.injEq,Eqn.i.injEq,Eqn.n.injEq,and_true] at he
    obtain ⟨rfl,rfl,rfl,h4⟩:=he
    exact uA ho hu hi h4 hx hy (hf hc)
   cases h
  cases h
 ·split at h
  ·rename_i hu hx hy
   simp only [cu,Prod.mk.injEq] at h;obtain ⟨rfl,rfl,rfl⟩:=h
   simp only [List.cons.injEq,Eqn.b.injEq,Eqn.s.injEq,Eqn.i.injEq,and_true] at he
   obtain ⟨rfl,rfl,rfl⟩:=he
   exact uo ho hu (.p hx) (.p hy) (fun _=>hf hc)
  cases h
 ·split at h
  ·rename_i k a k' b' hx hy
   cases hk:Nat.beq (qM k) (qM k')
   ·rw [hk] at h;cases h
   rw [hk] at h;have:=nc hk;subst this
   simp only [ga,cu,Prod.mk.injEq] at h;obtain ⟨rfl,rfl,rfl⟩:=h
   simp only [List.cons.injEq,Eqn.b.injEq,Eqn.i.injEq,and_true] at he
   obtain ⟨rfl,rfl⟩:=he
   exact vM ho (.p hx) (.p hy) (fun _=>hf hc)
  cases h
 ·split at h
  ·rename_i k a k' b' hx hy
   cases hk:Nat.beq (qM k) (qM k')
   ·rw [hk] at h;cases h
   rw [hk] at h;have:=nc hk;subst this
   simp only [ga,cu,Prod.mk.injEq] at h;obtain ⟨rfl,rfl,rfl⟩:=h
   simp only [List.cons.injEq,Eqn.b.injEq,Eqn.i.injEq,and_true] at he
   obtain ⟨rfl,rfl⟩:=he
   exact vN ho (.p hx) (.p hy) (fun _=>hf hc)
  cases h
 ·split at h
  ·rename_i hx hy
   simp only [cu,Prod.mk.injEq] at h;obtain ⟨rfl,rfl,rfl⟩:=h
   simp only [List.cons.injEq,Eqn.b.injEq,Eqn.i.injEq,and_true] at he
   obtain ⟨rfl,rfl⟩:=he
   exact nJ ho (.p hx) (.p hy) (fun _=>hf hc) rfl
  cases h
 ·split at h
  ·rename_i hx hy
   simp only [cu,Prod.mk.injEq] at h;obtain ⟨rfl,rfl,rfl⟩:=h
   simp only [List.cons.injEq,Eqn.b.injEq,Eqn.i.injEq,and_true] at he
   obtain ⟨rfl,rfl⟩:=he
   exact nJ ho (.p hx) (.p hy) (fun _=>hf hc) rfl
  cases h
 ·split at h
  ·rename_i hx hy
   simp only [cu,Prod.mk.injEq] at h;obtain ⟨rfl,rfl,rfl⟩:=h
   simp only [List.cons.injEq,Eqn.b.injEq,Eqn.s.injEq,and_true] at he
   obtain ⟨rfl,rfl,rfl⟩:=he
   exact pq_catT ho (.p hx) (.p hy) (fun _=>hf hc)
  cases h
 ·split at h
  ·rename_i hx hy
   split at h
   ·rename_i h5 h6
    split at h
    ·rename_i r hr
     simp only [cu,Prod.mk.injEq] at h;obtain ⟨rfl,rfl,rfl⟩:=h
     simp only [List.cons.injEq,Eqn.n.injEq,and_true] at he
     subst he
     exact tq _ ho hf.h1 hf.h2 hf.h3 hf.h4 (.p hx) (.p hy) h5 h6 hr rfl
    cases h
   cases h
  cases h
 ·split at h
  ·rename_i hx hy
   split at h
   ·rename_i h5 h6
    split at h
    ·rename_i r hr
     simp only [cu,Prod.mk.injEq] at h;obtain ⟨rfl,rfl,rfl⟩:=h
     simp only [List.cons.injEq,Eqn.n.injEq,and_true] at he
     subst he
     exact tq _ ho hf.h1 hf.h2 hf.h3 hf.h4 (.p hx) (.p hy) h5 h6 hr rfl
    cases h
   cases h
  cases h
 ·exact uB ho h he hf hc
 ·split at h
  ·rename_i d hu
   cases hb:(!rC d&&(dG _).isSome)
   ·rw [hb] at h;cases h
   rw [hb] at h
   simp only [ga,cu,Prod.mk.injEq] at h;obtain ⟨rfl,rfl,rfl⟩:=h
   simp only [List.cons.injEq,Eqn.n.injEq,Eqn.p.injEq,and_true] at he
   obtain ⟨rfl,h2⟩:=he
   simp only [Bool.and_eq_true,Bool.not_eq_true'] at hb
   exact pq_ta ho hu hb.1 hb.2 h2.symm hf
  cases h
 cases h
def gL (l:List (Bool×Bool)):List Eqn:=l.map fun z=>.b z.1
def gR (l:List (Bool×Bool)):List Eqn:=l.map fun z=>.b z.2
theorem gLR:∀ {l:List (Bool×Bool)},gL l=gR l→AllEq l
 | [],_=>AllEq.nil
 | (a,b)::l,h=>by
  simp only [gL,gR,List.map_cons,List.cons.injEq,Eqn.b.injEq] at h
  have:=gLR (l:=l) h.2
  unfold AllEq at this ⊢
  simp only [List.map_cons,h.1,this]
theorem wf {l:List (Bool×Bool)}:(gL l).length=(gR l).length:=by simp [gL,gR]
def kp:Op→Bool
 | .call ⟨.value _,_,_⟩=>true
 | .call ⟨.invoke _ _,_,_⟩=>true
 | _=>false
abbrev StepO:=Option (PV×Bool×List Eqn×List Eqn)
def nY (σ:PEnv) (G:List (Nat×GE)) (ρ:List PRes) (gs:List Bool) (at_:Nat) (op:Op):StepO :=
 match qx (kb σ G (dQ op.operands.toList) gs) ρ at_ op with
 | some (p,none)=>some (p,false,gL (hC G gs (dQ op.operands.toList)),gR (hC G gs (dQ op.operands.toList)))
 | some (p,some (b,b'))=>some (p,true,gL (hC G gs (dQ op.operands.toList))++[.n b],gR (hC G gs (dQ op.operands.toList))++[.n b'])
 | none=>none
def wg (σ:PEnv) (G:List (Nat×GE)) (gs:List Bool) (op:Op) (cal:Operand) (ags:List Operand):Fct→StepO
 | .cl c f pargs r=>(match cal with
  | .func f'=>some (r,false,gL (hC G gs (dQ op.operands.toList))++[.b c,.n f,.l pargs],gR (hC G gs (dQ op.operands.toList))++[.b (gs.headD true),.n f',.l (ags.map (ba (kb σ G (dQ op.operands.toList) gs)))])
  | _=>none)
 | .cv c pf pargs r=>some (r,false,gL (hC G gs (dQ op.operands.toList))++[.b c,.p pf,.l pargs],gR (hC G gs (dQ op.operands.toList))++[.b (gs.headD true),.p (ba (kb σ G (dQ op.operands.toList) gs) cal),.l (ags.map (ba (kb σ G (dQ op.operands.toList) gs)))])
 | _=>none
def invx (σ:PEnv) (G:List (Nat×GE)) (gs:List Bool) (op:Op) (x:Operand) (name:String) (ags:List Operand):Fct→StepO
 | .ci c p name' pargs r=>some (r,false,gL (hC G gs (dQ op.operands.toList))++[.b c,.p p,.m name',.l pargs],gR (hC G gs (dQ op.operands.toList))++[.b (gs.headD true),.p (ba (kb σ G (dQ op.operands.toList) gs) x),.m name,.l (ags.map (ba (kb σ G (dQ op.operands.toList) gs)))])
 | _=>none
def wh (σ:PEnv) (G:List (Nat×GE)) (ρ:List PRes) (gs:List Bool) (at_:Nat) (fo:Option Fct) (op:Op):StepO :=
 match fo with
 | some f=>(match op with
  | .call ⟨.value cal,⟨ags⟩,ts⟩=>wg σ G gs (.call ⟨.value cal,⟨ags⟩,ts⟩) cal ags f
  | .call ⟨.invoke x name,⟨ags⟩,ts⟩=>invx σ G gs (.call ⟨.invoke x name,⟨ags⟩,ts⟩) x name ags f
  | op=>(match wd (kb σ G (dQ op.operands.toList) gs) (gs.headD true) op f with
   | some (p,L,R)=>some (p,false,gL (hC G gs (dQ op.operands.toList))++L,gR (hC G gs (dQ op.operands.toList))++R)
   | none=>none))
 | none=>(match op with
  | .pick cc a b=>(match wa σ G gs cc a b with | some (p,l)=>some (p,false,gL l,gR l) | none=>none)
  | op=>nY σ G ρ gs at_ op)
def POpG (c:Bool) (o:Oper) (σ:PEnv) (r:PV):Prop:=∀ κ σ' ρ' (KK:Value→Kr→Prop),GOK κ→Sim κ σ σ'→(∀ v κ',Kle κ κ'→(c=true→Rp κ' r v)→KK v κ')→OpG c o σ' ρ' κ KK
theorem rI {a b l m:List Eqn} (h:a++l=b++m) (hl:a.length=b.length):a=b∧l=m:=List.append_inj h hl
theorem popg_cl {o:Oper} {σ:PEnv} {G:List (Nat×GE)} {gs:List Bool} {ts:List Nat} {f:Nat} {ags:List Operand} {at_:Array Nat} {pargs:List PV} {r:PV} (ho:o.op=.call { callee:=.value (.func f),args:=ags.toArray,argTypes:=at_ }) (hi:GInv σ G) (ha:AllEq (hC G gs ts)) (hk:StackOk gs) (hp:pargs=ags.map (ba (kb σ G ts gs))) (hc:gs.headD true=true→PF f pargs r):POpG (gs.headD true) o σ r:=fun κ σ' ρ' KK g hs h =>
 qU ho (fun _=>rfl) (fun hct=>hc hct κ _ g (by rw [hp];exact gt (lE hs hi ha hk hct) ags)) h
theorem popg_cv {o:Oper} {σ:PEnv} {G:List (Nat×GE)} {gs:List Bool} {ts:List Nat} {x:Operand} {ags:List Operand} {at_:Array Nat} {pf:PV} {pargs:List PV} {r:PV} (ho:o.op=.call { callee:=.value x,args:=ags.toArray,argTypes:=at_ }) (hi:GInv σ G) (ha:AllEq (hC G gs ts)) (hk:StackOk gs) (hx:pf=ba (kb σ G ts gs) x) (hp:pargs=ags.map (ba (kb σ G ts gs))) (hc:gs.headD true=true→PFV pf pargs r):POpG (gs.headD true) o σ r:=fun κ σ' ρ' KK g hs h=>by
 refine ⟨fun hct=>?_,fun hcf=>h undef κ (.refl _) fun h=>by rw [hcf] at h;cases h⟩
 have hs':=lE hs hi ha hk hct
 obtain ⟨f,first,cap,h1,h2⟩:=hc hct κ _ _ g (by rw [hx];exact hs'.ev x) (by rw [hp];exact gt hs' ags)
 exact t7 ho h1 rfl h2 fun v κ' hk hv=>⟨rfl,h v κ' hk fun _=>hv⟩
theorem popg_ci {o:Oper} {σ:PEnv} {G:List (Nat×GE)} {gs:List Bool} {ts:List Nat} {x:Operand} {name:String} {ags:List Operand} {at_:Array Nat} {p:PV} {pargs:List PV} {r:PV} (ho:o.op=.call { callee:=.invoke x name,args:=ags.toArray,argTypes:=at_ }) (hi:GInv σ G) (ha:AllEq (hC G gs ts)) (hk:StackOk gs) (hx:p=ba (kb σ G ts gs) x) (hp:pargs=ags.map (ba (kb σ G ts gs))) (hc:gs.headD true=true→PFI p name pargs r):POpG (gs.headD true) o σ r:=fun κ σ' ρ' KK g hs h=>by
 refine ⟨fun hct=>?_,fun hcf=>h undef κ (.refl _) fun h=>by rw [hcf] at h;cases h⟩
 have hs':=lE hs hi ha hk hct
 obtain ⟨t,q,f,e1,hm,hf⟩:=hc hct
 have hv:=hs'.ev x
 rw [← hx,e1] at hv
 generalize he:ev σ' x=w at hv
 cases hv with
 | ifc hv=>exact nU ho he hm (hf κ _ g (.cons hv (by rw [hp];exact gt hs' ags))) fun v κ' hk hv=>⟨rfl,h v κ' hk fun _=>hv⟩
theorem uC {o:Oper} {σ:PEnv} {G:List (Nat×GE)} {ρ:List PRes} {gs:List Bool} {k:Nat} {p:PV} {u:Bool} {L R:List Eqn} (hi:GInv σ G) (hk:StackOk gs) (h:nY σ G ρ gs k o.op=some (p,u,L,R)) (he:L=R):POpQ (gs.headD true) o σ ρ p:=by
 unfold nY at h
 split at h
 ·rename_i p' hq
  simp only [cu,Prod.mk.injEq] at h;obtain ⟨rfl,_,rfl,rfl⟩:=h
  exact lX (fun _=>qx_ok hq (fun _ _ e=>by cases e)) hi (gLR he) hk
 ·rename_i p' b b' hq
  simp only [cu,Prod.mk.injEq] at h;obtain ⟨rfl,_,rfl,rfl⟩:=h
  obtain ⟨h1,h2⟩:=rI he wf
  simp only [List.cons.injEq,Eqn.n.injEq,and_true] at h2
  exact lX (fun _=>qx_ok hq (fun _ _ e=>by simp only [cu,Prod.mk.injEq] at e;rw [← e.1,← e.2];exact h2)) hi (gLR h1) hk
 cases h
theorem wi {o:Oper} {σ:PEnv} {G:List (Nat×GE)} {gs:List Bool} {cal:Operand} {ags:List Operand} {ts:Array Nat} {f:Fct} {p:PV} {u:Bool} {L R:List Eqn} (ho:o.op=.call ⟨.value cal,⟨ags⟩,ts⟩) (hi:GInv σ G) (hk:StackOk gs) (h:wg σ G gs (.call ⟨.value cal,⟨ags⟩,ts⟩) cal ags f=some (p,u,L,R)) (he:L=R) (hf:f.ok):POpG (gs.headD true) o σ p:=by
 unfold wg at h
 split at h
 ·split at h
  ·simp only [cu,Prod.mk.injEq] at h;obtain ⟨rfl,_,rfl,rfl⟩:=h
   obtain ⟨h1,h2⟩:=rI he wf
   simp only [List.cons.injEq,Eqn.n.injEq,Eqn.b.injEq,Eqn.l.injEq,and_true] at h2
   obtain ⟨h3,h4,h5⟩:=h2
   subst h4
   exact popg_cl ho hi (gLR h1) hk h5 (fun hc=>hf (by rw [h3];exact hc))
  cases h
 ·simp only [cu,Prod.mk.injEq] at h;obtain ⟨rfl,_,rfl,rfl⟩:=h
  obtain ⟨h1,h2⟩:=rI he wf
  simp only [List.cons.injEq,Eqn.p.injEq,Eqn.b.injEq,Eqn.l.injEq,and_true] at h2
  obtain ⟨h3,h4,h5⟩:=h2
  exact popg_cv ho hi (gLR h1) hk h4 h5 (fun hc=>hf (by rw [h3];exact hc))
 cases h
theorem invx_ok {o:Oper} {σ:PEnv} {G:List (Nat×GE)} {gs:List Bool} {x:Operand} {name:String} {ags:List Operand} {ts:Array Nat} {f:Fct} {p:PV} {u:Bool} {L R:List Eqn} (ho:o.op=.call ⟨.invoke x name,⟨ags⟩,ts⟩) (hi:GInv σ G) (hk:StackOk gs) (h:invx σ G gs (.call ⟨.invoke x name,⟨ags⟩,ts⟩) x name ags f=some (p,u,L,R)) (he:L=R) (hf:f.ok):POpG (gs.headD true) o σ p:=by
 unfold invx at h
 split at h
 ·simp only [cu,Prod.mk.injEq] at h;obtain ⟨rfl,_,rfl,rfl⟩:=h
  obtain ⟨h1,h2⟩:=rI he wf
  simp only [List.cons.injEq,Eqn.p.injEq,Eqn.b.injEq,Eqn.l.injEq,Eqn.m.injEq,and_true] at h2
  obtain ⟨h3,h4,h5,h6⟩:=h2
  subst h5
  exact popg_ci ho hi (gLR h1) hk h4 h6 (fun hc=>hf (by rw [h3];exact hc))
 cases h
theorem wj {o:Oper} {σ:PEnv} {G:List (Nat×GE)} {ρ:List PRes} {gs:List Bool} {k:Nat} {fo:Option Fct} {p:PV} {u:Bool} {L R:List Eqn} (hi:GInv σ G) (hk:StackOk gs) (h:wh σ G ρ gs k fo o.op=some (p,u,L,R)) (he:L=R) (hf:∀ f,fo=some f→f.ok):(kp o.op=false∧POpQ (gs.headD true) o σ ρ p)∨(kp o.op=true∧POpG (gs.headD true) o σ p):=by
 unfold wh at h
 split at h
 ·rename_i f
  split at h
  ·rename_i cal ags ts ho
   exact .inr ⟨by rw [ho];rfl,wi ho hi hk h he (hf f rfl)⟩
  ·rename_i x name ags ts ho
   exact .inr ⟨by rw [ho];rfl,invx_ok ho hi hk h he (hf f rfl)⟩
  rename_i hnc hnc2
  split at h
  ·rename_i p' L' R' hq
   simp only [cu,Prod.mk.injEq] at h;obtain ⟨rfl,_,rfl,rfl⟩:=h
   obtain ⟨h1,h2⟩:=rI he wf
   refine .inl ⟨?_,lX (fun hc=>we hq h2 (hf f rfl) hc) hi (gLR h1) hk⟩
   unfold kp
   split
   ·rename_i cal ags ts ho;exact absurd ho (hnc cal ags.toList ts)
   ·rename_i x name ags ts ho;exact absurd ho (hnc2 x name ags.toList ts)
   rfl
  cases h
 split at h
 ·rename_i cc a b ho
  split at h
  ·rename_i p' l' hp
   simp only [cu,Prod.mk.injEq] at h;obtain ⟨rfl,_,rfl,rfl⟩:=h
   exact .inl ⟨by rw [ho];rfl,wb ho hi hk hp (gLR he)⟩
  cases h
 cases hc:kp o.op
 ·exact .inl ⟨rfl,uC hi hk h he⟩
 exfalso
 unfold kp at hc
 split at hc
 ·rename_i ho
  rw [ho] at h
  unfold nY at h
  simp only [qx] at h
  cases h
 ·rename_i ho
  rw [ho] at h
  unfold nY at h
  simp only [qx] at h
  cases h
 cases hc
def qz (σ:PEnv) (G:List (Nat×GE)) (d:Nat) (gs:List Bool) (p:PV):PEnv×List (Nat×GE):=match gs with
 | []=>(em σ d p,vY d G)
 | c::gs=>(em σ d (pgv c p),(d,⟨c::gs,p⟩)::G)
theorem qA {d t:Nat} {e:GE}:∀ {G:List (Nat×GE)},gl t (vY d G)=some e→t≠d∧gl t G=some e
 | [],h=>by cases h
 | (k,e')::l,h=>by
  simp only [vY] at h
  cases hd:Nat.beq d k
  ·rw [hd] at h;simp only [i0,gl] at h ⊢
   cases ht:Nat.beq t k
   ·rw [ht] at h;exact qA h
   rw [ht] at h
   refine ⟨fun e=>?_,h⟩
   rw [Nat.eq_of_beq_eq_true ht] at e;rw [e] at hd;simp at hd
  rw [hd] at h;simp only [ga] at h
  obtain ⟨h1,h2⟩:=qA h
  refine ⟨h1,?_⟩
  simp only [gl]
  have:Nat.beq t k=false:=by cases e:Nat.beq t k;rfl;exact absurd ((Nat.eq_of_beq_eq_true e).trans (Nat.eq_of_beq_eq_true hd).symm) h1
  rw [this];exact h2
theorem qB {σ:PEnv} {d t:Nat} {p:PV} (h:t≠d):em σ d p t=σ t:=by
 unfold em
 have:Nat.beq t d=false:=by cases e:Nat.beq t d;rfl;exact absurd (Nat.eq_of_beq_eq_true e) h
 rw [this];rfl
theorem nZ {σ:PEnv} {G:List (Nat×GE)} {d:Nat} {gs:List Bool} {p:PV} (hi:GInv σ G) (hk:StackOk gs):GInv (qz σ G d gs p).1 (qz σ G d gs p).2:=by
 unfold qz
 split
 ·intro t e h
  obtain ⟨h1,h2⟩:=qA h
  simp only [qB h1]
  exact hi t e h2
 rename_i c gs
 intro t e h
 simp only [gl] at h
 cases ht:Nat.beq t d
 ·rw [ht] at h
  have hne:t≠d:=fun e=>by rw [e] at ht;simp at ht
  simp only [qB hne]
  exact hi t e h
 rw [ht] at h
 simp only [ga,cu] at h;subst h
 have:=Nat.eq_of_beq_eq_true ht;subst this
 refine ⟨?_,hk,by simp⟩
 simp only [em,Nat.beq_refl,ga,List.headD_cons]
theorem n4 {σ:PEnv} {G:List (Nat×GE)} {d:Nat} {gs:List Bool} {p:PV}:(qz σ G d gs p).1=em σ d (pgv (gs.headD true) p):=by
 unfold qz;split
 ·rw [List.headD_nil,jb]
 rfl
structure RunR where
 σ:PEnv
 L:List Eqn
 R:List Eqn
def tB (i:Nat):List (Nat×Fct)→Option Fct
 | (k,f)::_=>cond (Nat.beq k i) (some f) none
 | []=>none
def lF (n:Nat) (ops:Array Oper) (ρ:List PRes):List Oper→Nat→List Nat→List (Nat×Fct)→PEnv→List (Nat×GE)→Option RunR
 | [],_,_,_,σ,_=>some ⟨σ,[],[]⟩
 | o::l,i,H,F,σ,G=>match o.dst with
  | some d=>cond (Nat.blt d n) (match qw ops σ G o.guard with
   | some gs=>match wh σ G ρ gs (H.headD 0) (tB i F) o.op with
    | some (p,u,L,R)=>match lF n ops ρ l (i+1) (cond u H.tail H) (match tB i F with | some _=>F.tail | none=>F) (qz σ G d gs p).1 (qz σ G d gs p).2 with
     | some r=>cond (Nat.beq L.length R.length) (some ⟨r.σ,L++r.L,R++r.R⟩) none
     | none=>none
    | none=>none
   | none=>none) none
  | none=>none
theorem wk {i:Nat} {F:List (Nat×Fct)} (h:FOk F):∀ f,tB i F=some f→f.ok:=fun f hf=>by
 cases F with
 | nil=>cases hf
 | cons a l =>
  obtain ⟨k,g⟩:=a
  simp only [tB] at hf
  cases hk:Nat.beq k i
  ·rw [hk] at hf;cases hf
  rw [hk] at hf;simp only [ga,cu] at hf;subst hf;exact h.1
theorem wl {F:List (Nat×Fct)} (h:FOk F) (b:Option Fct):FOk (match b with | some _=>F.tail | none=>F):=by
 cases b with
 | none=>exact h
 | some f=>cases F with
  | nil=>exact h
  | cons a l=>exact h.2
theorem n5 {n:Nat} {ops:Array Oper} {ρ:List PRes} {o:Oper} {l:List Oper} {i:Nat} {H:List Nat} {F:List (Nat×Fct)} {σ:PEnv} {G:List (Nat×GE)} {r:RunR} (h:lF n ops ρ (o::l) i H F σ G=some r) (he:r.L=r.R) (hF:FOk F) (hi:GInv σ G) :
    ∃ d gs p H' F' r',o.dst=some d∧Nat.blt d n=true∧PGuardIs ops σ o (gs.headD true)∧StackOk gs∧((kp o.op=false∧POpQ (gs.headD true) o σ ρ p)∨(kp o.op=true∧POpG (gs.headD true) o σ p))∧lF n ops ρ l (i+1) H' F' (qz σ G d gs p).1 (qz σ G d gs p).2=some r'∧r'.σ=r.σ∧r'.L=r'.R∧FOk F':=by
  simp only [lF] at h
  split at h
  · rename_i d hd
    cases hlt:Nat.blt d n
    · rw [hlt] at h;cases h
    rw [hlt] at h;simp only [ga] at h
    split at h
    · rename_i gs hgs
      split at h
      · rename_i p u L R hst
        split at h
        · rename_i r' hr
          cases hlen:Nat.beq L.length R.length
          · rw [hlen] at h;cases h
          rw [hlen] at h;simp only [ga,cu] at h;subst h
          obtain ⟨h1,h2⟩:=List.append_inj he (Nat.eq_of_beq_eq_true hlen)
          obtain ⟨hg,hk⟩:=ux hi hgs
          exact ⟨d,gs,p,_,_,r',hd,hlt,hg,hk,wj hi hk hst h1 (wk hF),hr,rfl,h2,wl hF _⟩
        cases h
      cases h
    cases h
  cases h
theorem wm {n:Nat} {ops:Array Oper} {o:Oper} {rest:List Oper} {K:PPost} {σ:PEnv} {ρ:List PRes} {d:Nat} {c:Bool} {r:PV} (hg:PGuardIs ops σ o c) (hd:o.dst=some d) (hlt:Nat.blt d n=true) (h:POpG c o σ r) (hw:PWL n ops rest K (em σ d (pgv c r)) ρ):PWL n ops (o::rest) K σ ρ:=fun β κ σ' ρ' g hs hr =>
 wl_g (hg κ σ' hs) hd hlt (h κ σ' ρ' _ g hs fun v κ' hk hv=>hw β κ' _ _ (g.mono hk) ((hs.mono hk).upd (tl hv)) (hr.mono hk))
theorem wn {n:Nat} {ops:Array Oper} {o:Oper} {lo:List (Nat×Oper)} {K:PPost} {σ:PEnv} {ρd ρs:List PRes} {d:Nat} {c:Bool} {r:PV} (hg:PGuardIs ops σ o c) (hd:o.dst=some d) (hlt:Nat.blt d n=true) (h:POpG c o σ r) (hw:PWD n ops K lo (em σ d (pgv c r)) ρd ρs):PWD n ops K ((1,o)::lo) σ ρd ρs:=fun β κ σ' rd rs g hs h1 h2 =>
 wd_g (hg κ σ' hs) hd hlt fun κ1 hk=>h κ1 σ' _ _ (g.mono hk) (hs.mono hk) fun v κ' hk' hv=>hw β κ' _ rd rs ((g.mono hk).mono hk') (((hs.mono hk).mono hk').upd (tl hv)) ((h1.mono hk).mono hk') ((h2.mono hk).mono hk')
theorem qC {n:Nat} {ops:Array Oper} {rest:List Oper} {K:PPost} {ρ:List PRes}:∀ {l:List Oper} {i:Nat} {H:List Nat} {F:List (Nat×Fct)} {σ:PEnv} {G:List (Nat×GE)} {r:RunR},lF n ops ρ l i H F σ G=some r→r.L=r.R→FOk F→GInv σ G→PWL n ops rest K r.σ ρ→PWL n ops (l++rest) K σ ρ
 | [],i,H,F,σ,G,r,h,_,_,_,hw=>by simp only [lF,cu] at h;subst h;exact hw
 | o::l,i,H,F,σ,G,r,h,he,hF,hi,hw=>by
  obtain ⟨d,gs,p,H',F',r',h1,h2,h3,h4,h5,h6,h7,h8,h9⟩:=n5 h he hF hi
  have hrec:=qC (rest:=rest) (K:=K) h6 h8 h9 (nZ hi h4) (by rw [h7];exact hw)
  rw [n4] at hrec
  rcases h5 with ⟨_,hq⟩ | ⟨_,hq⟩
  ·exact pwl_qg h3 h1 h2 hq hrec
  exact wm h3 h1 h2 hq hrec
def wo (ks D:List Nat):List Oper→Bool
 | []=>true
 | o::l=>(match o.dst with | some d=>vZ d ks||vZ d D | none=>true)&&wo ks D l
theorem pA {n:Nat} {ops:Array Oper} {ρ:List PRes} {ks D:List Nat}:∀ {l:List Oper} {i:Nat} {H:List Nat} {F:List (Nat×Fct)} {σ:PEnv} {G:List (Nat×GE)} {r:RunR},lF n ops ρ l i H F σ G=some r→r.L=r.R→FOk F→GInv σ G→wo ks D l=true→∀ t,t ∉ ks→t ∉ D→r.σ t=σ t
 | [],i,H,F,σ,G,r,h,_,_,_,_,t,_,_=>by simp only [lF,cu] at h;subst h;rfl
 | o::l,i,H,F,σ,G,r,h,he,hF,hi,hd,t,g1,g2=>by
  obtain ⟨d,gs,p,H',F',r',h1,h2,h3,h4,h5,h6,h7,h8,h9⟩:=n5 h he hF hi
  simp only [wo,Bool.and_eq_true] at hd
  rw [h1] at hd
  simp only [Bool.or_eq_true,nf] at hd
  have hne:t≠d:=fun e=>by subst e;rcases hd.1 with h | h;exact g1 h;exact g2 h
  rw [← h7,pA h6 h8 h9 (nZ hi h4) hd.2 t g1 g2,n4]
  exact qB hne
abbrev RunO:=Option (List PV×List Eqn)
def ke (n:Nat) (ops:Array Oper) (ρ:List PRes) (l:List Oper) (H:List Nat) (F:List (Nat×Fct)) (σ:PEnv) (ks D:List Nat):RunO :=
 match lF n ops ρ l 0 H F σ [] with
 | some r=>cond (wo ks D l) (some (ks.map r.σ,r.L)) none
 | none=>none
def iy (n:Nat) (ops:Array Oper) (ρ:List PRes) (l:List Oper) (H:List Nat) (F:List (Nat×Fct)) (σ:PEnv) (vs:List PV):RunO :=
 match lF n ops ρ l 0 H F σ [] with
 | some r=>some (vs,r.R)
 | none=>some ([],[])
def pdel (σ:PEnv) (D:List Nat):PEnv:=fun t=>cond (vZ t D) .any (σ t)
def iS (σ:PEnv) (D:List Nat) (X:List (Nat×PV)):PEnv:=aw (pdel σ D) X
def rJ (t:Nat):List (Nat×PV)→Option PV
 | []=>none
 | (d,v)::l=>cond (Nat.beq t d) (some v) (rJ t l)
theorem n7 {σ:PEnv} {t:Nat}:∀ {X:List (Nat×PV)},aw σ X t=(rJ t X).getD (σ t)
 | []=>rfl
 | (d,v)::l=>by
  simp only [aw,em,rJ]
  cases Nat.beq t d
  ·exact n7 (X:=l)
  rfl
theorem pC {t:Nat} {v:PV} {σ:PEnv}:∀ {X:List (Nat×PV)},rJ t X=some v→(X.map (·.1)).map σ=X.map (·.2)→σ t=v
 | (d,w)::l,h,e=>by
  simp only [List.map_cons,List.cons.injEq] at e
  simp only [rJ] at h
  cases hb:Nat.beq t d
  ·rw [hb] at h;exact pC h e.2
  rw [hb] at h;simp only [ga,cu] at h
  rw [Nat.eq_of_beq_eq_true hb,e.1,h]
theorem pD {t:Nat}:∀ {X:List (Nat×PV)},rJ t X=none→t ∉ X.map (·.1)
 | [],_=>by simp
 | (d,v)::l,h=>by
  simp only [rJ] at h
  cases hb:Nat.beq t d
  ·rw [hb] at h
   have:t≠d:=fun e=>by rw [e] at hb;simp at hb
   simp only [List.map_cons,List.mem_cons,not_or]
   exact ⟨this,pD h⟩
  rw [hb] at h;cases h
def PWeak (σ σ1:PEnv):Prop:=∀ t,σ1 t=σ t∨σ1 t=.any
theorem Sim.weak {κ:Kr} {σ σ1:PEnv} {σ':Env} (h:Sim κ σ σ') (hw:PWeak σ σ1):Sim κ σ1 σ':=fun t=>by
 rcases hw t with e | e
 ·rw [e];exact h t
 rw [e];exact .any
theorem tC {σ:PEnv}:GInv σ []:=fun t e h=>by cases h
theorem qD {n:Nat} {ops:Array Oper} {ρ:List PRes} {l:List Oper} {H D:List Nat} {F:List (Nat×Fct)} {σ:PEnv} {X:List (Nat×PV)} (hF:FOk F) (h:ke n ops ρ l H F σ (X.map (·.1)) D=iy n ops ρ l H F σ (X.map (·.2))):∃ r,lF n ops ρ l 0 H F σ []=some r∧r.L=r.R∧PWeak r.σ (iS σ D X):=by
 unfold ke iy at h
 cases hr:lF n ops ρ l 0 H F σ [] with
 | none=>rw [hr] at h;cases h
 | some r =>
  rw [hr] at h
  simp only at h
  cases hd:wo (X.map (·.1)) D l
  ·rw [hd] at h;cases h
  rw [hd] at h
  simp only [ga,cu,Prod.mk.injEq] at h
  obtain ⟨h1,h2⟩:=h
  refine ⟨r,rfl,h2,fun t=>?_⟩
  unfold iS
  rw [n7]
  cases hl:rJ t X with
  | some v=>exact .inl (by rw [Option.getD_some,pC hl h1])
  | none =>
   rw [Option.getD_none]
   unfold pdel
   cases hi:vZ t D
   ·have h3':t ∉ D:=fun hm=>by rw [nf.2 hm] at hi;cases hi
    exact .inl (by rw [i0,pA hr h2 hF tC hd t (pD hl) h3'])
   exact .inr rfl
section
variable {n:Nat} {ops:Array Oper} {l:List Oper} {K:PPost} {KC:Exit→PPost} {σ:PEnv} {ρ:List PRes} {id:Nat} {F:List (Nat×Fct)}
theorem rK {σ1:PEnv} (hw:PWeak σ σ1) (h:PWL n ops l K σ1 ρ):PWL n ops l K σ ρ:=fun β κ σ' ρ' g hs hr=>h β κ σ' ρ' g (hs.weak hw) hr
theorem aU (k:Nat) (H D:List Nat) (X:List (Nat×PV)) (hF:FOk F) (h:ke n ops ρ (l.take k) H F σ (X.map (·.1)) D=iy n ops ρ (l.take k) H F σ (X.map (·.2))) (hw:PWL n ops (l.drop k) K (iS σ D X) ρ):PWL n ops l K σ ρ:=by
 obtain ⟨r,h1,h2,h3⟩:=qD hF h
 have:=qC h1 h2 hF tC (rK h3 hw)
 rwa [List.take_append_drop] at this
theorem eB (H D:List Nat) (X:List (Nat×PV)) (hF:FOk F) (h:ke n ops ρ l H F σ (X.map (·.1)) D=iy n ops ρ l H F σ (X.map (·.2))) (hw:K (iS σ D X) ρ):PWL n ops l K σ ρ:=by
 obtain ⟨r,h1,h2,h3⟩:=qD hF h
 have:=qC (rest:=[]) h1 h2 hF tC (rK h3 (au (ops:=ops) hw))
 rwa [List.append_nil] at this
theorem an (H D:List Nat) (X:List (Nat×PV)) (hF:FOk F) (h:ke n l.toArray ρ l H F σ (X.map (·.1)) D=iy n l.toArray ρ l H F σ (X.map (·.2))) (hw:KC .normal (iS σ D X) ρ):PWC n (.region id l.toArray false) KC σ ρ:=aa (eB H D X hF h hw)
end
def rL:List (Nat×Oper)→Bool
 | []=>true
 | (k,o)::l=>cond (kp o.op) (Nat.beq k 1) (Nat.beq k 0)&&rL l
theorem rM {n:Nat} {ops:Array Oper} {rest:List (Nat×Oper)} {K:PPost} {ρd ρ:List PRes}:∀ {l:List (Nat×Oper)} {i:Nat} {H:List Nat} {F:List (Nat×Fct)} {σ:PEnv} {G:List (Nat×GE)} {r:RunR},rL l=true→lF n ops ρ (l.map (·.2)) i H F σ G=some r→r.L=r.R→FOk F→GInv σ G→PWD n ops K rest r.σ ρd ρ→PWD n ops K (l++rest) σ ρd ρ
 | [],i,H,F,σ,G,r,_,h,_,_,_,hw=>by simp only [List.map_nil,lF,cu] at h;subst h;exact hw
 | (k,o)::l,i,H,F,σ,G,r,ht,h,he,hF,hi,hw=>by
  simp only [rL,Bool.and_eq_true] at ht
  obtain ⟨d,gs,p,H',F',r',h1,h2,h3,h4,h5,h6,h7,h8,h9⟩:=n5 h he hF hi
  have hrec:=rM (rest:=rest) (K:=K) (ρd:=ρd) ht.2 h6 h8 h9 (nZ hi h4) (by rw [h7];exact hw)
  rw [n4] at hrec
  rcases h5 with ⟨hc,hq⟩ | ⟨hc,hq⟩
  ·rw [hc] at ht;have:=Nat.eq_of_beq_eq_true ht.1;subst this
   exact pwd_qg h3 h1 h2 hq hrec
  rw [hc] at ht;have:=Nat.eq_of_beq_eq_true ht.1;subst this
  exact wn h3 h1 h2 hq hrec
section
variable {n:Nat} {ops:Array Oper} {l:List (Nat×Oper)} {K:PPost} {σ:PEnv} {ρd ρs:List PRes} {F:List (Nat×Fct)}
theorem wq {σ1:PEnv} (hw:PWeak σ σ1) (h:PWD n ops K l σ1 ρd ρs):PWD n ops K l σ ρd ρs:=fun β κ σ' rd rs g hs h1 h2=>h β κ σ' rd rs g (hs.weak hw) h1 h2
def rN (n:Nat) (ops:Array Oper) (ρ:List PRes) (l:List (Nat×Oper)) (H:List Nat) (F:List (Nat×Fct)) (σ:PEnv) (ks D:List Nat):RunO:=cond (rL l) (ke n ops ρ (l.map (·.2)) H F σ ks D) none
theorem bY (k:Nat) (H D:List Nat) (X:List (Nat×PV)) (hF:FOk F) (h:rN n ops ρs (l.take k) H F σ (X.map (·.1)) D=iy n ops ρs ((l.take k).map (·.2)) H F σ (X.map (·.2))) (hw:PWD n ops K (l.drop k) (iS σ D X) ρd ρs):PWD n ops K l σ ρd ρs:=by
 unfold rN at h
 cases ht:rL (l.take k)
 ·rw [ht] at h;unfold iy at h;split at h <;> cases h
 rw [ht] at h
 obtain ⟨r,h1,h2,h3⟩:=qD hF h
 have:=rM ht h1 h2 hF tC (wq h3 hw)
 rwa [List.take_append_drop] at this
end
def Found (v:Value) (es:List MapEntry) (r:Option (Nat×Value)):Prop:=(r=none∧∀ e∈es,e.key≠v)∨∃ i e,r=some (i,e.val)∧es[i]?=some e∧e.key=v
structure KeyLaw (kt:Nat) (P:Value→Prop):Prop where
 chk:∀ v,P v→∀ e w,(Instr.checkKey e 10000 kt v).run Tryz.prog w=.ok () w
 find:∀ v es,P v→(∀ e∈es,P e.key)→∀ w,∃ r,(Instr.findKey kt v es).run Tryz.prog w=.ok r w∧Found v es r
 same:∀ v,P v→Instr.sameBits 10000 v v=true
def PairKey (v:Value):Prop:=∃ a b,v=.agg #[.int .i64 a,.int .i64 b]
theorem oT {kt:Nat} {P:Value→Prop} (he:∀ v u,P v→P u→∀ w,∃ b,(Op.equal kt v u).run Tryz.prog w=.ok b w∧(b=true↔v=u)) {v:Value} (hv:P v):∀ (es:List MapEntry) (i:Nat),(∀ e∈es,P e.key)→∀ w,∃ r,(Instr.findAsking kt v es i).run Tryz.prog w=.ok r w∧((r=none∧∀ e∈es,e.key≠v)∨∃ j e,r=some (i+j,e.val)∧es[j]?=some e∧e.key=v):=by
 intro es
 induction es with
 | nil=>intro i _ w;exact ⟨none,by simp [Instr.findAsking],.inl ⟨rfl,fun e h=>by cases h⟩⟩
 | cons e es ih =>
  intro i h w
  obtain ⟨b,h1,h2⟩:=he v e.key hv (h e (by simp)) w
  unfold Instr.findAsking
  simp only [Sem.run_bind,h1,Result.andThen_ok]
  cases b with
  | true =>
   refine ⟨some (i,e.val),by simp,.inr ⟨0,e,by simp,rfl,(h2.1 rfl).symm⟩⟩
  | false =>
   obtain ⟨r,g1,g2⟩:=ih (i+1) (fun x hx=>h x (by simp [hx])) w
   refine ⟨r,by simpa using g1,?_⟩
   rcases g2 with ⟨g2,g3⟩ | ⟨j,x,g2,g3,g4⟩
   ·left
    refine ⟨g2,fun x hx=>?_⟩
    rcases List.mem_cons.1 hx with rfl | hx
    ·intro hh;have:=h2.2 hh.symm;cases this
    exact g3 x hx
   right;exact ⟨j+1,x,by rw [g2];congr 2;omega,g3,g4⟩
theorem wr {kt:Nat} (f1 f2:Field) (hu:cP kt=some (.struct #[f1,f2])) (h1:Tryz.prog.underlying kt=some (.struct (Tryz.prog.fieldsOf kt))) (h2:Tryz.prog.stoodInHeld kt=false) (n1:f1.name ≠ "_") (n2:f2.name ≠ "_") (o1:f1.offset=0) (o2:f2.offset=1) (t1:cP f1.type=some (.int .i64)) (t2:cP f2.type=some (.int .i64)):KeyLaw kt PairKey:=by
 have hf:Tryz.prog.fieldsOf kt=#[f1,f2]:=by
  have:=(bd hu).symm.trans h1
  injection this with this;injection this with this;exact this.symm
 have pt:∀ (cs:Array Value) (f:Field) (v:Value) (w:World),cP f.type=some (.int .i64)→cs[f.offset]?=some v→(part f.type cs f.offset).run Tryz.prog w=.ok v w:=fun cs f v w ht hv=>by
  simp [part,gf ht,fJ,hv]
 have ck:∀ e n t a w,cP t=some (.int .i64)→(Instr.checkKey e (n+1) t (.int .i64 a)).run Tryz.prog w=.ok () w:=fun e n t a w ht=>by simp [Instr.checkKey,run_underlying (bd ht)]
 have eq:∀ v u,PairKey v→PairKey u→∀ w,∃ b,(Op.equal kt v u).run Tryz.prog w=.ok b w∧(b=true↔v=u):=by
  rintro v u ⟨a,b,rfl⟩ ⟨c,d,rfl⟩ w
  refine ⟨(a == c)&&(b == d),?_,?_⟩
  ·show (Op.equalIn (9999+1) kt _ _).run Tryz.prog w=_
   rw [run_equalIn_struct w 9999 kt _ _ h1 h2,hf]
   have e1:=pt #[.int .i64 a,.int .i64 b] f1 (.int .i64 a) w t1 (by rw [o1];rfl)
   have e2:=pt #[.int .i64 c,.int .i64 d] f1 (.int .i64 c) w t1 (by rw [o1];rfl)
   have e3:=pt #[.int .i64 a,.int .i64 b] f2 (.int .i64 b) w t2 (by rw [o2];rfl)
   have e4:=pt #[.int .i64 c,.int .i64 d] f2 (.int .i64 d) w t2 (by rw [o2];rfl)
   have q1:(Op.equalIn 9999 f1.type (.int .i64 a) (.int .i64 c)).run Tryz.prog w=.ok (a == c) w:=run_equalIn_int w 9998 f1.type .i64 .i64 a c (bd t1)
   have q2:(Op.equalIn 9999 f2.type (.int .i64 b) (.int .i64 d)).run Tryz.prog w=.ok (b == d) w:=run_equalIn_int w 9998 f2.type .i64 .i64 b d (bd t2)
   show (Op.eqFields 9999 _ _ [f1,f2]).run Tryz.prog w=_
   simp only [Op.eqFields,if_pos n1,if_pos n2,Sem.run_bind,e1,e2,Result.andThen_ok,q1]
   cases (a == c)
   ·simp
   simp only [Bool.not_true,Bool.false_eq_true,if_false,Sem.run_bind,e3,e4,Result.andThen_ok,q2,if_true]
   cases (b == d) <;> simp
  simp only [Bool.and_eq_true,beq_iff_eq]
  constructor
  ·rintro ⟨rfl,rfl⟩;rfl
  intro h;injection h with h;simp at h;exact h
 refine ⟨?_,?_,?_⟩
 ·rintro v ⟨a,b,rfl⟩ e w
  have e1:=pt #[.int .i64 a,.int .i64 b] f1 (.int .i64 a) w t1 (by rw [o1];rfl)
  have e3:=pt #[.int .i64 a,.int .i64 b] f2 (.int .i64 b) w t2 (by rw [o2];rfl)
  have:∀ n,(Instr.checkKey e (n+1+1) kt (.agg #[.int .i64 a,.int .i64 b])).run Tryz.prog w=.ok () w:=fun n=>by
   rw [Instr.checkKey]
   simp only [Sem.run_bind,run_underlying (bd hu),Result.andThen_ok]
   rw [← Array.forIn_toList]
   simp [List.forIn_cons,n1,n2,e1,e3,ck e n f1.type a w t1,ck e n f2.type b w t2]
  exact this 9998
 ·intro v es hv hes w
  cases es with
  | nil =>
   refine ⟨none,?_,.inl ⟨rfl,fun e h=>by cases h⟩⟩
   simp [Instr.findKey,Instr.findNow,run_underlying (bd hu)]
  | cons e es =>
   obtain ⟨r,g1,g2⟩:=oT eq hv (e::es) 0 hes w
   refine ⟨r,?_,?_⟩
   ·have:Instr.findNow (.struct #[f1,f2]) v (e::es) 0=none:=by
     obtain ⟨a,b,rfl⟩:=hv
     simp [Instr.findNow,Instr.sameNow]
    simp [Instr.findKey,run_underlying (bd hu),this,g1]
   ·rcases g2 with g2 | ⟨j,x,g2,g3⟩
    ·exact .inl g2
    exact .inr ⟨j,x,by rw [g2,Nat.zero_add],g3⟩
 rintro v ⟨a,b,rfl⟩
 have:∀ n,Instr.sameBits (n+1+1) (.agg #[.int .i64 a,.int .i64 b]) (.agg #[.int .i64 a,.int .i64 b])=true:=fun n=>by simp [Instr.sameBits]
 exact this 9998
section
variable {K V:Type} [DecidableEq K]
def dm:List (K×V)→K→Option V
 | [],_=>none
 | (a,v)::r,k=>if a=k then some v else dm r k
def lg:List (K×V)→K→V→List (K×V)
 | [],k,v=>[(k,v)]
 | (a,w)::r,k,v=>if a=k then (k,v)::r else (a,w)::lg r k v
def mpos:List (K×V)→K→Nat
 | [],_=>0
 | (a,_)::r,k=>if a=k then 0 else mpos r k+1
def MND (xs:List (K×V)):Prop:=xs.Pairwise fun a b=>a.1≠b.1
theorem uD {xs:List (K×V)} {k:K} (h:∀ p∈xs,p.1≠k):dm xs k=none:=by
 induction xs with
 | nil=>rfl
 | cons p r ih =>
  obtain ⟨a,v⟩:=p
  unfold dm
  rw [if_neg (h (a,v) (by simp)),ih (fun p hp=>h p (by simp [hp]))]
theorem uE {xs:List (K×V)} {k:K} (h:∀ p∈xs,p.1≠k) (v:V):lg xs k v=xs++[(k,v)]:=by
 induction xs with
 | nil=>rfl
 | cons p r ih =>
  obtain ⟨a,w⟩:=p
  unfold lg
  rw [if_neg (h (a,w) (by simp)),ih (fun p hp=>h p (by simp [hp]))];rfl
theorem tD {xs:List (K×V)} (nd:MND xs) {k:K} {v:V}:∀ {i:Nat},xs[i]?=some (k,v)→dm xs k=some v∧mpos xs k=i∧∀ u,lg xs k u=xs.set i (k,u):=by
 induction xs with
 | nil=>intro i h;simp at h
 | cons p r ih =>
  obtain ⟨a,w⟩:=p
  intro i h
  unfold MND at nd
  rw [List.pairwise_cons] at nd
  cases i with
  | zero =>
   simp only [List.getElem?_cons_zero,cu,Prod.mk.injEq] at h
   obtain ⟨rfl,rfl⟩:=h
   unfold dm mpos lg
   simp
  | succ i =>
   simp only [List.getElem?_cons_succ] at h
   have hne:a≠k:=nd.1 (k,v) (List.mem_of_getElem? h)
   obtain ⟨h1,h2,h3⟩:=ih nd.2 h
   unfold dm mpos lg
   rw [if_neg hne,if_neg hne]
   refine ⟨h1,by rw [h2],fun u=>?_⟩
   rw [if_neg hne,h3];rfl
def ex (ek:K→Value) (ev:V→PV) (xs:List (K×V)):List (Value×PV):=xs.map fun p=>(ek p.1,ev p.2)
structure KEnc (kt:Nat) (ek:K→Value):Prop where
 law:∃ P,KeyLaw kt P∧∀ a,P (ek a)
 inj:∀ a b,ek a=ek b→a=b
end
section
variable {κ:Kr}
theorem KVs.get:∀ {kvs:List (Value×PV)} {es:List MapEntry} {i:Nat} {e:MapEntry},KVs κ kvs es→es[i]?=some e→∃ p,kvs[i]?=some (e.key,p)∧Rp κ p e.val
 | _,_,0,_,.cons h _,g=>by simp only [List.getElem?_cons_zero,cu] at g;subst g;exact ⟨_,rfl,h⟩
 | _,_,i+1,_,.cons _ hs,g=>by simp only [List.getElem?_cons_succ] at g ⊢;exact hs.get g
theorem KVs.get':∀ {kvs:List (Value×PV)} {es:List MapEntry} {i:Nat} {k:Value} {p:PV},KVs κ kvs es→kvs[i]?=some (k,p)→∃ e,es[i]?=some e∧e.key=k∧Rp κ p e.val
 | _,_,0,_,_,.cons h _,g=>by simp only [List.getElem?_cons_zero,cu,Prod.mk.injEq] at g;obtain ⟨rfl,rfl⟩:=g;exact ⟨_,rfl,rfl,h⟩
 | _,_,i+1,_,_,.cons _ hs,g=>by simp only [List.getElem?_cons_succ] at g ⊢;exact hs.get' g
theorem KVs.keys:∀ {kvs:List (Value×PV)} {es:List MapEntry},KVs κ kvs es→kvs.map (·.1)=es.map (·.key)
 | _,_,.nil=>rfl
 | _,_,.cons _ hs=>by simp [hs.keys]
theorem KVs.app:∀ {ps qs:List (Value×PV)} {es fs:List MapEntry},KVs κ ps es→KVs κ qs fs→KVs κ (ps++qs) (es++fs)
 | _,_,_,_,.nil,h=>h
 | _,_,_,_,.cons h hs,g=>.cons h (hs.app g)
theorem KVs.set:∀ {kvs:List (Value×PV)} {es:List MapEntry} {i:Nat} {e e':MapEntry} {p:PV},KVs κ kvs es→es[i]?=some e→e'.key=e.key→Rp κ p e'.val→KVs κ (kvs.set i (e.key,p)) (es.set i e')
 | _,_,0,_,_,_,.cons h hs,g,hk,hp=>by simp only [List.getElem?_cons_zero,cu] at g;subst g;rw [← hk];exact .cons hp hs
 | _,_,i+1,_,_,_,.cons h hs,g,hk,hp=>by simp only [List.getElem?_cons_succ] at g;exact .cons h (hs.set g hk hp)
theorem sN {α:Type} {R:α→α→Prop}:∀ {l:List α} {i:Nat} {a a':α},l.Pairwise R→l[i]?=some a→(∀ x,R x a→R x a')→(∀ x,R a x→R a' x)→(l.set i a').Pairwise R
 | _::l,0,a,a',h,g,h1,h2=>by
  simp only [List.getElem?_cons_zero,cu] at g;subst g
  rw [List.pairwise_cons] at h
  exact List.pairwise_cons.2 ⟨fun x hx=>h2 x (h.1 x hx),h.2⟩
 | b::l,i+1,a,a',h,g,h1,h2=>by
  simp only [List.getElem?_cons_succ] at g
  rw [List.pairwise_cons] at h
  refine List.pairwise_cons.2 ⟨fun x hx=>?_,sN h.2 g h1 h2⟩
  rcases List.mem_or_eq_of_mem_set hx with hx | rfl
  ·exact h.1 x hx
  exact h1 b (h.1 a (List.mem_of_getElem? g))
theorem MapWf.set {es:List MapEntry} {clock i:Nat} {e e':MapEntry} (h:MapWf es clock) (g:es[i]?=some e) (hk:e'.key=e.key) (hb:e'.born=e.born):MapWf (es.set i e') clock where
 nd:=sN h.nd g (fun x hx=>by rw [hk];exact hx) (fun x hx=>by rw [hk];exact hx)
 bn:=sN h.bn g (fun x hx=>by rw [hb];exact hx) (fun x hx=>by rw [hb];exact hx)
 lt:=fun x hx=>by
  rcases List.mem_or_eq_of_mem_set hx with hx | rfl
  ·exact h.lt x hx
  rw [hb];exact h.lt e (List.mem_of_getElem? g)
theorem MapWf.push {es:List MapEntry} {clock:Nat} (h:MapWf es clock) {k v:Value} (hk:∀ e∈es,e.key≠k):MapWf (es++[⟨k,v,clock⟩]) (clock+1) where
 nd:=List.pairwise_append.2 ⟨h.nd,by simp,fun a ha b hb=>by simp at hb;subst hb;exact hk a ha⟩
 bn:=List.pairwise_append.2 ⟨h.bn,by simp,fun a ha b hb=>by simp at hb;subst hb;have:=h.lt a ha;show a.born≠clock;omega⟩
 lt:=fun x hx=>by
  rcases List.mem_append.1 hx with hx | hx
  ·have:=h.lt x hx;omega
  simp at hx;subst hx;show clock<clock+1;omega
end
section
variable {K V:Type} {ek:K→Value} {ev:V→PV} {xs:List (K×V)} {κ:Kr} {es:List MapEntry} {clock kt:Nat}
theorem rO {i:Nat} {k':Value} {p:PV} (h:(ex ek ev xs)[i]?=some (k',p)):∃ k v,xs[i]?=some (k,v)∧k'=ek k∧p=ev v:=by
 unfold ex at h
 rw [List.getElem?_map] at h
 cases e:xs[i]? with
 | none=>rw [e] at h;cases h
 | some q=>rw [e] at h;simp only [Option.map_some,cu,Prod.mk.injEq] at h;exact ⟨q.1,q.2,rfl,h.1.symm,h.2.symm⟩
theorem tE (h:KVs κ (ex ek ev xs) es) (hw:MapWf es clock):MND xs:=by
 have h1:(es.map (·.key)).Pairwise (· ≠ ·):=List.pairwise_map.2 hw.nd
 rw [← h.keys,ex,List.map_map,List.pairwise_map] at h1
 exact h1.imp fun hab e=>hab (by simp [e])
theorem sO {P:Value→Prop} (hP:∀ a,P (ek a)) (h:KVs κ (ex ek ev xs) es):∀ e∈es,P e.key:=by
 intro e he
 obtain ⟨i,hi,rfl⟩:=List.getElem_of_mem he
 obtain ⟨p,h1,_⟩:=h.get (List.getElem?_eq_getElem hi)
 obtain ⟨k,v,_,h2,_⟩:=rO h1
 rw [h2];exact hP k
theorem lZ (hinj:∀ a b,ek a=ek b→a=b) (h:KVs κ (ex ek ev xs) es) (hw:MapWf es clock) {k:K} {r:Option (Nat×Value)} (hf:Found (ek k) es r):(r=none∧(∀ p∈xs,p.1≠k)∧∀ e∈es,e.key≠ek k)∨∃ i e v,r=some (i,e.val)∧es[i]?=some e∧e.key=ek k∧xs[i]?=some (k,v)∧Rp κ (ev v) e.val:=by
 rcases hf with ⟨h1,h2⟩ | ⟨i,e,h1,h2,h3⟩
 ·left
  refine ⟨h1,fun p hp hpk=>?_,h2⟩
  obtain ⟨i,hi,rfl⟩:=List.getElem_of_mem hp
  have:(ex ek ev xs)[i]?=some (ek k,ev xs[i].2):=by unfold ex;rw [List.getElem?_map,List.getElem?_eq_getElem hi];simp [hpk]
  obtain ⟨e,g1,g2,_⟩:=h.get' this
  exact h2 e (List.mem_of_getElem? g1) g2
 right
 obtain ⟨p,g1,g2⟩:=h.get h2
 obtain ⟨k',v,g3,g4,g5⟩:=rO g1
 have:k'=k:=hinj _ _ (g4.symm.trans h3)
 subst this
 exact ⟨i,e,v,h1,h2,h3,g3,by rw [← g5];exact g2⟩
end
section
variable {κ:Kr} {σ:Env} {ρ:List Res} {o:Oper} {K:Value→List Res→Kr→Prop}
theorem sP {t:Nat} (ho:o.op=.makeMap t none) (h:∀ b κ',Kle κ κ'→K (.map (some b)) (Res.mp (some b) [] 0::ρ) κ'):OpL o σ ρ κ K:=fun β hi Nx hk=>by
 unfold execOp
 simp only [ho,Option.map_none,Instr.makeMap,Sem.run_bind,run_newObj_alloc,Result.andThen_ok,Sem.run_pure,OutV]
 exact hk _ _ _ (hi.alloc _ (Res.mp (some κ.w.heap.size) [] 0) rfl rfl) (cH hi.fin _) (h _ _ (cH hi.fin _))
end
theorem n8 {b clock:Nat} {es:Array MapEntry} {w:World} (hb:w.heap[b]?=some (.map es clock)):(getObj b).run Tryz.prog w=.ok (.map es clock) w:=by simp [getObj,Sem.run,hb]
theorem rP {b clock:Nat} {es:Array MapEntry} {w:World} (o:Obj) (hb:w.heap[b]?=some (.map es clock)):(setObj b o).run Tryz.prog w=.ok () { w with heap:=w.heap.setIfInBounds b o }:=by simp [setObj,Sem.run,hb]
theorem pE {α:Type} {f:α→α}:∀ {l:List α} {i:Nat} {e:α},l[i]?=some e→l.modify i f=l.set i (f e)
 | _::_,0,_,h=>by simp only [List.getElem?_cons_zero,cu] at h;subst h;rfl
 | _::l,i+1,_,h=>by simp only [List.getElem?_cons_succ] at h;simp [pE h]
theorem sQ {t kt et b clock:Nat} {z v:Value} {sz by':Nat} {P:Value→Prop} (ht:cP t=some (.map kt et)) (hz:dG et=some (z,sz,by')) (L:KeyLaw kt P) (hv:P v) {es:List MapEntry} (hes:∀ e∈es,P e.key) {w:World} (hb:w.heap[b]?=some (.map es.toArray clock)) (c:Bool):∃ r,Found v es r∧(Instr.lookup t (.map (some b)) v c).run Tryz.prog w=.ok (if c then .tuple #[(r.map (·.2)).getD z,.bool r.isSome] else (r.map (·.2)).getD z) w:=by
 obtain ⟨r,h1,h2⟩:=L.find v es hv hes w
 refine ⟨r,h2,?_⟩
 simp only [Instr.lookup,Sem.run_bind,run_underlying (bd ht),Result.andThen_ok,n8 hb,Sem.run_pure,L.chk v hv,h1]
 cases r with
 | none=>simp [cx hz]
 | some q=>simp
theorem n9 {t kt et:Nat} {z v:Value} {sz by':Nat} {P:Value→Prop} (ht:cP t=some (.map kt et)) (hz:dG et=some (z,sz,by')) (L:KeyLaw kt P) (hv:P v) {w:World} (c:Bool):(Instr.lookup t (.map none) v c).run Tryz.prog w=.ok (if c then .tuple #[z,.bool false] else z) w:=by
 obtain ⟨r,h1,h2⟩:=L.find v [] hv (fun e h=>by cases h) w
 have hr:r=none:=by
  rcases h2 with h2 | ⟨i,e,_,h2,_⟩
  ·exact h2.1
  simp at h2
 subst hr
 simp [Instr.lookup,run_underlying (bd ht),L.chk v hv,h1,cx hz]
theorem oU {t kt et b clock:Nat} {v u:Value} {P:Value→Prop} (ht:cP t=some (.map kt et)) (L:KeyLaw kt P) (hv:P v) {es:List MapEntry} (hes:∀ e∈es,P e.key) {w:World} (hb:w.heap[b]?=some (.map es.toArray clock)):∃ r es' clock',Found v es r∧(Instr.mapUpdate t (.map (some b)) v u).run Tryz.prog w=.ok () { w with heap:=w.heap.setIfInBounds b (.map es'.toArray clock') }∧((r=none∧es'=es++[⟨v,u,clock⟩]∧clock'=clock+1)∨∃ i e,es[i]?=some e∧e.key=v∧r=some (i,e.val)∧es'=es.set i ⟨v,u,e.born⟩∧clock'=clock):=by
 obtain ⟨r,h1,h2⟩:=L.find v es hv hes w
 have h2':=h2
 rcases h2 with ⟨rfl,h3⟩ | ⟨i,e,rfl,h3,h4⟩
 ·refine ⟨none,es++[⟨v,u,clock⟩],clock+1,h2',?_,.inl ⟨rfl,rfl,rfl⟩⟩
  simp only [Instr.mapUpdate,Sem.run_bind,run_underlying (bd ht),Result.andThen_ok,n8 hb,L.chk v hv,h1,rP _ hb]
  simp
 refine ⟨some (i,e.val),es.set i ⟨v,u,e.born⟩,clock,h2',?_,.inr ⟨i,e,h3,h4,rfl,rfl,rfl⟩⟩
 have hk:((es.toArray[i]?).map (·.key)).getD v=v:=by simp [h3,h4]
 have hst:(Instr.keyThatStays v v).run Tryz.prog w=.ok v w:=by simp [Instr.keyThatStays,L.same v hv]
 have hm:es.toArray.modify i (fun x=>({ x with key:=v,val:=u }:MapEntry))=(es.set i ⟨v,u,e.born⟩).toArray:=by
  apply Array.ext'
  simp only [Array.toList_modify]
  rw [pE h3]
 simp only [Instr.mapUpdate,Sem.run_bind,run_underlying (bd ht),Result.andThen_ok,n8 hb,L.chk v hv,h1,hk,hst,hm,rP _ hb]
section
variable {K V:Type} [DecidableEq K] {ek:K→Value} {vv:V→PV} {xs:List (K×V)} {κ:Kr} {es:List MapEntry} {clock kt:Nat}
theorem wu {es':List MapEntry} {clock':Nat} {k:K} {v:V} {u:Value} {r:Option (Nat×Value)} (hinj:∀ a b,ek a=ek b→a=b) (hw:MapWf es clock) (h:KVs κ (ex ek vv xs) es) (hf:Found (ek k) es r) (hv:Rp κ (vv v) u)
    (hc:(r=none∧es'=es++[⟨ek k,u,clock⟩]∧clock'=clock+1)∨∃ i e,es[i]?=some e∧e.key=ek k∧r=some (i,e.val)∧es'=es.set i ⟨ek k,u,e.born⟩∧clock'=clock):MapWf es' clock'∧KVs κ (ex ek vv (lg xs k v)) es':=by
  rcases hc with ⟨rfl,rfl,rfl⟩ | ⟨i,e,h1,h2,rfl,rfl,rfl⟩
  · rcases lZ hinj h hw hf with ⟨_,h3,h4⟩ | ⟨i,e,v,h3,_⟩
    · refine ⟨hw.push h4,?_⟩
      rw [uE h3,ex,List.map_append]
      exact h.app (.cons (e:=⟨ek k,u,clock⟩) hv .nil)
    cases h3
  rcases lZ hinj h hw hf with ⟨h3,_⟩ | ⟨i',e',v',h3,h4,h5,h6,h7⟩
  · cases h3
  have hi:i'=i:=by injection h3 with h3;injection h3 with h3 _;exact h3.symm
  subst hi
  refine ⟨hw.set h1 h2.symm rfl,?_⟩
  rw [(tD (tE h hw) h6).2.2 v,ex,List.map_set]
  have:=h.set h1 (e':=⟨ek k,u,e.born⟩) h2.symm hv
  rw [h2] at this
  exact this
theorem wv {k:K} {z0:V} {z:Value} {r:Option (Nat×Value)} (hinj:∀ a b,ek a=ek b→a=b) (hw:MapWf es clock) (h:KVs κ (ex ek vv xs) es) (hf:Found (ek k) es r) (hz:Rp κ (vv z0) z):Rp κ (vv ((dm xs k).getD z0)) ((r.map (·.2)).getD z)∧r.isSome=(dm xs k).isSome:=by
 rcases lZ hinj h hw hf with ⟨rfl,h3,h4⟩ | ⟨i,e,v,rfl,h4,h5,h6,h7⟩
 ·rw [uD h3];exact ⟨hz,rfl⟩
 rw [(tD (tE h hw) h6).1];exact ⟨h7,rfl⟩
end
theorem mz {w:World} {b i:Nat} {o:Obj} (h:i≠b):({ w with heap:=w.heap.setIfInBounds b o }:World).heap[i]?=w.heap[i]?:=by
 show (w.heap.setIfInBounds b o)[i]?=_
 rw [Array.getElem?_setIfInBounds_ne (fun e=>h e.symm)]
theorem mA {w:World} {b:Nat} {o o':Obj} (h:w.heap[b]?=some o'):({ w with heap:=w.heap.setIfInBounds b o }:World).heap[b]?=some o:=by
 show (w.heap.setIfInBounds b o)[b]?=_
 have:b<w.heap.size:=by
  rcases Nat.lt_or_ge b w.heap.size with h1 | h1
  ·exact h1
  rw [Array.getElem?_eq_none h1] at h;cases h
 rw [Array.getElem?_setIfInBounds_self_of_lt this]
theorem Zm.mapTurn {β:Base} {l1 l2:List Res} {κ:Kr} {b clock clock':Nat} {es es':List MapEntry} (h:Zm β (l1++Res.mp (some b) es clock::l2) κ):Zm β (l1++Res.mp (some b) es' clock'::l2) ⟨{ κ.w with heap:=κ.w.heap.setIfInBounds b (.map es'.toArray clock') },κ.S⟩∧Kle κ ⟨{ κ.w with heap:=κ.w.heap.setIfInBounds b (.map es'.toArray clock') },κ.S⟩:=by
 have hb:κ.w.heap[b]?=some (.map es.toArray clock):=h.own (Res.mp (some b) es clock) (by simp)
 exact h.turn (r:=Res.mp (some b) es clock) (r':=Res.mp (some b) es' clock') (b:=b) rfl rfl rfl (fun i hi=>mz hi) (by simp) (mA hb) rfl rfl rfl (Nat.le_refl _)
section
variable {K V:Type} [DecidableEq K] {ek:K→Value} {vv:V→PV} {xs:List (K×V)} {o:Oper} {σ:PEnv} {ρ ρ':List PRes} {c:Bool} {x y y2:Operand} {t kt et:Nat} {KK:PV→List PRes→Prop} {k:K} {v z0:V} {z:Value} {sz by' b:Nat} {pk:PV} {mo:Option Nat}
theorem sR (ho:o.op=.makeMap t none) (h:∀ b,KK (.v (.map (some b))) (.mp (some b) []::ρ)):POpL o σ ρ KK:=fun κ σ' ρ' g hs hr =>
 sP ho fun b κ' hk=>⟨_,_,.v rfl,.cons (.mp (fun h=>by cases h) ⟨.nil,.nil,fun e h=>by cases h⟩ .nil) (hr.mono hk),h b⟩
def MapIs (ρ:List PRes) (mo:Option Nat) (kvs:List (Value×PV)):Prop:=∀ κ rs,RRels κ ρ rs→∃ es clock,Res.mp mo es clock∈rs∧(mo=none→es=[])∧MapWf es clock∧KVs κ kvs es
theorem oa {kvs:List (Value×PV)} (h:PRes.mp mo kvs∈ρ):MapIs ρ mo kvs:=fun κ rs hr=>by
 obtain ⟨r,h1,h2⟩:=hr.mem h
 cases h2 with
 | mp hn hw hk=>exact ⟨_,_,h1,hn,hw,hk⟩
theorem sS {es:List MapEntry} {clock:Nat} (hw:MapWf es clock) {u:Value} {r r':Option (Nat×Value)} (h:Found u es r) (h':Found u es r'):r=r':=by
 rcases h with ⟨rfl,h1⟩ | ⟨i,e,rfl,h1,h2⟩ <;> rcases h' with ⟨rfl,h3⟩ | ⟨j,f,rfl,h3,h4⟩
 ·rfl
 ·exact absurd h4 (h1 f (List.mem_of_getElem? h3))
 ·exact absurd h2 (h3 e (List.mem_of_getElem? h1))
 have hij:i=j:=by
  obtain ⟨li,ei⟩:=List.getElem?_eq_some_iff.1 h1
  obtain ⟨lj,ej⟩:=List.getElem?_eq_some_iff.1 h3
  have pw:=List.pairwise_iff_getElem.1 hw.nd
  rcases Nat.lt_trichotomy i j with h | h | h
  ·exact absurd (by rw [ei,ej,h2,h4]) (pw i j li lj h)
  ·exact h
  exact absurd (by rw [ei,ej,h2,h4]) (pw j i lj li h)
 subst hij
 rw [h1] at h3;injection h3 with h3;rw [h3]
theorem ww (cm:Bool) (ho:o.op=.lookup t x y cm) (ht:cP t=some (.map kt et)) (hz:dG et=some (z,sz,by')) (hzp:∀ κ,Rp κ (vv z0) z) (L:KEnc kt ek) (hx:PEv σ c x (.v (.map mo))) (hy:PEv σ c y pk) (hk:∀ κ u,Rp κ pk u→u=ek k) (hm:MapIs ρ mo (ex ek vv xs)) {κ:Kr} {σ':Env} {ρ':List Res} (hs:Sim κ σ σ') (hr:RRels κ ρ ρ'):c=true→∃ u,Rp κ (vv ((dm xs k).getD z0)) u∧∀ w,Stab ρ' κ w→(execOp (SX.ev σ') o).run Tryz.prog w=.ok (.value (if cm then .tuple #[u,.bool (dm xs k).isSome] else u)) w:=by
 intro hc
 obtain ⟨P,hL,hP⟩:=L.law
 have e1:SX.ev σ' x=.map mo:=hs.ve hx hc
 have e2:SX.ev σ' y=ek k:=hk κ _ (hs.pe hy hc)
 obtain ⟨es,clock,h1,hn,h2,h3⟩:=hm κ ρ' hr
 obtain ⟨r,g1,g2⟩:=hL.find (ek k) es (hP k) (sO hP h3) κ.w
 obtain ⟨l1,l2⟩:=wv L.inj h2 h3 g2 (hzp κ)
 refine ⟨_,l1,fun w hw=>?_⟩
 cases mo with
 | none =>
  have:=hn rfl;subst this
  have hr0:r=none:=by
   rcases g2 with g2 | ⟨i,e,_,g2,_⟩
   ·exact g2.1
   simp at g2
  subst hr0
  rw [← l2]
  simp only [execOp,ho,e1,e2,Sem.run_bind,n9 ht hz hL (hP k) cm,Result.andThen_ok,Sem.run_pure]
  rfl
 | some b =>
  have hb:w.heap[b]?=some (.map es.toArray clock):=hw.own _ h1
  obtain ⟨r',f1,f2⟩:=sQ ht hz hL (hP k) (sO hP h3) hb cm
  have:=sS h2 f1 g2;subst this
  rw [← l2]
  simp only [execOp,ho,e1,e2,Sem.run_bind,f2,Result.andThen_ok,Sem.run_pure]
theorem uF (ho:o.op=.lookup t x y false) (ht:cP t=some (.map kt et)) (hz:dG et=some (z,sz,by')) (hzp:∀ κ,Rp κ (vv z0) z) (L:KEnc kt ek) (hx:PEv σ c x (.v (.map mo))) (hy:PEv σ c y pk) (hk:∀ κ u,Rp κ pk u→u=ek k) (hm:MapIs ρ mo (ex ek vv xs)):POpQ c o σ ρ (vv ((dm xs k).getD z0)):=fun κ σ' ρ' g hs hr=>by
 cases c with
 | false=>exact tn
 | true =>
  obtain ⟨u,h1,h2⟩:=ww false ho ht hz hzp L hx hy hk hm hs hr rfl
  exact ⟨u,fun _=>h1,fun _ w hw=>h2 w hw⟩
theorem mB (ho:o.op=.lookup t x y true) (ht:cP t=some (.map kt et)) (hz:dG et=some (z,sz,by')) (hzp:∀ κ,Rp κ (vv z0) z) (L:KEnc kt ek) (hx:PEv σ c x (.v (.map mo))) (hy:PEv σ c y pk) (hk:∀ κ u,Rp κ pk u→u=ek k) (hm:MapIs ρ mo (ex ek vv xs)):POpQ c o σ ρ (.tup [vv ((dm xs k).getD z0),.v (.bool (dm xs k).isSome)]):=fun κ σ' ρ' g hs hr=>by
 cases c with
 | false=>exact tn
 | true =>
  obtain ⟨u,h1,h2⟩:=ww true ho ht hz hzp L hx hy hk hm hs hr rfl
  exact ⟨_,fun _=>.tup (ws:=[u,.bool (dm xs k).isSome]) (.cons h1 (.cons (.v rfl) .nil)),fun _ w hw=>h2 w hw⟩
theorem lG (ho:o.op=.mapUpdate t x y y2) (ht:cP t=some (.map kt et)) (L:KEnc kt ek) (hx:ba σ x=.v (.map (some b))) (hy:ba σ y=pk) (hk:∀ κ u,Rp κ pk u→u=ek k) (hv:ba σ y2=vv v) (hu:PUpd ρ (.mp (some b) (ex ek vv xs)) (.mp (some b) (ex ek vv (lg xs k v))) ρ') (h:KK (.v undef) ρ'):POpL o σ ρ KK:=fun κ σ' rr g hs hr=>by
 obtain ⟨P,hL,hP⟩:=L.law
 obtain ⟨r0,l1,l2,rfl,h4,h5⟩:=hr.upd hu
 cases h4 with
 | mp hn hw hkv =>
  rename_i es clock
  intro β hi Nx hnx
  have hb:κ.w.heap[b]?=some (.map es.toArray clock):=hi.own (Res.mp (some b) es clock) (by simp)
  have e1:SX.ev σ' x=.map (some b):=hs.v1 hx
  have e2:SX.ev σ' y=ek k:=hk κ _ (by have:=hs.ev y;rwa [hy] at this)
  have rv:Rp κ (vv v) (SX.ev σ' y2):=by have:=hs.ev y2;rwa [hv] at this
  obtain ⟨r,es',clock',f1,f2,f3⟩:=oU (u:=SX.ev σ' y2) ht hL (hP k) (sO hP hkv) hb
  obtain ⟨w1,w2⟩:=wu (v:=v) L.inj hw hkv f1 rv f3
  obtain ⟨i1,i2⟩:=hi.mapTurn (es':=es') (clock':=clock')
  simp only [execOp,ho,e1,e2,Sem.run_bind,f2,Result.andThen_ok,Sem.run_pure,OutV]
  exact hnx _ _ _ i1 i2 ⟨.v undef,ρ',.v rfl,h5 _ _ i2 (.mp (fun h=>by cases h) w1 (w2.mono i2)),h⟩
end
def kP (a b:Int):Value:=.agg #[.int .i64 a,.int .i64 b]
def vI (a:Int):PV:=.v (.int .i64 a)
def vT (a:Bool):PV:=.v (.bool a)
theorem od {a b:Int}:∀ (κ:Kr) (u:Value),Rp κ (.agg [.v (.int .i64 a),.v (.int .i64 b)]) u→u=kP a b:=fun κ u h=>by
 cases h with
 | agg ho hc =>
  have:=na (xs:=[.int .i64 a,.int .i64 b]) rfl hc
  rw [this];rfl
theorem mC {K V:Type} {o:Oper} {σ:PEnv} {ρ:List PRes} {t:Nat} {KK:PV→List PRes→Prop} (ek:K→Value) (vv:V→PV) (ho:o.op=.makeMap t none) (h:∀ b,KK (.v (.map (some b))) (.mp (some b) (ex ek vv [])::ρ)):POpL o σ ρ KK:=sR ho h
section
variable {n:Nat} {ops:Array Oper} {o:Oper} {rest:List Oper} {K:PPost} {σ:PEnv} {ρ:List PRes} {d:Nat}
end
def mk0 (by':Nat) (n:Int):Option Unit:=if 0≤n∧by'*n.toNat≤140737488355328∧n.toNat≤140737488355328 then some () else none
theorem sT {o:Oper} {σ:Env} {x:Operand} {t E sz by' n:Nat} {z:Value} {zs:List Value} (hg:o.guard=none) (ho:o.op=.makeSlice t (.const (.int .i64 0)) x) (hx:ev σ x=.int .i64 (n:Int)) (hu:cP t=some (.slice E)) (hi:dG E=some (z,sz,by')) (hz:bk z=zs) (hzl:zs.length=sz) (h0:Nat.blt 0 sz=true) (hb:by'*n≤140737488355328∧n≤140737488355328):LateRun o σ E (List.replicate n zs).flatten (fun b=>.slice (some ⟨b,0,none⟩) 0 n) :=
 ⟨hg,fun w=>by
  obtain ⟨i,hinf,hz0,hsz,hby⟩:=ju hi
  have hr:=run_make (P:=Tryz.prog) w t E i z (bd hu) hinf hz0 .i64 .i64 0 n (by omega) (by omega) (by rw [hby];have:=hb.1;omega) (by omega)
  simp only [Int.toNat_natCast,Int.toNat_zero] at hr
  have hcs:z.cells=zs.toArray:=by rw [← hz,← dM]
  have hsz':z.cells.size=sz:=by rw [hcs];simpa using hzl
  have h0':0<z.cells.size:=by rw [hsz'];have h:=h0;simp [Nat.blt] at h;omega
  rw [hsz,← hsz',qk h0',hcs] at hr
  have e0:ev σ (.const (.int .i64 0))=.int .i64 0:=rfl
  simp only [execOp,ho,hx,e0,Sem.run_bind,hr,Result.andThen_ok,Sem.run_pure]⟩
theorem uG {b T sz m:Nat} {cs:List Value} (hl:cs.length=m*sz) (hm:m≤140737488355328):∀ o,(Res.b b T cs).says o→(Res.row (some ⟨b,0,none⟩) 0 m T sz []).says o:=fun o h=>by
 have ho:o=some (.cells cs.toArray T (0,0)):=h
 exact ⟨rfl,rfl,fun _ h=>(by cases h),Nat.zero_le _,by unfold maxLen;omega,cs.toArray,ho,by simpa using hl,by simp⟩
theorem wx {o:Oper} {σ:PEnv} {ρ:List PRes} {x:Operand} {t T sz by':Nat} {K:PV→List PRes→Prop} {z:Value} {n:Int} {u:Unit} (hg:o.guard=none) (ho:o.op=.makeSlice t (.const (.int .i64 0)) x) (hx:ba σ x=.v (.int .i64 n)) (hu:cP t=some (.slice T)) (hi:dG T=some (z,sz,by')) (hzl:Nat.beq (bk z).length sz=true) (h0:Nat.blt 0 sz=true) (hm:mk0 by' n=some u)
    (h:∀ b,K (.v (.slice (some ⟨b,0,none⟩) 0 n.toNat)) (.row (some ⟨b,0,none⟩) 0 n.toNat T sz []::ρ)):POpL o σ ρ K:=fun κ σ' ρ' g hs hr=>by
  unfold mk0 at hm
  split at hm
  · rename_i hb
    obtain ⟨h1,h2,h3⟩:=hb
    have hn:n=((n.toNat:Nat):Int):=by omega
    have hlr:=sT (o:=o) (σ:=σ') (n:=n.toNat) hg ho (by rw [hs.v1 hx,← hn]) hu hi rfl (Nat.eq_of_beq_eq_true hzl) h0 ⟨h2,h3⟩
    intro β hinv Nx hk
    refine ql hlr (K:=fun v ρ1 κ1=>∃ b,v=.slice (some ⟨b,0,none⟩) 0 n.toNat∧ρ1=Res.b b T (List.replicate n.toNat (bk z)).flatten::ρ'∧Kle κ κ1) (fun b κ' hk=>⟨b,rfl,rfl,hk⟩) β hinv Nx fun v ρ1 κ1 g1 g2 g3=>?_
    obtain ⟨b,rfl,rfl,h4⟩:=g3
    have hlen:(List.replicate n.toNat (bk z)).flatten.length=n.toNat * sz:=by simp [Nat.eq_of_beq_eq_true hzl]
    have hv:=g1.view (r':=Res.row (some ⟨b,0,none⟩) 0 n.toNat T sz []) Pick.h rfl (uG hlen h3)
    exact hk _ _ κ1 hv g2 ⟨_,_,.v rfl,.cons (.row (by omega) (fun _ h=>by cases h) .nil) (hr.mono h4),h b⟩
  cases hm
theorem wy {a:Option Addr} {n c T sz k:Nat} {css:List (List Value)} (hk:k≤n):∀ o,(Res.row a n c T sz css).says o→(Res.row a k c T sz (css.take k)).says o:=fun o h=>by
 cases a with
 | none=>obtain ⟨rfl,rfl,rfl⟩:=h;exact ⟨by omega,rfl,by simp⟩
 | some ad =>
  obtain ⟨h1,h2,h3,h4,h5,cur,h6,h7,h8⟩:=h
  refine ⟨h1,by rw [List.length_take];omega,fun cs hcs=>h3 cs (List.mem_of_mem_take hcs),by omega,h5,cur,h6,h7,?_⟩
  have hle:k*sz≤n*sz:=Nat.mul_le_mul_right _ hk
  have e:cur.toList.take (k*sz)=(css.flatten).take (k*sz):=by rw [← h8,List.take_take,Nat.min_eq_left hle]
  rw [e]
  have hw:∀ cs∈css.take k,cs.length=sz:=fun cs hcs=>h3 cs (List.mem_of_mem_take hcs)
  have hl:((css.take k).flatten).length=k*sz:=by rw [cB hw,List.length_take];congr 1;omega
  have hsplit:css.flatten=(css.take k).flatten++(css.drop k).flatten:=by rw [← List.flatten_append,List.take_append_drop]
  rw [hsplit,List.take_append_of_le_length (by omega),List.take_of_length_le (by omega)]
theorem row_blk {a:Option Addr} {n c T sz k:Nat} {css dss:List (List Value)}:(Res.row a k c T sz dss).blk=(Res.row a n c T sz css).blk:=by cases a <;> rfl
theorem l7 {o:Oper} {σ:PEnv} {ρ l:List PRes} {x y:Operand} {t T T2 sz by' n c:Nat} {a:Option Addr} {kd:IntKind} {i:Int} {z:Value} {K:PV→List PRes→Prop} {α:Type} {enc:α→List PV} {xs zs:List α} (ho:o.op=.slice t x none (some y) none) (hu:cP t=some (.slice T)) (hi:dG T=some (z,sz,by')) (hx:ba σ x=.v (.slice a n c)) (hy:ba σ y=.v (.int kd i)) (hp:PPick ρ (.row a n c T2 sz (xs.map enc)) l) (hm:sub xs 0 i=some zs) (h:K (.v (.slice a zs.length c)) (.row a zs.length c T2 sz (zs.map enc)::l)):POpL o σ ρ K:=fun κ σ' ρ' g hs hr β hinv Nx hk=>by
 obtain ⟨⟨h0,h1,h2⟩,hz⟩:=dP hm
 have hz:zs=xs.take i.toNat:=by rw [hz];rfl
 obtain ⟨r,l',k1,k2,k3⟩:=hr.pick hp
 cases k2 with
 | row hb ho1 hc =>
  rename_i dss
  have hi2:=hinv.perm k1
  have hown:=eG (hi2.own (Res.row a n c T2 sz dss) (by simp))
  have hl:xs.length=n:=by have e:=hc.len;rw [List.length_map] at e;omega
  have hcap:n≤c:=by
   have hh:=hi2.own (Res.row a n c T2 sz dss) (by simp)
   cases a with
   | none=>obtain ⟨e1,e2,_⟩:=hh;omega
   | some ad=>exact hh.2.2.2.1
  have hq:OpQ true o σ' ρ' κ (.slice a i.toNat c):=k8 (c:=true) (k:=i.toNat) ho hu hi (.p (hs.v1 hx)) (.p (hs.v1 hy)) (fun _=>by omega) (fun _=>by omega)
  have hzl:zs.length=i.toNat:=by rw [hz,List.length_take];omega
  have hv:=hinv.view (r':=Res.row a i.toNat c T2 sz (dss.take i.toNat)) k1 row_blk (wy (by omega))
  rw [hq rfl κ.w hinv.stab]
  refine hk _ (Res.row a i.toNat c T2 sz (dss.take i.toNat)::l') κ hv (.refl _) ⟨.v (.slice a zs.length c),.row a zs.length c T2 sz (zs.map enc)::l,by rw [hzl];exact .v rfl,.cons ?_ k3,h⟩
  rw [hzl]
  refine .row (by omega) (fun d hd=>ho1 d (List.mem_of_mem_take hd)) ?_
  rw [hz,List.map_take]
  exact hc.take _
theorem wz {α:Type} {enc:α→List PV} {f T sz:Nat} {pargs:List PV} {r:List α} (h:PCall f pargs [] (fun pv ρ'=>∃ a c,pv=.v (.slice a r.length c)∧ρ'=[PRes.row a r.length c T sz (List.map enc r)])):PF f pargs (.slc r.length (List.map enc r)):=fun κ args g ha=>by
 refine ⟨(h κ args [] g ha .nil).1,fun hi=>((h κ args [] g ha .nil).2 hi).mono fun e w' ⟨v,ρ',κ',h1,h2,h3,pv,ρp,h4,h5,a,c,h6,h7⟩=>?_⟩
 subst h6 h7
 obtain ⟨r0,l',rfl,h8,h9⟩:=h5.cons_inv
 have:=h9.nil_inv;subst this
 cases h8 with
 | row hb ho hc =>
  obtain ⟨i1,i2,i3⟩:=mY h3
  exact ⟨v,[],sy κ' a,h1,by rw [qn];exact h2,i1,rfl,by rw [h4.val];exact .slc i3 hb ho (hc.mono i2)⟩
abbrev pQ (a:Option Addr) (n c k sz:Nat):PV:=.v (.slice (if c=k then a else a.map (·.add (k*sz))) (n - k) (c - k))
section
variable {o:Oper} {σ:PEnv} {ρ ρ':List PRes} {x y:Operand} {t T T2 sz by' n c:Nat} {a:Option Addr} {kd:IntKind} {i j:Int} {z:Value} {α:Type} {enc:α→List PV} {xs zs:List α} {m:α} {K:PV→List PRes→Prop}
theorem ii (ho:o.op=.slice t x (some y) none none) (hu:cP t=some (.slice T)) (hi:dG T=some (z,sz,by')) (hx:ba σ x=.v (.slice a n c)) (hy:ba σ y=.v (.int kd i)) (hm2:PRes.row a n c T2 sz (xs.map enc)∈ρ) (hm:sub xs i (xs.length:Int)=some zs):POpQ true o σ ρ (pQ a n c i.toNat sz):=fun κ σ' ρ' g hs hrr=>by
 obtain ⟨⟨h0,h1,h2⟩,_⟩:=dP hm
 refine ⟨_,fun _=>.v rfl,fun _ w hst=>?_⟩
 obtain ⟨r,hr1,hr2⟩:=hrr.mem hm2
 cases hr2 with
 | row hb ho1 hc =>
  have hl:xs.length=n:=by have e1:=(eG (hst.own _ hr1)).2.1;have e2:=hc.len;rw [List.length_map] at e2;omega
  exact nF (c:=true) (ρ:=ρ') (κ:=κ) (k:=i.toNat) ho hu hi (.p (hs.v1 hx)) (.p (hs.v1 hy)) (fun _=>by omega) (fun _=>by omega) rfl w hst
theorem tF {B k sz c n:Nat} (h:k<n) (hc:n≤c):(if c=k then some (⟨B,0,none⟩:Addr) else (some (⟨B,0,none⟩:Addr)).map (·.add (k*sz)))=some ⟨B,k*sz,none⟩:=by
 rw [if_neg (by omega)]
 simp only [Option.map_some,Addr.add,cu]
 split
 ·rename_i e;rw [e]
 simp
theorem tG {a:Option Addr} {n c T sz:Nat} {css:List (List Value)} {w:World} (h:(Res.row a n c T sz css).holds w):n≤c:=by
 cases a with
 | none=>obtain ⟨e1,e2,_⟩:=h;omega
 | some ad=>exact h.2.2.2.1
theorem fu (ho:o.op=.indexAddr t x y) (hu:cP t=some (.slice T)) (hi:dG T=some (z,sz,by')) (hx:ba σ x=pQ a n c i.toNat sz) (hy:ba σ y=.v (.int kd j)) (hi0:0≤i) (hj:0≤j) (hm2:PRes.row a n c T2 sz (xs.map enc)∈ρ) (hm:idx xs (i+j)=some m):POpQ true o σ ρ (.v (.pointer (some ⟨oR a,(i+j).toNat * sz,none⟩))):=fun κ σ' ρ' g hs hrr=>by
 refine ⟨_,fun _=>.v rfl,fun _ w hst=>?_⟩
 obtain ⟨h0,hmm⟩:=ig hm
 have hlt:=(List.getElem?_eq_some_iff.1 hmm).1
 obtain ⟨r,hr1,hr2⟩:=hrr.mem hm2
 cases hr2 with
 | row hb ho1 hc2 =>
  have hw:=hst.own _ hr1
  have hn:xs.length=n:=by have e1:=(eG hw).2.1;have e2:=hc2.len;rw [List.length_map] at e2;omega
  have ha:=jf hw (by omega)
  have hcap:=tG hw
  have e1:ev σ' x=.slice (some ⟨oR a,i.toNat * sz,none⟩) (n - i.toNat) (c - i.toNat):=by
   rw [hs.v1 hx]
   generalize oR a=B at ha ⊢
   subst ha
   rw [tF (n:=n) (by omega) hcap]
  have h:=nq (c:=true) (ρ:=ρ') (κ:=κ) (j:=j.toNat) ho hu hi (fun _=>e1) (fun _=>hs.v1 hy) (fun _=>by omega) (fun _=>by omega) rfl w hst
  have e:i.toNat * sz+j.toNat * sz=(i+j).toNat * sz:=by rw [← Nat.add_mul];congr 1;omega
  rwa [e] at h
theorem zc_flat {z:Value} {sz m:Nat} (h0:0<sz) (hz:(bk z).length=sz):(Builtin.zeroCells z.cells m).toList=(List.replicate m (bk z)).flatten:=by
 have hsz:z.cells.size=sz:=by rw [← hz,← dM];simp
 have:=qk (z:=z.cells) (n:=m) (by omega)
 show (madeCells z.cells (m*z.cells.size)).toList=_
 rw [this,dM]
theorem pF {z0:α} (ho:o.op=.call { callee:=.builtin .clear,args:=#[x],argTypes:=#[t] }) (hu:cP t=some (.slice T)) (hi:dG T=some (z,sz,by')) (hx:ba σ x=pQ a n c i.toNat sz) (hm:sub xs i (xs.length:Int)=some zs) (hzc:enc z0=sB z) (hz1:(bk z).all Value.oneCell'=true) (hzl:Nat.beq (bk z).length sz=true) (h0:Nat.blt 0 sz=true) (hp:PUpd ρ (.row a n c T2 sz (xs.map enc)) (.row a n c T2 sz ((xs.take i.toNat++List.replicate (n - i.toNat) z0).map enc)) ρ') (h:K (.tup []) ρ'):POpL o σ ρ K:=fun κ σ' rr g hs hr β hinv Nx hkk=>by
 obtain ⟨⟨hi0,hi1,hi2⟩,_⟩:=dP hm
 generalize hkk':i.toNat=k at *
 have hsz0:0<sz:=by have:=h0;simp [Nat.blt] at this;omega
 have hzlen:=Nat.eq_of_beq_eq_true hzl
 have hr0:=hr
 obtain ⟨r0,l1,l2,rfl,h4,h5⟩:=hr.upd hp
 cases h4 with
 | row hb ho1 hc =>
  rename_i dss
  have hw:=hinv.own (Res.row a n c T2 sz dss) (by simp)
  have hdl:dss.length=n:=(eG hw).2.1
  have hdw:=(eG hw).2.2
  have hxl:xs.length=n:=by have e:=hc.len;rw [List.length_map] at e;omega
  have hcap:=tG hw
  have e1:ev σ' x=_:=hs.v1 hx
  have hun:=run_underlying (w:=κ.w) (bd hu)
  have fin:∀ κ',Kle κ κ'→RRel κ' (.row a n c T2 sz ((xs.take k++List.replicate (n - k) z0).map enc)) (Res.row a n c T2 sz (dss.take k++List.replicate (n - k) (bk z))):=fun κ' hk'=>by
   refine .row hb (fun d hd=>?_) ?_
   ·rcases List.mem_append.1 hd with hd | hd
    ·exact ho1 d (List.mem_of_mem_take hd)
    rw [(List.mem_replicate.1 hd).2];exact fun u hu=>List.all_eq_true.1 hz1 u hu
   rw [List.map_append,List.map_take,List.map_replicate]
   refine ((hc.take k).app ?_).mono hk'
   rw [hzc]
   generalize n - k=q
   induction q with
   | zero=>exact .nil
   | succ q ih=>rw [List.replicate_succ,List.replicate_succ];exact .cons (gi _) ih
  rcases Nat.eq_zero_or_pos (n - k) with hz | hz
  ·have hkn:k=n:=by omega
   have hrun:(execOp (ev σ') o).run Tryz.prog κ.w=.ok (.value (.tuple #[])) κ.w:=by
    rw [show n - k=0 from hz] at e1
    unfold execOp
    simp only [ho,resolve,Sem.run_bind,Sem.run_pure,Result.andThen_ok,invoke,builtin,List.map_toArray,Array.map,e1]
    generalize (if c=k then a else a.map (·.add (k*sz)))=q at e1
    cases q <;> simp [Builtin.clear_,hun,e1]
   rw [hrun]
   have e2:dss.take k++List.replicate (n - k) (bk z)=dss:=by rw [hz,hkn,← hdl];simp
   have:=fin κ (.refl _)
   rw [e2] at this
   exact hkk _ _ κ hinv (.refl _) ⟨.tup [],ρ',.tup (ws:=[]) .nil,h5 κ _ (.refl _) this,h⟩
  have ha:=jf hw (by omega)
  generalize oR a=B at ha
  subst ha
  rw [tF (n:=n) (by omega) hcap] at e1
  obtain ⟨g0,g1,g2,g3,g4,cur,g5,g6,g7⟩:=hw
  have hbk:κ.w.heap[B]?=some (.cells cur.toList.toArray T2 (0,0)):=by simpa using g5
  have hfl:((List.replicate (n - k) (bk z)).flatten).length=(n - k)*sz:=by simp [hzlen]
  have hmul:k*sz+(n - k)*sz=n*sz:=by rw [← Nat.add_mul];congr 1;omega
  have hnc:n*sz≤c*sz:=Nat.mul_le_mul_right _ g3
  have hone:((List.replicate (n - k) (bk z)).flatten).all Value.oneCell'=true:=by
   rw [List.all_eq_true];intro u hu
   obtain ⟨d,hd,hu⟩:=List.mem_flatten.1 hu
   rw [(List.mem_replicate.1 hd).2] at hu
   exact List.all_eq_true.1 hz1 u hu
  obtain ⟨w',hrun,q1,q2,q3,q4,q5,q6⟩:=iQ (off:=k*sz) (vs:=(List.replicate (n - k) (bk z)).flatten) hbk (by simp only [Array.length_toList,g6,hfl];omega) hone
  have hzc2:=zc_flat (z:=z) (m:=n - k) hsz0 hzlen
  have hrun2:(execOp (ev σ') o).run Tryz.prog κ.w=.ok (.value (.tuple #[])) w':=by
   obtain ⟨q,hq⟩:∃ q,n - k=q+1:=⟨n - k - 1,by omega⟩
   rw [hq] at e1 hrun hzc2
   unfold execOp
   simp only [ho,resolve,Sem.run_bind,Sem.run_pure,Result.andThen_ok,invoke,builtin,List.map_toArray,Array.map,e1]
   simp [Builtin.clear_,hun,e1,cx hi,hzc2,hrun]
  rw [hrun2]
  have hsays:(Res.row (some ⟨B,0,none⟩) n c T2 sz (dss.take k++List.replicate (n - k) (bk z))).says w'.heap[B]?:=by
   refine ⟨rfl,by simp [List.length_take];omega,fun d hd=>?_,g3,g4,_,q3,?_,?_⟩
   ·rcases List.mem_append.1 hd with hd | hd
    ·exact g2 d (List.mem_of_mem_take hd)
    rw [(List.mem_replicate.1 hd).2];exact hzlen
   ·simp only [List.size_toArray,List.length_append,List.length_take,List.length_drop,Array.length_toList,g6,hfl];omega
   have hA:(List.take (k*sz) cur.toList).length=k*sz:=by rw [List.length_take,Array.length_toList,g6];omega
   rw [List.toList_toArray,List.take_left' (by rw [List.length_append,hA,hfl];exact hmul)]
   rw [List.flatten_append]
   congr 1
   have hw2:∀ d∈dss.take k,d.length=sz:=fun d hd=>g2 d (List.mem_of_mem_take hd)
   have hl2:((dss.take k).flatten).length=k*sz:=by rw [cB hw2,List.length_take];congr 1;omega
   have:List.take (k*sz) cur.toList=List.take (k*sz) (List.take (n*sz) cur.toList):=by rw [List.take_take,Nat.min_eq_left (by omega)]
   rw [this,g7]
   have hsplit:dss.flatten=(dss.take k).flatten++(dss.drop k).flatten:=by rw [← List.flatten_append,List.take_append_drop]
   rw [hsplit,List.take_append_of_le_length (by omega),List.take_of_length_le (by omega)]
  obtain ⟨hi',hk'⟩:=hinv.turn (r:=Res.row (some ⟨B,0,none⟩) n c T2 sz dss) (r':=Res.row (some ⟨B,0,none⟩) n c T2 sz (dss.take k++List.replicate (n - k) (bk z))) rfl rfl rfl q1 q2 hsays q4 q5 q6 (i5 _ _ _ _ _ hrun)
  exact hkk _ _ _ hi' hk' ⟨.tup [],ρ',.tup (ws:=[]) .nil,h5 _ _ hk' (fin _ hk'),h⟩
end
theorem pG {n:Nat} {ops:Array Oper} {lo:List Oper} {K:PPost} {σ:PEnv} {ρ:List PRes} (t:Nat) {p q:PV} (ht:σ t=p) (e:q=p) (h:PWL n ops lo K (em σ t q) ρ):PWL n ops lo K σ ρ:=by
 rw [e,po ht] at h;exact h
section
variable {α:Type} (lt:α→α→Bool)
def ins (x:α):List α→List α
 | []=>[x]
 | y::l=>cond (lt y x) (y::ins x l) (x::y::l)
def jg:List α→List α
 | []=>[]
 | x::l=>ins lt x (jg l)
variable {lt}
theorem oe {x:α}:∀ {l:List α},(ins lt x l).Perm (x::l)
 | []=>List.Perm.refl _
 | y::l=>by
  unfold ins
  cases lt y x
  ·exact List.Perm.refl _
  exact (List.Perm.cons y oe).trans (List.Perm.swap x y l)
theorem ij:∀ {l:List α},(jg lt l).Perm l
 | []=>List.Perm.refl _
 | x::l=>oe.trans (List.Perm.cons x ij)
theorem og (htr:∀ x y z,lt x y=true→lt y z=true→lt x z=true) (hnt:∀ x y z,lt x y=false→lt y z=false→lt x z=false) (hir:∀ x,lt x x=false) {x:α}:∀ {l:List α},l.Pairwise (fun a b=>lt b a=false)→(ins lt x l).Pairwise (fun a b=>lt b a=false)
 | [],_=>List.pairwise_singleton _ _
 | y::l,h=>by
  unfold ins
  obtain ⟨h1,h2⟩:=List.pairwise_cons.1 h
  have asym:∀ a b,lt a b=true→lt b a=false:=fun a b hab=>by
   cases hba:lt b a
   ·rfl
   have:=htr a b a hab hba;rw [hir] at this;cases this
  cases hy:lt y x
  ·refine List.pairwise_cons.2 ⟨fun z hz=>?_,h⟩
   rcases List.mem_cons.1 hz with rfl | hz
   ·exact hy
   exact hnt z y x (h1 z hz) hy
  refine List.pairwise_cons.2 ⟨fun z hz=>?_,og htr hnt hir h2⟩
  rcases List.mem_cons.1 (oe.mem_iff.1 hz) with rfl | hz
  ·exact asym y z hy
  exact h1 z hz
theorem jI (htr:∀ x y z,lt x y=true→lt y z=true→lt x z=true) (hnt:∀ x y z,lt x y=false→lt y z=false→lt x z=false) (hir:∀ x,lt x x=false):∀ (l:List α),(jg lt l).Pairwise (fun a b=>lt b a=false)
 | []=>List.Pairwise.nil
 | x::l=>og htr hnt hir (jI htr hnt hir l)
theorem kq (ha:∀ x y,lt x y=false→lt y x=false→x=y):∀ {l m:List α},l.Pairwise (fun a b=>lt b a=false)→m.Pairwise (fun a b=>lt b a=false)→l.Perm m→l=m
 | [],m,_,_,hp=>(List.nil_perm.1 hp).symm
 | x::l,m,h1,h2,hp=>by
  obtain ⟨g1,g2⟩:=List.pairwise_cons.1 h1
  match m,h2,hp with
  | [],_,hp=>exact absurd (List.perm_nil.1 hp) (by simp)
  | y::m,h2,hp =>
   obtain ⟨k1,k2⟩:=List.pairwise_cons.1 h2
   have hxy:x=y:=by
    have hx:x∈y::m:=hp.mem_iff.1 (by simp)
    have hy:y∈x::l:=hp.mem_iff.2 (by simp)
    rcases List.mem_cons.1 hx with e | hx
    ·exact e
    rcases List.mem_cons.1 hy with e | hy
    ·exact e.symm
    exact ha x y (k1 x hx) (g1 y hy)
   subst hxy
   rw [kq ha g2 k2 ((List.perm_cons x).1 hp)]
end
theorem bnd {α β:Type} {x:Option α} {f:α→Option β} {a:α} (h:x=some a):x.bind f=f a:=by rw [h];rfl
theorem i64s {r:Int} (h1 : -9223372036854775808≤r) (h2:r≤9223372036854775807):IntKind.i64.wrap r=r:=qR ⟨h1,h2⟩
theorem rQ {n:Nat} (h:n≤1267650600228229401496703205000):n<FUEL:=Nat.lt_of_le_of_lt h (by unfold FUEL;omega)
theorem cy {α:Type} {xs:List α} {k:Nat} (h:k<xs.length):idx xs (k:Int)=some xs[k]:=by
 unfold idx;rw [if_pos (by omega)];simp [h]
theorem tH {α:Type} [Inhabited α] {x:Option α}:gd true x=x:=rfl
theorem gd_ff {α:Type} [Inhabited α] {x:Option α}:gd false x=some default:=rfl
theorem kV {k:Nat} {n:Nat} (hk:k<n) (hn:n≤4611686018427387904):IntKind.i64.wrap ((k:Int)+1)=((k+1:Nat):Int):=by rw [i64s (by omega) (by omega)];omega
theorem wA {k n:Nat} (h:k<n):decide ((k:Int)<(n:Int))=true:=by simp;omega
theorem oh (n:Nat):decide ((n:Int)<(n:Int))=false:=by simp
theorem ma {α:Type} {by':Nat} {xs ys:List α} (h:(xs.length+ys.length)*by'≤140737488355328) (h2:xs.length+ys.length≤140737488355328):app by' xs ys=some (xs++ys):=by unfold app;rw [if_pos ⟨h,h2⟩]
theorem wB {α:Type} {xs:List α} {a b:Nat} (h:a≤b) (h2:b≤xs.length):sub xs (a:Int) (b:Int)=some ((xs.take b).drop a):=by
 unfold sub;rw [if_pos (by omega)];simp
def bindR {A B R:Type} (p:A⊕R) (g:A→B⊕R):B⊕R:=match p with | .inl a=>g a | .inr r=>.inr r
def run {α A R:Type} (f:Nat→α→A→A⊕R):List α→Nat→A→A⊕R
 | [],_,a=>.inl a
 | x::xs,k,a=>bindR (f k x a) (fun a'=>run f xs (k+1) a')
theorem lH {α A R:Type} (f:Nat→α→A→A⊕R) (x:α) (xs:List α) (k:Nat) (a:A):run f (x::xs) k a=bindR (f k x a) (run f xs (k+1)):=rfl
def outc {S T A R:Type} (g:A→S) (e:R→T):A⊕R→S⊕T
 | .inl a=>.inl (g a)
 | .inr r=>.inr (e r)
def outf {T A R:Type} (g:A→T) (e:R→T):A⊕R→T
 | .inl a=>g a
 | .inr r=>e r
theorem rR {S T α A R:Type} {l:List α} (hl:l.length≤4611686018427387904) {body:S→Option (S⊕T)} (pack:Int→A→S) (f:Nat→α→A→A⊕R) (fin:A→T) (exit:R→T) (P:Nat→A→Prop)
    (hstep:∀ (k:Nat) (hk:k<l.length) (a:A),P k a→body (pack (k:Int) a)=some (outc (pack ((k+1:Nat):Int)) exit (f k l[k] a))∧∀ a',f k l[k] a=.inl a'→P (k+1) a')
    (hend:∀ a,P l.length a→body (pack (l.length:Int) a)=some (.inr (fin a))) (a:A) (h0:P 0 a):bf body FUEL (pack 0 a)=some (outf fin exit (run f l 0 a))∧∀ a',run f l 0 a=.inl a'→P l.length a':=by
  have main:∀ (xs:List α) (k N:Nat) (a:A),l.drop k=xs→k≤l.length→P k a→xs.length<N→bf body N (pack (k:Int) a)=some (outf fin exit (run f xs k a))∧∀ a',run f xs k a=.inl a'→P l.length a':=by
    intro xs
    induction xs with
    | nil =>
      intro k N a hd hk hp hN
      have:k=l.length:=by
        have:=congrArg List.length hd;simp at this;omega
      subst this
      obtain ⟨N,rfl⟩:∃ M,N=M+1:=⟨N - 1,by omega⟩
      rw [jF,hend a hp]
      exact ⟨rfl,fun a' h=>by injection h with h;exact h ▸ hp⟩
    | cons x xs ih =>
      intro k N a hd hk hp hN
      have hk':k<l.length:=by
        have:=congrArg List.length hd;simp at this;omega
      have hx:l[k]=x∧l.drop (k+1)=xs:=by
        rw [List.drop_eq_getElem_cons hk'] at hd;injection hd with h1 h2;exact ⟨h1,h2⟩
      obtain ⟨N,rfl⟩:∃ M,N=M+1:=⟨N - 1,by omega⟩
      obtain ⟨e1,e2⟩:=hstep k hk' a hp
      rw [hx.1] at e1 e2
      rw [jF,e1]
      rw [lH]
      cases hf:f k x a with
      | inl a'=>exact ih (k+1) N a' hx.2 (by omega) (e2 a' hf) (by simp at hN;omega)
      | inr r=>exact ⟨rfl,fun a' h=>by change Sum.inr r=_ at h;cases h⟩
  exact main l 0 FUEL a rfl (by omega) h0 (rQ (by omega))
theorem wC {S T α A R β:Type} {l:List α} (hl:l.length≤4611686018427387904) {body:S→Option (S⊕T)} {k:T→Option β} (pack:Int→A→S) (f:Nat→α→A→A⊕R) (fin:A→T) (exit:R→T) (P:Nat→A→Prop) (a:A) (h0:P 0 a)
    (hstep:∀ (k:Nat) (hk:k<l.length) (a:A),P k a→body (pack (k:Int) a)=some (outc (pack ((k+1:Nat):Int)) exit (f k l[k] a))∧∀ a',f k l[k] a=.inl a'→P (k+1) a')
    (hend:∀ a,P l.length a→body (pack (l.length:Int) a)=some (.inr (fin a))):Option.bind (bf body FUEL (pack 0 a)) k=k (outf fin exit (run f l 0 a)):=bnd (rR hl pack f fin exit P hstep hend a h0).1
def fc {α T:Type} (g:Nat→α→Option T):List α→Nat→Option T
 | [],_=>none
 | x::xs,k=>match g k x with | some t=>some t | none=>fc g xs (k+1)
def outg {T:Type} (k:Nat):Option T→Int⊕T
 | some t=>.inr t
 | none=>.inl ((k+1:Nat):Int)
theorem jh {T α β:Type} {l:List α} (hl:l.length≤4611686018427387904) {body:Int→Option (Int⊕T)} {k:T→Option β} (g:Nat→α→Option T) (e:T)
    (hstep:∀ (k:Nat) (hk:k<l.length),body (k:Int)=some (outg k (g k l[k]))) (hend:body (l.length:Int)=some (.inr e)):Option.bind (bf body FUEL 0) k=k ((fc g l 0).getD e):=by
  refine (wC hl (fun i (_:Unit)=>i) (fun k x _=>match g k x with | some t=>.inr t | none=>.inl ()) (fun _=>e) (fun (t:T)=>t) (fun _ _=>True) () trivial (fun k hk a _=>⟨by
    rw [hstep k hk];cases g k l[k] <;> rfl,fun _ _=>trivial⟩) (fun a _=>hend)).trans ?_
  congr 1
  generalize 0=i
  induction l generalizing i with
  | nil=>rfl
  | cons x xs ih =>
    clear hstep hend
    have ih2:∀ j,outf (fun _=>e) (fun t=>t) (run (fun k x (_:Unit)=>match g k x with | some t=>Sum.inr t | none=>Sum.inl ()) xs j ())=(fc g xs j).getD e:=by
      clear ih hl
      induction xs with
      | nil=>intro j;rfl
      | cons y ys ih=>intro j;rw [lH,fc];cases g j y with | some t=>rfl | none=>exact ih (j+1)
    rw [lH,fc]
    cases g i x with
    | some t=>rfl
    | none=>exact ih2 (i+1)
theorem pH {α T:Type} (p:α→Bool) (t:T):∀ (l:List α) (k:Nat),fc (fun _ x=>cond (p x) (some t) none) l k=cond (l.any p) (some t) none
 | [],_=>rfl
 | x::xs,k=>by
  rw [fc,List.any_cons,pH p t xs]
  cases p x <;> rfl
theorem oj {α T:Type} (p:α→Bool) (f:α→T):∀ (l:List α) (k:Nat),fc (fun _ x=>cond (p x) (some (f x)) none) l k=(l.find? p).map f
 | [],_=>rfl
 | x::xs,k=>by
  rw [fc,List.find?_cons,oj p f xs]
  cases p x <;> rfl
theorem jJ {α T:Type} {g:Nat→α→Option T}:∀ {l:List α} {k:Nat},fc g l k=none↔∀ i x,l[i]?=some x→g (k+i) x=none
 | [],k=>by simp [fc]
 | x::xs,k=>by
  rw [fc]
  constructor
  ·intro h i y hy
   cases hg:g k x with
   | some t=>rw [hg] at h;cases h
   | none =>
    rw [hg] at h
    cases i with
    | zero=>simp at hy;subst hy;exact hg
    | succ i=>have:=jJ.1 h i y (by simpa using hy);rw [show k+(i+1)=k+1+i by omega];exact this
  intro h
  have h0:=h 0 x rfl
  rw [Nat.add_zero] at h0
  rw [h0]
  exact jJ.2 fun i y hy=>by have:=h (i+1) y (by simpa using hy);rw [show k+1+i=k+(i+1) by omega];exact this
theorem uH {S T α A β:Type} {l:List α} (hl:l.length≤4611686018427387904) {body:S→Option (S⊕T)} {k:T→Option β} (pack:Int→A→S) (f:A→α→A) (fin:A→T) (P:Nat→A→Prop) (a:A) (h0:P 0 a)
    (hstep:∀ (k:Nat) (hk:k<l.length) (a:A),P k a→body (pack (k:Int) a)=some (.inl (pack ((k+1:Nat):Int) (f a l[k])))∧P (k+1) (f a l[k]))
    (hend:∀ a,P l.length a→body (pack (l.length:Int) a)=some (.inr (fin a))):Option.bind (bf body FUEL (pack 0 a)) k=k (fin (l.foldl f a))∧P l.length (l.foldl f a):=by
  have e:=rR hl pack (fun _ x a=>(.inl (f a x):A⊕Empty)) fin (fun r=>nomatch r) P (fun k hk a hp=>⟨(hstep k hk a hp).1,fun a' h=>by injection h with h;exact h ▸ (hstep k hk a hp).2⟩) hend a h0
  have e2:∀ (xs:List α) (i:Nat) (b:A),run (fun _ x a=>(.inl (f a x):A⊕Empty)) xs i b=.inl (xs.foldl f b):=by
    intro xs
    induction xs with
    | nil=>intro i b;rfl
    | cons x xs ih=>intro i b;rw [lH,List.foldl_cons];exact ih _ _
  rw [e2] at e
  exact ⟨bnd e.1,e.2 _ rfl⟩
theorem nh {α:Type} {l:List α} {k:Nat} (h:k<l.length) (d:α):l.getD k d=l[k]:=by simp [List.getD,h]
structure Za where
 Product:Int
 Agreement:Int
 deriving Inhabited,DecidableEq
def Za.enc (m:Za):List PV:=[pI m.Product,pI m.Agreement]
def Za.eqb (a b:Za):Bool:=((a.Product == b.Product)&&((a.Agreement == b.Agreement)&&true))
theorem Za.eqb_iff {a b:Za}:Za.eqb a b=true↔a=b:=by cases a;cases b;simp [Za.eqb]
theorem Za.eqok28:EqOk 28 [0,0]:=⟨by kernel_rfl,by kernel_rfl,by kernel_rfl,by kernel_rfl⟩
structure Zk where
 Code:ByteArray
 Value:Int
 Originating:Bool
 deriving Inhabited,DecidableEq
def Zk.enc (m:Zk):List PV:=[pS m.Code,pI m.Value,pB m.Originating]
def Zk.eqb (a b:Zk):Bool:=((decide (a.Code=b.Code))&&((a.Value == b.Value)&&((a.Originating == b.Originating)&&true)))
theorem Zk.eqb_iff {a b:Zk}:Zk.eqb a b=true↔a=b:=by cases a;cases b;simp [Zk.eqb]
structure Zl where
 Code:ByteArray
 Price:Int
 Obtained:Bool
 Processes:(List ByteArray)
 Inputs:(List Zk)
 deriving Inhabited,DecidableEq
def Zl.enc (m:Zl):List PV:=[pS m.Code,pI m.Price,pB m.Obtained,pL eS m.Processes,pL Zk.enc m.Inputs]
structure Zb where
 Claim:Za
 Path:(List Int)
 Premises:(List Za)
 deriving Inhabited,DecidableEq
def Zb.enc (m:Zb):List PV:=[pI m.Claim.Product,pI m.Claim.Agreement,pL eI m.Path,pL Za.enc m.Premises]
structure Zv where
 L:(List Int)
 I:Int
 deriving Inhabited,DecidableEq
def Zv.enc (m:Zv):List PV:=[pL eI m.L,pI m.I]
structure Zh where
 Product:Int
 Value:Int
 deriving Inhabited,DecidableEq
def Zh.enc (m:Zh):List PV:=[pI m.Product,pI m.Value]
def Zh.eqb (a b:Zh):Bool:=((a.Product == b.Product)&&((a.Value == b.Value)&&true))
theorem Zh.eqb_iff {a b:Zh}:Zh.eqb a b=true↔a=b:=by cases a;cases b;simp [Zh.eqb]
structure Zd where
 ID:Int
 Code:ByteArray
 Country:ByteArray
 Price:Int
 Obtained:Bool
 Processes:(List ByteArray)
 Inputs:(List Zh)
 deriving Inhabited,DecidableEq
def Zd.enc (m:Zd):List PV:=[pI m.ID,pS m.Code,pS m.Country,pI m.Price,pB m.Obtained,pL eS m.Processes,pL Zh.enc m.Inputs]
structure Ze where
 Kind:Int
 Digits:Int
 Except:(List ByteArray)
 Tolerance:Int
 Limit:Int
 Name:ByteArray
 Args:(List Ze)
 deriving Inhabited
mutual
def Ze.enc:Ze→List PV
 | ⟨Kind0,Digits0,Except0,Tolerance0,Limit0,Name0,Args0⟩=>[pI Kind0,pI Digits0,pL eS Except0,pI Tolerance0,pI Limit0,pS Name0,.slc Args0.length (Ze.encs Args0)]
def Ze.encs:List Ze→List (List PV)
 | []=>[]
 | r::l=>r.enc::Ze.encs l
end
theorem Ze.encs_eq:∀ (l:List Ze),Ze.encs l=List.map Ze.enc l
 | []=>by rw [Ze.encs];rfl
 | r::l=>by rw [Ze.encs,Ze.encs_eq l];rfl
theorem Ze.enc_eq (m:Ze):m.enc=[pI m.Kind,pI m.Digits,pL eS m.Except,pI m.Tolerance,pI m.Limit,pS m.Name,pL Ze.enc m.Args]:=by cases m;rw [Ze.enc,Ze.encs_eq]
structure Zj where
 Prefix:ByteArray
 Rule:Ze
 deriving Inhabited
def Zj.enc (m:Zj):List PV:=[pS m.Prefix,pI m.Rule.Kind,pI m.Rule.Digits,pL eS m.Rule.Except,pI m.Rule.Tolerance,pI m.Rule.Limit,pS m.Rule.Name,pL Ze.enc m.Rule.Args]
structure Zg where
 ID:Int
 Kind:Int
 Parties:(List ByteArray)
 Rules:(List Zj)
 deriving Inhabited
def Zg.enc (m:Zg):List PV:=[pI m.ID,pI m.Kind,pL eS m.Parties,pL Zj.enc m.Rules]
structure Zq where
 partners:(List Int)
 set_:(List (Za×Bool))
 deriving Inhabited
structure Zo where
 use:Zk
 premise:Za
 deriving Inhabited,DecidableEq
def Zo.enc (m:Zo):List PV:=[pS m.use.Code,pI m.use.Value,pB m.use.Originating,pI m.premise.Product,pI m.premise.Agreement]
structure Zu where
 claims:(List (Za×Bool))
 deriving Inhabited
structure Zw where
 known:Zu
 plan:(List Zd)
 list:(List Zg)
 importer:ByteArray
 deriving Inhabited
structure Zi where
 claim:Za
 rule:Ze
 deriving Inhabited
def Zi.enc (m:Zi):List PV:=[pI m.claim.Product,pI m.claim.Agreement,pI m.rule.Kind,pI m.rule.Digits,pL eS m.rule.Except,pI m.rule.Tolerance,pI m.rule.Limit,pS m.rule.Name,pL Ze.enc m.rule.Args]
structure Zr where
 Hi:Int
 Lo:Int
 deriving Inhabited,DecidableEq
def Zr.enc (m:Zr):List PV:=[pU m.Hi,pU m.Lo]
def Zr.eqb (a b:Zr):Bool:=((a.Hi == b.Hi)&&((a.Lo == b.Lo)&&true))
theorem Zr.eqb_iff {a b:Zr}:Zr.eqb a b=true↔a=b:=by cases a;cases b;simp [Zr.eqb]
structure Zp where
 use:Zk
 deriving Inhabited,DecidableEq
def Zp.enc (m:Zp):List PV:=[pS m.use.Code,pI m.use.Value,pB m.use.Originating]
structure Zs where
 rule:Ze
 deriving Inhabited
def Zs.enc (m:Zs):List PV:=[pI m.rule.Kind,pI m.rule.Digits,pL eS m.rule.Except,pI m.rule.Tolerance,pI m.rule.Limit,pS m.rule.Name,pL Ze.enc m.rule.Args]
structure Zn where
 Hi:Int
 Lo:Int
 deriving Inhabited,DecidableEq
def Zn.enc (m:Zn):List PV:=[pU m.Hi,pU m.Lo]
def Zn.eqb (a b:Zn):Bool:=((a.Hi == b.Hi)&&((a.Lo == b.Lo)&&true))
theorem Zn.eqb_iff {a b:Zn}:Zn.eqb a b=true↔a=b:=by cases a;cases b;simp [Zn.eqb]
theorem Zn.eqok233:EqOk 233 [0,0]:=⟨by kernel_rfl,by kernel_rfl,by kernel_rfl,by kernel_rfl⟩
def Za.key (m:Za):Value:=kP m.Product m.Agreement
theorem Za.kenc28:KEnc 28 Za.key:=⟨⟨PairKey,wr _ _ rfl (by kernel_rfl) (by kernel_rfl) (by decide) (by decide) rfl rfl rfl rfl,fun a=>⟨_,_,rfl⟩⟩,fun a b h=>by cases a;cases b;simp only [Za.key,kP] at h;injection h with h;simp at h;simp [h]⟩
inductive Zc where
 | plain_ (a:Zp)
 | proved_ (a:Zo)
 deriving Inhabited
def Zc.tag:Zc→Nat
 | .plain_ _=>195
 | .proved_ _=>106
def Zc.val:Zc→PV
 | .plain_ a=>.agg [pS a.use.Code,pI a.use.Value,pB a.use.Originating]
 | .proved_ a=>.agg [pS a.use.Code,pI a.use.Value,pB a.use.Originating,pI a.premise.Product,pI a.premise.Agreement]
def Zc.pv (m:Zc):PV:=.ifc m.tag m.val
def Zc.enc (m:Zc):List PV:=[m.pv]
def Zc.is_proved_:Zc→Bool
 | .proved_ _=>true
 | _=>false
def Zc.as_proved_:Zc→Zo
 | .proved_ a=>a
 | _=>(⟨(⟨ByteArray.empty,(0:Int),false⟩:Zk),(⟨(0:Int),(0:Int)⟩:Za)⟩:Zo)
theorem Zc.ta_proved_ (m:Zc):ta 106 m.pv=some (.tup [.agg [pS ((((Zc.as_proved_ m)).use).Code),pI ((((Zc.as_proved_ m)).use).Value),pB ((((Zc.as_proved_ m)).use).Originating),pI ((((Zc.as_proved_ m)).premise).Product),pI ((((Zc.as_proved_ m)).premise).Agreement)],pB (Zc.is_proved_ m)]):=by cases m <;> rfl
inductive Zf where
 | single_ (a:Zs)
 | every_ (a:(List Zf))
 | some_ (a:(List Zf))
 deriving Inhabited
def Zf.tag:Zf→Nat
 | .single_ _=>226
 | .every_ _=>223
 | .some_ _=>224
mutual
def Zf.val:Zf→PV
 | .single_ a=>.agg [pI a.rule.Kind,pI a.rule.Digits,pL eS a.rule.Except,pI a.rule.Tolerance,pI a.rule.Limit,pS a.rule.Name,pL Ze.enc a.rule.Args]
 | .every_ a=>.slc a.length (Zf.encs a)
 | .some_ a=>.slc a.length (Zf.encs a)
def Zf.encs:List Zf→List (List PV)
 | []=>[]
 | r::l=>[.ifc r.tag r.val]::Zf.encs l
end
def Zf.pv (m:Zf):PV:=.ifc m.tag m.val
def Zf.enc (m:Zf):List PV:=[m.pv]
theorem Zf.encs_eq:∀ (l:List Zf),Zf.encs l=List.map Zf.enc l
 | []=>by rw [Zf.encs];rfl
 | r::l=>by rw [Zf.encs,Zf.encs_eq l];rfl
theorem Zf.pv_single_ (a:Zs):(Zf.single_ a).pv=.ifc 226 (.agg [pI a.rule.Kind,pI a.rule.Digits,pL eS a.rule.Except,pI a.rule.Tolerance,pI a.rule.Limit,pS a.rule.Name,pL Ze.enc a.rule.Args]):=by rw [Zf.pv,Zf.val];rfl
theorem Zf.pv_every_ (a:(List Zf)):(Zf.every_ a).pv=.ifc 223 (pL Zf.enc a):=by rw [Zf.pv,Zf.val,Zf.encs_eq];rfl
theorem Zf.pv_some_ (a:(List Zf)):(Zf.some_ a).pv=.ifc 224 (pL Zf.enc a):=by rw [Zf.pv,Zf.val,Zf.encs_eq];rfl
abbrev bM (m:Zl):List PV:=[pS m.Code,pI m.Price,pB m.Obtained,pL eS m.Processes,pL Zk.enc m.Inputs]
abbrev bP (m:Zb):List PV:=[pI m.Claim.Product,pI m.Claim.Agreement,pL eI m.Path,pL Za.enc m.Premises]
abbrev aS (m:Zd):List PV:=[pI m.ID,pS m.Code,pS m.Country,pI m.Price,pB m.Obtained,pL eS m.Processes,pL Zh.enc m.Inputs]
abbrev aK (m:Ze):List PV:=[pI m.Kind,pI m.Digits,pL eS m.Except,pI m.Tolerance,pI m.Limit,pS m.Name,pL Ze.enc m.Args]
abbrev ce (m:Zj):List PV:=[pS m.Prefix,pI m.Rule.Kind,pI m.Rule.Digits,pL eS m.Rule.Except,pI m.Rule.Tolerance,pI m.Rule.Limit,pS m.Rule.Name,pL Ze.enc m.Rule.Args]
abbrev aL (m:Zg):List PV:=[pI m.ID,pI m.Kind,pL eS m.Parties,pL Zj.enc m.Rules]
abbrev dS (m:Zi):List PV:=[pI m.claim.Product,pI m.claim.Agreement,pI m.rule.Kind,pI m.rule.Digits,pL eS m.rule.Except,pI m.rule.Tolerance,pI m.rule.Limit,pS m.rule.Name,pL Ze.enc m.rule.Args]

section
variable {o:Oper} {σ:PEnv} {ρ:List PRes} {f:Nat} {l:List Operand} {ts:Array Nat} {pargs caps:List PV} {x:Operand} {KV:PV→List PRes→Prop}
theorem uI {R:PV→List PRes→Prop} {ρ1 ρ2:List PRes} (ho:o.op=.call { callee:=.value x,args:=l.toArray,argTypes:=ts }) (hx:ba σ x=.fn f caps) (ha:l.map (ba σ)++caps=pargs) (hp:ρ.Perm (ρ1++ρ2)) (hc:PCall f pargs ρ1 R) (h:∀ pv ρ',R pv ρ'→KV pv (ρ'++ρ2)):POpL o σ ρ KV:=fun κ σ' ρ' g hs hr=>by
 obtain ⟨rs,h1,h2⟩:=hr.perm hp
 obtain ⟨r1,r2,rfl,h3,h4⟩:=h2.split
 have hv:=hs.ev x
 rw [hx] at hv
 generalize hw:ev σ' x=fv at hv
 cases hv with
 | fn hcap=>exact qT (first:=[]) ho hw rfl h1 (hc κ _ r1 g (by rw [← ha];exact (gt hs l).app hcap) h3) fun v ρ'' κ' hk ⟨pv,ρp,g1,g2,g3⟩=>⟨pv,ρp++ρ2,g1,g2.app (h4.mono hk),h pv ρp g3⟩
end
theorem mb {P:Program} (w:World) (t tx ty e:TypeId) (i:TypeInfo) (z:Value) (ht:P.underlying t=some (.slice e)) (hx:P.underlying tx=some (.int .i64)) (hi:P.info? e=some i) (hz:i.zero=some z) (n:Nat) (hn:0<n) (hs:0<i.size) (hb:n*i.bytes≤140737488355328) (hm:n≤140737488355328) :
    (Builtin.append_ #[t,tx] ty #[.slice none 0 0,.int .i64 (n:Int)]).run P w=.ok (.slice (some ⟨w.heap.size,0,none⟩) n (grownCap w n 0 e)) (w.drew.alloc (.cells (Builtin.zeroCells z.cells n++Builtin.zeroCells z.cells (grownCap w n 0 e - n)) e)):=by
  have hw:IntKind.i64.wrap (n:Int)=n:=by simp [IntKind.wrap,IntKind.signed,IntKind.bits];omega
  have h1:¬ ((n:Int)<0):=by omega
  have h2:¬ (281474976710656<(n:Int)*(i.bytes:Int)):=by
    have:(n:Int)*(i.bytes:Int)=((n*i.bytes:Nat):Int):=by simp
    omega
  have h3:¬ n=0:=by omega
  have h4:¬ i.size=0:=by omega
  have h5:¬ (281474976710656<Builtin.nextslicecap n 0*i.bytes):=by
    have:Builtin.nextslicecap n 0=n:=by unfold Builtin.nextslicecap;rw [if_pos (by omega)]
    rw [this];omega
  have h6:¬ (9223372036854775807<(n:Int)):=by omega
  simp [Builtin.append_,run_underlying ht,run_underlying hx,sizeOf,typeInfo,zeroValue,hi,hz,asInt,asIntOf,hw,h1,h2,h3,h4,h5,h6,Question.forced,newRow,grownCap,Builtin.firstCells]
  exact fun h=>absurd h (Nat.mul_ne_zero h3 h4)
theorem wD {o:Oper} {σ:Env} {ρ l:List Res} {κ:Kr} {K:Value→List Res→Kr→Prop} {s x:Operand} {t ti T n sz by':Nat} {z:Value} (ho:o.op=.call { callee:=.builtin .append,args:=#[s,x],argTypes:=#[t,ti] }) (hu:cP t=some (.slice T)) (hui:cP ti=some (.int .i64)) (hi:dG T=some (z,sz,by')) (hz:Nat.beq z.cells.size sz=true) (h0:Nat.blt 0 sz=true) (hs:ev σ s=.slice none 0 0) (hx:ev σ x=.int .i64 (n:Int)) (hn:0<n) (hb:n*by'≤140737488355328∧n≤140737488355328)
    (hp:Pick ρ (Res.row none 0 0 T sz []) l) (h:∀ a c κ',Kle κ κ'→n≤c→K (.slice a n c) (Res.row a 0 c T sz []::l) κ'):OpL o σ ρ κ K:=fun β hinv Nx hk=>by
  obtain ⟨i,hinf,hz0,hsz,hby⟩:=ju hi
  have hsz0:0<sz:=by have h:=h0;simp [Nat.blt] at h;omega
  have hr:=mb (P:=Tryz.prog) κ.w t ti o.type T i z (bd hu) (bd hui) hinf hz0 n hn (by rw [hsz];exact hsz0) (by rw [hby];exact hb.1) hb.2
  have hge:=grownCap_ge κ.w n 0 T
  have hcm:grownCap κ.w n 0 T≤maxLen:=grownCap_le_maxLen κ.w n 0 T (by unfold maxLen;omega)
  have hi2:=hinv.perm hp
  have hzs:=Nat.eq_of_beq_eq_true hz
  have hhold:(Res.row (some ⟨κ.w.heap.size,0,none⟩) 0 (grownCap κ.w n 0 T) T sz []).holds (κ.w.drew.alloc (.cells (Builtin.zeroCells z.cells n++Builtin.zeroCells z.cells (grownCap κ.w n 0 T - n)) T)):=by
    refine ⟨rfl,rfl,fun _ h=>(by cases h),Nat.zero_le _,hcm,_,heap_alloc_new κ.w.drew _,?_,by simp⟩
    simp only [Array.size_append,size_zeroCells,hzs,← Nat.add_mul]
    congr 1;omega
  obtain ⟨hi3,hk3⟩:=hi2.grow (r':=Res.row (some ⟨κ.w.heap.size,0,none⟩) 0 (grownCap κ.w n 0 T) T sz []) (w':=κ.w.drew.alloc (.cells (Builtin.zeroCells z.cells n++Builtin.zeroCells z.cells (grownCap κ.w n 0 T - n)) T)) ⟨rfl,rfl,rfl,by simp,fun k hk _=>by first | exact Go.heap_alloc_old κ.w.drew _ k hk | exact heap_alloc_old κ.w.drew _ hk⟩ (.inr (.inr rfl)) hhold (sw hhold) (i5 _ _ _ _ _ hr)
  unfold execOp
  simp only [ho,resolve,invoke,builtin,Sem.run_bind,Sem.run_pure,Result.andThen_ok,List.map_toArray,List.map_cons,List.map_nil,hs,hx,hr,OutV]
  exact hk _ _ _ hi3 hk3 (h _ _ _ hk3 hge)
theorem rS {o:Oper} {σ:PEnv} {ρ l:List PRes} {K:PV→List PRes→Prop} {s x:Operand} {t ti T sz by':Nat} {n:Int} {z:Value} {u:Unit} (ho:o.op=.call { callee:=.builtin .append,args:=#[s,x],argTypes:=#[t,ti] }) (hu:cP t=some (.slice T)) (hui:cP ti=some (.int .i64)) (hi:dG T=some (z,sz,by')) (hz:Nat.beq z.cells.size sz=true) (h0:Nat.blt 0 sz=true) (hs:ba σ s=.v (.slice none 0 0)) (hx:ba σ x=.v (.int .i64 n)) (hn:0<n) (hm:mk0 by' n=some u)
    (hp:PPick ρ (.row none 0 0 T sz []) l) (h:∀ a c,n.toNat≤c→K (.v (.slice a n.toNat c)) (.row a 0 c T sz []::l)):POpL o σ ρ K:=fun κ σ' ρ' g hm' hrr=>by
  unfold mk0 at hm
  split at hm
  · rename_i hb
    obtain ⟨h1,h2,h3⟩:=hb
    have hn':n=((n.toNat:Nat):Int):=by omega
    obtain ⟨r,l',k1,k2,k3⟩:=hrr.pick hp
    cases k2 with
    | row hbn ho1 hc =>
      rename_i dss
      have:=hc.nil_inv;subst this
      exact wD ho hu hui hi hz h0 (hm'.v1 hs) (by rw [hm'.v1 hx,← hn']) (by omega) ⟨by rw [Nat.mul_comm];exact h2,h3⟩ k1 fun a c κ' hk hge=>⟨_,_,.v rfl,.cons (.row (by omega) (fun _ h=>by cases h) .nil) (k3.mono hk),h a c hge⟩
  cases hm
theorem wE {by':Nat} {n:Int} {u:Unit} (h:mk0 by' n=some u):0≤n∧n≤140737488355328:=by
 unfold mk0 at h
 split at h
 ·rename_i hb;omega
 cases h
theorem pJ {n:Int} (h0:0≤n) (h1:n≤140737488355328):IntKind.i64.wrap (n - IntKind.i64.wrap (((0:Nat):Int) - ((0:Nat):Int)))=n:=by
 simp [IntKind.wrap,IntKind.signed,IntKind.bits];omega
theorem oq_cap {o:Oper} {σ:Env} {ρ:List Res} {κ:Kr} {c:Bool} {x:Operand} {t n cp E:Nat} {a:Option Addr} (ho:o.op=.call { callee:=.builtin .cap,args:=#[x],argTypes:=#[t] }) (hu:cP t=some (.slice E)) (hx:Ev σ c x (.slice a n cp)):OpQ c o σ ρ κ (.int .i64 (cp:Int)):=fun hc w _=>by
 simp [execOp,ho,resolve,invoke,builtin,Builtin.cap_,hx hc,run_underlying (bd hu),goInt]
theorem ni {o:Oper} {σ:PEnv} {ρ:List PRes} {c:Bool} {x:Operand} {t E nn cp:Nat} {ad:Option Addr} (ho:o.op=.call { callee:=.builtin .cap,args:=#[x],argTypes:=#[t] }) (hu:cP t=some (.slice E)) (hx:PEv σ c x (.v (.slice ad nn cp))):POpQ c o σ ρ (.v (.int .i64 (cp:Int))):=fun κ σ' ρ' g hs hrr=>⟨_,fun _=>.v rfl,oq_cap ho hu (hs.ve hx)⟩
theorem kR {o:Oper} {σ:PEnv} {ρ:List PRes} {c:Bool} {x y:Operand} {t E sz by' nn cp k:Nat} {z:Value} {ad:Option Addr} {kd:IntKind} {i:Int} (ho:o.op=.slice t x none (some y) none) (hu:cP t=some (.slice E)) (hi:dG E=some (z,sz,by')) (hx:PEv σ c x (.v (.slice ad nn cp))) (hy:PEv σ c y (.v (.int kd i))) (hik:i=(k:Int)) (hk:k≤cp):POpQ c o σ ρ (.v (.slice ad k cp)):=fun κ σ' ρ' g hs hrr=>⟨_,fun _=>.v rfl,k8 ho hu hi (hs.ve hx) (hs.ve hy) (fun _=>hik) (fun _=>hk)⟩
end SX
namespace SX
open Go
attribute [local irreducible] PWL PWC PWD POpL POpQ PEv PGuardIs PSub PPick PUpd PSplice PFill PLit PF PFV PCall FOk dz cI jc jd fp ie Cov PHolds bf idx app mk gd lb nz nO uU sub ka fP uT oO ft cS nL oQ IntKind.wrap Int.tmod Int.tdiv Op.bytesLess strOfNums
theorem aR {n:Nat} {l:List Oper} {KC:Exit→PPost} {σ:PEnv} {ρ:List PRes} {id:Nat} (D:List Nat) (h:ke n l.toArray ρ l [] [] σ [] D=iy n l.toArray ρ l [] [] σ []) (hw:KC .normal (iS σ D []) ρ):PWC n (.region id l.toArray false) KC σ ρ:=an [] D [] bo h hw
theorem aW {n:Nat} {l:List Oper} {KC:Exit→PPost} {σ:PEnv} {ρ:List PRes} {id:Nat} (H D:List Nat) (X:List (Nat×PV)) (h:ke n l.toArray ρ l H [] σ (X.map (·.1)) D=iy n l.toArray ρ l H [] σ (X.map (·.2))) (hw:KC .normal (iS σ D X) ρ):PWC n (.region id l.toArray false) KC σ ρ:=an H D X bo h hw
theorem ak {n:Nat} {l:List Oper} {KC:Exit→PPost} {σ:PEnv} {ρ:List PRes} {id:Nat} (X:List (Nat×PV)) (h:ke n l.toArray ρ l [] [] σ (X.map (·.1)) []=iy n l.toArray ρ l [] [] σ (X.map (·.2))) (hw:KC .normal (iS σ [] X) ρ):PWC n (.region id l.toArray false) KC σ ρ:=an [] [] X bo h hw
theorem ah {n:Nat} {l:List Oper} {KC:Exit→PPost} {σ:PEnv} {ρ:List PRes} {id:Nat} (D:List Nat) (X:List (Nat×PV)) (h:ke n l.toArray ρ l [] [] σ (X.map (·.1)) D=iy n l.toArray ρ l [] [] σ (X.map (·.2))) (hw:KC .normal (iS σ D X) ρ):PWC n (.region id l.toArray false) KC σ ρ:=an [] D X bo h hw
theorem wF {n:Nat} {ops:Array Oper} {l:List (Nat×Oper)} {K:PPost} {σ:PEnv} {ρd ρs:List PRes} (k:Nat) (H:List Nat) (X:List (Nat×PV)) (h:rN n ops ρs (l.take k) H [] σ (X.map (·.1)) []=iy n ops ρs ((l.take k).map (·.2)) H [] σ (X.map (·.2))) (hw:PWD n ops K (l.drop k) (iS σ [] X) ρd ρs):PWD n ops K l σ ρd ρs:=bY k H [] X bo h hw
theorem fe {n:Nat} {ops:Array Oper} {l:List (Nat×Oper)} {K:PPost} {σ:PEnv} {ρd ρs:List PRes} (k:Nat) (X:List (Nat×PV)) (h:rN n ops ρs (l.take k) [] [] σ (X.map (·.1)) []=iy n ops ρs ((l.take k).map (·.2)) [] [] σ (X.map (·.2))) (hw:PWD n ops K (l.drop k) (iS σ [] X) ρd ρs):PWD n ops K l σ ρd ρs:=bY k [] [] X bo h hw
theorem lI {n:Nat} {ops:Array Oper} {l:List (Nat×Oper)} {K:PPost} {σ:PEnv} {ρd ρs:List PRes} (k:Nat) (D:List Nat) (X:List (Nat×PV)) (h:rN n ops ρs (l.take k) [] [] σ (X.map (·.1)) D=iy n ops ρs ((l.take k).map (·.2)) [] [] σ (X.map (·.2))) (hw:PWD n ops K (l.drop k) (iS σ D X) ρd ρs):PWD n ops K l σ ρd ρs:=bY k [] D X bo h hw
theorem aZ {n:Nat} {ops:Array Oper} {l:List Oper} {K:PPost} {σ:PEnv} {ρ:List PRes} (D:List Nat) (h:ke n ops ρ l [] [] σ [] D=iy n ops ρ l [] [] σ []) (hw:K (iS σ D []) ρ):PWL n ops l K σ ρ:=eB [] D [] bo h hw
theorem aP {n:Nat} {ops:Array Oper} {l:List Oper} {K:PPost} {σ:PEnv} {ρ:List PRes} (X:List (Nat×PV)) (h:ke n ops ρ l [] [] σ (X.map (·.1)) []=iy n ops ρ l [] [] σ (X.map (·.2))) (hw:K (iS σ [] X) ρ):PWL n ops l K σ ρ:=eB [] [] X bo h hw
theorem ji {n:Nat} {ops:Array Oper} {l:List Oper} {K:PPost} {σ:PEnv} {ρ:List PRes} (D:List Nat) (X:List (Nat×PV)) (h:ke n ops ρ l [] [] σ (X.map (·.1)) D=iy n ops ρ l [] [] σ (X.map (·.2))) (hw:K (iS σ D X) ρ):PWL n ops l K σ ρ:=eB [] D X bo h hw
theorem gz {n:Nat} {ops:Array Oper} {l:List Oper} {K:PPost} {σ:PEnv} {ρ:List PRes} (k:Nat) (H:List Nat) (X:List (Nat×PV)) (h:ke n ops ρ (l.take k) H [] σ (X.map (·.1)) []=iy n ops ρ (l.take k) H [] σ (X.map (·.2))) (hw:PWL n ops (l.drop k) K (iS σ [] X) ρ):PWL n ops l K σ ρ:=aU k H [] X bo h hw
theorem bI {n:Nat} {ops:Array Oper} {l:List Oper} {K:PPost} {σ:PEnv} {ρ:List PRes} (k:Nat) (H D:List Nat) (X:List (Nat×PV)) (h:ke n ops ρ (l.take k) H [] σ (X.map (·.1)) D=iy n ops ρ (l.take k) H [] σ (X.map (·.2))) (hw:PWL n ops (l.drop k) K (iS σ D X) ρ):PWL n ops l K σ ρ:=aU k H D X bo h hw
theorem aI {n:Nat} {ops:Array Oper} {l:List Oper} {K:PPost} {σ:PEnv} {ρ:List PRes} (k:Nat) (X:List (Nat×PV)) (h:ke n ops ρ (l.take k) [] [] σ (X.map (·.1)) []=iy n ops ρ (l.take k) [] [] σ (X.map (·.2))) (hw:PWL n ops (l.drop k) K (iS σ [] X) ρ):PWL n ops l K σ ρ:=aU k [] [] X bo h hw
theorem cD {n:Nat} {ops:Array Oper} {l:List Oper} {K:PPost} {σ:PEnv} {ρ:List PRes} (k:Nat) (D:List Nat) (X:List (Nat×PV)) (h:ke n ops ρ (l.take k) [] [] σ (X.map (·.1)) D=iy n ops ρ (l.take k) [] [] σ (X.map (·.2))) (hw:PWL n ops (l.drop k) K (iS σ D X) ρ):PWL n ops l K σ ρ:=aU k [] D X bo h hw
theorem aj {n:Nat} {ops:Array Oper} {o:Oper} {rest:List Oper} {K:PPost} {σ:PEnv} {ρ:List PRes} {d:Nat} (hg:(o.guard,o.dst,Nat.blt d n)=(none,some d,true)) (h:POpL o σ ρ fun p ρ'=>PWL n ops rest K (em σ d p) ρ'):PWL n ops (o::rest) K σ ρ:=vG (Prod.mk.inj hg).1 (Prod.mk.inj (Prod.mk.inj hg).2).1 (Prod.mk.inj (Prod.mk.inj hg).2).2 h
theorem zz {α:Type} {t:Nat} {enc:α→PV} {σ:PEnv} {ρ:List PRes} {v:α} (r:α) (h:some v=some r) (e:σ t=enc v):ie [.tmp t] (fun pv ρ'=>pv=enc r∧ρ'=[]) .ret σ ρ:=by cases h;exact aO (cJ (aN e)) bz ⟨rfl,rfl⟩
theorem br {x y1:Code} {K1:Exit→PPost} {ρ1:List PRes} {n1:Nat} {σ1:PEnv} (h1:PWC n1 x (dz n1 y1 K1) σ1 ρ1):dz n1 (.seq x y1) K1 .normal σ1 ρ1:=aG (ae h1)
theorem df {K1:Exit→PPost} {ρ1:List PRes} {n1:Nat} {σ1:PEnv} (h1:K1 .ret σ1 ρ1):dz n1 .ret K1 .normal σ1 ρ1:=aG (bx h1)
theorem bK {p:Bool} {x y1:Code} {K1:Exit→PPost} {ρ1:List PRes} {n1:Nat} {c:Operand} {σ1:PEnv} {α:Type} {a b r:α} (hc:ba σ1 c=.v (.bool p)) (h1:cond p a b=r) (ht:p=true→a=r→PWC n1 x K1 σ1 ρ1) (hf:p=false→b=r→PWC n1 y1 K1 σ1 ρ1):dz n1 (.cond c x y1) K1 .normal σ1 ρ1:=aG (gM hc h1 ht hf)
theorem cg {y1 x1 y:Code} {K1:Exit→PPost} {ρ:List PRes} {n:Nat} {σ:PEnv} (h:PWC n x1 (dz n y (dz n y1 K1)) σ ρ):dz n (.seq (.seq x1 y) y1) K1 .normal σ ρ:=br (ae h)
theorem cr {x y1:Code} {K1:Exit→PPost} {ρ1:List PRes} {n1:Nat} {σ1:PEnv} {α β:Type} {x1:Option α} {f:α→Option β} {r:β} (h:x1.bind f=some r) (k:∀ a,x1=some a→f a=some r→(PWC n1 x (dz n1 y1 K1) σ1 ρ1)):dz n1 (.seq x y1) K1 .normal σ1 ρ1:=br (af h k)
theorem eV {y:Code} {K1:Exit→PPost} {ρ1:List PRes} {id n:Nat} {σ1:PEnv} (h1:K1 .ret σ1 ρ1):cI id (dz n y K1) .ret σ1 ρ1:=ar (am h1)
theorem dn {K1:Exit→PPost} {l:List Oper} {ρ1:List PRes} {n id n1:Nat} {σ:PEnv} (X:List (Nat×PV)) (h:ke n l.toArray ρ1 l [] [] σ (X.map (·.1)) []=iy n l.toArray ρ1 l [] [] σ (X.map (·.2))) (h1:K1 .ret (iS σ [] X) ρ1):PWC n (.region id l.toArray false) (dz n1 .ret K1) σ ρ1:=ak X h (df h1)
theorem ff {x1 y:Code} {K:Exit→PPost} {ρ1:List PRes} {id n1:Nat} {σ1:PEnv} (h1:PWC n1 x1 (dz n1 y (cI id K)) σ1 ρ1):PWC n1 (.block id (.seq x1 y)) K σ1 ρ1:=aA (ae h1)
theorem dw {x y:Code} {fn:Func} {ρ:List PRes} {pargs:List PV} {rs:List ResultVar} {f n1:Nat} {R:PV→List PRes→Prop} (hf:Tryz.prog.funcs[f]?=some fn) (hb:fn.body=some (.seq x y)) (hn:fn.ntmps=n1) (hres:fn.results=rs.toArray) (hsz:Nat.ble pargs.length n1=true) (h1:PWC n1 x (dz n1 y (ie rs R)) (rj pargs) ρ):PCall f pargs ρ R:=eP hf hb hn hres hsz (ae h1)
theorem fG {y:Code} {K:Exit→PPost} {ρ:List PRes} {n:Nat} {σ:PEnv} {α β:Type} {x:Option α} {f:α→Option β} {r:β} (h1:x.bind f=some r) (k:∀ a,x=some a→f a=some r→(PWC n y K σ ρ)):dz n y K .normal σ ρ:=aG (af h1 k)
theorem dY {y:Code} {K1:Exit→PPost} {ρ1:List PRes} {id n:Nat} {σ1:PEnv} (h1:PWC n y K1 σ1 ρ1):cI id (dz n y K1) .normal σ1 ρ1:=aB (aG h1)
def fC (p0:Int) (p1:Int):Option Int:=(nz p1).bind fun u1=>(nz p1).bind fun u2=>lb ((Int.tmod (IntKind.i64.wrap ((Int.tmod p0 p1)+p1)) p1)) (fun w3=>some w3)
theorem ol {p0:Int} {p1:Int} {r:Int}  (h:fC p0 p1=some r):PF 34 [pI p0,pI p1] (pI r):=by
 unfold fC at h
 refine aY ?_
 refine dw Tryz.func34 rfl Tryz.ntmps34 Tryz.results34 rfl (aR [4] (by kernel_rfl) (cr h fun u1 hu1 h=>af h fun u2 hu2 h=>?_))
 refine dA h ?_;clear h;intro w3 hw3 h
 refine aa (aU 7 [] (rg 5 6) [(11,pI (Int.tmod (IntKind.i64.wrap ((Int.tmod p0 p1)+p1)) p1))] (uz 2 hu1 (uz 6 hu2 bo)) (by kernel_rfl) (bh rfl rfl rfl (bi rfl (.p (congrArg (fun z=>PV.v (Value.int .i64 z)) hw3))) (au (df ?_))))
 exact zz r h rfl
def bs (p0:(List Zd)) (p1:Int) (p2:(Zd→Int→Option Int)):Option (Int×Bool):=(bf (S:=Int×Int) (T:=(Int×Int)) (fun (v1,v2)=>cond (decide (v1<v2)) (lb ((IntKind.i64.wrap (cS .u64 (IntKind.u64.wrap (IntKind.i64.wrap (v1+v2))) 1))) (fun w8=>(idx p0 w8).bind fun m9=>(p2 m9 p1).bind fun x10=>cond (decide (x10<0)) (some (.inl ((IntKind.i64.wrap (w8+1)),v2))) (some (.inl (v1,w8))))) (some (.inr (p1,v1)))) FUEL (0,(p0.length:Int))).bind fun (v3,v4)=>(gd (decide (v4<(p0.length:Int))) (idx p0 v4)).bind fun m12=>(gd (decide (v4<(p0.length:Int))) (p2 m12 v3)).bind fun x13=>some (v4,((decide (v4<(p0.length:Int)))&&(x13 == 0)))
theorem cL {p0:(List Zd)} {p1:Int} {p2:(Zd→Int→Option Int)} {r:(Int×Bool)} {g2:PV} (hg2:∀ {y0:Zd} {y1:Int} {w:Int},p2 y0 y1=some w→PFV g2 [.agg (aS y0),pI y1] (pI w)) (h:bs p0 p1 p2=some r):PF 132 [pL Zd.enc p0,pI p1,g2] (.tup [pI r.1,pB r.2]):=by
 unfold bs at h
 refine aY ?_
 refine dw Tryz.func132 rfl Tryz.ntmps132 Tryz.results132 rfl (aR [6,7] (by kernel_rfl) (br (ah [12,13] [(8,pI (p0.length:Int))] (by kernel_rfl) (br (ah [14] [(9,pI 0),(10,pI (p0.length:Int))] (by kernel_rfl) (cr h fun q6 hq6 h=>?_))))))
 refine av (Y:=Unit×(Int×Int)) (fun (_,(v3,v4))=>[(0,pL Zd.enc p0),(1,pI v3),(2,g2),(8,pI (p0.length:Int)),(9,pI v4)]) (fun (_,(v3,v4))=>[]) (fun (_,(v3,v4))=>q6=(v3,v4)) ?_ ?_
 ·refine aA ?_
  refine aC (Y:=Unit) (S:=Int×Int) _ hq6 (fun _ (v1,v2)=>[(0,pL Zd.enc p0),(1,pI p1),(2,g2),(8,pI (p0.length:Int)),(9,pI v1),(10,pI v2)]) (fun _ (v1,v2)=>[]) () (rB rfl) bz ?_
  rintro _ ⟨v1,v2⟩ o τ hb5;(try dsimp only at hb5);dsimp only [aw]
  refine ae (ae (ah [15,16] [(17,pB (decide (v1<v2)))] (by kernel_rfl) (bK rfl hb5 (fun hc7 hb5=>?_) fun hc7 hb5=>?_)))
  ·refine ai ?_
   refine aG (ff ?_)
   refine dA hb5 ?_;clear hb5;intro w8 hw8 hb5
   refine aa (cD 6 (rg 18 5) [(23,pI (IntKind.i64.wrap (cS .u64 (IntKind.u64.wrap (IntKind.i64.wrap (v1+v2))) 1)))] (by kernel_rfl) (bh rfl rfl rfl (bi rfl (.p (congrArg (fun z=>PV.v (Value.int .i64 z)) hw8))) (au (cr hb5 fun m9 hm9 hb5=>af hb5 fun x10 hx10 hb5=>an [] (rg 24 7) [(31,pB (decide (x10<0)))] (cn 3 Zd.enc hm9 (sJ 6 (hg2 hx10) bo)) (by kernel_rfl) (bK rfl hb5 (fun hc11 hb5=>?_) fun hc11 hb5=>?_)))))
   ·refine ah [32,33] [(9,pI (IntKind.i64.wrap (w8+1)))] (by kernel_rfl) ?_
    refine aB ?_
    exact aT hb5 () (rB rfl) bz
   refine ah [34] [(10,pI w8)] (by kernel_rfl) ?_
   refine aB ?_
   exact aT hb5 () (rB rfl) bz
  refine aM ?_
  refine aq (al hb5 (fun ht=>ap rfl ?_))
  exact aD ((),(p1,v1)) (lQ rfl) bz ht.symm
 rintro ⟨_,⟨v3,v4⟩⟩ τ hz;(try dsimp only at hz);subst q6;(try dsimp only at h);dsimp only [aw]
 refine ae (af h fun m12 hm12 h=>af h fun x13 hx13 h=>an [] (rg 35 14) [(6,pI v4),(7,pB ((decide (v4<(p0.length:Int)))&&(x13 == 0)))] (gX 8 Zd.enc (dj hm12) (focvg 11 (fun hc=>hg2 (dj hx13 hc)) bo)) (by kernel_rfl) (df ?_))
 obtain rfl:=osi h
 exact aO (cC (aN rfl) (aN rfl)) bz ⟨rfl,rfl⟩
def fg (p0:Int):Option Bool:=some (p0 != p0)
theorem jj {p0:Int} {r:Bool}  (h:fg p0=some r):PF 152 [pI p0] (pB r):=by
 unfold fg at h
 refine aY ?_
 refine dw Tryz.func152 rfl Tryz.ntmps152 Tryz.results152 rfl (aR [2] (by kernel_rfl) (br (ah [3,4,5] [(2,pB (p0 != p0))] (by kernel_rfl) (df ?_))))
 exact zz r h rfl
def cM (p0:Int) (p1:Int):Option Int:=(fg p0).bind fun x1=>(fg p1).bind fun x2=>cond x1 (cond x2 (some (0:Int)) (some (-1))) (cond x2 (some (1:Int)) (cond (decide (p0<p1)) (some (-1)) (cond (decide (p1<p0)) (some (1:Int)) (some (0:Int)))))
theorem fw {p0:Int} {p1:Int} {r:Int}  (h:cM p0 p1=some r):PF 103 [pI p0,pI p1] (pI r):=by
 unfold cM at h
 refine aY ?_
 refine dw Tryz.func103 rfl Tryz.ntmps103 Tryz.results103 rfl (aR [4] (by kernel_rfl) (cr h fun x1 hx1 h=>an [] [7,8] [(5,pB x1)] (bA 1 (jj hx1) bo) (by kernel_rfl) (cr h fun x2 hx2 h=>an [] [9,10] [(6,pB x2)] (bA 1 (jj hx2) bo) (by kernel_rfl) (cg (ak [(11,pB x1)] (by kernel_rfl) (bK rfl h (fun hc3 h=>?_) fun hc3 h=>?_))))))
 ·refine ae ?_
  refine ae (ak [(12,pB x2)] (by kernel_rfl) (bK rfl h (fun hc4 h=>?_) fun hc4 h=>?_))
  ·refine ae ?_
   refine dn [(4,pI 0)] (by kernel_rfl) (am (am ?_))
   exact zz r h rfl
  refine ai ?_
  refine br (dn [(4,pI (-1))] (by kernel_rfl) (am ?_))
  exact zz r h rfl
 refine ai ?_
 refine cg (ak [(13,pB x2)] (by kernel_rfl) (bK rfl h (fun hc5 h=>?_) fun hc5 h=>?_))
 ·refine ae ?_
  refine dn [(4,pI 1)] (by kernel_rfl) (am ?_)
  exact zz r h rfl
 refine ai ?_
 refine cg (ah [14,15] [(16,pB (decide (p0<p1)))] (by kernel_rfl) (bK rfl h (fun hc6 h=>?_) fun hc6 h=>?_))
 ·refine ae ?_
  refine dn [(4,pI (-1))] (by kernel_rfl) (am ?_)
  exact zz r h rfl
 refine ai ?_
 refine cg (ah [17,18] [(19,pB (decide (p1<p0)))] (by kernel_rfl) (bK rfl h (fun hc7 h=>?_) fun hc7 h=>?_))
 ·refine ae ?_
  refine dn [(4,pI 1)] (by kernel_rfl) (am ?_)
  exact zz r h rfl
 refine ai ?_
 refine br (dn [(4,pI 0)] (by kernel_rfl) ?_)
 exact zz r h rfl
def eW (p0:Zd) (p1:Int):Option Int:=(cM p0.ID p1).bind fun x2=>some x2
theorem jK {p0:Zd} {p1:Int} {r:Int}  (h:eW p0 p1=some r):PF 133 [.agg (aS p0),pI p1] (pI r):=by
 unfold eW at h
 refine aY ?_
 refine dw Tryz.func133 rfl Tryz.ntmps133 Tryz.results133 rfl (aa (aj rfl (bj (cs:=(aS p0)) rfl rfl (fun b1=>aZ [4] (by kernel_rfl) (cr h fun x2 hx2 h=>an [0] [5,6,7,8] [(4,pI x2)] (bA 3 (fw hx2) bo) (by kernel_rfl) (df ?_))))))
 exact zz r h rfl
def fU (p0:(List Zd)) (p1:Int):Option (Int×Bool):=(bs p0 p1 (fun y1 y2=>eW y1 y2)).bind fun x3=>some (x3.1,x3.2)
theorem kr {p0:(List Zd)} {p1:Int} {r:(Int×Bool)}  (h:fU p0 p1=some r):PF 90 [pL Zd.enc p0,pI p1] (.tup [pI r.1,pB r.2]):=by
 unfold fU at h
 refine aY ?_
 refine dw Tryz.func90 rfl Tryz.ntmps90 Tryz.results90 rfl (aR [4,5] (by kernel_rfl) (cr h fun x3 hx3 h=>an [] (rg 6 5) [(4,pI x3.1),(5,pB x3.2)] (bA 2 (cL (fun hr=>k9 (jK hr)) hx3) bo) (by kernel_rfl) (df ?_)))
 obtain rfl:=osi h
 exact aO (cC (aN rfl) (aN rfl)) bz ⟨rfl,rfl⟩
def bQ (p0:(List ByteArray)):Option (List ByteArray):=app 16 ([]:List ByteArray) p0
theorem cE {p0:(List ByteArray)} {r:(List ByteArray)} (h:bQ p0=some r):PCall 91 [pL eS p0] [] (fun pv ρ'=>∃ a c,pv=.v (.slice a r.length c)∧ρ'=[PRes.row a r.length c 9 1 (List.map eS r)]):=by
 unfold bQ at h
 refine eP Tryz.func91 rfl Tryz.ntmps91 Tryz.results91 rfl ?_
 (repeat refine ae ?_)
 refine aa (bh rfl rfl rfl (bi (p:=.v (.slice none 0 0)) rfl (.p rfl)) (au (aG ?_)))
 (repeat refine ae ?_)
 refine aa (bh rfl rfl rfl (fO (p:=pL eS p0) rfl (.p rfl)) (kQ rfl rfl rfl rfl rfl rfl (fun b hb=>au (aG ?_))))
 refine dN rfl (fun hc=>?_) (fun hc=>?_)
 ·have e0:p0=[]:=List.map_eq_nil_iff.1 (hb hc)
  subst e0;obtain ⟨rfl,_⟩:=je h
  (repeat refine ae ?_)
  refine aa (bh rfl rfl rfl (bi (p:=.v (.slice none 0 0)) rfl (.p rfl)) (au (aG (bO 9 1 (bx (am ?_))))))
  exact aO (cJ (aN rfl)) dl ⟨_,_,rfl,rfl⟩
 refine ai ?_
 refine aG ?_
 (repeat refine ae ?_)
 refine aa (aj rfl (bR rfl rfl rfl rfl rfl kO rfl rfl rfl rfl (fun b1=>bh rfl rfl rfl (fO (p:=pL eS p0) rfl (.p rfl)) ?_)))
 refine aj rfl (gw (enc:=eS) (xs:=([]:List ByteArray)) rfl rfl rfl rfl rfl (fun _=>rfl) rfl rfl rfl (by exact aV) h (fun a c=>?_))
 refine bh rfl rfl rfl (bi (p:=.v (.slice a r.length c)) rfl (.p rfl)) (au (df ?_))
 exact aO (cJ (aN rfl)) dl ⟨_,_,rfl,rfl⟩
def bF (p0:(List Zh)):Option (List Zh):=app 16 ([]:List Zh) p0
theorem dL {p0:(List Zh)} {r:(List Zh)} (h:bF p0=some r):PCall 92 [pL Zh.enc p0] [] (fun pv ρ'=>∃ a c,pv=.v (.slice a r.length c)∧ρ'=[PRes.row a r.length c 78 2 (List.map Zh.enc r)]):=by
 unfold bF at h
 refine eP Tryz.func92 rfl Tryz.ntmps92 Tryz.results92 rfl ?_
 (repeat refine ae ?_)
 refine aa (bh rfl rfl rfl (bi (p:=.v (.slice none 0 0)) rfl (.p rfl)) (au (aG ?_)))
 (repeat refine ae ?_)
 refine aa (bh rfl rfl rfl (fO (p:=pL Zh.enc p0) rfl (.p rfl)) (kQ rfl rfl rfl rfl rfl rfl (fun b hb=>au (aG ?_))))
 refine dN rfl (fun hc=>?_) (fun hc=>?_)
 ·have e0:p0=[]:=List.map_eq_nil_iff.1 (hb hc)
  subst e0;obtain ⟨rfl,_⟩:=je h
  (repeat refine ae ?_)
  refine aa (bh rfl rfl rfl (bi (p:=.v (.slice none 0 0)) rfl (.p rfl)) (au (aG (bO 78 2 (bx (am ?_))))))
  exact aO (cJ (aN rfl)) dl ⟨_,_,rfl,rfl⟩
 refine ai ?_
 refine aG ?_
 (repeat refine ae ?_)
 refine aa (aj rfl (bR rfl rfl rfl rfl rfl kO rfl rfl rfl rfl (fun b1=>bh rfl rfl rfl (fO (p:=pL Zh.enc p0) rfl (.p rfl)) ?_)))
 refine aj rfl (gw (enc:=Zh.enc) (xs:=([]:List Zh)) rfl rfl rfl rfl rfl (fun _=>rfl) rfl rfl rfl (by exact aV) h (fun a c=>?_))
 refine bh rfl rfl rfl (bi (p:=.v (.slice a r.length c)) rfl (.p rfl)) (au (df ?_))
 exact aO (cJ (aN rfl)) dl ⟨_,_,rfl,rfl⟩
def dx (p0:(List Zd)) (p1:Int):Option (Zd×Bool):=(fU p0 p1).bind fun x2=>cond (!x2.2) (some ((⟨0,ByteArray.empty,ByteArray.empty,0,false,[],[]⟩:Zd),false)) ((idx p0 x2.1).bind fun m4=>(bQ m4.Processes).bind fun x6=>(bF m4.Inputs).bind fun x10=>some ((⟨m4.ID,m4.Code,m4.Country,m4.Price,m4.Obtained,x6,x10⟩:Zd),true))
theorem ea {p0:(List Zd)} {p1:Int} {r:(Zd×Bool)}  (h:dx p0 p1=some r):PF 45 [pL Zd.enc p0,pI p1] (.tup [.agg (aS r.1),pB r.2]):=by
 unfold dx at h
 refine aY ?_
 refine dw Tryz.func45 rfl Tryz.ntmps45 Tryz.results45 rfl (aa (aj rfl (aQ (cs:=[pI 0,pS ByteArray.empty,pS ByteArray.empty,pI 0,pB false,pN,pN]) rfl rfl rfl rfl (fun b1=>aZ [5] (by kernel_rfl) (cr h fun x2 hx2 h=>an [] [10,11,12,9,13,14] [(6,pI x2.1),(7,pB x2.2)] (bA 2 (kr hx2) bo) (by kernel_rfl) (cg (ah [15] [(16,pB (!x2.2))] (by kernel_rfl) (bK rfl h (fun hc3 h=>?_) fun hc3 h=>?_))))))))
 ·refine ae ?_
  refine aa (aI 1 [(17,.agg [pI 0,pS ByteArray.empty,pS ByteArray.empty,pI 0,pB false,pN,pN])] (by kernel_rfl) (aX rfl rfl (aH (vs:=[pI 0,pS ByteArray.empty,pS ByteArray.empty,pI 0,pB false,pN,pN]) rfl rfl rfl rfl rfl dy px (aP [(5,pB false)] (by kernel_rfl) (aG (gy (k:=5) (b:=b1) rfl dy (gy (k:=6) (b:=b1) rfl dy (bx (am ?_)))))))))
  obtain rfl:=osi h
  exact aO (cC (gK rfl fT rfl) (aN rfl)) bz ⟨rfl,rfl⟩
 refine ai ?_
 refine cr h fun m4 hm4 h=>aa (aU 4 [] [18,19,20] [(21,.agg (aS m4))] (cn 2 Zd.enc hm4 bo) (by kernel_rfl) (aj rfl (aQ (cs:=[pI 0,pS ByteArray.empty,pS ByteArray.empty,pI 0,pB false,pN,pN]) rfl rfl rfl rfl (fun b5=>aX rfl rfl (aH (vs:=(aS m4)) rfl rfl rfl rfl rfl dy px (au (cr h fun x6 hx6 h=>aa (bI 2 [0] [22] [(23,pL eS m4.Processes)] (by kernel_rfl) ?_))))))))
 refine aj rfl (co rfl rfl (ρ1:=[]) (List.Perm.refl _) (cE hx6) ?_);rintro _ _ ⟨a7,c8,rfl,rfl⟩
 refine aI 1 [(25,pP b5 5)] (by kernel_rfl) (aX rfl rfl (aH (vs:=[pO a7 x6.length c8]) rfl rfl rfl rfl rfl (gu dy) (kh (kh (kh (kh (kh uv))))) (au (cr h fun x10 hx10 h=>aa (bI 2 [1] [26] [(27,pL Zh.enc m4.Inputs)] (by kernel_rfl) ?_)))))
 refine aj rfl (co rfl rfl (ρ1:=[]) (List.Perm.refl _) (dL hx10) ?_);rintro _ _ ⟨a11,c12,rfl,rfl⟩
 refine aI 1 [(29,pP b5 6)] (by kernel_rfl) (aX rfl rfl (aH (vs:=[pO a11 x10.length c12]) rfl rfl rfl rfl rfl (gu (gu dy)) (kh (kh (kh (kh (kh (kh uv)))))) (au (br (aa ?_)))))
 refine lC (css:=List.map eS x6) (a:=a7) (by exact az aV) ?_
 refine kM (k:=5) (enc:=eS) (xs:=x6) (b:=b5) (a:=a7) rfl fT (gu (gu dy)) ?_
 refine lC (css:=List.map Zh.enc x10) (a:=a11) (by exact az aV) ?_
 refine kM (k:=6) (enc:=Zh.enc) (xs:=x10) (b:=b5) (a:=a11) rfl fT (gu (gu dy)) (gz 1 [2] [(30,.agg [pI m4.ID,pS m4.Code,pS m4.Country,pI m4.Price,pB m4.Obtained,pL eS x6,pL Zh.enc x10])] (by kernel_rfl) (aX rfl rfl (aH (vs:=[pI m4.ID,pS m4.Code,pS m4.Country,pI m4.Price,pB m4.Obtained,pL eS x6,pL Zh.enc x10]) rfl rfl rfl rfl rfl (gu (gu (gu dy))) px (aP [(5,pB true)] (by kernel_rfl) (df ?_)))))
 obtain rfl:=osi h
 exact aO (cC (gK rfl zm3 rfl) (aN rfl)) bz ⟨rfl,rfl⟩
def bD (p0:(List Zg)) (p1:(Zg→Option Bool)):Option Int:=(bf (S:=Int) (T:=(Unit)⊕(_)) (fun v1=>cond (decide (v1<(p0.length:Int))) ((idx p0 v1).bind fun m5=>(p1 m5).bind fun x6=>cond x6 (some (.inr (.inr v1))) (some (.inl (IntKind.i64.wrap (v1+1))))) (some (.inr (.inl ())))) FUEL 0).bind fun q=>match q with | .inl _=>some (-1) | .inr e=>some e
theorem dB {p0:(List Zg)} {p1:(Zg→Option Bool)} {r:Int} {g1:PV} (hg1:∀ {y0:Zg} {w:Bool},p1 y0=some w→PFV g1 [.agg (aL y0)] (pB w)) (h:bD p0 p1=some r):PF 93 [pL Zg.enc p0,g1] (pI r):=by
 unfold bD at h
 refine aY ?_
 refine dw Tryz.func93 rfl Tryz.ntmps93 Tryz.results93 rfl (aR [4] (by kernel_rfl) (cg (ah [6] [(7,pI (p0.length:Int)),(8,pI 0)] (by kernel_rfl) (fG h fun q3 hq3 h=>?_))))
 refine av (Y:=Unit×Unit) (fun (_,_)=>[]) (fun (_,_)=>[]) (fun (_,_)=>q3=Sum.inl ()) ?_ ?_
 ·refine aA ?_
  refine aC (Y:=Unit) (S:=Int) _ hq3 (fun _ v1=>[(0,pL Zg.enc p0),(1,g1),(7,pI (p0.length:Int)),(8,pI v1)]) (fun _ v1=>[]) () (gI rfl) bz ?_
  rintro _ v1 o τ hb2;(try dsimp only at hb2);dsimp only [aw]
  refine ae (ak [(9,pB (decide (v1<(p0.length:Int))))] (by kernel_rfl) (br (gM rfl hb2 (fun hc4 hb2=>?_) fun hc4 hb2=>?_)))
  ·refine ai ?_
   refine br (ff (ah [10] [(5,pI v1)] (by kernel_rfl) (cr hb2 fun m5 hm5 hb2=>af hb2 fun x6 hx6 hb2=>an [] (rg 11 5) [(16,pB x6)] (cn 3 Zg.enc hm5 (sJ 5 (hg1 hx6) bo)) (by kernel_rfl) (bK rfl hb2 (fun hc7 hb2=>?_) fun hc7 hb2=>?_))))
   ·refine ae ?_
    refine ah [17] [(4,pI v1)] (by kernel_rfl) (df (eV ?_))
    refine aF hb2 (fun ht=>?_);subst ht
    refine ar (aJ ?_)
    exact zz r h rfl
   refine ai ?_
   refine dY (ah [18] [(8,pI (IntKind.i64.wrap (v1+1)))] (by kernel_rfl) ?_)
   exact aT hb2 () (gI rfl) bz
  refine aM ?_
  refine aq (al hb2 (fun ht=>ap rfl ?_))
  exact aD ((),()) kl bz ht.symm
 rintro ⟨_,_⟩ τ hz;(try dsimp only at hz);subst q3;(try dsimp only at h);dsimp only [aw]
 refine ae (dn [(4,pI (-1))] (by kernel_rfl) ?_)
 exact zz r h rfl
def fX (p0:Zg) (p1:Int):Option Bool:=some (p0.ID == p1)
theorem ku {p0:Zg} {p1:Int} {r:Bool}  (h:fX p0 p1=some r):PF 94 [.agg (aL p0),.ref [pI p1] 0] (pB r):=by
 unfold fX at h
 refine aY ?_
 refine dw Tryz.func94 rfl Tryz.ntmps94 Tryz.results94 rfl (aa (aj rfl (bj (cs:=(aL p0)) rfl rfl (fun b1=>aZ [3] (by kernel_rfl) (br (aW [0] [4,5,6,7] [(3,pB (p0.ID == p1))] (by kernel_rfl) (df ?_)))))))
 exact zz r h rfl
def ep (p0:(List Zg)) (p1:Int):Option (Zg×Bool):=(bD p0 (fun y3=>fX y3 p1)).bind fun x4=>cond (decide (x4<0)) (some ((⟨0,0,[],[]⟩:Zg),false)) ((idx p0 x4).bind fun m6=>some (m6,true))
theorem fx {p0:(List Zg)} {p1:Int} {r:(Zg×Bool)}  (h:ep p0 p1=some r):PF 46 [pL Zg.enc p0,pI p1] (.tup [.agg (aL r.1),pB r.2]):=by
 unfold ep at h
 refine aY ?_
 refine dw Tryz.func46 rfl Tryz.ntmps46 Tryz.results46 rfl (aa (aj rfl (bj (cs:=[pI p1]) rfl rfl (fun b1=>aj rfl (aQ (cs:=[pI 0,pI 0,pN,pN]) rfl rfl rfl rfl (fun b2=>aZ [5] (by kernel_rfl) (br (aa (aI 1 [(7,pL Zg.enc p0)] (by kernel_rfl) ?_)))))))))
 refine jG 3 rfl (by exact az aV) ?_
 refine af h fun x4 hx4 h=>eB [] [8,9] [(6,pI x4)] (bA 1 (dB (fun hr=>k9 (ku hr)) hx4) bo) (by kernel_rfl) (cg (ah [10] [(11,pB (decide (x4<0)))] (by kernel_rfl) (bK rfl h (fun hc5 h=>?_) fun hc5 h=>?_)))
 ·refine ae ?_
  refine aa (aI 1 [(12,.agg [pI 0,pI 0,pN,pN])] (by kernel_rfl) (aX rfl rfl (aH (vs:=[pI 0,pI 0,pN,pN]) rfl rfl rfl rfl rfl (gu dy) vV (aP [(5,pB false)] (by kernel_rfl) (aG (gy (k:=2) (b:=b2) rfl (gu dy) (gy (k:=3) (b:=b2) rfl (gu dy) (bx (am ?_)))))))))
  obtain rfl:=osi h
  exact aO (cC (gK rfl uV rfl) (aN rfl)) bz ⟨rfl,rfl⟩
 refine ai ?_
 refine cr h fun m6 hm6 h=>aa (aU 4 [] [13,14,15] [(16,.agg (aL m6))] (cn 2 Zg.enc hm6 bo) (by kernel_rfl) (aX rfl rfl (aH (vs:=(aL m6)) rfl rfl rfl rfl rfl (gu dy) vV (aP [(5,pB true)] (by kernel_rfl) (df ?_)))))
 obtain rfl:=osi h
 exact aO (cC (gK rfl uV rfl) (aN rfl)) bz ⟨rfl,rfl⟩
def cY (p0:(List ByteArray)) (p1:ByteArray):Option Int:=(bf (S:=Int) (T:=(Unit)⊕(_)) (fun v1=>cond (decide (v1<(p0.length:Int))) ((idx p0 v1).bind fun m5=>cond (decide (p1=m5)) (some (.inr (.inr v1))) (some (.inl (IntKind.i64.wrap (v1+1))))) (some (.inr (.inl ())))) FUEL 0).bind fun q=>match q with | .inl _=>some (-1) | .inr e=>some e
theorem gA {p0:(List ByteArray)} {p1:ByteArray} {r:Int}  (h:cY p0 p1=some r):PF 137 [pL eS p0,pS p1] (pI r):=by
 unfold cY at h
 refine aY ?_
 refine dw Tryz.func137 rfl Tryz.ntmps137 Tryz.results137 rfl (aR [4] (by kernel_rfl) (cg (ah [6] [(7,pI (p0.length:Int)),(8,pI 0)] (by kernel_rfl) (fG h fun q3 hq3 h=>?_))))
 refine av (Y:=Unit×Unit) (fun (_,_)=>[]) (fun (_,_)=>[]) (fun (_,_)=>q3=Sum.inl ()) ?_ ?_
 ·refine aA ?_
  refine aC (Y:=Unit) (S:=Int) _ hq3 (fun _ v1=>[(0,pL eS p0),(1,pS p1),(7,pI (p0.length:Int)),(8,pI v1)]) (fun _ v1=>[]) () (gI rfl) bz ?_
  rintro _ v1 o τ hb2;(try dsimp only at hb2);dsimp only [aw]
  refine ae (ak [(9,pB (decide (v1<(p0.length:Int))))] (by kernel_rfl) (br (gM rfl hb2 (fun hc4 hb2=>?_) fun hc4 hb2=>?_)))
  ·refine ai ?_
   refine br (ff (ah [10] [(5,pI v1)] (by kernel_rfl) (cr hb2 fun m5 hm5 hb2=>an [] (rg 11 5) [(16,pB (decide (p1=m5)))] (cn 3 eS hm5 bo) (by kernel_rfl) (bK rfl hb2 (fun hc6 hb2=>?_) fun hc6 hb2=>?_))))
   ·refine ae ?_
    refine ah [17] [(4,pI v1)] (by kernel_rfl) (df (eV ?_))
    refine aF hb2 (fun ht=>?_);subst ht
    refine ar (aJ ?_)
    exact zz r h rfl
   refine ai ?_
   refine dY (ah [18] [(8,pI (IntKind.i64.wrap (v1+1)))] (by kernel_rfl) ?_)
   exact aT hb2 () (gI rfl) bz
  refine aM ?_
  refine aq (al hb2 (fun ht=>ap rfl ?_))
  exact aD ((),()) kl bz ht.symm
 rintro ⟨_,_⟩ τ hz;(try dsimp only at hz);subst q3;(try dsimp only at h);dsimp only [aw]
 refine ae (dn [(4,pI (-1))] (by kernel_rfl) ?_)
 exact zz r h rfl
def bv (p0:(List ByteArray)) (p1:ByteArray):Option Bool:=(cY p0 p1).bind fun x1=>some (decide (0≤x1))
theorem bJ {p0:(List ByteArray)} {p1:ByteArray} {r:Bool}  (h:bv p0 p1=some r):PF 96 [pL eS p0,pS p1] (pB r):=by
 unfold bv at h
 refine aY ?_
 refine dw Tryz.func96 rfl Tryz.ntmps96 Tryz.results96 rfl (aR [4] (by kernel_rfl) (cr h fun x1 hx1 h=>an [] [5,6,7,8] [(4,pB (decide (0≤x1)))] (bA 2 (gA hx1) bo) (by kernel_rfl) (df ?_)))
 exact zz r h rfl
def dg (p0:Zg) (p1:ByteArray) (p2:ByteArray):Option Bool:=(bv p0.Parties p1).bind fun x2=>(gd x2 (bv p0.Parties p2)).bind fun x3=>some (x2&&x3)
theorem fh {p0:Zg} {p1:ByteArray} {p2:ByteArray} {r:Bool}  (h:dg p0 p1 p2=some r):PF 88 [.agg (aL p0),pS p1,pS p2] (pB r):=by
 unfold dg at h
 refine aY ?_
 refine dw Tryz.func88 rfl Tryz.ntmps88 Tryz.results88 rfl (aa (aj rfl (bj (cs:=(aL p0)) rfl rfl (fun b1=>aZ [6] (by kernel_rfl) (cr h fun x2 hx2 h=>af h fun x3 hx3 h=>an [0,0] (rg 7 10) [(6,pB (x2&&x3))] (bA 3 (bJ hx2) (dR 8 (fun hc=>bJ (dj hx3 hc)) bo)) (by kernel_rfl) (df ?_))))))
 exact zz r h rfl
def ey (p0:ByteArray) (p1:ByteArray):Option Bool:=(gd (decide ((p1.size:Int)≤(p0.size:Int))) (ka p0 0 (p1.size:Int))).bind fun s1=>some ((decide ((p1.size:Int)≤(p0.size:Int)))&&(decide (s1=p1)))
theorem iT {p0:ByteArray} {p1:ByteArray} {r:Bool}  (h:ey p0 p1=some r):PF 164 [pS p0,pS p1] (pB r):=by
 unfold ey at h
 refine aY ?_
 refine dw Tryz.func164 rfl Tryz.ntmps164 Tryz.results164 rfl (aR [4] (by kernel_rfl) (cr h fun s1 hs1 h=>an [] (rg 5 13) [(4,pB ((decide ((p1.size:Int)≤(p0.size:Int)))&&(decide (s1=p1))))] (fossg 9 (dj hs1) bo) (by kernel_rfl) (df ?_)))
 exact zz r h rfl
def dC (p0:ByteArray) (p1:ByteArray):Option Bool:=(ey p0 p1).bind fun x1=>some x1
theorem eH {p0:ByteArray} {p1:ByteArray} {r:Bool}  (h:dC p0 p1=some r):PF 129 [pS p0,pS p1] (pB r):=by
 unfold dC at h
 refine aY ?_
 refine dw Tryz.func129 rfl Tryz.ntmps129 Tryz.results129 rfl (aR [4] (by kernel_rfl) (cr h fun x1 hx1 h=>an [] [5,6,7] [(4,pB x1)] (bA 2 (iT hx1) bo) (by kernel_rfl) (df ?_)))
 exact zz r h rfl
def jL (rec:Ze→Int→Option Int) (p0:Ze) (p1:Int):Option Int:=(bf (S:=Int×Int) (T:=(Int)⊕(_)) (fun (v2,v3)=>cond (decide (v3<(p0.Args.length:Int))) ((idx p0.Args v3).bind fun m8=>cond (decide (p1≤v2)) (some (.inr (.inr p1))) ((rec m8 (IntKind.i64.wrap (p1 - v2))).bind fun x11=>some (.inl ((IntKind.i64.wrap (v2+x11)),(IntKind.i64.wrap (v3+1)))))) (some (.inr (.inl v2)))) FUEL (1,0)).bind fun q=>match q with | .inl v4=>some v4 | .inr e=>some e
theorem mM {rec:Ze→Int→Option Int} (hrec:∀ {p0:Ze} {p1:Int} {r:Int},rec p0 p1=some r→PF 165 [.agg (aK p0),pI p1] (pI r)) {p0:Ze} {p1:Int} {r:Int} (h:jL rec p0 p1=some r):PF 165 [.agg (aK p0),pI p1] (pI r):=by
 unfold jL at h
 refine aY ?_
 refine dw Tryz.func165 rfl Tryz.ntmps165 Tryz.results165 rfl (aa (aj rfl (bj (cs:=(aK p0)) rfl rfl (fun b1=>aZ [4] (by kernel_rfl) (br (ak [(5,pI 1)] (by kernel_rfl) (cg (aW [0] [8] [(9,pL Ze.enc p0.Args),(10,pI (p0.Args.length:Int)),(11,pI 0)] (by kernel_rfl) (fG h fun q6 hq6 h=>?_)))))))))
 refine av (Y:=Unit×Int) (fun (_,v4)=>[(5,pI v4)]) (fun (_,v4)=>[]) (fun (_,v4)=>q6=Sum.inl v4) ?_ ?_
 ·refine aA ?_
  refine aC (Y:=Unit) (S:=Int×Int) _ hq6 (fun _ (v2,v3)=>[(1,pI p1),(5,pI v2),(9,pL Ze.enc p0.Args),(10,pI (p0.Args.length:Int)),(11,pI v3)]) (fun _ (v2,v3)=>[]) () (lQ rfl) bz ?_
  rintro _ ⟨v2,v3⟩ o τ hb5;(try dsimp only at hb5);dsimp only [aw]
  refine ae (ak [(12,pB (decide (v3<(p0.Args.length:Int))))] (by kernel_rfl) (br (gM rfl hb5 (fun hc7 hb5=>?_) fun hc7 hb5=>?_)))
  ·refine ai ?_
   refine br (ff (af hb5 fun m8 hm8 hb5=>aa (aU 2 [] [13] [(14,.agg (aK m8))] (pz 0 Ze.enc (Ze.enc_eq _) hm8 bo) (by kernel_rfl) (aj rfl (aQ (cs:=[pI 0,pI 0,pN,pI 0,pI 0,pS ByteArray.empty,pN]) rfl rfl rfl rfl (fun b9=>aX rfl rfl (aH (vs:=(aK m8)) rfl rfl rfl rfl rfl dy px (au (cg (ah [15,16] [(17,pB (decide (p1≤v2)))] (by kernel_rfl) (bK rfl hb5 (fun hc10 hb5=>?_) fun hc10 hb5=>?_)))))))))))
   ·refine ae ?_
    refine ah [18] [(4,pI p1)] (by kernel_rfl) (df (am (eV ?_)))
    refine aF hb5 (fun ht=>?_);subst ht
    refine ar (aJ ?_)
    exact zz r h rfl
   refine ai ?_
   refine fG hb5 fun x11 hx11 hb5=>an [0] (rg 19 7) [(5,pI (IntKind.i64.wrap (v2+x11)))] (bA 5 (hrec hx11) bo) (by kernel_rfl) (dY (ah [26] [(11,pI (IntKind.i64.wrap (v3+1)))] (by kernel_rfl) ?_))
   exact aT hb5 () (lQ rfl) bz
  refine aM ?_
  refine aq (al hb5 (fun ht=>ap rfl ?_))
  exact aD ((),v2) (uu rfl) bz ht.symm
 rintro ⟨_,v4⟩ τ hz;(try dsimp only at hz);subst q6;(try dsimp only at h);dsimp only [aw]
 refine ae (ah [27] [(4,pI v4)] (by kernel_rfl) (df ?_))
 exact zz r h rfl
def lJ (n:Nat):Ze→Int→Option Int:=Nat.rec (motive:=fun _=>Ze→Int→Option Int) (fun _ _=>none) (fun _ ih=>jL ih) n
def om (p0:Ze) (p1:Int):Option Int:=lJ FUEL p0 p1
theorem oo (n:Nat):∀ {p0:Ze} {p1:Int} {r:Int},lJ n p0 p1=some r→PF 165 [.agg (aK p0),pI p1] (pI r):=by
 induction n with
 | zero=>intros;rename_i h;exact nomatch h
 | succ n ih=>intros;rename_i h;exact mM (fun hr=>ih hr) h
theorem oV {p0:Ze} {p1:Int} {r:Int} (h:om p0 p1=some r):PF 165 [.agg (aK p0),pI p1] (pI r):=oo FUEL h
def lh (p0:Ze):Option Bool:=cond ((!(p0.Kind == 2))&&(((p0.Digits != 0)||(decide (0<(p0.Except.length:Int))))||(p0.Tolerance != 0))) (some false) (cond ((p0.Kind != 3)&&(p0.Limit != 0)) (some false) (cond ((p0.Kind != 4)&&(!decide (p0.Name=(⟨#[]⟩:ByteArray)))) (some false) (some (((p0.Kind == 5)||(p0.Kind == 6))||((p0.Args.length:Int) == 0)))))
theorem oW {p0:Ze} {r:Bool}  (h:lh p0=some r):PF 188 [.agg (aK p0)] (pB r):=by
 unfold lh at h
 refine aY ?_
 refine dw Tryz.func188 rfl Tryz.ntmps188 Tryz.results188 rfl (aa (aj rfl (bj (cs:=(aK p0)) rfl rfl (fun b1=>aZ [2] (by kernel_rfl) (br (aW [0] [5,6,7] [(3,pB (p0.Kind == 2))] (by kernel_rfl) (br (aW [0,0] (rg 8 8) [(4,pB ((p0.Kind == 5)||(p0.Kind == 6)))] (by kernel_rfl) (br (ff (aW [0,0,0] (rg 17 18) [(16,pB ((!(p0.Kind == 2))&&(((p0.Digits != 0)||(decide (0<(p0.Except.length:Int))))||(p0.Tolerance != 0))))] (by kernel_rfl) (bK rfl h (fun hc2 h=>?_) fun hc2 h=>?_))))))))))))
 ·refine ae ?_
  refine dn [(2,pB false)] (by kernel_rfl) (eV ?_)
  exact zz r h rfl
 refine ae ?_
 refine aW [0,0] (rg 36 8) [(35,pB ((p0.Kind != 3)&&(p0.Limit != 0)))] (by kernel_rfl) (bK rfl h (fun hc3 h=>?_) fun hc3 h=>?_)
 ·refine ae ?_
  refine dn [(2,pB false)] (by kernel_rfl) (eV ?_)
  exact zz r h rfl
 refine ae ?_
 refine aW [0,0] (rg 45 8) [(44,pB ((p0.Kind != 4)&&(!decide (p0.Name=(⟨#[]⟩:ByteArray)))))] (by kernel_rfl) (bK rfl h (fun hc4 h=>?_) fun hc4 h=>?_)
 ·refine ae ?_
  refine dn [(2,pB false)] (by kernel_rfl) (eV ?_)
  exact zz r h rfl
 refine ai ?_
 refine aB (br (aW [0] (rg 53 7) [(2,pB (((p0.Kind == 5)||(p0.Kind == 6))||((p0.Args.length:Int) == 0)))] (by kernel_rfl) (df ?_)))
 exact zz r h rfl
def fk (p0:Int):Option Bool:=some ((decide (0≤p0))&&(decide (p0≤1000000)))
theorem ik {p0:Int} {r:Bool}  (h:fk p0=some r):PF 190 [pI p0] (pB r):=by
 unfold fk at h
 refine aY ?_
 refine dw Tryz.func190 rfl Tryz.ntmps190 Tryz.results190 rfl (aR [2] (by kernel_rfl) (br (ah (rg 3 6) [(2,pB ((decide (0≤p0))&&(decide (p0≤1000000))))] (by kernel_rfl) (df ?_))))
 exact zz r h rfl
def eb (rec:Ze→Option Ze) (p0:Ze):Option Ze:=(bQ p0.Except).bind fun x3=>(mk0 96 (p0.Args.length:Int)).bind fun u7=>(bf (S:=(List Ze)×Int) (T:=((List Ze))) (fun (l11,v14)=>cond (decide (v14<(p0.Args.length:Int))) ((idx p0.Args v14).bind fun m23=>(rec m23).bind fun x25=>(app 96 l11 [x25]).bind fun l28=>some (.inl (l28,(IntKind.i64.wrap (v14+1))))) (some (.inr l11))) FUEL (([]:List Ze),0)).bind fun l18=>some (⟨p0.Kind,p0.Digits,x3,p0.Tolerance,p0.Limit,p0.Name,l18⟩:Ze)
theorem iz {rec:Ze→Option Ze} (hrec:∀ {p0:Ze} {r:Ze},rec p0=some r→PF 131 [.agg (aK p0)] (.agg (aK r))) {p0:Ze} {r:Ze} (h:eb rec p0=some r):PF 131 [.agg (aK p0)] (.agg (aK r)):=by
 unfold eb at h
 refine aY ?_
 refine dw Tryz.func131 rfl Tryz.ntmps131 Tryz.results131 rfl (aa (aj rfl (bj (cs:=(aK p0)) rfl rfl (fun b1=>aj rfl (aQ (cs:=[pI 0,pI 0,pN,pI 0,pI 0,pS ByteArray.empty,pN]) rfl rfl rfl rfl (fun b2=>au (cr h fun x3 hx3 h=>aa (bI 2 [1] [6] [(7,pL eS p0.Except)] (by kernel_rfl) ?_))))))))
 refine aj rfl (co rfl rfl (ρ1:=[]) (List.Perm.refl _) (cE hx3) ?_);rintro _ _ ⟨a4,c5,rfl,rfl⟩
 refine aI 1 [(9,pP b1 2)] (by kernel_rfl) (aX rfl rfl (aH (vs:=[pO a4 x3.length c5]) rfl rfl rfl rfl rfl (gu (gu dy)) (kh (kh uv)) (au (cr h fun u7 hu7 h=>aa (bI 3 [2] [10,11] [(12,pI (p0.Args.length:Int))] (by kernel_rfl) (aj rfl (wx rfl rfl rfl rfl rfl rfl rfl hu7 (fun b8=>aP [(3,pO (some ⟨b8,0,none⟩) 0 ((p0.Args.length:Int).toNat))] (by kernel_rfl) (cg (aW [3] [14] [(15,pL Ze.enc p0.Args),(16,pI (p0.Args.length:Int)),(17,pI 0)] (by kernel_rfl) (fG h fun q21 hq21 h=>?_)))))))))))
 refine av (Y:=(Option Addr×Nat)×((List Ze))) (fun ((a16,c17),l18)=>[(1,pP b1 0),(2,pP b2 0),(3,pO a16 l18.length c17)]) (fun ((a16,c17),l18)=>[PRes.b b1 84 [pI p0.Kind,pI p0.Digits,pO a4 x3.length c5,pI p0.Tolerance,pI p0.Limit,pS p0.Name,pL Ze.enc p0.Args],PRes.b b2 84 [pI 0,pI 0,pN,pI 0,pI 0,pS ByteArray.empty,pN],PRes.row a16 l18.length c17 84 7 (List.map Ze.enc l18),PRes.row a4 x3.length c5 9 1 (List.map eS x3)]) (fun ((a16,c17),l18)=>q21=l18) ?_ ?_
 ·refine aA ?_
  refine aC (Y:=Option Addr×Nat) (S:=(List Ze)×Int) _ hq21 (fun (a12,c13) (l11,v14)=>[(1,pP b1 0),(2,pP b2 0),(3,pO a12 l11.length c13),(15,pL Ze.enc p0.Args),(16,pI (p0.Args.length:Int)),(17,pI v14)]) (fun (a12,c13) (l11,v14)=>[PRes.b b1 84 [pI p0.Kind,pI p0.Digits,pO a4 x3.length c5,pI p0.Tolerance,pI p0.Limit,pS p0.Name,pL Ze.enc p0.Args],PRes.b b2 84 [pI 0,pI 0,pN,pI 0,pI 0,pS ByteArray.empty,pN],PRes.row a12 l11.length c13 84 7 (List.map Ze.enc l11),PRes.row a4 x3.length c5 9 1 (List.map eS x3)]) ((some ⟨b8,0,none⟩),(p0.Args.length:Int).toNat) (rB rfl) (bu (az (az (az aV))) (bu (az (az aV)) pu)) ?_
  rintro ⟨a12,c13⟩ ⟨l11,v14⟩ o τ hb20;(try dsimp only at hb20);dsimp only [aw]
  refine ae (ak [(18,pB (decide (v14<(p0.Args.length:Int))))] (by kernel_rfl) (br (gM rfl hb20 (fun hc22 hb20=>?_) fun hc22 hb20=>?_)))
  ·refine ai ?_
   refine br (ff (af hb20 fun m23 hm23 hb20=>aa (aU 2 [] [19] [(20,.agg (aK m23))] (pz 0 Ze.enc (Ze.enc_eq _) hm23 bo) (by kernel_rfl) (aj rfl (aQ (cs:=[pI 0,pI 0,pN,pI 0,pI 0,pS ByteArray.empty,pN]) rfl rfl rfl rfl (fun b24=>aX rfl rfl (aH (vs:=(aK m23)) rfl rfl rfl rfl rfl dy px (au (fG hb20 fun x25 hx25 hb20=>aa (aU 3 [0] [22] [(21,pO a12 l11.length c13),(23,.agg (aK x25))] (bA 2 (hrec hx25) bo) (by kernel_rfl) ?_))))))))))
   refine aj rfl (bR (css:=List.map Ze.enc [x25]) rfl rfl rfl rfl rfl (by (simp only [List.map_cons,List.map_nil,Ze.enc_eq];(repeat (first | exact kO | apply ko rfl)))) rfl (by (simp only [List.map_cons,List.map_nil,Ze.enc_eq];rfl)) rfl rfl (fun b26=>?_))
   refine af hb20 fun l28 hl28 hb20=>?_
   refine aj rfl (cQ (enc:=Ze.enc) rfl rfl rfl rfl rfl rfl rfl rfl rfl fT (by exact az (az (az (az aV)))) hl28 (fun a29 c30=>?_))
   refine aP [(3,pO a29 l28.length c30)] (by kernel_rfl) (dY (ah [26] [(17,pI (IntKind.i64.wrap (v14+1)))] (by kernel_rfl) ?_))
   exact aT hb20 (a29,c30) (rB rfl) (bu (az (az (az aV))) (bu (az (az (az aV))) (bu aV (bu (az (az aV)) bz))))
  refine aM ?_
  refine aq (al hb20 (fun ht=>ap rfl ?_))
  exact aD ((a12,c13),l11) (oS rfl) zs4 ht.symm
 rintro ⟨⟨a16,c17⟩,l18⟩ τ hz;(try dsimp only at hz);subst q21;(try dsimp only at h);dsimp only [aw]
 refine ae (aa (aI 2 [(27,pO a16 l18.length c17),(28,pP b1 6)] (by kernel_rfl) (aX rfl rfl (aH (vs:=[pO a16 l18.length c17]) rfl rfl rfl rfl rfl dy (kh (kh (kh (kh (kh (kh uv)))))) (au (br (aa ?_)))))))
 refine lC (css:=List.map eS x3) (a:=a4) (by exact az (az (az aV))) ?_
 refine kM (k:=2) (enc:=eS) (xs:=x3) (b:=b1) (a:=a4) rfl fT (gu dy) ?_
 refine lC (css:=List.map Ze.enc l18) (a:=a16) (by exact az (az (az aV))) ?_
 refine kM (k:=6) (enc:=Ze.enc) (xs:=l18) (b:=b1) (a:=a16) rfl fT (gu (gu dy)) (gz 1 [2] [(29,.agg [pI p0.Kind,pI p0.Digits,pL eS x3,pI p0.Tolerance,pI p0.Limit,pS p0.Name,pL Ze.enc l18])] (by kernel_rfl) (aX rfl rfl (aH (vs:=[pI p0.Kind,pI p0.Digits,pL eS x3,pI p0.Tolerance,pI p0.Limit,pS p0.Name,pL Ze.enc l18]) rfl rfl rfl rfl rfl (gu (gu (gu dy))) px (au (df ?_)))))
 obtain rfl:=osi h
 exact aO (cJ (gK rfl zm3 rfl)) bz ⟨rfl,rfl⟩
def fY (n:Nat):Ze→Option Ze:=Nat.rec (motive:=fun _=>Ze→Option Ze) (fun _=>none) (fun _ ih=>eb ih) n
def gB (p0:Ze):Option Ze:=fY FUEL p0
theorem iU (n:Nat):∀ {p0:Ze} {r:Ze},fY n p0=some r→PF 131 [.agg (aK p0)] (.agg (aK r)):=by
 induction n with
 | zero=>intros;rename_i h;exact nomatch h
 | succ n ih=>intros;rename_i h;exact iz (fun hr=>ih hr) h
theorem jk {p0:Ze} {r:Ze} (h:gB p0=some r):PF 131 [.agg (aK p0)] (.agg (aK r)):=iU FUEL h
def be (p0:(List Zj)) (p1:(List Zj)) (p2:(Zj→Zj→Option Bool)):Option Bool:=cond ((p0.length:Int) != (p1.length:Int)) (some false) ((bf (S:=Int) (T:=(Unit)⊕(_)) (fun v2=>cond (decide (v2<(p0.length:Int))) ((idx p0 v2).bind fun m6=>(idx p1 v2).bind fun m8=>(p2 m6 m8).bind fun x10=>cond (!x10) (some (.inr (.inr false))) (some (.inl (IntKind.i64.wrap (v2+1))))) (some (.inr (.inl ())))) FUEL 0).bind fun q=>match q with | .inl _=>some true | .inr e=>some e)
theorem bU {p0:(List Zj)} {p1:(List Zj)} {p2:(Zj→Zj→Option Bool)} {r:Bool} {g2:PV} (hg2:∀ {y0:Zj} {y1:Zj} {w:Bool},p2 y0 y1=some w→PFV g2 [.agg (ce y0),.agg (ce y1)] (pB w)) (h:be p0 p1 p2=some r):PF 134 [pL Zj.enc p0,pL Zj.enc p1,g2] (pB r):=by
 unfold be at h
 refine aY ?_
 refine dw Tryz.func134 rfl Tryz.ntmps134 Tryz.results134 rfl (aR [6] (by kernel_rfl) (cg (ah [10,11,12,13] [(14,pB ((p0.length:Int) != (p1.length:Int)))] (by kernel_rfl) (bK rfl h (fun hc1 h=>?_) fun hc1 h=>?_))))
 ·refine ae ?_
  refine dn [(6,pB false)] (by kernel_rfl) (am ?_)
  exact zz r h rfl
 refine ai ?_
 refine cg (ak [(15,pL Zj.enc p0),(16,pI (p0.length:Int)),(17,pI 0)] (by kernel_rfl) (fG h fun q4 hq4 h=>?_))
 refine av (Y:=Unit×Unit) (fun (_,_)=>[]) (fun (_,_)=>[]) (fun (_,_)=>q4=Sum.inl ()) ?_ ?_
 ·refine aA ?_
  refine aC (Y:=Unit) (S:=Int) _ hq4 (fun _ v2=>[(1,pL Zj.enc p1),(2,g2),(15,pL Zj.enc p0),(16,pI (p0.length:Int)),(17,pI v2)]) (fun _ v2=>[]) () (lQ rfl) bz ?_
  rintro _ v2 o τ hb3;(try dsimp only at hb3);dsimp only [aw]
  refine ae (ak [(18,pB (decide (v2<(p0.length:Int))))] (by kernel_rfl) (br (gM rfl hb3 (fun hc5 hb3=>?_) fun hc5 hb3=>?_)))
  ·refine ai ?_
   refine br (ff (af hb3 fun m6 hm6 hb3=>aa (aU 3 [] [20] [(19,pI v2),(21,.agg (ce m6))] (cn 1 Zj.enc hm6 bo) (by kernel_rfl) (aj rfl (aQ (cs:=[pS ByteArray.empty,pI 0,pI 0,pN,pI 0,pI 0,pS ByteArray.empty,pN]) rfl rfl rfl rfl (fun b7=>aI 1 [(7,pI v2)] (by kernel_rfl) (aX rfl rfl (aH (vs:=(ce m6)) rfl rfl rfl rfl rfl dy zl8 (au (cr hb3 fun m8 hm8 hb3=>aa (aU 4 [] [22,23,24] [(25,.agg (ce m8))] (cn 2 Zj.enc hm8 bo) (by kernel_rfl) (aj rfl (aQ (cs:=[pS ByteArray.empty,pI 0,pI 0,pN,pI 0,pI 0,pS ByteArray.empty,pN]) rfl rfl rfl rfl (fun b9=>aX rfl rfl (aH (vs:=(ce m8)) rfl rfl rfl rfl rfl dy zl8 (au (cr hb3 fun x10 hx10 hb3=>an [1,0] [26,27,28,29] [(30,pB (!x10))] (sJ 3 (hg2 hx10) bo) (by kernel_rfl) (bK rfl hb3 (fun hc11 hb3=>?_) fun hc11 hb3=>?_))))))))))))))))))
   ·refine ae ?_
    refine dn [(6,pB false)] (by kernel_rfl) (eV ?_)
    refine aF hb3 (fun ht=>?_);subst ht
    refine ar (aJ ?_)
    exact zz r h rfl
   refine ai ?_
   refine dY (ah [31] [(17,pI (IntKind.i64.wrap (v2+1)))] (by kernel_rfl) ?_)
   exact aT hb3 () (lQ rfl) bz
  refine aM ?_
  refine aq (al hb3 (fun ht=>ap rfl ?_))
  exact aD ((),()) kl bz ht.symm
 rintro ⟨_,_⟩ τ hz;(try dsimp only at hz);subst q4;(try dsimp only at h);dsimp only [aw]
 refine ae (dn [(6,pB true)] (by kernel_rfl) ?_)
 exact zz r h rfl
def cZ (p0:(List ByteArray)) (p1:(List ByteArray)):Option Bool:=cond ((p0.length:Int) != (p1.length:Int)) (some false) ((bf (S:=Int) (T:=(Unit)⊕(_)) (fun v2=>cond (decide (v2<(p0.length:Int))) ((idx p0 v2).bind fun m6=>(idx p1 v2).bind fun m7=>cond (!decide (m6=m7)) (some (.inr (.inr false))) (some (.inl (IntKind.i64.wrap (v2+1))))) (some (.inr (.inl ())))) FUEL 0).bind fun q=>match q with | .inl _=>some true | .inr e=>some e)
theorem gC {p0:(List ByteArray)} {p1:(List ByteArray)} {r:Bool}  (h:cZ p0 p1=some r):PF 167 [pL eS p0,pL eS p1] (pB r):=by
 unfold cZ at h
 refine aY ?_
 refine dw Tryz.func167 rfl Tryz.ntmps167 Tryz.results167 rfl (aR [4] (by kernel_rfl) (cg (ah [6,7,8,9] [(10,pB ((p0.length:Int) != (p1.length:Int)))] (by kernel_rfl) (bK rfl h (fun hc1 h=>?_) fun hc1 h=>?_))))
 ·refine ae ?_
  refine dn [(4,pB false)] (by kernel_rfl) (am ?_)
  exact zz r h rfl
 refine ai ?_
 refine cg (ah [11] [(12,pI (p0.length:Int)),(13,pI 0)] (by kernel_rfl) (fG h fun q4 hq4 h=>?_))
 refine av (Y:=Unit×Unit) (fun (_,_)=>[]) (fun (_,_)=>[]) (fun (_,_)=>q4=Sum.inl ()) ?_ ?_
 ·refine aA ?_
  refine aC (Y:=Unit) (S:=Int) _ hq4 (fun _ v2=>[(0,pL eS p0),(1,pL eS p1),(12,pI (p0.length:Int)),(13,pI v2)]) (fun _ v2=>[]) () (gI rfl) bz ?_
  rintro _ v2 o τ hb3;(try dsimp only at hb3);dsimp only [aw]
  refine ae (ak [(14,pB (decide (v2<(p0.length:Int))))] (by kernel_rfl) (br (gM rfl hb3 (fun hc5 hb3=>?_) fun hc5 hb3=>?_)))
  ·refine ai ?_
   refine br (ff (ah [15] [(5,pI v2)] (by kernel_rfl) (br (bN (ρd:=[]) [(0,0),(1,0),(2,0),(3,0),(4,0),(5,0),(6,0),(7,0),(8,0)] _ (List.Perm.refl _) (by kernel_rfl) rfl (af hb3 fun m6 hm6 hb3=>af hb3 fun m7 hm7 hb3=>bY 9 [] (rg 16 8) [(24,pB (!decide (m6=m7)))] (cn 2 eS hm6 (cn 6 eS hm7 bo)) (by kernel_rfl) (cd (bK rfl hb3 (fun hc8 hb3=>?_) fun hc8 hb3=>?_)))))))
   ·refine ae ?_
    refine dn [(4,pB false)] (by kernel_rfl) (eV ?_)
    refine aF hb3 (fun ht=>?_);subst ht
    refine ar (aJ ?_)
    exact zz r h rfl
   refine ai ?_
   refine dY (ah [25] [(13,pI (IntKind.i64.wrap (v2+1)))] (by kernel_rfl) ?_)
   exact aT hb3 () (gI rfl) bz
  refine aM ?_
  refine aq (al hb3 (fun ht=>ap rfl ?_))
  exact aD ((),()) kl bz ht.symm
 rintro ⟨_,_⟩ τ hz;(try dsimp only at hz);subst q4;(try dsimp only at h);dsimp only [aw]
 refine ae (dn [(4,pB true)] (by kernel_rfl) ?_)
 exact zz r h rfl
def bq (p0:(List Ze)) (p1:(List Ze)) (p2:(Ze→Ze→Option Bool)):Option Bool:=cond ((p0.length:Int) != (p1.length:Int)) (some false) ((bf (S:=Int) (T:=(Unit)⊕(_)) (fun v2=>cond (decide (v2<(p0.length:Int))) ((idx p0 v2).bind fun m6=>(idx p1 v2).bind fun m8=>(p2 m6 m8).bind fun x10=>cond (!x10) (some (.inr (.inr false))) (some (.inl (IntKind.i64.wrap (v2+1))))) (some (.inr (.inl ())))) FUEL 0).bind fun q=>match q with | .inl _=>some true | .inr e=>some e)
theorem cG {p0:(List Ze)} {p1:(List Ze)} {p2:(Ze→Ze→Option Bool)} {r:Bool} {g2:PV} (hg2:∀ {y0:Ze} {y1:Ze} {w:Bool},p2 y0 y1=some w→PFV g2 [.agg (aK y0),.agg (aK y1)] (pB w)) (h:bq p0 p1 p2=some r):PF 168 [pL Ze.enc p0,pL Ze.enc p1,g2] (pB r):=by
 unfold bq at h
 refine aY ?_
 refine dw Tryz.func168 rfl Tryz.ntmps168 Tryz.results168 rfl (aR [6] (by kernel_rfl) (cg (ah [10,11,12,13] [(14,pB ((p0.length:Int) != (p1.length:Int)))] (by kernel_rfl) (bK rfl h (fun hc1 h=>?_) fun hc1 h=>?_))))
 ·refine ae ?_
  refine dn [(6,pB false)] (by kernel_rfl) (am ?_)
  exact zz r h rfl
 refine ai ?_
 refine cg (ak [(15,pL Ze.enc p0),(16,pI (p0.length:Int)),(17,pI 0)] (by kernel_rfl) (fG h fun q4 hq4 h=>?_))
 refine av (Y:=Unit×Unit) (fun (_,_)=>[]) (fun (_,_)=>[]) (fun (_,_)=>q4=Sum.inl ()) ?_ ?_
 ·refine aA ?_
  refine aC (Y:=Unit) (S:=Int) _ hq4 (fun _ v2=>[(1,pL Ze.enc p1),(2,g2),(15,pL Ze.enc p0),(16,pI (p0.length:Int)),(17,pI v2)]) (fun _ v2=>[]) () (lQ rfl) bz ?_
  rintro _ v2 o τ hb3;(try dsimp only at hb3);dsimp only [aw]
  refine ae (ak [(18,pB (decide (v2<(p0.length:Int))))] (by kernel_rfl) (br (gM rfl hb3 (fun hc5 hb3=>?_) fun hc5 hb3=>?_)))
  ·refine ai ?_
   refine br (ff (af hb3 fun m6 hm6 hb3=>aa (aU 3 [] [20] [(19,pI v2),(21,.agg (aK m6))] (pz 1 Ze.enc (Ze.enc_eq _) hm6 bo) (by kernel_rfl) (aj rfl (aQ (cs:=[pI 0,pI 0,pN,pI 0,pI 0,pS ByteArray.empty,pN]) rfl rfl rfl rfl (fun b7=>aI 1 [(7,pI v2)] (by kernel_rfl) (aX rfl rfl (aH (vs:=(aK m6)) rfl rfl rfl rfl rfl dy px (au (cr hb3 fun m8 hm8 hb3=>aa (aU 4 [] [22,23,24] [(25,.agg (aK m8))] (pz 2 Ze.enc (Ze.enc_eq _) hm8 bo) (by kernel_rfl) (aj rfl (aQ (cs:=[pI 0,pI 0,pN,pI 0,pI 0,pS ByteArray.empty,pN]) rfl rfl rfl rfl (fun b9=>aX rfl rfl (aH (vs:=(aK m8)) rfl rfl rfl rfl rfl dy px (au (cr hb3 fun x10 hx10 hb3=>an [1,0] [26,27,28,29] [(30,pB (!x10))] (sJ 3 (hg2 hx10) bo) (by kernel_rfl) (bK rfl hb3 (fun hc11 hb3=>?_) fun hc11 hb3=>?_))))))))))))))))))
   ·refine ae ?_
    refine dn [(6,pB false)] (by kernel_rfl) (eV ?_)
    refine aF hb3 (fun ht=>?_);subst ht
    refine ar (aJ ?_)
    exact zz r h rfl
   refine ai ?_
   refine dY (ah [31] [(17,pI (IntKind.i64.wrap (v2+1)))] (by kernel_rfl) ?_)
   exact aT hb3 () (lQ rfl) bz
  refine aM ?_
  refine aq (al hb3 (fun ht=>ap rfl ?_))
  exact aD ((),()) kl bz ht.symm
 rintro ⟨_,_⟩ τ hz;(try dsimp only at hz);subst q4;(try dsimp only at h);dsimp only [aw]
 refine ae (dn [(6,pB true)] (by kernel_rfl) ?_)
 exact zz r h rfl
def ec (rec:Ze→Ze→Option Bool) (p0:Ze) (p1:Ze):Option Bool:=(gd (((((p0.Kind == p1.Kind)&&(p0.Digits == p1.Digits))&&(p0.Tolerance == p1.Tolerance))&&(p0.Limit == p1.Limit))&&(decide (p0.Name=p1.Name))) (cZ p0.Except p1.Except)).bind fun x3=>(gd ((((((p0.Kind == p1.Kind)&&(p0.Digits == p1.Digits))&&(p0.Tolerance == p1.Tolerance))&&(p0.Limit == p1.Limit))&&(decide (p0.Name=p1.Name)))&&x3) (bq p0.Args p1.Args (fun y4 y5=>rec y4 y5))).bind fun x6=>some (((((((p0.Kind == p1.Kind)&&(p0.Digits == p1.Digits))&&(p0.Tolerance == p1.Tolerance))&&(p0.Limit == p1.Limit))&&(decide (p0.Name=p1.Name)))&&x3)&&x6)
theorem iA {rec:Ze→Ze→Option Bool} (hrec:∀ {p0:Ze} {p1:Ze} {r:Bool},rec p0 p1=some r→PF 136 [.agg (aK p0),.agg (aK p1)] (pB r)) {p0:Ze} {p1:Ze} {r:Bool} (h:ec rec p0 p1=some r):PF 136 [.agg (aK p0),.agg (aK p1)] (pB r):=by
 unfold ec at h
 refine aY ?_
 refine dw Tryz.func136 rfl Tryz.ntmps136 Tryz.results136 rfl (aa (aj rfl (bj (cs:=(aK p0)) rfl rfl (fun b1=>aj rfl (bj (cs:=(aK p1)) rfl rfl (fun b2=>aZ [4] (by kernel_rfl) (cr h fun x3 hx3 h=>af h fun x6 hx6 h=>an [1,0,1,0,1,0,1,0,1,0,1,0,1,0] (rg 5 47) [(4,pB (((((((p0.Kind == p1.Kind)&&(p0.Digits == p1.Digits))&&(p0.Tolerance == p1.Tolerance))&&(p0.Limit == p1.Limit))&&(decide (p0.Name=p1.Name)))&&x3)&&x6))] (dR 38 (fun hc=>gC (dj hx3 hc)) (dR 45 (fun hc=>cG (fun hr=>k9 (hrec hr)) (dj hx6 hc)) bo)) (by kernel_rfl) (df ?_))))))))
 exact zz r h rfl
def fZ (n:Nat):Ze→Ze→Option Bool:=Nat.rec (motive:=fun _=>Ze→Ze→Option Bool) (fun _ _=>none) (fun _ ih=>ec ih) n
def gD (p0:Ze) (p1:Ze):Option Bool:=fZ FUEL p0 p1
theorem iV (n:Nat):∀ {p0:Ze} {p1:Ze} {r:Bool},fZ n p0 p1=some r→PF 136 [.agg (aK p0),.agg (aK p1)] (pB r):=by
 induction n with
 | zero=>intros;rename_i h;exact nomatch h
 | succ n ih=>intros;rename_i h;exact iA (fun hr=>ih hr) h
theorem jl {p0:Ze} {p1:Ze} {r:Bool} (h:gD p0 p1=some r):PF 136 [.agg (aK p0),.agg (aK p1)] (pB r):=iV FUEL h
def dr (p1:Int):Option (List ByteArray):=(mk0 16 p1).bind fun _=>some []
theorem gN {p1:Int} {r:(List ByteArray)} (h:dr p1=some r):PCall 169 [.v (.slice none 0 0),pI p1] [] (fun pv ρ'=>∃ a c,pv=.v (.slice a r.length c)∧ρ'=[PRes.row a r.length c 9 1 (List.map eS r)]):=by
 unfold dr at h
 obtain ⟨u,hu,h⟩:=Option.bind_eq_some_iff.1 h
 obtain rfl:=osi h
 obtain ⟨hg0,hg1⟩:=wE hu
 have ew:IntKind.i64.wrap (p1 - IntKind.i64.wrap (((0:Nat):Int) - ((0:Nat):Int)))=p1:=pJ hg0 hg1
 refine eP Tryz.func169 rfl Tryz.ntmps169 Tryz.results169 rfl ?_
 (repeat refine ae ?_)
 refine aR [4] (by kernel_rfl) (aG ?_)
 (repeat refine ae ?_)
 refine ah [5] [(6,pB (decide (p1<0)))] (by kernel_rfl) (aG ?_)
 refine dN rfl (fun hc=>absurd (of_decide_eq_true hc) (by omega)) (fun hc=>?_)
 refine ai (aG ?_)
 (repeat refine ae ?_)
 refine aa (aI 2 [(8,pI p1),(9,.v (.slice none 0 0))] (by kernel_rfl) (bh rfl rfl rfl (ni rfl rfl (.p rfl)) (ji [11,12,13,14] [(1,pI (IntKind.i64.wrap (p1 - IntKind.i64.wrap (((0:Nat):Int) - ((0:Nat):Int)))))] (by kernel_rfl) ?_)))
 rw [ew]
 refine aG ?_
 (repeat refine ae ?_)
 refine ah [15] [(16,pB (decide (0<p1)))] (by kernel_rfl) (aG ?_)
 refine dN rfl (fun hc=>?_) (fun hc=>?_)
 ·refine aa ?_
  refine aI 2 [(17,.v (.slice none 0 0)),(18,.v (.slice none 0 0))] (by kernel_rfl) (bh rfl rfl rfl (ni rfl rfl (.p rfl)) (bh rfl rfl rfl (kR rfl rfl rfl (.p rfl) (.p rfl) rfl (Nat.zero_le _)) (aI 1 [(21,pI p1)] (by kernel_rfl) (nI 9 1 ?_))))
  refine aj rfl (rS rfl rfl rfl rfl rfl rfl rfl rfl (of_decide_eq_true hc) hu (by exact aV) (fun a c hac=>?_))
  refine aI 2 [(23,.v (.slice none 0 0)),(24,pI 0)] (by kernel_rfl) (bh rfl rfl rfl (kR (k:=0) rfl rfl rfl (.p rfl) (.p rfl) rfl (Nat.zero_le _)) (aP [(0,.v (.slice a 0 c))] (by kernel_rfl) (aG ?_)))
  (repeat refine ae ?_)
  refine ah [26] [(4,.v (.slice a 0 c))] (by kernel_rfl) (df ?_)
  exact aO (cJ (aN rfl)) dl ⟨_,_,rfl,rfl⟩
 refine ai ?_
 refine aG ?_
 (repeat refine ae ?_)
 refine ah [26] [(4,.v (.slice none 0 0))] (by kernel_rfl) (aG (bO 9 1 (bx ?_)))
 exact aO (cJ (aN rfl)) dl ⟨_,_,rfl,rfl⟩
def cT (p0:(List (List ByteArray))):Option (List ByteArray):=(bf (S:=Int×Int) (T:=(Int)) (fun (v1,v2)=>cond (decide (v2<(p0.length:Int))) ((idx p0 v2).bind fun m7=>cond (decide ((IntKind.i64.wrap (v1+(m7.length:Int)))<0)) (none) (some (.inl ((IntKind.i64.wrap (v1+(m7.length:Int))),(IntKind.i64.wrap (v2+1)))))) (some (.inr v1))) FUEL (0,0)).bind fun v3=>(dr v3).bind fun x9=>(bf (S:=(List ByteArray)×Int) (T:=((List ByteArray))) (fun (l14,v17)=>cond (decide (v17<(p0.length:Int))) ((idx p0 v17).bind fun m25=>(app 16 l14 m25).bind fun l26=>some (.inl (l26,(IntKind.i64.wrap (v17+1))))) (some (.inr l14))) FUEL (x9,0)).bind fun l21=>some l21
theorem gj {p0:(List (List ByteArray))} {r:(List ByteArray)}  (h:cT p0=some r):PCall 138 [pL (eL eS) p0] [] (fun pv ρ'=>∃ a c,pv=.v (.slice a r.length c)∧ρ'=[PRes.row a r.length c 9 1 (List.map eS r)]):=by
 unfold cT at h
 refine dw Tryz.func138 rfl Tryz.ntmps138 Tryz.results138 rfl (aR [2] (by kernel_rfl) (br (ak [(3,pI 0)] (by kernel_rfl) (cg (ak [(9,pL (eL eS) p0),(10,pI (p0.length:Int)),(11,pI 0)] (by kernel_rfl) (fG h fun q5 hq5 h=>?_))))))
 refine av (Y:=Unit×Int) (fun (_,v3)=>[(0,pL (eL eS) p0),(3,pI v3)]) (fun (_,v3)=>[]) (fun (_,v3)=>q5=v3) ?_ ?_
 ·refine aA ?_
  refine aC (Y:=Unit) (S:=Int×Int) _ hq5 (fun _ (v1,v2)=>[(0,pL (eL eS) p0),(3,pI v1),(9,pL (eL eS) p0),(10,pI (p0.length:Int)),(11,pI v2)]) (fun _ (v1,v2)=>[]) () (lQ rfl) bz ?_
  rintro _ ⟨v1,v2⟩ o τ hb4;(try dsimp only at hb4);dsimp only [aw]
  refine ae (ak [(12,pB (decide (v2<(p0.length:Int))))] (by kernel_rfl) (br (gM rfl hb4 (fun hc6 hb4=>?_) fun hc6 hb4=>?_)))
  ·refine ai ?_
   refine br (ff (af hb4 fun m7 hm7 hb4=>an [] [13,14] [(5,pL eS m7)] (cn 0 (eL eS) hm7 bo) (by kernel_rfl) (br (ah [15,16,17,18] [(3,pI (IntKind.i64.wrap (v1+(m7.length:Int))))] (by kernel_rfl) (br (ah [19] [(20,pB (decide ((IntKind.i64.wrap (v1+(m7.length:Int)))<0)))] (by kernel_rfl) (bK rfl hb4 (fun hc8 hb4=>?_) fun hc8 hb4=>?_)))))))
   ·refine aa ?_
    exact absurd hb4 (by simp)
   refine ai ?_
   refine dY (ah [22] [(11,pI (IntKind.i64.wrap (v2+1)))] (by kernel_rfl) ?_)
   exact aT hb4 () (lQ rfl) bz
  refine aM ?_
  refine aq (al hb4 (fun ht=>ap rfl ?_))
  exact aD ((),v1) (nT rfl) bz ht.symm
 rintro ⟨_,v3⟩ τ hz;(try dsimp only at hz);subst q5;(try dsimp only at h);dsimp only [aw]
 refine ae (af h fun x9 hx9 h=>aa (aI 1 [(23,pI v3)] (by kernel_rfl) ?_))
 refine aj rfl (co rfl rfl (ρ1:=[]) (List.Perm.refl _) (gN hx9) ?_);rintro _ _ ⟨a10,c11,rfl,rfl⟩
 refine aP [(6,pO a10 x9.length c11)] (by kernel_rfl) (cg (ak [(25,pL (eL eS) p0),(26,pI (p0.length:Int)),(27,pI 0)] (by kernel_rfl) (fG h fun q23 hq23 h=>?_)))
 refine av (Y:=(Option Addr×Nat)×((List ByteArray))) (fun ((a19,c20),l21)=>[(6,pO a19 l21.length c20)]) (fun ((a19,c20),l21)=>[PRes.row a19 l21.length c20 9 1 (List.map eS l21)]) (fun ((a19,c20),l21)=>q23=l21) ?_ ?_
 ·refine aA ?_
  refine aC (Y:=Option Addr×Nat) (S:=(List ByteArray)×Int) _ hq23 (fun (a15,c16) (l14,v17)=>[(6,pO a15 l14.length c16),(25,pL (eL eS) p0),(26,pI (p0.length:Int)),(27,pI v17)]) (fun (a15,c16) (l14,v17)=>[PRes.row a15 l14.length c16 9 1 (List.map eS l14)]) (a10,c11) (gI rfl) dl ?_
  rintro ⟨a15,c16⟩ ⟨l14,v17⟩ o τ hb22;(try dsimp only at hb22);dsimp only [aw]
  refine ae (ak [(28,pB (decide (v17<(p0.length:Int))))] (by kernel_rfl) (br (gM rfl hb22 (fun hc24 hb22=>?_) fun hc24 hb22=>?_)))
  ·refine ai ?_
   refine br (ff (af hb22 fun m25 hm25 hb22=>an [] [29,30] [(8,pL eS m25)] (cn 0 (eL eS) hm25 bo) (by kernel_rfl) (fG hb22 fun l26 hl26 hb22=>aa (aI 2 [(31,pO a15 l14.length c16),(32,pL eS m25)] (by kernel_rfl) ?_))))
   refine aj rfl (gw (enc:=eS) rfl rfl rfl rfl rfl (fun _=>rfl) rfl rfl rfl (by exact aV) hl26 (fun a27 c28=>?_))
   refine aP [(6,pO a27 l26.length c28)] (by kernel_rfl) (dY (ah [34] [(27,pI (IntKind.i64.wrap (v17+1)))] (by kernel_rfl) ?_))
   exact aT hb22 (a27,c28) (gI rfl) dl
  refine aM ?_
  refine aq (al hb22 (fun ht=>ap rfl ?_))
  exact aD ((a15,c16),l14) (uu rfl) dl ht.symm
 rintro ⟨⟨a19,c20⟩,l21⟩ τ hz;(try dsimp only at hz);subst q23;(try dsimp only at h);dsimp only [aw]
 refine ae (ah [35] [(2,pO a19 l21.length c20)] (by kernel_rfl) (df ?_))
 obtain rfl:=osi h
 exact aO (cJ (aN rfl)) dl ⟨_,_,rfl,rfl⟩
def cN (p0:(List ByteArray)):Option (List ByteArray):=cond (decide (((p0.length:Nat):Int)<2)) (some p0) ((bf (S:=Int) (T:=(Unit)⊕(_)) (fun v2=>cond (decide (v2<((p0.length:Nat):Int))) ((idx p0 v2).bind fun m7=>(idx p0 (IntKind.i64.wrap (v2 - 1))).bind fun m8=>cond (decide (m7=m8)) ((sub p0 v2 (p0.length:Int)).bind fun l10=>(bf (S:=(List ByteArray)×Int×Int) (T:=((List ByteArray)×Int)) (fun (l12,v13,v14)=>cond (decide (v14<((p0.length - v2.toNat:Nat):Int))) (((nO v14).bind fun u25=>(idx l12 (v2+v14)).bind fun m26=>(nO (IntKind.i64.wrap (v14 - 1))).bind fun u27=>(idx l12 (v2+(IntKind.i64.wrap (v14 - 1)))).bind fun m28=>cond (!decide (m26=m28)) ((nO v14).bind fun u30=>(idx l12 (v2+v14)).bind fun m31=>(idx l12 v13).bind fun m32=>some ((l12.set v13.toNat m31),(IntKind.i64.wrap (v13+1)))) (some (l12,v13))).bind fun (l22,v23)=>some (.inl (l22,v23,(IntKind.i64.wrap (v14+1))))) (some (.inr (l12,v13)))) FUEL (p0,v2,1)).bind fun (l16,v17)=>(sub l16 v17 (l16.length:Int)).bind fun l34=>(sub (List.take v17.toNat l16++List.replicate (p0.length - v17.toNat) ByteArray.empty) 0 v17).bind fun l35=>some (.inr (.inr l35))) (some (.inl (IntKind.i64.wrap (v2+1))))) (some (.inr (.inl ())))) FUEL 1).bind fun q=>match q with | .inl _=>some p0 | .inr e=>some e)
theorem f8 {p0:(List ByteArray)} {a_0:Option Addr}  {n_0:Nat}  {c_0:Nat} {r:(List ByteArray)}  (h:cN p0=some r):PCall 140 [.v (.slice a_0 n_0 c_0)] [PRes.row a_0 n_0 c_0 9 1 (List.map eS p0)] (fun pv ρ'=>∃ a c,pv=.v (.slice a r.length c)∧ρ'=[PRes.row a r.length c 9 1 (List.map eS r)]):=by
 unfold cN at h
 refine eP Tryz.func140 rfl Tryz.ntmps140 Tryz.results140 rfl ?_
 refine fB (enc:=eS) (xs:=p0) (a:=a_0) fT (fun hl ha=>?_);subst hl;clear ha
 refine ae (aR [2] (by kernel_rfl) (cg (ah [6,7] [(8,pB (decide (((p0.length:Nat):Int)<2)))] (by kernel_rfl) (bK rfl h (fun hc1 h=>?_) fun hc1 h=>?_))))
 ·refine ae ?_
  refine ah [9] [(2,pO a_0 p0.length c_0)] (by kernel_rfl) (df (am ?_))
  obtain rfl:=osi h
  exact aO (cJ (aN rfl)) dl ⟨_,_,rfl,rfl⟩
 refine ai ?_
 refine cg (ak [(3,pI 1)] (by kernel_rfl) (fG h fun q5 hq5 h=>?_))
 refine av (Y:=Unit×Unit) (fun (_,_)=>[(0,pO a_0 p0.length c_0)]) (fun (_,_)=>[PRes.row a_0 p0.length c_0 9 1 (List.map eS p0)]) (fun (_,_)=>q5=Sum.inl ()) ?_ ?_
 ·refine aA ?_
  refine aC (Y:=Unit) (S:=Int) _ hq5 (fun _ v2=>[(0,pO a_0 p0.length c_0),(3,pI v2)]) (fun _ v2=>[PRes.row a_0 p0.length c_0 9 1 (List.map eS p0)]) () (nT rfl) dl ?_
  rintro _ v2 o τ hb4;(try dsimp only at hb4);dsimp only [aw]
  refine ae (ae (ah [10,11,12] [(13,pB (decide (v2<((p0.length:Nat):Int))))] (by kernel_rfl) (bK rfl hb4 (fun hc6 hb4=>?_) fun hc6 hb4=>?_)))
  ·refine ai ?_
   refine br (ff (bN (ρd:=[]) [(0,0),(1,0),(2,0),(3,0),(4,0),(5,0),(6,0),(7,0),(8,0),(9,0)] _ (List.Perm.refl _) (by kernel_rfl) rfl (af hb4 fun m7 hm7 hb4=>fe 2 [(16,pO a_0 p0.length c_0),(17,pI v2)] (by kernel_rfl) (fR rfl rfl rfl (cW (enc:=eS) (xs:=p0) rfl rfl rfl (.p rfl) fT (.p rfl) (fun _=>hm7)) (fR rfl rfl rfl (bW (sz:=1) (p:=pS m7) (enc:=eS) (xs:=p0) (a:=a_0) v2 0 m7 rfl (.p rfl) rfl fT (fun _=>hm7) rfl) (af hb4 fun m8 hm8 hb4=>lI 3 [21] [(20,pO a_0 p0.length c_0),(22,pI (IntKind.i64.wrap (v2 - 1)))] (by kernel_rfl) (fR rfl rfl rfl (cW (enc:=eS) (xs:=p0) rfl rfl rfl (.p rfl) fT (.p rfl) (fun _=>hm8)) (fR rfl rfl rfl (bW (sz:=1) (p:=pS m8) (enc:=eS) (xs:=p0) (a:=a_0) (IntKind.i64.wrap (v2 - 1)) 0 m8 rfl (.p rfl) rfl fT (fun _=>hm8) rfl) (fe 1 [(25,pB (decide (m7=m8)))] (by kernel_rfl) (cd (bK rfl hb4 (fun hc9 hb4=>?_) fun hc9 hb4=>?_)))))))))))
   ·refine ae ?_
    refine af hb4 fun l10 hl10 hb4=>aa (aI 2 [(26,pO a_0 p0.length c_0),(27,pI v2)] (by kernel_rfl) (bh rfl rfl rfl (ii (enc:=eS) (xs:=p0) rfl rfl rfl rfl rfl fT hl10) (aP [(4,pQ a_0 p0.length c_0 v2.toNat 1)] (by kernel_rfl) (cg (ak [(5,pI 1)] (by kernel_rfl) (fG hb4 fun q19 hq19 hb4=>?_))))))
    refine av (Y:=Unit×((List ByteArray)×Int)) (fun (_,(l16,v17))=>[(0,pO a_0 p0.length c_0),(3,pI v17)]) (fun (_,(l16,v17))=>[PRes.row a_0 p0.length c_0 9 1 (List.map eS l16)]) (fun (_,(l16,v17))=>q19=(l16,v17)) ?_ ?_
    ·refine aA ?_
     refine aC (Y:=Unit) (S:=(List ByteArray)×Int×Int) _ hq19 (fun _ (l12,v13,v14)=>[(0,pO a_0 p0.length c_0),(3,pI v13),(4,pQ a_0 p0.length c_0 v2.toNat 1),(5,pI v14)]) (fun _ (l12,v13,v14)=>[PRes.row a_0 p0.length c_0 9 1 (List.map eS l12)]) () (gI rfl) dl ?_
     rintro _ ⟨l12,v13,v14⟩ o τ hb18;(try dsimp only at hb18);dsimp only [aw]
     refine ae (ae (ah [29,30,31] [(32,pB (decide (v14<((p0.length - v2.toNat:Nat):Int))))] (by kernel_rfl) (bK rfl hb18 (fun hc20 hb18=>?_) fun hc20 hb18=>?_)))
     ·refine ai ?_
      refine cr hb18 fun q24 hq24 hb18=>?_
      refine av (Y:=Unit×((List ByteArray)×Int)) (fun (_,(l22,v23))=>[(0,pO a_0 p0.length c_0),(3,pI v23),(4,pQ a_0 p0.length c_0 v2.toNat 1),(5,pI v14)]) (fun (_,(l22,v23))=>[PRes.row a_0 p0.length c_0 9 1 (List.map eS l22)]) (fun (_,(l22,v23))=>q24=(l22,v23)) ?_ ?_
      ·skip
       refine ff (bN (ρd:=[]) [(0,0),(1,0),(2,0),(3,0),(4,0),(5,0),(6,0),(7,0),(8,0),(9,0)] _ (List.Perm.refl _) (by kernel_rfl) rfl (af hq24 fun u25 hu25 hq24=>af hq24 fun m26 hm26 hq24=>fe 2 [(35,pQ a_0 p0.length c_0 v2.toNat 1),(36,pI v14)] (by kernel_rfl) (fR rfl rfl rfl (fu (enc:=eS) (xs:=l12) (i:=v2) rfl rfl rfl rfl rfl (dP hl10).1.1 (gx hu25) fT hm26) (fR rfl rfl rfl (bW (sz:=1) (p:=pS m26) (enc:=eS) (xs:=l12) (a:=a_0) (v2+v14) 0 m26 rfl (.p rfl) rfl fT (fun _=>hm26) rfl) (af hq24 fun u27 hu27 hq24=>af hq24 fun m28 hm28 hq24=>lI 3 [40] [(39,pQ a_0 p0.length c_0 v2.toNat 1),(41,pI (IntKind.i64.wrap (v14 - 1)))] (by kernel_rfl) (fR rfl rfl rfl (fu (enc:=eS) (xs:=l12) (i:=v2) rfl rfl rfl rfl rfl (dP hl10).1.1 (gx hu27) fT hm28) (fR rfl rfl rfl (bW (sz:=1) (p:=pS m28) (enc:=eS) (xs:=l12) (a:=a_0) (v2+(IntKind.i64.wrap (v14 - 1))) 0 m28 rfl (.p rfl) rfl fT (fun _=>hm28) rfl) (fe 1 [(44,pB (!decide (m26=m28)))] (by kernel_rfl) (cd (bK rfl hq24 (fun hc29 hq24=>?_) fun hc29 hq24=>?_))))))))))
       ·refine ae ?_
        refine af hq24 fun u30 hu30 hq24=>af hq24 fun m31 hm31 hq24=>aa (aI 4 [(45,pO a_0 p0.length c_0),(46,pI v13),(47,pQ a_0 p0.length c_0 v2.toNat 1),(48,pI v14)] (by kernel_rfl) (bh rfl rfl rfl (fu (enc:=eS) (xs:=l12) (i:=v2) rfl rfl rfl rfl rfl (dP hl10).1.1 (gx hu30) fT hm31) (bh rfl rfl rfl (bW (sz:=1) (p:=pS m31) (enc:=eS) (xs:=l12) (a:=a_0) (v2+v14) 0 m31 rfl (.p rfl) rfl fT (fun _=>hm31) rfl) (af hq24 fun m32 hm32 hq24=>bh rfl rfl rfl (cW (enc:=eS) (xs:=l12) rfl rfl rfl (.p rfl) fT (.p rfl) (fun _=>hm32)) (aX rfl rfl (lf (enc:=eS) (xs:=l12) (a:=a_0) v13 0 m32 m31 rfl rfl rfl rfl (fun _=>rfl) rfl rfl hm32 uv dy (au (aG (ah [52,53] [(3,pI (IntKind.i64.wrap (v13+1)))] (by kernel_rfl) (aB ?_))))))))))
        obtain rfl:=osi hq24
        exact aD ((),((l12.set v13.toNat m31),(IntKind.i64.wrap (v13+1)))) (gI rfl) dl rfl
       refine ai ?_
       refine aB ?_
       obtain rfl:=osi hq24
       exact aD ((),(l12,v13)) (gI rfl) dl rfl
      rintro ⟨_,⟨l22,v23⟩⟩ τ hz;(try dsimp only at hz);subst q24;(try dsimp only at hb18);dsimp only [aw]
      refine ah [33,34] [(5,pI (IntKind.i64.wrap (v14+1)))] (by kernel_rfl) ?_
      exact aT hb18 () (gI rfl) dl
     refine aM ?_
     refine aq (al hb18 (fun ht=>ap rfl ?_))
     exact aD ((),(l12,v13)) (nT rfl) dl ht.symm
    rintro ⟨_,⟨l16,v17⟩⟩ τ hz;(try dsimp only at hz);subst q19;(try dsimp only at hb4);dsimp only [aw]
    refine ae (af hb4 fun l34 hl34 hb4=>aa (aI 2 [(54,pO a_0 p0.length c_0),(55,pI v17)] (by kernel_rfl) (bh rfl rfl rfl (ii (enc:=eS) (xs:=l16) rfl rfl rfl rfl rfl fT hl34) (aX rfl rfl (pF (enc:=eS) (xs:=l16) (z0:=ByteArray.empty) (i:=v17) rfl rfl rfl rfl hl34 rfl rfl rfl rfl dy (au (cr hb4 fun l35 hl35 hb4=>aa (aI 2 [(57,pO a_0 p0.length c_0),(58,pI v17)] (by kernel_rfl) ?_))))))))
    refine aj rfl (l7 (enc:=eS) (xs:=(List.take v17.toNat l16++List.replicate (p0.length - v17.toNat) ByteArray.empty)) rfl rfl rfl rfl rfl (by exact aV) hl35 ?_)
    refine aP [(2,pO a_0 l35.length c_0)] (by kernel_rfl) (df (eV ?_))
    refine aF hb4 (fun ht=>?_);subst ht
    refine ar (aJ ?_)
    obtain rfl:=osi h
    exact aO (cJ (aN rfl)) dl ⟨_,_,rfl,rfl⟩
   refine ai ?_
   refine dY (ah [14,15] [(3,pI (IntKind.i64.wrap (v2+1)))] (by kernel_rfl) ?_)
   exact aT hb4 () (nT rfl) dl
  refine aM ?_
  refine aq (al hb4 (fun ht=>ap rfl ?_))
  exact aD ((),()) (uu rfl) dl ht.symm
 rintro ⟨_,_⟩ τ hz;(try dsimp only at hz);subst q5;(try dsimp only at h);dsimp only [aw]
 refine ae (ah [60] [(2,pO a_0 p0.length c_0)] (by kernel_rfl) (df ?_))
 obtain rfl:=osi h
 exact aO (cJ (aN rfl)) dl ⟨_,_,rfl,rfl⟩
def cz (p0:Zq) (p1:Zd) (p2:Int):Option Zc:=(bf (S:=Int) (T:=(Unit)⊕(_)) (fun v3=>cond (decide (v3<(p0.partners.length:Int))) ((idx p0.partners v3).bind fun m7=>cond ((dm p0.set_ (⟨p1.ID,m7⟩:Za)).getD false) (some (.inr (.inr (Zc.proved_ (⟨(⟨p1.Code,p2,true⟩:Zk),(⟨p1.ID,m7⟩:Za)⟩:Zo))))) (some (.inl (IntKind.i64.wrap (v3+1))))) (some (.inr (.inl ())))) FUEL 0).bind fun q=>match q with | .inl _=>some (Zc.plain_ (⟨(⟨p1.Code,p2,false⟩:Zk)⟩:Zp)) | .inr e=>some e
theorem eC {p0:Zq} {p1:Zd} {p2:Int} {m0_set_:Nat} {r:Zc}  (h:cz p0 p1 p2=some r):PCall 98 [.agg [pL eI p0.partners,.v (.map (some m0_set_))],.agg (aS p1),pI p2] [PRes.mp (some m0_set_) (ex Za.key vT p0.set_)] (fun pv ρ'=>pv=Zc.pv r∧ρ'=[PRes.mp (some m0_set_) (ex Za.key vT p0.set_)]):=by
 unfold cz at h
 refine dw Tryz.func98 rfl Tryz.ntmps98 Tryz.results98 rfl (aa (aj rfl (bj (cs:=[pL eI p0.partners,.v (.map (some m0_set_))]) rfl rfl (fun b1=>aj rfl (bj (cs:=(aS p1)) rfl rfl (fun b2=>aZ [6] (by kernel_rfl) (cg (aW [1] [10] [(11,pL eI p0.partners),(12,pI (p0.partners.length:Int)),(13,pI 0)] (by kernel_rfl) (fG h fun q5 hq5 h=>?_)))))))))
 refine av (Y:=Unit×Unit) (fun (_,_)=>[(2,pI p2),(4,pP b2 0)]) (fun (_,_)=>[PRes.b b2 76 (aS p1),PRes.mp (some m0_set_) (ex Za.key vT p0.set_)]) (fun (_,_)=>q5=Sum.inl ()) ?_ ?_
 ·refine aA ?_
  refine aC (Y:=Unit) (S:=Int) _ hq5 (fun _ v3=>[(2,pI p2),(3,pP b1 0),(4,pP b2 0),(11,pL eI p0.partners),(12,pI (p0.partners.length:Int)),(13,pI v3)]) (fun _ v3=>[PRes.b b1 96 [pL eI p0.partners,.v (.map (some m0_set_))],PRes.b b2 76 (aS p1),PRes.mp (some m0_set_) (ex Za.key vT p0.set_)]) () (rB rfl) (bu (az aV) pu) ?_
  rintro _ v3 o τ hb4;(try dsimp only at hb4);dsimp only [aw]
  refine ae (ak [(14,pB (decide (v3<(p0.partners.length:Int))))] (by kernel_rfl) (br (gM rfl hb4 (fun hc6 hb4=>?_) fun hc6 hb4=>?_)))
  ·refine ai ?_
   refine br (ff (af hb4 fun m7 hm7 hb4=>an [] [15,16] [(8,pI m7)] (cn 0 eI hm7 bo) (by kernel_rfl) (br (aa (bI 4 [1] [17,18,19] [(20,.agg [pI p1.ID,pI m7])] (by kernel_rfl) (aj rfl (aQ (cs:=[pI 0,pI 0]) rfl rfl rfl rfl (fun b8=>aX rfl rfl (aH (vs:=[pI p1.ID,pI m7]) rfl rfl rfl rfl rfl dy uw (au (br (aa (bI 3 [1,0] [21] [(22,.v (.map (some m0_set_))),(23,.agg [pI p1.ID,pI m7])] (by kernel_rfl) (bh rfl rfl rfl (show POpQ _ _ _ _ (pB ((dm p0.set_ (⟨p1.ID,m7⟩:Za)).getD false)) from uF (xs:=p0.set_) (k:=(⟨p1.ID,m7⟩:Za)) (ek:=Za.key) (vv:=vT) (z0:=false) rfl rfl rfl (fun _=>.v rfl) Za.kenc28 (.p rfl) (.p rfl) od (oa zm3)) (au (bK rfl hb4 (fun hc9 hb4=>?_) fun hc9 hb4=>?_))))))))))))))))
   ·refine ae ?_
    refine aW [2,0] (rg 25 7) [(6,Zc.pv (Zc.proved_ (⟨(⟨p1.Code,p2,true⟩:Zk),(⟨p1.ID,m7⟩:Za)⟩:Zo)))] (by kernel_rfl) (df (eV ?_))
    refine aF hb4 (fun ht=>?_);subst ht
    refine ar (aJ ?_)
    obtain rfl:=osi h
    exact aO (cJ (aN rfl)) (bu (az (az (az aV))) bz) ⟨rfl,rfl⟩
   refine ai ?_
   refine dY (ah [32] [(13,pI (IntKind.i64.wrap (v3+1)))] (by kernel_rfl) ?_)
   exact aT hb4 () (rB rfl) (bu (az aV) (bu (az aV) (bu (az aV) bz)))
  refine aM ?_
  refine aq (al hb4 (fun ht=>ap rfl ?_))
  exact aD ((),()) (nT rfl) (bu (az aV) (bu (az aV) bz)) ht.symm
 rintro ⟨_,_⟩ τ hz;(try dsimp only at hz);subst q5;(try dsimp only at h);dsimp only [aw]
 refine ae (aW [0] (rg 33 6) [(6,Zc.pv (Zc.plain_ (⟨(⟨p1.Code,p2,false⟩:Zk)⟩:Zp)))] (by kernel_rfl) (df ?_))
 obtain rfl:=osi h
 exact aO (cJ (aN rfl)) (bu (az aV) bz) ⟨rfl,rfl⟩
def gO (p0:Int):Option Int:=Option.bind (cond (decide (4294967296≤p0)) (some ((cS .u64 p0 32),32)) (some (p0,0))) (fun (v1,v2)=>Option.bind (cond (decide (65536≤v1)) (some ((cS .u64 v1 16),(IntKind.i64.wrap (v2+16)))) (some (v1,v2))) (fun (v5,v6)=>Option.bind (cond (decide (256≤v5)) (some ((cS .u64 v5 8),(IntKind.i64.wrap (v6+8)))) (some (v5,v6))) (fun (v9,v10)=>(idx (⟨#[0,1,2,2,3,3,3,3,4,4,4,4,4,4,4,4,5,5,5,5,5,5,5,5,5,5,5,5,5,5,5,5,6,6,6,6,6,6,6,6,6,6,6,6,6,6,6,6,6,6,6,6,6,6,6,6,6,6,6,6,6,6,6,6,7,7,7,7,7,7,7,7,7,7,7,7,7,7,7,7,7,7,7,7,7,7,7,7,7,7,7,7,7,7,7,7,7,7,7,7,7,7,7,7,7,7,7,7,7,7,7,7,7,7,7,7,7,7,7,7,7,7,7,7,7,7,7,7,8,8,8,8,8,8,8,8,8,8,8,8,8,8,8,8,8,8,8,8,8,8,8,8,8,8,8,8,8,8,8,8,8,8,8,8,8,8,8,8,8,8,8,8,8,8,8,8,8,8,8,8,8,8,8,8,8,8,8,8,8,8,8,8,8,8,8,8,8,8,8,8,8,8,8,8,8,8,8,8,8,8,8,8,8,8,8,8,8,8,8,8,8,8,8,8,8,8,8,8,8,8,8,8,8,8,8,8,8,8,8,8,8,8,8,8,8,8,8,8,8,8,8,8,8,8,8,8]⟩:ByteArray).data.toList (IntKind.u8.wrap v9)).bind fun c13=>lb ((IntKind.i64.wrap (v10+(IntKind.i64.wrap (c13.toNat:Int))))) (fun w14=>some w14))))
theorem ll {p0:Int} {r:Int}  (h:gO p0=some r):PF 151 [pU p0] (pI r):=by
 unfold gO at h
 refine aY ?_
 refine dw Tryz.func151 rfl Tryz.ntmps151 Tryz.results151 rfl (ak [(2,pI 0)] (by kernel_rfl) (cg (ah [3] [(4,pB (decide (4294967296≤p0)))] (by kernel_rfl) (fG h fun q3 hq3 h=>?_))))
 refine av (Y:=Unit×(Int×Int)) (fun (_,(v1,v2))=>[(0,pU v1),(2,pI v2)]) (fun (_,(v1,v2))=>[]) (fun (_,(v1,v2))=>q3=(v1,v2)) ?_ ?_
 ·skip
  refine gM rfl hq3 (fun hc4 hq3=>?_) fun hc4 hq3=>?_
  ·refine ae ?_
   refine ah [5,6] [(0,pU (cS .u64 p0 32))] (by kernel_rfl) (aG (ak [(2,pI 32)] (by kernel_rfl) ?_))
   obtain rfl:=osi hq3
   exact aD ((),((cS .u64 p0 32),32)) (nT rfl) bz rfl
  refine ai ?_
  obtain rfl:=osi hq3
  exact aD ((),(p0,0)) (nT rfl) bz rfl
 rintro ⟨_,⟨v1,v2⟩⟩ τ hz;(try dsimp only at hz);subst q3;(try dsimp only at h);dsimp only [aw]
 refine ae (ae (ah [7] [(8,pB (decide (65536≤v1)))] (by kernel_rfl) (fG h fun q7 hq7 h=>?_)))
 refine av (Y:=Unit×(Int×Int)) (fun (_,(v5,v6))=>[(0,pU v5),(2,pI v6)]) (fun (_,(v5,v6))=>[]) (fun (_,(v5,v6))=>q7=(v5,v6)) ?_ ?_
 ·skip
  refine gM rfl hq7 (fun hc8 hq7=>?_) fun hc8 hq7=>?_
  ·refine ae ?_
   refine ah [9,10] [(0,pU (cS .u64 v1 16))] (by kernel_rfl) (aG (ah [11,12] [(2,pI (IntKind.i64.wrap (v2+16)))] (by kernel_rfl) ?_))
   obtain rfl:=osi hq7
   exact aD ((),((cS .u64 v1 16),(IntKind.i64.wrap (v2+16)))) (nT rfl) bz rfl
  refine ai ?_
  obtain rfl:=osi hq7
  exact aD ((),(v1,v2)) (nT rfl) bz rfl
 rintro ⟨_,⟨v5,v6⟩⟩ τ hz;(try dsimp only at hz);subst q7;(try dsimp only at h);dsimp only [aw]
 refine ae (ae (ah [13] [(14,pB (decide (256≤v5)))] (by kernel_rfl) (fG h fun q11 hq11 h=>?_)))
 refine av (Y:=Unit×(Int×Int)) (fun (_,(v9,v10))=>[(0,pU v9),(2,pI v10)]) (fun (_,(v9,v10))=>[]) (fun (_,(v9,v10))=>q11=(v9,v10)) ?_ ?_
 ·skip
  refine gM rfl hq11 (fun hc12 hq11=>?_) fun hc12 hq11=>?_
  ·refine ae ?_
   refine ah [15,16] [(0,pU (cS .u64 v5 8))] (by kernel_rfl) (aG (ah [17,18] [(2,pI (IntKind.i64.wrap (v6+8)))] (by kernel_rfl) ?_))
   obtain rfl:=osi hq11
   exact aD ((),((cS .u64 v5 8),(IntKind.i64.wrap (v6+8)))) (nT rfl) bz rfl
  refine ai ?_
  obtain rfl:=osi hq11
  exact aD ((),(v5,v6)) (nT rfl) bz rfl
 rintro ⟨_,⟨v9,v10⟩⟩ τ hz;(try dsimp only at hz);subst q11;(try dsimp only at h);dsimp only [aw]
 refine ae (af h fun c13 hc13 h=>?_)
 refine dA h ?_;clear h;intro w14 hw14 h
 refine aa (aU 6 [] (rg 19 5) [(24,pI (IntKind.i64.wrap (v10+(IntKind.i64.wrap (c13.toNat:Int)))))] (fosx 3 (s:=(⟨#[0,1,2,2,3,3,3,3,4,4,4,4,4,4,4,4,5,5,5,5,5,5,5,5,5,5,5,5,5,5,5,5,6,6,6,6,6,6,6,6,6,6,6,6,6,6,6,6,6,6,6,6,6,6,6,6,6,6,6,6,6,6,6,6,7,7,7,7,7,7,7,7,7,7,7,7,7,7,7,7,7,7,7,7,7,7,7,7,7,7,7,7,7,7,7,7,7,7,7,7,7,7,7,7,7,7,7,7,7,7,7,7,7,7,7,7,7,7,7,7,7,7,7,7,7,7,7,7,8,8,8,8,8,8,8,8,8,8,8,8,8,8,8,8,8,8,8,8,8,8,8,8,8,8,8,8,8,8,8,8,8,8,8,8,8,8,8,8,8,8,8,8,8,8,8,8,8,8,8,8,8,8,8,8,8,8,8,8,8,8,8,8,8,8,8,8,8,8,8,8,8,8,8,8,8,8,8,8,8,8,8,8,8,8,8,8,8,8,8,8,8,8,8,8,8,8,8,8,8,8,8,8,8,8,8,8,8,8,8,8,8,8,8,8,8,8,8,8,8,8,8,8,8,8,8,8]⟩:ByteArray)) hc13 bo) (by kernel_rfl) (bh rfl rfl rfl (bi rfl (.p (congrArg (fun z=>PV.v (Value.int .i64 z)) hw14))) (au (df ?_))))
 exact zz r h rfl
def dH (p0:Int):Option Int:=(gO p0).bind fun x1=>some (IntKind.i64.wrap (64 - x1))
theorem hM {p0:Int} {r:Int}  (h:dH p0=some r):PF 213 [pU p0] (pI r):=by
 unfold dH at h
 refine aY ?_
 refine dw Tryz.func213 rfl Tryz.ntmps213 Tryz.results213 rfl (aR [2] (by kernel_rfl) (cr h fun x1 hx1 h=>an [] [3,4,5] [(2,pI (IntKind.i64.wrap (64 - x1)))] (bA 1 (ll hx1) bo) (by kernel_rfl) (df ?_)))
 exact zz r h rfl
def gP (p0:Int) (p1:Int) (p2:Int):Option (Int×Int):=cond (p2 == 0) (none) (cond (decide (p2≤p0)) (none) (cond (p0 == 0) ((nz p2).bind fun u4=>(nz p2).bind fun u5=>some ((IntKind.u64.wrap (Int.tdiv p1 p2)),(Int.tmod p1 p2))) ((dH p2).bind fun x6=>(nO (IntKind.u64.wrap x6)).bind fun u7=>lb ((cS .u64 (ft .u64 p2 (IntKind.u64.wrap x6)) 32)) (fun w8=>lb ((fP .u64 (ft .u64 p2 (IntKind.u64.wrap x6)) 4294967295)) (fun w9=>(nO (IntKind.u64.wrap x6)).bind fun u10=>(nO (IntKind.u64.wrap (64 - (IntKind.u64.wrap x6)))).bind fun u11=>lb ((uT .u64 (ft .u64 p0 (IntKind.u64.wrap x6)) (cS .u64 p1 (IntKind.u64.wrap (64 - (IntKind.u64.wrap x6)))))) (fun w12=>(nO (IntKind.u64.wrap x6)).bind fun u13=>lb ((cS .u64 (ft .u64 p1 (IntKind.u64.wrap x6)) 32)) (fun w14=>lb ((fP .u64 (ft .u64 p1 (IntKind.u64.wrap x6)) 4294967295)) (fun w15=>(nz w8).bind fun u16=>lb ((IntKind.u64.wrap (w12 - (IntKind.u64.wrap ((IntKind.u64.wrap (Int.tdiv w12 w8))*w8))))) (fun w17=>(bf (S:=Int×Int) (T:=(Int)) (fun (v18,v19)=>cond ((decide (4294967296≤v18))||(decide ((IntKind.u64.wrap ((IntKind.u64.wrap (4294967296*v19))+w14))<(IntKind.u64.wrap (v18*w9))))) (cond (decide (4294967296≤(IntKind.u64.wrap (v19+w8)))) (some (.inr (IntKind.u64.wrap (v18 - 1)))) (some (.inl ((IntKind.u64.wrap (v18 - 1)),(IntKind.u64.wrap (v19+w8)))))) (some (.inr v18))) FUEL ((IntKind.u64.wrap (Int.tdiv w12 w8)),w17)).bind fun v20=>lb ((IntKind.u64.wrap ((IntKind.u64.wrap ((IntKind.u64.wrap (w12*4294967296))+w14)) - (IntKind.u64.wrap (v20*(ft .u64 p2 (IntKind.u64.wrap x6))))))) (fun w25=>(nz w8).bind fun u26=>lb ((IntKind.u64.wrap (w25 - (IntKind.u64.wrap ((IntKind.u64.wrap (Int.tdiv w25 w8))*w8))))) (fun w27=>(bf (S:=Int×Int) (T:=(Int)) (fun (v28,v29)=>cond ((decide (4294967296≤v29))||(decide ((IntKind.u64.wrap ((IntKind.u64.wrap (4294967296*v28))+w15))<(IntKind.u64.wrap (v29*w9))))) (cond (decide (4294967296≤(IntKind.u64.wrap (v28+w8)))) (some (.inr (IntKind.u64.wrap (v29 - 1)))) (some (.inl ((IntKind.u64.wrap (v28+w8)),(IntKind.u64.wrap (v29 - 1)))))) (some (.inr v29))) FUEL (w27,(IntKind.u64.wrap (Int.tdiv w25 w8)))).bind fun v30=>(nO (IntKind.u64.wrap x6)).bind fun u35=>lb ((IntKind.u64.wrap ((IntKind.u64.wrap (v20*4294967296))+v30))) (fun w36=>lb ((cS .u64 (IntKind.u64.wrap ((IntKind.u64.wrap ((IntKind.u64.wrap (w25*4294967296))+w15)) - (IntKind.u64.wrap (v30*(ft .u64 p2 (IntKind.u64.wrap x6)))))) (IntKind.u64.wrap x6))) (fun w37=>some (w36,w37))))))))))))))
theorem lm {p0:Int} {p1:Int} {p2:Int} {r:(Int×Int)}  (h:gP p0 p1 p2=some r):PF 200 [pU p0,pU p1,pU p2] (.tup [pU r.1,pU r.2]):=by
 unfold gP at h
 refine aY ?_
 refine dw Tryz.func200 rfl Tryz.ntmps200 Tryz.results200 rfl (aR [6,7] (by kernel_rfl) (cg (ah [19] [(20,pB (p2 == 0))] (by kernel_rfl) (bK rfl h (fun hc1 h=>?_) fun hc1 h=>?_))))
 ·refine aa ?_
  exact absurd h (by simp)
 refine ai ?_
 refine cg (ah [22,23] [(24,pB (decide (p2≤p0)))] (by kernel_rfl) (bK rfl h (fun hc2 h=>?_) fun hc2 h=>?_))
 ·refine aa ?_
  exact absurd h (by simp)
 refine ai ?_
 refine cg (ah [26] [(27,pB (p0 == 0))] (by kernel_rfl) (bK rfl h (fun hc3 h=>?_) fun hc3 h=>?_))
 ·refine ae ?_
  refine bN (ρd:=[]) [(0,0),(1,0),(2,0),(3,0),(4,0),(5,0),(6,0),(7,0)] _ (List.Perm.refl _) (by kernel_rfl) rfl (af h fun u4 hu4 h=>af h fun u5 hu5 h=>bY 8 [] (rg 28 6) [(6,pU (IntKind.u64.wrap (Int.tdiv p1 p2))),(7,pU (Int.tmod p1 p2))] (uz 2 hu4 (uz 5 hu5 bo)) (by kernel_rfl) (cd (df (am ?_))))
  obtain rfl:=osi h
  exact aO (cC (aN rfl) (aN rfl)) bz ⟨rfl,rfl⟩
 refine ai ?_
 refine cr h fun x6 hx6 h=>an [] [34,35,36] [(8,pU (IntKind.u64.wrap x6))] (bA 1 (hM hx6) bo) (by kernel_rfl) (cr h fun u7 hu7 h=>an [] [37,38,39] [(2,pU (ft .u64 p2 (IntKind.u64.wrap x6)))] (wc 2 hu7 bo) (by kernel_rfl) (br ?_))
 refine dA h ?_;clear h;intro w8 hw8 h
 refine aa (cD 2 [40] [(41,pU (cS .u64 (ft .u64 p2 (IntKind.u64.wrap x6)) 32))] (by kernel_rfl) (bh rfl rfl rfl (bi rfl (.p (congrArg (fun z=>PV.v (Value.int .u64 z)) hw8))) (au (br ?_))))
 refine dA h ?_;clear h;intro w9 hw9 h
 refine aa (cD 2 [42] [(43,pU (fP .u64 (ft .u64 p2 (IntKind.u64.wrap x6)) 4294967295))] (by kernel_rfl) (bh rfl rfl rfl (bi rfl (.p (congrArg (fun z=>PV.v (Value.int .u64 z)) hw9))) (au (cr h fun u10 hu10 h=>af h fun u11 hu11 h=>?_))))
 refine dA h ?_;clear h;intro w12 hw12 h
 refine aa (aU 8 [] (rg 44 7) [(51,pU (uT .u64 (ft .u64 p0 (IntKind.u64.wrap x6)) (cS .u64 p1 (IntKind.u64.wrap (64 - (IntKind.u64.wrap x6))))))] (wc 2 hu10 (wc 6 hu11 bo)) (by kernel_rfl) (bh rfl rfl rfl (bi rfl (.p (congrArg (fun z=>PV.v (Value.int .u64 z)) hw12))) (au (cr h fun u13 hu13 h=>an [] [52,53,54] [(12,pU (ft .u64 p1 (IntKind.u64.wrap x6)))] (wc 2 hu13 bo) (by kernel_rfl) (br ?_)))))
 refine dA h ?_;clear h;intro w14 hw14 h
 refine aa (cD 2 [55] [(56,pU (cS .u64 (ft .u64 p1 (IntKind.u64.wrap x6)) 32))] (by kernel_rfl) (bh rfl rfl rfl (bi rfl (.p (congrArg (fun z=>PV.v (Value.int .u64 z)) hw14))) (au (br ?_))))
 refine dA h ?_;clear h;intro w15 hw15 h
 refine aa (cD 2 [57] [(58,pU (fP .u64 (ft .u64 p1 (IntKind.u64.wrap x6)) 4294967295))] (by kernel_rfl) (bh rfl rfl rfl (bi rfl (.p (congrArg (fun z=>PV.v (Value.int .u64 z)) hw15))) (au (cr h fun u16 hu16 h=>an [] [59,60,61] [(15,pU (IntKind.u64.wrap (Int.tdiv w12 w8)))] (uz 2 hu16 bo) (by kernel_rfl) (br ?_)))))
 refine dA h ?_;clear h;intro w17 hw17 h
 refine aa (cD 5 [62,63,64,65] [(66,pU (IntKind.u64.wrap (w12 - (IntKind.u64.wrap ((IntKind.u64.wrap (Int.tdiv w12 w8))*w8)))))] (by kernel_rfl) (bh rfl rfl rfl (bi rfl (.p (congrArg (fun z=>PV.v (Value.int .u64 z)) hw17))) (au (cr h fun q22 hq22 h=>?_))))
 refine av (Y:=Unit×Int) (fun (_,v20)=>[(2,pU (ft .u64 p2 (IntKind.u64.wrap x6))),(8,pU (IntKind.u64.wrap x6)),(9,pU w8),(10,pU w9),(11,pU w12),(13,pU w14),(14,pU w15),(15,pU v20)]) (fun (_,v20)=>[]) (fun (_,v20)=>q22=v20) ?_ ?_
 ·refine aA ?_
  refine aC (Y:=Unit) (S:=Int×Int) _ hq22 (fun _ (v18,v19)=>[(2,pU (ft .u64 p2 (IntKind.u64.wrap x6))),(8,pU (IntKind.u64.wrap x6)),(9,pU w8),(10,pU w9),(11,pU w12),(13,pU w14),(14,pU w15),(15,pU v18),(16,pU v19)]) (fun _ (v18,v19)=>[]) () (uX rfl) bz ?_
  rintro _ ⟨v18,v19⟩ o τ hb21;(try dsimp only at hb21);dsimp only [aw]
  refine ae (ae (ah (rg 67 11) [(78,pB ((decide (4294967296≤v18))||(decide ((IntKind.u64.wrap ((IntKind.u64.wrap (4294967296*v19))+w14))<(IntKind.u64.wrap (v18*w9))))))] (by kernel_rfl) (bK rfl hb21 (fun hc23 hb21=>?_) fun hc23 hb21=>?_)))
  ·refine ai ?_
   refine aG (ff (ah [79,80] [(15,pU (IntKind.u64.wrap (v18 - 1)))] (by kernel_rfl) (br (ah [81,82,83] [(16,pU (IntKind.u64.wrap (v19+w8)))] (by kernel_rfl) (br (ah [84] [(85,pB (decide (4294967296≤(IntKind.u64.wrap (v19+w8)))))] (by kernel_rfl) (bK rfl hb21 (fun hc24 hb21=>?_) fun hc24 hb21=>?_)))))))
   ·refine aM ?_
    refine km rfl (al hb21 (fun ht=>ap rfl ?_))
    exact aD ((),(IntKind.u64.wrap (v18 - 1))) (oN rfl) bz ht.symm
   refine ai ?_
   refine aB ?_
   exact aT hb21 () (uX rfl) bz
  refine aM ?_
  refine aq (al hb21 (fun ht=>ap rfl ?_))
  exact aD ((),v18) (oN rfl) bz ht.symm
 rintro ⟨_,v20⟩ τ hz;(try dsimp only at hz);subst q22;(try dsimp only at h);dsimp only [aw]
 refine ae ?_
 refine dA h ?_;clear h;intro w25 hw25 h
 refine aa (cD 8 (rg 86 7) [(93,pU (IntKind.u64.wrap ((IntKind.u64.wrap ((IntKind.u64.wrap (w12*4294967296))+w14)) - (IntKind.u64.wrap (v20*(ft .u64 p2 (IntKind.u64.wrap x6)))))))] (by kernel_rfl) (bh rfl rfl rfl (bi rfl (.p (congrArg (fun z=>PV.v (Value.int .u64 z)) hw25))) (au (cr h fun u26 hu26 h=>an [] [94,95,96] [(18,pU (IntKind.u64.wrap (Int.tdiv w25 w8)))] (uz 2 hu26 bo) (by kernel_rfl) (br ?_)))))
 refine dA h ?_;clear h;intro w27 hw27 h
 refine aa (cD 5 [97,98,99,100] [(101,pU (IntKind.u64.wrap (w25 - (IntKind.u64.wrap ((IntKind.u64.wrap (Int.tdiv w25 w8))*w8)))))] (by kernel_rfl) (bh rfl rfl rfl (bi rfl (.p (congrArg (fun z=>PV.v (Value.int .u64 z)) hw27))) (au (cr h fun q32 hq32 h=>?_))))
 refine av (Y:=Unit×Int) (fun (_,v30)=>[(2,pU (ft .u64 p2 (IntKind.u64.wrap x6))),(8,pU (IntKind.u64.wrap x6)),(14,pU w15),(15,pU v20),(17,pU w25),(18,pU v30)]) (fun (_,v30)=>[]) (fun (_,v30)=>q32=v30) ?_ ?_
 ·refine aA ?_
  refine aC (Y:=Unit) (S:=Int×Int) _ hq32 (fun _ (v28,v29)=>[(2,pU (ft .u64 p2 (IntKind.u64.wrap x6))),(8,pU (IntKind.u64.wrap x6)),(9,pU w8),(10,pU w9),(14,pU w15),(15,pU v20),(16,pU v28),(17,pU w25),(18,pU v29)]) (fun _ (v28,v29)=>[]) () (uX rfl) bz ?_
  rintro _ ⟨v28,v29⟩ o τ hb31;(try dsimp only at hb31);dsimp only [aw]
  refine ae (ae (ah (rg 102 11) [(113,pB ((decide (4294967296≤v29))||(decide ((IntKind.u64.wrap ((IntKind.u64.wrap (4294967296*v28))+w15))<(IntKind.u64.wrap (v29*w9))))))] (by kernel_rfl) (bK rfl hb31 (fun hc33 hb31=>?_) fun hc33 hb31=>?_)))
  ·refine ai ?_
   refine aG (ff (ah [114,115] [(18,pU (IntKind.u64.wrap (v29 - 1)))] (by kernel_rfl) (br (ah [116,117,118] [(16,pU (IntKind.u64.wrap (v28+w8)))] (by kernel_rfl) (br (ah [119] [(120,pB (decide (4294967296≤(IntKind.u64.wrap (v28+w8)))))] (by kernel_rfl) (bK rfl hb31 (fun hc34 hb31=>?_) fun hc34 hb31=>?_)))))))
   ·refine aM ?_
    refine km rfl (al hb31 (fun ht=>ap rfl ?_))
    exact aD ((),(IntKind.u64.wrap (v29 - 1))) (rB rfl) bz ht.symm
   refine ai ?_
   refine aB ?_
   exact aT hb31 () (uX rfl) bz
  refine aM ?_
  refine aq (al hb31 (fun ht=>ap rfl ?_))
  exact aD ((),v29) (rB rfl) bz ht.symm
 rintro ⟨_,v30⟩ τ hz;(try dsimp only at hz);subst q32;(try dsimp only at h);dsimp only [aw]
 refine ae (af h fun u35 hu35 h=>?_)
 refine dA h ?_;clear h;intro w36 hw36 h
 refine aa (aU 14 [] [121,122,123,125,126,127,128,129,130,131,132,133] [(124,pU (IntKind.u64.wrap ((IntKind.u64.wrap (v20*4294967296))+v30))),(134,pU (cS .u64 (IntKind.u64.wrap ((IntKind.u64.wrap ((IntKind.u64.wrap (w25*4294967296))+w15)) - (IntKind.u64.wrap (v30*(ft .u64 p2 (IntKind.u64.wrap x6)))))) (IntKind.u64.wrap x6)))] (wc 13 hu35 bo) (by kernel_rfl) (bh rfl rfl rfl (bi rfl (.p (congrArg (fun z=>PV.v (Value.int .u64 z)) hw36))) ?_))
 refine dA h ?_;clear h;intro w37 hw37 h
 refine bh rfl rfl rfl (bi rfl (.p (congrArg (fun z=>PV.v (Value.int .u64 z)) hw37))) (au (df ?_))
 obtain rfl:=osi h
 exact aO (cC (aN rfl) (aN rfl)) bz ⟨rfl,rfl⟩
def jM (p0:Int) (p1:Int) (p2:Int) (p3:Int):Option Bool:=cond (p3 == 1) (some (decide (0<p1))) (cond (p3 == 2) (some (decide ((IntKind.u64.wrap (p2 - p1))≤p1))) (cond (p3 == 3) (some ((decide ((IntKind.u64.wrap (p2 - p1))<p1))||((p1 == (IntKind.u64.wrap (p2 - p1)))&&((Int.tmod p0 2) == 1)))) (some false)))
theorem mN {p0:Int} {p1:Int} {p2:Int} {p3:Int} {r:Bool}  (h:jM p0 p1 p2 p3=some r):PF 201 [pU p0,pU p1,pU p2,pI p3] (pB r):=by
 unfold jM at h
 refine aY ?_
 refine dw Tryz.func201 rfl Tryz.ntmps201 Tryz.results201 rfl (aR [8] (by kernel_rfl) (br (ah [10,11,12] [(9,pU (IntKind.u64.wrap (p2 - p1)))] (by kernel_rfl) (cg (ak [(13,pI p3)] (by kernel_rfl) (aG (ff (ah [15] [(14,pB (p3 == 1))] (by kernel_rfl) (bK rfl h (fun hc1 h=>?_) fun hc1 h=>?_)))))))))
 ·refine ae ?_
  refine ah [16,17] [(8,pB (decide (0<p1)))] (by kernel_rfl) (df (eV ?_))
  exact zz r h rfl
 refine ae ?_
 refine ah [19] [(18,pB (p3 == 2))] (by kernel_rfl) (bK rfl h (fun hc2 h=>?_) fun hc2 h=>?_)
 ·refine ae ?_
  refine ah [20,21,22] [(8,pB (decide ((IntKind.u64.wrap (p2 - p1))≤p1)))] (by kernel_rfl) (df (eV ?_))
  exact zz r h rfl
 refine ae ?_
 refine ah [24] [(23,pB (p3 == 3))] (by kernel_rfl) (bK rfl h (fun hc3 h=>?_) fun hc3 h=>?_)
 ·refine ae ?_
  refine ah (rg 25 13) [(8,pB ((decide ((IntKind.u64.wrap (p2 - p1))<p1))||((p1 == (IntKind.u64.wrap (p2 - p1)))&&((Int.tmod p0 2) == 1))))] (by kernel_rfl) (df (eV ?_))
  exact zz r h rfl
 refine ai ?_
 refine aB (br (dn [(8,pB false)] (by kernel_rfl) ?_))
 exact zz r h rfl
def mg (p0:Zn) (p1:Int) (p2:Int):Option (Int×Int):=cond (((p1 == 0)||(decide (p2<0)))||(decide (3<p2))) (some ((0:Int),(2:Int))) (cond (decide (p1≤p0.Hi)) (some ((0:Int),(3:Int))) ((gP p0.Hi p0.Lo p1).bind fun x4=>(jM x4.1 x4.2 p1 p2).bind fun x5=>cond (!x5) (some (x4.1,(0:Int))) (cond (x4.1 == 18446744073709551615) (some ((0:Int),(3:Int))) (some ((IntKind.u64.wrap (x4.1+1)),(0:Int))))))
theorem qE {p0:Zn} {p1:Int} {p2:Int} {r:(Int×Int)}  (h:mg p0 p1 p2=some r):PF 171 [.agg [pU p0.Hi,pU p0.Lo],pU p1,pI p2] (.tup [pU r.1,pI r.2]):=by
 unfold mg at h
 refine aY ?_
 refine dw Tryz.func171 rfl Tryz.ntmps171 Tryz.results171 rfl (aa (aj rfl (bj (cs:=[pU p0.Hi,pU p0.Lo]) rfl rfl (fun b1=>aZ [6,7] (by kernel_rfl) (cg (ah (rg 10 9) [(19,pB (((p1 == 0)||(decide (p2<0)))||(decide (3<p2))))] (by kernel_rfl) (bK rfl h (fun hc2 h=>?_) fun hc2 h=>?_)))))))
 ·refine ae ?_
  refine dn [(6,pU 0),(7,pI 2)] (by kernel_rfl) (am ?_)
  obtain rfl:=osi h
  exact aO (cC (aN rfl) (aN rfl)) bz ⟨rfl,rfl⟩
 refine ai ?_
 refine cg (aW [0] [20,21,22] [(23,pB (decide (p1≤p0.Hi)))] (by kernel_rfl) (bK rfl h (fun hc3 h=>?_) fun hc3 h=>?_))
 ·refine ae ?_
  refine dn [(6,pU 0),(7,pI 3)] (by kernel_rfl) (am ?_)
  obtain rfl:=osi h
  exact aO (cC (aN rfl) (aN rfl)) bz ⟨rfl,rfl⟩
 refine ai ?_
 refine cr h fun x4 hx4 h=>an [0,0] ((rg 25 6)++[24,31,32]) [(8,pU x4.1),(9,pU x4.2)] (bA 5 (lm hx4) bo) (by kernel_rfl) (cg (af h fun x5 hx5 h=>an [] (rg 33 5) [(38,pB (!x5))] (bA 4 (mN hx5) bo) (by kernel_rfl) (bK rfl h (fun hc6 h=>?_) fun hc6 h=>?_)))
 ·refine ae ?_
  refine ah [39] [(6,pU x4.1),(7,pI 0)] (by kernel_rfl) (df (am ?_))
  obtain rfl:=osi h
  exact aO (cC (aN rfl) (aN rfl)) bz ⟨rfl,rfl⟩
 refine ai ?_
 refine cg (ah [40] [(41,pB (x4.1 == 18446744073709551615))] (by kernel_rfl) (bK rfl h (fun hc7 h=>?_) fun hc7 h=>?_))
 ·refine ae ?_
  refine dn [(6,pU 0),(7,pI 3)] (by kernel_rfl) (am ?_)
  obtain rfl:=osi h
  exact aO (cC (aN rfl) (aN rfl)) bz ⟨rfl,rfl⟩
 refine ai ?_
 refine br (ah [42,43] [(6,pU (IntKind.u64.wrap (x4.1+1))),(7,pI 0)] (by kernel_rfl) (df ?_))
 obtain rfl:=osi h
 exact aO (cC (aN rfl) (aN rfl)) bz ⟨rfl,rfl⟩
def gQ (p0:Int) (p1:Int):Option (Int×Int):=lb ((IntKind.u64.wrap ((fP .u64 p0 4294967295)*(fP .u64 p1 4294967295)))) (fun w1=>lb ((IntKind.u64.wrap ((IntKind.u64.wrap ((cS .u64 p0 32)*(fP .u64 p1 4294967295)))+(cS .u64 w1 32)))) (fun w2=>lb ((IntKind.u64.wrap ((fP .u64 w2 4294967295)+(IntKind.u64.wrap ((fP .u64 p0 4294967295)*(cS .u64 p1 32)))))) (fun w3=>lb ((IntKind.u64.wrap ((IntKind.u64.wrap ((IntKind.u64.wrap ((cS .u64 p0 32)*(cS .u64 p1 32)))+(cS .u64 w2 32)))+(cS .u64 w3 32)))) (fun w4=>some (w4,(IntKind.u64.wrap (p0*p1)))))))
theorem ln {p0:Int} {p1:Int} {r:(Int×Int)}  (h:gQ p0 p1=some r):PF 202 [pU p0,pU p1] (.tup [pU r.1,pU r.2]):=by
 unfold gQ at h
 refine aY ?_
 refine dw Tryz.func202 rfl Tryz.ntmps202 Tryz.results202 rfl (aR [4,5] (by kernel_rfl) (br (ah [14,15] [(6,pU (fP .u64 p0 4294967295))] (by kernel_rfl) (br (ah [16,17] [(7,pU (cS .u64 p0 32))] (by kernel_rfl) (br (ah [18,19] [(8,pU (fP .u64 p1 4294967295))] (by kernel_rfl) (br (ah [20,21] [(9,pU (cS .u64 p1 32))] (by kernel_rfl) (br ?_))))))))))
 refine dA h ?_;clear h;intro w1 hw1 h
 refine aa (cD 3 [22,23] [(24,pU (IntKind.u64.wrap ((fP .u64 p0 4294967295)*(fP .u64 p1 4294967295))))] (by kernel_rfl) (bh rfl rfl rfl (bi rfl (.p (congrArg (fun z=>PV.v (Value.int .u64 z)) hw1))) (au (br ?_))))
 refine dA h ?_;clear h;intro w2 hw2 h
 refine aa (cD 6 (rg 25 5) [(30,pU (IntKind.u64.wrap ((IntKind.u64.wrap ((cS .u64 p0 32)*(fP .u64 p1 4294967295)))+(cS .u64 w1 32))))] (by kernel_rfl) (bh rfl rfl rfl (bi rfl (.p (congrArg (fun z=>PV.v (Value.int .u64 z)) hw2))) (au (br (ah [31,32] [(12,pU (fP .u64 w2 4294967295))] (by kernel_rfl) (br (ah [33,34] [(13,pU (cS .u64 w2 32))] (by kernel_rfl) (br ?_))))))))
 refine dA h ?_;clear h;intro w3 hw3 h
 refine aa (cD 5 [35,36,37,38] [(39,pU (IntKind.u64.wrap ((fP .u64 w2 4294967295)+(IntKind.u64.wrap ((fP .u64 p0 4294967295)*(cS .u64 p1 32))))))] (by kernel_rfl) (bh rfl rfl rfl (bi rfl (.p (congrArg (fun z=>PV.v (Value.int .u64 z)) hw3))) (au (br ?_))))
 refine dA h ?_;clear h;intro w4 hw4 h
 refine aa (cD 8 (rg 40 7) [(47,pU (IntKind.u64.wrap ((IntKind.u64.wrap ((IntKind.u64.wrap ((cS .u64 p0 32)*(cS .u64 p1 32)))+(cS .u64 w2 32)))+(cS .u64 w3 32))))] (by kernel_rfl) (bh rfl rfl rfl (bi rfl (.p (congrArg (fun z=>PV.v (Value.int .u64 z)) hw4))) (au (br (ah [48,49,50] [(5,pU (IntKind.u64.wrap (p0*p1)))] (by kernel_rfl) (df ?_))))))
 obtain rfl:=osi h
 exact aO (cC (aN rfl) (aN rfl)) bz ⟨rfl,rfl⟩
def jm (p0:Int) (p1:Int):Option Zn:=(gQ p0 p1).bind fun x2=>some (⟨x2.1,x2.2⟩:Zn)
theorem jN {p0:Int} {p1:Int} {r:Zn}  (h:jm p0 p1=some r):PF 172 [pU p0,pU p1] (.agg [pU r.Hi,pU r.Lo]):=by
 unfold jm at h
 refine aY ?_
 refine dw Tryz.func172 rfl Tryz.ntmps172 Tryz.results172 rfl (aa (aj rfl (aQ (cs:=[pU 0,pU 0]) rfl rfl rfl rfl (fun b1=>au (cr h fun x2 hx2 h=>an [] [8,9,10,7,11,12] [(5,pU x2.1),(6,pU x2.2)] (bA 2 (ln hx2) bo) (by kernel_rfl) (br (aa (cD 3 [13,14] [(15,.agg [pU x2.1,pU x2.2])] (by kernel_rfl) (aX rfl rfl (aH (vs:=[pU x2.1,pU x2.2]) rfl rfl rfl rfl rfl dy uw (au (df ?_))))))))))))
 obtain rfl:=osi h
 exact aO (cJ (gK rfl fT rfl)) bz ⟨rfl,rfl⟩
def jO (p0:Int) (p1:Int) (p2:Int) (p3:Int):Option (Int×Int):=(jm p0 p1).bind fun x1=>(mg x1 p2 p3).bind fun x2=>some (x2.1,x2.2)
theorem mO {p0:Int} {p1:Int} {p2:Int} {p3:Int} {r:(Int×Int)}  (h:jO p0 p1 p2 p3=some r):PF 141 [pU p0,pU p1,pU p2,pI p3] (.tup [pU r.1,pI r.2]):=by
 unfold jO at h
 refine aY ?_
 refine dw Tryz.func141 rfl Tryz.ntmps141 Tryz.results141 rfl (aR [8,9] (by kernel_rfl) (cr h fun x1 hx1 h=>af h fun x2 hx2 h=>an [] (rg 10 8) [(8,pU x2.1),(9,pI x2.2)] (bA 2 (jN hx1) (bA 5 (qE hx2) bo)) (by kernel_rfl) (df ?_)))
 obtain rfl:=osi h
 exact aO (cC (aN rfl) (aN rfl)) bz ⟨rfl,rfl⟩
def fy (p0:Int) (p1:Int) (p2:Int):Option Int:=(jO (IntKind.u64.wrap p0) (IntKind.u64.wrap p1) (IntKind.u64.wrap p2) 1).bind fun x1=>cond ((x1.2 != 0)||(decide (1000000000000<x1.1))) (some (1000000000000:Int)) (some (IntKind.i64.wrap x1.1))
theorem kf {p0:Int} {p1:Int} {p2:Int} {r:Int}  (h:fy p0 p1 p2=some r):PF 99 [pI p0,pI p1,pI p2] (pI r):=by
 unfold fy at h
 refine aY ?_
 refine dw Tryz.func99 rfl Tryz.ntmps99 Tryz.results99 rfl (aR [6] (by kernel_rfl) (cr h fun x1 hx1 h=>an [] ((rg 10 7)++[9,17,18]) [(7,pU x1.1),(8,pI x1.2)] (bA 6 (mO hx1) bo) (by kernel_rfl) (cg (ah (rg 19 5) [(24,pB ((x1.2 != 0)||(decide (1000000000000<x1.1))))] (by kernel_rfl) (bK rfl h (fun hc2 h=>?_) fun hc2 h=>?_)))))
 ·refine ae ?_
  refine dn [(6,pI 1000000000000)] (by kernel_rfl) (am ?_)
  exact zz r h rfl
 refine ai ?_
 refine br (ah [25,26] [(6,pI (IntKind.i64.wrap x1.1))] (by kernel_rfl) (df ?_))
 exact zz r h rfl
def il (p0:(List Int)):Option Int:=(bf (S:=Int) (T:=(Unit)⊕(_)) (fun v1=>cond (decide (v1<(p0.length:Int))) ((idx p0 v1).bind fun m5=>cond (m5 != 0) (some (.inr (.inr m5))) (some (.inl (IntKind.i64.wrap (v1+1))))) (some (.inr (.inl ())))) FUEL 0).bind fun q=>match q with | .inl _=>some (0:Int) | .inr e=>some e
theorem oX {p0:(List Int)} {r:Int}  (h:il p0=some r):PF 102 [pL eI p0] (pI r):=by
 unfold il at h
 refine aY ?_
 refine dw Tryz.func102 rfl Tryz.ntmps102 Tryz.results102 rfl (aR [2] (by kernel_rfl) (br (ak [(3,pI 0)] (by kernel_rfl) (cg (ak [(6,pL eI p0),(7,pI (p0.length:Int)),(8,pI 0)] (by kernel_rfl) (fG h fun q3 hq3 h=>?_))))))
 refine av (Y:=Unit×Unit) (fun (_,_)=>[(3,pI 0)]) (fun (_,_)=>[]) (fun (_,_)=>q3=Sum.inl ()) ?_ ?_
 ·refine aA ?_
  refine aC (Y:=Unit) (S:=Int) _ hq3 (fun _ v1=>[(3,pI 0),(6,pL eI p0),(7,pI (p0.length:Int)),(8,pI v1)]) (fun _ v1=>[]) () (gI rfl) bz ?_
  rintro _ v1 o τ hb2;(try dsimp only at hb2);dsimp only [aw]
  refine ae (ak [(9,pB (decide (v1<(p0.length:Int))))] (by kernel_rfl) (br (gM rfl hb2 (fun hc4 hb2=>?_) fun hc4 hb2=>?_)))
  ·refine ai ?_
   refine br (ff (af hb2 fun m5 hm5 hb2=>an [] [10,11] [(5,pI m5)] (cn 0 eI hm5 bo) (by kernel_rfl) (br (ah [12,13] [(14,pB (m5 != 0))] (by kernel_rfl) (bK rfl hb2 (fun hc6 hb2=>?_) fun hc6 hb2=>?_)))))
   ·refine ae ?_
    refine ah [15] [(2,pI m5)] (by kernel_rfl) (df (eV ?_))
    refine aF hb2 (fun ht=>?_);subst ht
    refine ar (aJ ?_)
    exact zz r h rfl
   refine ai ?_
   refine dY (ah [16] [(8,pI (IntKind.i64.wrap (v1+1)))] (by kernel_rfl) ?_)
   exact aT hb2 () (gI rfl) bz
  refine aM ?_
  refine aq (al hb2 (fun ht=>ap rfl ?_))
  exact aD ((),()) (uu rfl) bz ht.symm
 rintro ⟨_,_⟩ τ hz;(try dsimp only at hz);subst q3;(try dsimp only at h);dsimp only [aw]
 refine ae (ah [17] [(2,pI 0)] (by kernel_rfl) (df ?_))
 exact zz r h rfl
def cA (p0:Za) (p1:Za):Option Int:=(cM p0.Product p1.Product).bind fun x3=>(cM p0.Agreement p1.Agreement).bind fun x4=>(il [x3,x4]).bind fun x6=>some x6
theorem hQ {p0:Za} {p1:Za} {r:Int}  (h:cA p0 p1=some r):PF 50 [.agg [pI p0.Product,pI p0.Agreement],.agg [pI p1.Product,pI p1.Agreement]] (pI r):=by
 unfold cA at h
 refine aY ?_
 refine dw Tryz.func50 rfl Tryz.ntmps50 Tryz.results50 rfl (aa (aj rfl (bj (cs:=[pI p0.Product,pI p0.Agreement]) rfl rfl (fun b1=>aj rfl (bj (cs:=[pI p1.Product,pI p1.Agreement]) rfl rfl (fun b2=>aZ [4] (by kernel_rfl) (br (bN (ρd:=[]) [(0,0),(1,0),(2,0),(3,0),(5,0),(6,0),(7,0),(8,0),(4,1),(9,1),(10,1),(11,1),(12,0)] _ (List.Perm.refl _) (by kernel_rfl) rfl (af h fun x3 hx3 h=>af h fun x4 hx4 h=>bY 10 [1,0,1,0] [5,6,7,8,10,11,12,13] [(9,pI x3),(14,pI x4)] (bA 8 (fw hx3) (bA 9 (fw hx4) bo)) (by kernel_rfl) ?_)))))))))
 refine nN rfl rfl rfl (pl_fz (bR rfl rfl rfl rfl rfl (ko rfl (ko rfl kO)) rfl rfl rfl rfl (fun b5=>⟨_,_,_,_,_,_,_,rfl,by (repeat (first | exact aV | apply az)),?_⟩)))
 refine af h fun x6 hx6 h=>bY 2 [] [16] [(4,pI x6)] (bA 0 (oX hx6) bo) (by kernel_rfl) (cd (df ?_))
 exact zz r h rfl
def bB (p0:(List Za)):Option (List Za):=cond (decide (((p0.length:Nat):Int)<2)) (some p0) ((bf (S:=Int) (T:=(Unit)⊕(_)) (fun v2=>cond (decide (v2<((p0.length:Nat):Int))) ((idx p0 v2).bind fun m7=>(idx p0 (IntKind.i64.wrap (v2 - 1))).bind fun m8=>cond (Za.eqb m7 m8) ((sub p0 v2 (p0.length:Int)).bind fun l10=>(bf (S:=(List Za)×Int×Int) (T:=((List Za)×Int)) (fun (l12,v13,v14)=>cond (decide (v14<((p0.length - v2.toNat:Nat):Int))) (((nO v14).bind fun u25=>(idx l12 (v2+v14)).bind fun m26=>(nO (IntKind.i64.wrap (v14 - 1))).bind fun u27=>(idx l12 (v2+(IntKind.i64.wrap (v14 - 1)))).bind fun m28=>cond (!(Za.eqb m26 m28)) ((nO v14).bind fun u30=>(idx l12 (v2+v14)).bind fun m31=>(idx l12 v13).bind fun m32=>some ((l12.set v13.toNat m31),(IntKind.i64.wrap (v13+1)))) (some (l12,v13))).bind fun (l22,v23)=>some (.inl (l22,v23,(IntKind.i64.wrap (v14+1))))) (some (.inr (l12,v13)))) FUEL (p0,v2,1)).bind fun (l16,v17)=>(sub l16 v17 (l16.length:Int)).bind fun l34=>(sub (List.take v17.toNat l16++List.replicate (p0.length - v17.toNat) (⟨(0:Int),(0:Int)⟩:Za)) 0 v17).bind fun l35=>some (.inr (.inr l35))) (some (.inl (IntKind.i64.wrap (v2+1))))) (some (.inr (.inl ())))) FUEL 1).bind fun q=>match q with | .inl _=>some p0 | .inr e=>some e)
theorem dp {p0:(List Za)} {a_0:Option Addr}  {n_0:Nat}  {c_0:Nat} {r:(List Za)}  (h:bB p0=some r):PCall 51 [.v (.slice a_0 n_0 c_0)] [PRes.row a_0 n_0 c_0 28 2 (List.map Za.enc p0)] (fun pv ρ'=>∃ a c,pv=.v (.slice a r.length c)∧ρ'=[PRes.row a r.length c 28 2 (List.map Za.enc r)]):=by
 unfold bB at h
 refine eP Tryz.func51 rfl Tryz.ntmps51 Tryz.results51 rfl ?_
 refine fB (enc:=Za.enc) (xs:=p0) (a:=a_0) fT (fun hl ha=>?_);subst hl;clear ha
 refine ae (aR [2] (by kernel_rfl) (cg (ah [6,7] [(8,pB (decide (((p0.length:Nat):Int)<2)))] (by kernel_rfl) (bK rfl h (fun hc1 h=>?_) fun hc1 h=>?_))))
 ·refine ae ?_
  refine ah [9] [(2,pO a_0 p0.length c_0)] (by kernel_rfl) (df (am ?_))
  obtain rfl:=osi h
  exact aO (cJ (aN rfl)) dl ⟨_,_,rfl,rfl⟩
 refine ai ?_
 refine cg (ak [(3,pI 1)] (by kernel_rfl) (fG h fun q5 hq5 h=>?_))
 refine av (Y:=Unit×Unit) (fun (_,_)=>[(0,pO a_0 p0.length c_0)]) (fun (_,_)=>[PRes.row a_0 p0.length c_0 28 2 (List.map Za.enc p0)]) (fun (_,_)=>q5=Sum.inl ()) ?_ ?_
 ·refine aA ?_
  refine aC (Y:=Unit) (S:=Int) _ hq5 (fun _ v2=>[(0,pO a_0 p0.length c_0),(3,pI v2)]) (fun _ v2=>[PRes.row a_0 p0.length c_0 28 2 (List.map Za.enc p0)]) () (nT rfl) dl ?_
  rintro _ v2 o τ hb4;(try dsimp only at hb4);dsimp only [aw]
  refine ae (ae (ah [10,11,12] [(13,pB (decide (v2<((p0.length:Nat):Int))))] (by kernel_rfl) (bK rfl hb4 (fun hc6 hb4=>?_) fun hc6 hb4=>?_)))
  ·refine ai ?_
   refine br (ff (bN (ρd:=[]) [(0,0),(1,0),(2,0),(3,0),(4,0),(5,0),(6,0),(7,0),(8,0),(9,0)] _ (List.Perm.refl _) (by kernel_rfl) rfl (af hb4 fun m7 hm7 hb4=>fe 2 [(16,pO a_0 p0.length c_0),(17,pI v2)] (by kernel_rfl) (fR rfl rfl rfl (cW (enc:=Za.enc) (xs:=p0) rfl rfl rfl (.p rfl) fT (.p rfl) (fun _=>hm7)) (fR rfl rfl rfl (bW (sz:=2) (p:=.agg [pI m7.Product,pI m7.Agreement]) (enc:=Za.enc) (xs:=p0) (a:=a_0) v2 0 m7 rfl (.p rfl) rfl fT (fun _=>hm7) rfl) (af hb4 fun m8 hm8 hb4=>lI 3 [21] [(20,pO a_0 p0.length c_0),(22,pI (IntKind.i64.wrap (v2 - 1)))] (by kernel_rfl) (fR rfl rfl rfl (cW (enc:=Za.enc) (xs:=p0) rfl rfl rfl (.p rfl) fT (.p rfl) (fun _=>hm8)) (fR rfl rfl rfl (bW (sz:=2) (p:=.agg [pI m8.Product,pI m8.Agreement]) (enc:=Za.enc) (xs:=p0) (a:=a_0) (IntKind.i64.wrap (v2 - 1)) 0 m8 rfl (.p rfl) rfl fT (fun _=>hm8) rfl) (bY 1 [] [] [(25,pB (Za.eqb m7 m8))] (rG 0 Za.eqok28 bo) (by kernel_rfl) (cd (bK rfl hb4 (fun hc9 hb4=>?_) fun hc9 hb4=>?_)))))))))))
   ·refine ae ?_
    refine af hb4 fun l10 hl10 hb4=>aa (aI 2 [(26,pO a_0 p0.length c_0),(27,pI v2)] (by kernel_rfl) (bh rfl rfl rfl (ii (enc:=Za.enc) (xs:=p0) rfl rfl rfl rfl rfl fT hl10) (aP [(4,pQ a_0 p0.length c_0 v2.toNat 2)] (by kernel_rfl) (cg (ak [(5,pI 1)] (by kernel_rfl) (fG hb4 fun q19 hq19 hb4=>?_))))))
    refine av (Y:=Unit×((List Za)×Int)) (fun (_,(l16,v17))=>[(0,pO a_0 p0.length c_0),(3,pI v17)]) (fun (_,(l16,v17))=>[PRes.row a_0 p0.length c_0 28 2 (List.map Za.enc l16)]) (fun (_,(l16,v17))=>q19=(l16,v17)) ?_ ?_
    ·refine aA ?_
     refine aC (Y:=Unit) (S:=(List Za)×Int×Int) _ hq19 (fun _ (l12,v13,v14)=>[(0,pO a_0 p0.length c_0),(3,pI v13),(4,pQ a_0 p0.length c_0 v2.toNat 2),(5,pI v14)]) (fun _ (l12,v13,v14)=>[PRes.row a_0 p0.length c_0 28 2 (List.map Za.enc l12)]) () (gI rfl) dl ?_
     rintro _ ⟨l12,v13,v14⟩ o τ hb18;(try dsimp only at hb18);dsimp only [aw]
     refine ae (ae (ah [29,30,31] [(32,pB (decide (v14<((p0.length - v2.toNat:Nat):Int))))] (by kernel_rfl) (bK rfl hb18 (fun hc20 hb18=>?_) fun hc20 hb18=>?_)))
     ·refine ai ?_
      refine cr hb18 fun q24 hq24 hb18=>?_
      refine av (Y:=Unit×((List Za)×Int)) (fun (_,(l22,v23))=>[(0,pO a_0 p0.length c_0),(3,pI v23),(4,pQ a_0 p0.length c_0 v2.toNat 2),(5,pI v14)]) (fun (_,(l22,v23))=>[PRes.row a_0 p0.length c_0 28 2 (List.map Za.enc l22)]) (fun (_,(l22,v23))=>q24=(l22,v23)) ?_ ?_
      ·skip
       refine ff (bN (ρd:=[]) [(0,0),(1,0),(2,0),(3,0),(4,0),(5,0),(6,0),(7,0),(8,0),(9,0)] _ (List.Perm.refl _) (by kernel_rfl) rfl (af hq24 fun u25 hu25 hq24=>af hq24 fun m26 hm26 hq24=>fe 2 [(35,pQ a_0 p0.length c_0 v2.toNat 2),(36,pI v14)] (by kernel_rfl) (fR rfl rfl rfl (fu (enc:=Za.enc) (xs:=l12) (i:=v2) rfl rfl rfl rfl rfl (dP hl10).1.1 (gx hu25) fT hm26) (fR rfl rfl rfl (bW (sz:=2) (p:=.agg [pI m26.Product,pI m26.Agreement]) (enc:=Za.enc) (xs:=l12) (a:=a_0) (v2+v14) 0 m26 rfl (.p rfl) rfl fT (fun _=>hm26) rfl) (af hq24 fun u27 hu27 hq24=>af hq24 fun m28 hm28 hq24=>lI 3 [40] [(39,pQ a_0 p0.length c_0 v2.toNat 2),(41,pI (IntKind.i64.wrap (v14 - 1)))] (by kernel_rfl) (fR rfl rfl rfl (fu (enc:=Za.enc) (xs:=l12) (i:=v2) rfl rfl rfl rfl rfl (dP hl10).1.1 (gx hu27) fT hm28) (fR rfl rfl rfl (bW (sz:=2) (p:=.agg [pI m28.Product,pI m28.Agreement]) (enc:=Za.enc) (xs:=l12) (a:=a_0) (v2+(IntKind.i64.wrap (v14 - 1))) 0 m28 rfl (.p rfl) rfl fT (fun _=>hm28) rfl) (bY 1 [] [] [(44,pB (!(Za.eqb m26 m28)))] (rG 0 Za.eqok28 bo) (by kernel_rfl) (cd (bK rfl hq24 (fun hc29 hq24=>?_) fun hc29 hq24=>?_))))))))))
       ·refine ae ?_
        refine af hq24 fun u30 hu30 hq24=>af hq24 fun m31 hm31 hq24=>aa (aI 4 [(45,pO a_0 p0.length c_0),(46,pI v13),(47,pQ a_0 p0.length c_0 v2.toNat 2),(48,pI v14)] (by kernel_rfl) (bh rfl rfl rfl (fu (enc:=Za.enc) (xs:=l12) (i:=v2) rfl rfl rfl rfl rfl (dP hl10).1.1 (gx hu30) fT hm31) (bh rfl rfl rfl (bW (sz:=2) (p:=.agg [pI m31.Product,pI m31.Agreement]) (enc:=Za.enc) (xs:=l12) (a:=a_0) (v2+v14) 0 m31 rfl (.p rfl) rfl fT (fun _=>hm31) rfl) (af hq24 fun m32 hm32 hq24=>bh rfl rfl rfl (cW (enc:=Za.enc) (xs:=l12) rfl rfl rfl (.p rfl) fT (.p rfl) (fun _=>hm32)) (aX rfl rfl (lf (enc:=Za.enc) (xs:=l12) (a:=a_0) v13 0 m32 m31 rfl rfl rfl rfl (fun _=>rfl) rfl rfl hm32 uw dy (au (aG (ah [52,53] [(3,pI (IntKind.i64.wrap (v13+1)))] (by kernel_rfl) (aB ?_))))))))))
        obtain rfl:=osi hq24
        exact aD ((),((l12.set v13.toNat m31),(IntKind.i64.wrap (v13+1)))) (gI rfl) dl rfl
       refine ai ?_
       refine aB ?_
       obtain rfl:=osi hq24
       exact aD ((),(l12,v13)) (gI rfl) dl rfl
      rintro ⟨_,⟨l22,v23⟩⟩ τ hz;(try dsimp only at hz);subst q24;(try dsimp only at hb18);dsimp only [aw]
      refine ah [33,34] [(5,pI (IntKind.i64.wrap (v14+1)))] (by kernel_rfl) ?_
      exact aT hb18 () (gI rfl) dl
     refine aM ?_
     refine aq (al hb18 (fun ht=>ap rfl ?_))
     exact aD ((),(l12,v13)) (nT rfl) dl ht.symm
    rintro ⟨_,⟨l16,v17⟩⟩ τ hz;(try dsimp only at hz);subst q19;(try dsimp only at hb4);dsimp only [aw]
    refine ae (af hb4 fun l34 hl34 hb4=>aa (aI 2 [(54,pO a_0 p0.length c_0),(55,pI v17)] (by kernel_rfl) (bh rfl rfl rfl (ii (enc:=Za.enc) (xs:=l16) rfl rfl rfl rfl rfl fT hl34) (aX rfl rfl (pF (enc:=Za.enc) (xs:=l16) (z0:=(⟨(0:Int),(0:Int)⟩:Za)) (i:=v17) rfl rfl rfl rfl hl34 rfl rfl rfl rfl dy (au (cr hb4 fun l35 hl35 hb4=>aa (aI 2 [(57,pO a_0 p0.length c_0),(58,pI v17)] (by kernel_rfl) ?_))))))))
    refine aj rfl (l7 (enc:=Za.enc) (xs:=(List.take v17.toNat l16++List.replicate (p0.length - v17.toNat) (⟨(0:Int),(0:Int)⟩:Za))) rfl rfl rfl rfl rfl (by exact aV) hl35 ?_)
    refine aP [(2,pO a_0 l35.length c_0)] (by kernel_rfl) (df (eV ?_))
    refine aF hb4 (fun ht=>?_);subst ht
    refine ar (aJ ?_)
    obtain rfl:=osi h
    exact aO (cJ (aN rfl)) dl ⟨_,_,rfl,rfl⟩
   refine ai ?_
   refine dY (ah [14,15] [(3,pI (IntKind.i64.wrap (v2+1)))] (by kernel_rfl) ?_)
   exact aT hb4 () (nT rfl) dl
  refine aM ?_
  refine aq (al hb4 (fun ht=>ap rfl ?_))
  exact aD ((),()) (uu rfl) dl ht.symm
 rintro ⟨_,_⟩ τ hz;(try dsimp only at hz);subst q5;(try dsimp only at h);dsimp only [aw]
 refine ae (ah [60] [(2,pO a_0 p0.length c_0)] (by kernel_rfl) (df ?_))
 obtain rfl:=osi h
 exact aO (cJ (aN rfl)) dl ⟨_,_,rfl,rfl⟩
def dT (p0:Zo):Option Zk:=some p0.use
theorem im {p0:Zo} {r:Zk}  (h:dT p0=some r):PF 240 [.agg [pS p0.use.Code,pI p0.use.Value,pB p0.use.Originating,pI p0.premise.Product,pI p0.premise.Agreement]] (.agg [pS r.Code,pI r.Value,pB r.Originating]):=by
 unfold dT at h
 refine aY ?_
 refine dw Tryz.func240 rfl Tryz.ntmps240 Tryz.results240 rfl (aa (aj rfl (bj (cs:=[pS p0.use.Code,pI p0.use.Value,pB p0.use.Originating,pI p0.premise.Product,pI p0.premise.Agreement]) rfl rfl (fun b1=>aj rfl (aQ (cs:=[pS ByteArray.empty,pI 0,pB false]) rfl rfl rfl rfl (fun b2=>au (br (aa (bI 2 [1] [3] [(4,.agg [pS p0.use.Code,pI p0.use.Value,pB p0.use.Originating])] (by kernel_rfl) (aX rfl rfl (aH (vs:=[pS p0.use.Code,pI p0.use.Value,pB p0.use.Originating]) rfl rfl rfl rfl rfl dy zl3 (au (df ?_)))))))))))))
 obtain rfl:=osi h
 exact aO (cJ (gK rfl fT rfl)) bz ⟨rfl,rfl⟩
def ed (p0:Zp):Option Zk:=some p0.use
theorem iB {p0:Zp} {r:Zk}  (h:ed p0=some r):PF 241 [.agg [pS p0.use.Code,pI p0.use.Value,pB p0.use.Originating]] (.agg [pS r.Code,pI r.Value,pB r.Originating]):=by
 unfold ed at h
 refine aY ?_
 refine dw Tryz.func241 rfl Tryz.ntmps241 Tryz.results241 rfl (aa (aj rfl (bj (cs:=[pS p0.use.Code,pI p0.use.Value,pB p0.use.Originating]) rfl rfl (fun b1=>aj rfl (aQ (cs:=[pS ByteArray.empty,pI 0,pB false]) rfl rfl rfl rfl (fun b2=>au (br (aa (bI 2 [1] [3] [(4,.agg [pS p0.use.Code,pI p0.use.Value,pB p0.use.Originating])] (by kernel_rfl) (aX rfl rfl (aH (vs:=[pS p0.use.Code,pI p0.use.Value,pB p0.use.Originating]) rfl rfl rfl rfl rfl dy zl3 (au (df ?_)))))))))))))
 obtain rfl:=osi h
 exact aO (cJ (gK rfl fT rfl)) bz ⟨rfl,rfl⟩
def Icumulation_supply_input (x:Zc)  : Option Zk:=match x with | .plain_ a=>ed a  | .proved_ a=>dT a
theorem Icumulation_supply_input_ok {x:Zc}  {w:Zk} (h:Icumulation_supply_input x  = some w):PFI x.pv "customs/cumulation.input" [] (.agg [pS w.Code,pI w.Value,pB w.Originating]):=by
 cases x with
 | plain_ a=>exact nV ⟨fun _ _=>by kernel_rfl⟩ (iB h)
 | proved_ a=>exact nV ⟨fun _ _=>by kernel_rfl⟩ (im h)
def ip (p0:(List Za)) (p1:Za):Option Bool:=(bf (S:=Int) (T:=(Unit)⊕(_)) (fun v2=>cond (decide (v2<(p0.length:Int))) ((idx p0 v2).bind fun m6=>cond (Za.eqb m6 p1) (some (.inr (.inr true))) (some (.inl (IntKind.i64.wrap (v2+1))))) (some (.inr (.inl ())))) FUEL 0).bind fun q=>match q with | .inl _=>some false | .inr e=>some e
def dU (p0:(List Za)) (p1:(List Za)):Option Bool:=cond ((p0.length:Int) != (p1.length:Int)) (some false) ((bf (S:=Int) (T:=(Unit)⊕(_)) (fun v2=>cond (decide (v2<(p0.length:Int))) ((idx p0 v2).bind fun m6=>(idx p1 v2).bind fun m7=>cond (!(Za.eqb m6 m7)) (some (.inr (.inr false))) (some (.inl (IntKind.i64.wrap (v2+1))))) (some (.inr (.inl ())))) FUEL 0).bind fun q=>match q with | .inl _=>some true | .inr e=>some e)
theorem kT {p0:(List Za)} {p1:(List Za)} {r:Bool}  (h:dU p0 p1=some r):PF 20 [pL Za.enc p0,pL Za.enc p1] (pB r):=by
 unfold dU at h
 refine aY ?_
 refine dw Tryz.func20 rfl Tryz.ntmps20 Tryz.results20 rfl (aR [4] (by kernel_rfl) (cg (ah [6,7,8,9] [(10,pB ((p0.length:Int) != (p1.length:Int)))] (by kernel_rfl) (bK rfl h (fun hc1 h=>?_) fun hc1 h=>?_))))
 ·refine ae ?_
  refine dn [(4,pB false)] (by kernel_rfl) (am ?_)
  exact zz r h rfl
 refine ai ?_
 refine cg (ak [(5,pI 0)] (by kernel_rfl) (fG h fun q4 hq4 h=>?_))
 refine av (Y:=Unit×Unit) (fun (_,_)=>[]) (fun (_,_)=>[]) (fun (_,_)=>q4=Sum.inl ()) ?_ ?_
 ·refine aA ?_
  refine aC (Y:=Unit) (S:=Int) _ hq4 (fun _ v2=>[(0,pL Za.enc p0),(1,pL Za.enc p1),(5,pI v2)]) (fun _ v2=>[]) () (oS rfl) bz ?_
  rintro _ v2 o τ hb3;(try dsimp only at hb3);dsimp only [aw]
  refine ae (ae (ah [11,12,13] [(14,pB (decide (v2<(p0.length:Int))))] (by kernel_rfl) (bK rfl hb3 (fun hc5 hb3=>?_) fun hc5 hb3=>?_)))
  ·refine ai ?_
   refine br (ff (bN (ρd:=[]) [(0,0),(1,0),(2,0),(3,0),(4,0),(5,0),(6,0),(7,0),(8,0)] _ (List.Perm.refl _) (by kernel_rfl) rfl (af hb3 fun m6 hm6 hb3=>af hb3 fun m7 hm7 hb3=>bY 9 [] (rg 17 8) [(25,pB (!(Za.eqb m6 m7)))] (cn 2 Za.enc hm6 (cn 6 Za.enc hm7 (rG 8 Za.eqok28 bo))) (by kernel_rfl) (cd (bK rfl hb3 (fun hc8 hb3=>?_) fun hc8 hb3=>?_)))))
   ·refine ae ?_
    refine dn [(4,pB false)] (by kernel_rfl) (eV ?_)
    refine aF hb3 (fun ht=>?_);subst ht
    refine ar (aJ ?_)
    exact zz r h rfl
   refine ai ?_
   refine dY (ah [15,16] [(5,pI (IntKind.i64.wrap (v2+1)))] (by kernel_rfl) ?_)
   exact aT hb3 () (oS rfl) bz
  refine aM ?_
  refine aq (al hb3 (fun ht=>ap rfl ?_))
  exact aD ((),()) kl bz ht.symm
 rintro ⟨_,_⟩ τ hz;(try dsimp only at hz);subst q4;(try dsimp only at h);dsimp only [aw]
 refine ae (dn [(4,pB true)] (by kernel_rfl) ?_)
 exact zz r h rfl
def dD (p0:Int):Option Bool:=some ((decide (65≤p0))&&(decide (p0≤90)))
theorem fD {p0:Int} {r:Bool}  (h:dD p0=some r):PF 120 [pY p0] (pB r):=by
 unfold dD at h
 refine aY ?_
 refine dw Tryz.func120 rfl Tryz.ntmps120 Tryz.results120 rfl (aR [2] (by kernel_rfl) (br (ah (rg 3 6) [(2,pB ((decide (65≤p0))&&(decide (p0≤90))))] (by kernel_rfl) (df ?_))))
 exact zz r h rfl
def bX (p0:ByteArray):Option Bool:=(gd ((p0.size:Int) == 2) (idx p0.data.toList 0)).bind fun c1=>(gd ((p0.size:Int) == 2) (dD (c1.toNat:Int))).bind fun x2=>(gd (((p0.size:Int) == 2)&&x2) (idx p0.data.toList 1)).bind fun c3=>(gd (((p0.size:Int) == 2)&&x2) (dD (c3.toNat:Int))).bind fun x4=>some ((((p0.size:Int) == 2)&&x2)&&x4)
theorem da {p0:ByteArray} {r:Bool}  (h:bX p0=some r):PF 72 [pS p0] (pB r):=by
 unfold bX at h
 refine aY ?_
 refine dw Tryz.func72 rfl Tryz.ntmps72 Tryz.results72 rfl (aR [2] (by kernel_rfl) (cr h fun c1 hc1 h=>af h fun x2 hx2 h=>af h fun c3 hc3 h=>af h fun x4 hx4 h=>an [] (rg 3 13) [(2,pB ((((p0.size:Int) == 2)&&x2)&&x4))] (fosxg 5 (dj hc1) (dR 6 (fun hc=>fD (dj hx2 hc)) (fosxg 10 (dj hc3) (dR 11 (fun hc=>fD (dj hx4 hc)) bo)))) (by kernel_rfl) (df ?_)))
 exact zz r h rfl
def dV (p0:(List ByteArray)):Option Bool:=(bf (S:=Int) (T:=(Unit)⊕(_)) (fun v1=>cond (decide (v1<(p0.length:Int))) ((idx p0 v1).bind fun m5=>(bX m5).bind fun x6=>(gd ((!(!x6))&&(decide (0<v1))) (idx p0 (IntKind.i64.wrap (v1 - 1)))).bind fun m7=>cond ((!x6)||((decide (0<v1))&&(Op.bytesLess m5.toList m7.toList||decide (m5=m7)))) (some (.inr (.inr false))) (some (.inl (IntKind.i64.wrap (v1+1))))) (some (.inr (.inl ())))) FUEL 0).bind fun q=>match q with | .inl _=>some true | .inr e=>some e
theorem iq {p0:(List ByteArray)} {r:Bool}  (h:dV p0=some r):PF 111 [pL eS p0] (pB r):=by
 unfold dV at h
 refine aY ?_
 refine dw Tryz.func111 rfl Tryz.ntmps111 Tryz.results111 rfl (aR [2] (by kernel_rfl) (cg (ak [(5,pL eS p0),(6,pI (p0.length:Int)),(7,pI 0)] (by kernel_rfl) (fG h fun q3 hq3 h=>?_))))
 refine av (Y:=Unit×Unit) (fun (_,_)=>[]) (fun (_,_)=>[]) (fun (_,_)=>q3=Sum.inl ()) ?_ ?_
 ·refine aA ?_
  refine aC (Y:=Unit) (S:=Int) _ hq3 (fun _ v1=>[(0,pL eS p0),(5,pL eS p0),(6,pI (p0.length:Int)),(7,pI v1)]) (fun _ v1=>[]) () (gI rfl) bz ?_
  rintro _ v1 o τ hb2;(try dsimp only at hb2);dsimp only [aw]
  refine ae (ak [(8,pB (decide (v1<(p0.length:Int))))] (by kernel_rfl) (br (gM rfl hb2 (fun hc4 hb2=>?_) fun hc4 hb2=>?_)))
  ·refine ai ?_
   refine br (ff (af hb2 fun m5 hm5 hb2=>an [] [9,10,11] [(3,pI v1),(4,pS m5)] (cn 1 eS hm5 bo) (by kernel_rfl) (cr hb2 fun x6 hx6 hb2=>af hb2 fun m7 hm7 hb2=>an [] (rg 12 15) [(27,pB ((!x6)||((decide (0<v1))&&(Op.bytesLess m5.toList m7.toList||decide (m5=m7)))))] (bA 1 (da hx6) (gX 11 eS (dj hm7) bo)) (by kernel_rfl) (bK rfl hb2 (fun hc8 hb2=>?_) fun hc8 hb2=>?_))))
   ·refine ae ?_
    refine dn [(2,pB false)] (by kernel_rfl) (eV ?_)
    refine aF hb2 (fun ht=>?_);subst ht
    refine ar (aJ ?_)
    exact zz r h rfl
   refine ai ?_
   refine dY (ah [28] [(7,pI (IntKind.i64.wrap (v1+1)))] (by kernel_rfl) ?_)
   exact aT hb2 () (gI rfl) bz
  refine aM ?_
  refine aq (al hb2 (fun ht=>ap rfl ?_))
  exact aD ((),()) kl bz ht.symm
 rintro ⟨_,_⟩ τ hz;(try dsimp only at hz);subst q3;(try dsimp only at h);dsimp only [aw]
 refine ae (dn [(2,pB true)] (by kernel_rfl) ?_)
 exact zz r h rfl
def bH (p0:(List Zd)) (p1:(Zd→Option Bool)):Option Int:=(bf (S:=Int) (T:=(Unit)⊕(_)) (fun v1=>cond (decide (v1<(p0.length:Int))) ((idx p0 v1).bind fun m5=>(p1 m5).bind fun x6=>cond x6 (some (.inr (.inr v1))) (some (.inl (IntKind.i64.wrap (v1+1))))) (some (.inr (.inl ())))) FUEL 0).bind fun q=>match q with | .inl _=>some (-1) | .inr e=>some e
theorem dZ {p0:(List Zd)} {p1:(Zd→Option Bool)} {r:Int} {g1:PV} (hg1:∀ {y0:Zd} {w:Bool},p1 y0=some w→PFV g1 [.agg (aS y0)] (pB w)) (h:bH p0 p1=some r):PF 187 [pL Zd.enc p0,g1] (pI r):=by
 unfold bH at h
 refine aY ?_
 refine dw Tryz.func187 rfl Tryz.ntmps187 Tryz.results187 rfl (aR [4] (by kernel_rfl) (cg (ah [6] [(7,pI (p0.length:Int)),(8,pI 0)] (by kernel_rfl) (fG h fun q3 hq3 h=>?_))))
 refine av (Y:=Unit×Unit) (fun (_,_)=>[]) (fun (_,_)=>[]) (fun (_,_)=>q3=Sum.inl ()) ?_ ?_
 ·refine aA ?_
  refine aC (Y:=Unit) (S:=Int) _ hq3 (fun _ v1=>[(0,pL Zd.enc p0),(1,g1),(7,pI (p0.length:Int)),(8,pI v1)]) (fun _ v1=>[]) () (gI rfl) bz ?_
  rintro _ v1 o τ hb2;(try dsimp only at hb2);dsimp only [aw]
  refine ae (ak [(9,pB (decide (v1<(p0.length:Int))))] (by kernel_rfl) (br (gM rfl hb2 (fun hc4 hb2=>?_) fun hc4 hb2=>?_)))
  ·refine ai ?_
   refine br (ff (ah [10] [(5,pI v1)] (by kernel_rfl) (cr hb2 fun m5 hm5 hb2=>af hb2 fun x6 hx6 hb2=>an [] (rg 11 5) [(16,pB x6)] (cn 3 Zd.enc hm5 (sJ 5 (hg1 hx6) bo)) (by kernel_rfl) (bK rfl hb2 (fun hc7 hb2=>?_) fun hc7 hb2=>?_))))
   ·refine ae ?_
    refine ah [17] [(4,pI v1)] (by kernel_rfl) (df (eV ?_))
    refine aF hb2 (fun ht=>?_);subst ht
    refine ar (aJ ?_)
    exact zz r h rfl
   refine ai ?_
   refine dY (ah [18] [(8,pI (IntKind.i64.wrap (v1+1)))] (by kernel_rfl) ?_)
   exact aT hb2 () (gI rfl) bz
  refine aM ?_
  refine aq (al hb2 (fun ht=>ap rfl ?_))
  exact aD ((),()) kl bz ht.symm
 rintro ⟨_,_⟩ τ hz;(try dsimp only at hz);subst q3;(try dsimp only at h);dsimp only [aw]
 refine ae (dn [(4,pI (-1))] (by kernel_rfl) ?_)
 exact zz r h rfl
def bE (p0:(List Zd)) (p1:(Zd→Option Bool)):Option Bool:=(bH p0 p1).bind fun x1=>some (decide (0≤x1))
theorem dI {p0:(List Zd)} {p1:(Zd→Option Bool)} {r:Bool} {g1:PV} (hg1:∀ {y0:Zd} {w:Bool},p1 y0=some w→PFV g1 [.agg (aS y0)] (pB w)) (h:bE p0 p1=some r):PF 162 [pL Zd.enc p0,g1] (pB r):=by
 unfold bE at h
 refine aY ?_
 refine dw Tryz.func162 rfl Tryz.ntmps162 Tryz.results162 rfl (aR [4] (by kernel_rfl) (cr h fun x1 hx1 h=>an [] [5,6,7,8] [(4,pB (decide (0≤x1)))] (bA 2 (dZ hg1 hx1) bo) (by kernel_rfl) (df ?_)))
 exact zz r h rfl
def cU (p0:Zd) (p1:Zh):Option Bool:=some (p0.ID == p1.Product)
theorem gm {p0:Zd} {p1:Zh} {r:Bool}  (h:cU p0 p1=some r):PF 163 [.agg (aS p0),.ref [pI p1.Product,pI p1.Value] 0] (pB r):=by
 unfold cU at h
 refine aY ?_
 refine dw Tryz.func163 rfl Tryz.ntmps163 Tryz.results163 rfl (aa (aj rfl (bj (cs:=(aS p0)) rfl rfl (fun b1=>aZ [3] (by kernel_rfl) (br (aW [0] (rg 4 5) [(3,pB (p0.ID == p1.Product))] (by kernel_rfl) (df ?_)))))))
 exact zz r h rfl
def dt (p0:(List Zd)) (p1:(List Zh)):Option Int:=(bf (S:=Int) (T:=(Unit)⊕(_)) (fun v1=>cond (decide (v1<(p1.length:Int))) ((idx p1 v1).bind fun m5=>(gd (decide (0<v1)) (idx p1 (IntKind.i64.wrap (v1 - 1)))).bind fun m7=>cond ((decide (0<v1))&&(decide (m5.Product≤m7.Product))) (some (.inr (.inr (9:Int)))) ((bE p0 (fun y9=>cU y9 m5)).bind fun x10=>cond (!x10) (some (.inr (.inr (6:Int)))) (cond ((decide (m5.Value<0))||(decide (1000000000000<m5.Value))) (some (.inr (.inr (2:Int)))) (some (.inl (IntKind.i64.wrap (v1+1))))))) (some (.inr (.inl ())))) FUEL 0).bind fun q=>match q with | .inl _=>some (0:Int) | .inr e=>some e
theorem gS {p0:(List Zd)} {p1:(List Zh)} {r:Int}  (h:dt p0 p1=some r):PF 119 [pL Zd.enc p0,pL Zh.enc p1] (pI r):=by
 unfold dt at h
 refine aY ?_
 refine dw Tryz.func119 rfl Tryz.ntmps119 Tryz.results119 rfl (aR [4] (by kernel_rfl) (cg (ak [(7,pL Zh.enc p1),(8,pI (p1.length:Int)),(9,pI 0)] (by kernel_rfl) (fG h fun q3 hq3 h=>?_))))
 refine av (Y:=Unit×Unit) (fun (_,_)=>[]) (fun (_,_)=>[]) (fun (_,_)=>q3=Sum.inl ()) ?_ ?_
 ·refine aA ?_
  refine aC (Y:=Unit) (S:=Int) _ hq3 (fun _ v1=>[(0,pL Zd.enc p0),(1,pL Zh.enc p1),(7,pL Zh.enc p1),(8,pI (p1.length:Int)),(9,pI v1)]) (fun _ v1=>[]) () (lQ rfl) bz ?_
  rintro _ v1 o τ hb2;(try dsimp only at hb2);dsimp only [aw]
  refine ae (ak [(10,pB (decide (v1<(p1.length:Int))))] (by kernel_rfl) (br (gM rfl hb2 (fun hc4 hb2=>?_) fun hc4 hb2=>?_)))
  ·refine ai ?_
   refine br (ff (af hb2 fun m5 hm5 hb2=>aa (aU 3 [] [12] [(11,pI v1),(13,.agg [pI m5.Product,pI m5.Value])] (cn 1 Zh.enc hm5 bo) (by kernel_rfl) (aj rfl (aQ (cs:=[pI 0,pI 0]) rfl rfl rfl rfl (fun b6=>aI 1 [(5,pI v1)] (by kernel_rfl) (aX rfl rfl (aH (vs:=[pI m5.Product,pI m5.Value]) rfl rfl rfl rfl rfl dy uw (au (cg (bN (ρd:=[]) [(0,0),(1,0),(2,0),(3,0),(4,0),(5,0),(6,0),(7,0),(8,0),(9,0),(10,0),(11,0),(12,0)] _ (List.Perm.refl _) (by kernel_rfl) rfl (af hb2 fun m7 hm7 hb2=>bY 13 [0] (rg 14 12) [(26,pB ((decide (0<v1))&&(decide (m5.Product≤m7.Product))))] (gX 8 Zh.enc (dj hm7) bo) (by kernel_rfl) (cd (bK rfl hb2 (fun hc8 hb2=>?_) fun hc8 hb2=>?_))))))))))))))
   ·refine ae ?_
    refine dn [(4,pI 9)] (by kernel_rfl) (am (eV ?_))
    refine aF hb2 (fun ht=>?_);subst ht
    refine ar (aJ ?_)
    exact zz r h rfl
   refine ai ?_
   refine cg (aa (aI 1 [(27,pL Zd.enc p0)] (by kernel_rfl) ?_))
   refine jG 6 rfl (by exact aV) ?_
   refine af hb2 fun x10 hx10 hb2=>eB [] [28,29] [(30,pB (!x10))] (bA 1 (dI (fun hr=>k9 (gm hr)) hx10) bo) (by kernel_rfl) (bK rfl hb2 (fun hc11 hb2=>?_) fun hc11 hb2=>?_)
   ·refine ae ?_
    refine dn [(4,pI 6)] (by kernel_rfl) (am (eV ?_))
    refine aF hb2 (fun ht=>?_);subst ht
    refine ar (aJ ?_)
    exact zz r h rfl
   refine ai ?_
   refine br (ah (rg 31 7) [(38,pB ((decide (m5.Value<0))||(decide (1000000000000<m5.Value))))] (by kernel_rfl) (bK rfl hb2 (fun hc12 hb2=>?_) fun hc12 hb2=>?_))
   ·refine ae ?_
    refine dn [(4,pI 2)] (by kernel_rfl) (eV ?_)
    refine aF hb2 (fun ht=>?_);subst ht
    refine ar (aJ ?_)
    exact zz r h rfl
   refine ai ?_
   refine dY (ah [39] [(9,pI (IntKind.i64.wrap (v1+1)))] (by kernel_rfl) ?_)
   exact aT hb2 () (lQ rfl) bz
  refine aM ?_
  refine aq (al hb2 (fun ht=>ap rfl ?_))
  exact aD ((),()) kl bz ht.symm
 rintro ⟨_,_⟩ τ hz;(try dsimp only at hz);subst q3;(try dsimp only at h);dsimp only [aw]
 refine ae (dn [(4,pI 0)] (by kernel_rfl) ?_)
 exact zz r h rfl
def iW (rec:Ze→Option Zf) (p0:Ze):Option Zf:=(bf (S:=(List Zf)×Int) (T:=((List Zf))) (fun (l3,v6)=>cond (decide (v6<(p0.Args.length:Int))) ((idx p0.Args v6).bind fun m15=>(rec m15).bind fun x17=>(app 16 l3 [x17]).bind fun l20=>some (.inl (l20,(IntKind.i64.wrap (v6+1))))) (some (.inr l3))) FUEL (([]:List Zf),0)).bind fun l10=>cond (p0.Kind == 5) (some (Zf.every_ l10)) (cond (p0.Kind == 6) (some (Zf.some_ l10)) (some (Zf.single_ (⟨p0⟩:Zs))))
theorem mh {rec:Ze→Option Zf} (hrec:∀ {p0:Ze} {r:Zf},rec p0=some r→PF 127 [.agg (aK p0)] (Zf.pv r)) {p0:Ze} {r:Zf} (h:iW rec p0=some r):PF 127 [.agg (aK p0)] (Zf.pv r):=by
 unfold iW at h
 refine aY ?_
 refine dw Tryz.func127 rfl Tryz.ntmps127 Tryz.results127 rfl (aa (aj rfl (bj (cs:=(aK p0)) rfl rfl (fun b1=>aZ [2] (by kernel_rfl) (br (ak [(3,pN)] (by kernel_rfl) (cg (aW [0] [6] [(7,pL Ze.enc p0.Args),(8,pI (p0.Args.length:Int)),(9,pI 0)] (by kernel_rfl) (aG (bO 181 1 (af h fun q12 hq12 h=>?_)))))))))))
 refine av (Y:=(Option Addr×Nat)×((List Zf))) (fun ((a8,c9),l10)=>[(1,pP b1 0),(3,pO a8 l10.length c9)]) (fun ((a8,c9),l10)=>[PRes.b b1 84 (aK p0),PRes.row a8 l10.length c9 181 1 (List.map Zf.enc l10)]) (fun ((a8,c9),l10)=>q12=l10) ?_ ?_
 ·refine aA ?_
  refine aC (Y:=Option Addr×Nat) (S:=(List Zf)×Int) _ hq12 (fun (a4,c5) (l3,v6)=>[(1,pP b1 0),(3,pO a4 l3.length c5),(7,pL Ze.enc p0.Args),(8,pI (p0.Args.length:Int)),(9,pI v6)]) (fun (a4,c5) (l3,v6)=>[PRes.b b1 84 (aK p0),PRes.row a4 l3.length c5 181 1 (List.map Zf.enc l3)]) (none,0) (lQ rfl) (bu (az aV) dl) ?_
  rintro ⟨a4,c5⟩ ⟨l3,v6⟩ o τ hb11;(try dsimp only at hb11);dsimp only [aw]
  refine ae (ak [(10,pB (decide (v6<(p0.Args.length:Int))))] (by kernel_rfl) (br (gM rfl hb11 (fun hc14 hb11=>?_) fun hc14 hb11=>?_)))
  ·refine ai ?_
   refine br (ff (af hb11 fun m15 hm15 hb11=>aa (aU 2 [] [11] [(12,.agg (aK m15))] (pz 0 Ze.enc (Ze.enc_eq _) hm15 bo) (by kernel_rfl) (aj rfl (aQ (cs:=[pI 0,pI 0,pN,pI 0,pI 0,pS ByteArray.empty,pN]) rfl rfl rfl rfl (fun b16=>aX rfl rfl (aH (vs:=(aK m15)) rfl rfl rfl rfl rfl dy px (au (fG hb11 fun x17 hx17 hb11=>aa (aU 3 [0] [14] [(13,pO a4 l3.length c5),(15,Zf.pv x17)] (bA 2 (hrec hx17) bo) (by kernel_rfl) (aj rfl (bR rfl rfl rfl rfl rfl (ko rfl kO) rfl rfl rfl rfl (fun b18=>af hb11 fun l20 hl20 hb11=>?_)))))))))))))
   refine aj rfl (cQ (enc:=Zf.enc) rfl rfl rfl rfl rfl rfl rfl rfl rfl fT (by exact az (az (az aV))) hl20 (fun a21 c22=>?_))
   refine aP [(3,pO a21 l20.length c22)] (by kernel_rfl) (dY (ah [18] [(9,pI (IntKind.i64.wrap (v6+1)))] (by kernel_rfl) ?_))
   exact aT hb11 (a21,c22) (lQ rfl) (bu (az (az (az aV))) dl)
  refine aM ?_
  refine aq (al hb11 (fun ht=>ap rfl ?_))
  exact aD ((a4,c5),l3) (nT rfl) pu ht.symm
 rintro ⟨⟨a8,c9⟩,l10⟩ τ hz;(try dsimp only at hz);subst q12;(try dsimp only at h);dsimp only [aw]
 refine ae (ae (aW [0] [19] [(20,pI p0.Kind)] (by kernel_rfl) (aG (ff (ah [22] [(21,pB (p0.Kind == 5))] (by kernel_rfl) (bK rfl h (fun hc24 h=>?_) fun hc24 h=>?_))))))
 ·refine ae ?_
  refine aa (aI 1 [(23,pO a8 l10.length c9)] (by kernel_rfl) ?_)
  refine eo (enc:=Zf.enc) (xs:=l10) 23 rfl (by exact az aV) ?_
  refine aI 1 [(24,.ifc 223 (pL Zf.enc l10))] (by kernel_rfl) (pG 24 rfl (Zf.pv_every_ l10) (aP [(2,Zf.pv (Zf.every_ l10))] (by kernel_rfl) (df (eV ?_))))
  exact zz r h rfl
 refine ae ?_
 refine ah [26] [(25,pB (p0.Kind == 6))] (by kernel_rfl) (bK rfl h (fun hc25 h=>?_) fun hc25 h=>?_)
 ·refine ae ?_
  refine aa (aI 1 [(27,pO a8 l10.length c9)] (by kernel_rfl) ?_)
  refine eo (enc:=Zf.enc) (xs:=l10) 27 rfl (by exact az aV) ?_
  refine aI 1 [(28,.ifc 224 (pL Zf.enc l10))] (by kernel_rfl) (pG 28 rfl (Zf.pv_some_ l10) (aP [(2,Zf.pv (Zf.some_ l10))] (by kernel_rfl) (df (eV ?_))))
  exact zz r h rfl
 refine ai ?_
 refine aB (br (aW [0] [29,30,31] [(2,Zf.pv (Zf.single_ (⟨p0⟩:Zs)))] (by kernel_rfl) (df ?_)))
 exact zz r h rfl
def kW (n:Nat):Ze→Option Zf:=Nat.rec (motive:=fun _=>Ze→Option Zf) (fun _=>none) (fun _ ih=>iW ih) n
def mD (p0:Ze):Option Zf:=kW FUEL p0
theorem mP (n:Nat):∀ {p0:Ze} {r:Zf},kW n p0=some r→PF 127 [.agg (aK p0)] (Zf.pv r):=by
 induction n with
 | zero=>intros;rename_i h;exact nomatch h
 | succ n ih=>intros;rename_i h;exact mh (fun hr=>ih hr) h
theorem oq {p0:Ze} {r:Zf} (h:mD p0=some r):PF 127 [.agg (aK p0)] (Zf.pv r):=mP FUEL h
def cq (p0:(List ByteArray)) (p1:(ByteArray→Option Bool)):Option Int:=(bf (S:=Int) (T:=(Unit)⊕(_)) (fun v1=>cond (decide (v1<(p0.length:Int))) ((idx p0 v1).bind fun m5=>(p1 m5).bind fun x6=>cond x6 (some (.inr (.inr v1))) (some (.inl (IntKind.i64.wrap (v1+1))))) (some (.inr (.inl ())))) FUEL 0).bind fun q=>match q with | .inl _=>some (-1) | .inr e=>some e
theorem fF {p0:(List ByteArray)} {p1:(ByteArray→Option Bool)} {r:Int} {g1:PV} (hg1:∀ {y0:ByteArray} {w:Bool},p1 y0=some w→PFV g1 [pS y0] (pB w)) (h:cq p0 p1=some r):PF 256 [pL eS p0,g1] (pI r):=by
 unfold cq at h
 refine aY ?_
 refine dw Tryz.func256 rfl Tryz.ntmps256 Tryz.results256 rfl (aR [4] (by kernel_rfl) (cg (ah [6] [(7,pI (p0.length:Int)),(8,pI 0)] (by kernel_rfl) (fG h fun q3 hq3 h=>?_))))
 refine av (Y:=Unit×Unit) (fun (_,_)=>[]) (fun (_,_)=>[]) (fun (_,_)=>q3=Sum.inl ()) ?_ ?_
 ·refine aA ?_
  refine aC (Y:=Unit) (S:=Int) _ hq3 (fun _ v1=>[(0,pL eS p0),(1,g1),(7,pI (p0.length:Int)),(8,pI v1)]) (fun _ v1=>[]) () (gI rfl) bz ?_
  rintro _ v1 o τ hb2;(try dsimp only at hb2);dsimp only [aw]
  refine ae (ak [(9,pB (decide (v1<(p0.length:Int))))] (by kernel_rfl) (br (gM rfl hb2 (fun hc4 hb2=>?_) fun hc4 hb2=>?_)))
  ·refine ai ?_
   refine br (ff (ah [10] [(5,pI v1)] (by kernel_rfl) (cr hb2 fun m5 hm5 hb2=>af hb2 fun x6 hx6 hb2=>an [] (rg 11 5) [(16,pB x6)] (cn 3 eS hm5 (sJ 5 (hg1 hx6) bo)) (by kernel_rfl) (bK rfl hb2 (fun hc7 hb2=>?_) fun hc7 hb2=>?_))))
   ·refine ae ?_
    refine ah [17] [(4,pI v1)] (by kernel_rfl) (df (eV ?_))
    refine aF hb2 (fun ht=>?_);subst ht
    refine ar (aJ ?_)
    exact zz r h rfl
   refine ai ?_
   refine dY (ah [18] [(8,pI (IntKind.i64.wrap (v1+1)))] (by kernel_rfl) ?_)
   exact aT hb2 () (gI rfl) bz
  refine aM ?_
  refine aq (al hb2 (fun ht=>ap rfl ?_))
  exact aD ((),()) kl bz ht.symm
 rintro ⟨_,_⟩ τ hz;(try dsimp only at hz);subst q3;(try dsimp only at h);dsimp only [aw]
 refine ae (dn [(4,pI (-1))] (by kernel_rfl) ?_)
 exact zz r h rfl
def bZ (p0:(List ByteArray)) (p1:(ByteArray→Option Bool)):Option Bool:=(cq p0 p1).bind fun x1=>some (decide (0≤x1))
theorem eX {p0:(List ByteArray)} {p1:(ByteArray→Option Bool)} {r:Bool} {g1:PV} (hg1:∀ {y0:ByteArray} {w:Bool},p1 y0=some w→PFV g1 [pS y0] (pB w)) (h:bZ p0 p1=some r):PF 253 [pL eS p0,g1] (pB r):=by
 unfold bZ at h
 refine aY ?_
 refine dw Tryz.func253 rfl Tryz.ntmps253 Tryz.results253 rfl (aR [4] (by kernel_rfl) (cr h fun x1 hx1 h=>an [] [5,6,7,8] [(4,pB (decide (0≤x1)))] (bA 2 (fF hg1 hx1) bo) (by kernel_rfl) (df ?_)))
 exact zz r h rfl
def gT (p0:ByteArray) (p1:ByteArray):Option Bool:=(dC p1 p0).bind fun x1=>some x1
theorem lp {p0:ByteArray} {p1:ByteArray} {r:Bool}  (h:gT p0 p1=some r):PF 254 [pS p0,.ref [pS p1] 0] (pB r):=by
 unfold gT at h
 refine aY ?_
 refine dw Tryz.func254 rfl Tryz.ntmps254 Tryz.results254 rfl (aR [3] (by kernel_rfl) (cr h fun x1 hx1 h=>an [] [4,5,6] [(3,pB x1)] (bA 2 (eH hx1) bo) (by kernel_rfl) (df ?_)))
 exact zz r h rfl
def iX (p0:Ze) (p1:ByteArray) (p2:ByteArray):Option Bool:=(ka p1 0 p0.Digits).bind fun s3=>(dC p2 s3).bind fun x4=>cond x4 (some true) ((bZ p0.Except (fun y6=>gT y6 p2)).bind fun x7=>some x7)
theorem mi {p0:Ze} {p1:ByteArray} {p2:ByteArray} {r:Bool}  (h:iX p0 p1 p2=some r):PF 251 [.agg (aK p0),pS p1,pS p2] (pB r):=by
 unfold iX at h
 refine aY ?_
 refine dw Tryz.func251 rfl Tryz.ntmps251 Tryz.results251 rfl (aa (aj rfl (bj (cs:=(aK p0)) rfl rfl (fun b1=>aj rfl (bj (cs:=[pS p2]) rfl rfl (fun b2=>aZ [6] (by kernel_rfl) (cg (bN (ρd:=[]) [(0,0),(1,0),(2,0),(3,0),(4,0),(5,1)] _ (List.Perm.refl _) (by kernel_rfl) rfl (af h fun s3 hs3 h=>af h fun x4 hx4 h=>bY 6 [0,1] (rg 7 5) [(12,pB x4)] (foss 4 hs3 (bA 5 (eH hx4) bo)) (by kernel_rfl) (cd (bK rfl h (fun hc5 h=>?_) fun hc5 h=>?_)))))))))))
 ·refine ae ?_
  refine dn [(6,pB true)] (by kernel_rfl) (am ?_)
  exact zz r h rfl
 refine ai ?_
 refine br (aa (bI 2 [1] [13] [(14,pL eS p0.Except)] (by kernel_rfl) ?_))
 refine jG 5 rfl (by exact aV) ?_
 refine af h fun x7 hx7 h=>eB [] [15,16] [(6,pB x7)] (bA 1 (eX (fun hr=>k9 (lp hr)) hx7) bo) (by kernel_rfl) (df ?_)
 exact zz r h rfl
def f0 (p0:Zn) (p1:Zn):Option Int:=cond ((decide (p0.Hi<p1.Hi))||((p0.Hi == p1.Hi)&&(decide (p0.Lo<p1.Lo)))) (some (-1)) (cond (Zn.eqb p0 p1) (some (0:Int)) (some (1:Int)))
theorem kv {p0:Zn} {p1:Zn} {r:Int}  (h:f0 p0 p1=some r):PF 255 [.agg [pU p0.Hi,pU p0.Lo],.agg [pU p1.Hi,pU p1.Lo]] (pI r):=by
 unfold f0 at h
 refine aY ?_
 refine dw Tryz.func255 rfl Tryz.ntmps255 Tryz.results255 rfl (aa (aj rfl (bj (cs:=[pU p0.Hi,pU p0.Lo]) rfl rfl (fun b1=>aj rfl (bj (cs:=[pU p1.Hi,pU p1.Lo]) rfl rfl (fun b2=>aZ [4] (by kernel_rfl) (br (ff (aW [1,0,1,0,1,0] (rg 6 19) [(5,pB ((decide (p0.Hi<p1.Hi))||((p0.Hi == p1.Hi)&&(decide (p0.Lo<p1.Lo)))))] (by kernel_rfl) (bK rfl h (fun hc3 h=>?_) fun hc3 h=>?_))))))))))
 ·refine ae ?_
  refine dn [(4,pI (-1))] (by kernel_rfl) (eV ?_)
  exact zz r h rfl
 refine ae ?_
 refine an [1,0] [26,27,28] [(25,pB (Zn.eqb p0 p1))] (rG 2 Zn.eqok233 bo) (by kernel_rfl) (bK rfl h (fun hc4 h=>?_) fun hc4 h=>?_)
 ·refine ae ?_
  refine dn [(4,pI 0)] (by kernel_rfl) (eV ?_)
  exact zz r h rfl
 refine ai ?_
 refine aB (br (dn [(4,pI 1)] (by kernel_rfl) ?_))
 exact zz r h rfl
def iH (p0:Int) (p1:Int) (p2:Int):Option Bool:=(jm (IntKind.u64.wrap p0) 1000000).bind fun x1=>(jm (IntKind.u64.wrap p1) (IntKind.u64.wrap p2)).bind fun x3=>(f0 x1 x3).bind fun x5=>some (decide (x5≤0))
theorem kw {p0:Int} {p1:Int} {p2:Int} {r:Bool}  (h:iH p0 p1 p2=some r):PF 252 [pI p0,pI p1,pI p2] (pB r):=by
 unfold iH at h
 refine aY ?_
 refine dw Tryz.func252 rfl Tryz.ntmps252 Tryz.results252 rfl (aR [6] (by kernel_rfl) (cr h fun x1 hx1 h=>aa (aU 3 [] [9,10] [(11,.agg [pU x1.Hi,pU x1.Lo])] (bA 2 (jN hx1) bo) (by kernel_rfl) (aj rfl (aQ (cs:=[pU 0,pU 0]) rfl rfl rfl rfl (fun b2=>aX rfl rfl (aH (vs:=[pU x1.Hi,pU x1.Lo]) rfl rfl rfl rfl rfl dy uw (au (cr h fun x3 hx3 h=>aa (aU 5 [] [12,13,14,15] [(16,.agg [pU x3.Hi,pU x3.Lo])] (bA 4 (jN hx3) bo) (by kernel_rfl) (aj rfl (aQ (cs:=[pU 0,pU 0]) rfl rfl rfl rfl (fun b4=>aX rfl rfl (aH (vs:=[pU x3.Hi,pU x3.Lo]) rfl rfl rfl rfl rfl dy uw (au (cr h fun x5 hx5 h=>an [1,0] [17,18,19,20] [(6,pB (decide (x5≤0)))] (bA 2 (kv hx5) bo) (by kernel_rfl) (df ?_)))))))))))))))))
 exact zz r h rfl
def rule_holds (p0:Ze) (p1:Zl):Option Bool:=(bf (S:=Int×Int×Int×Int) (T:=(Int×Int×Int)) (fun (v3,v4,v5,v6)=>cond (decide (v6<(p1.Inputs.length:Int))) (((idx p1.Inputs v6).bind fun m17=>cond m17.Originating (some (v3,v4,v5)) ((gd (p0.Kind == 2) (iX p0 p1.Code m17.Code)).bind fun x20=>cond ((p0.Kind == 2)&&x20) (some ((IntKind.i64.wrap (v3+m17.Value)),(IntKind.i64.wrap (v4+m17.Value)),(IntKind.i64.wrap (v5+1)))) (some ((IntKind.i64.wrap (v3+m17.Value)),v4,(IntKind.i64.wrap (v5+1)))))).bind fun (v13,v14,v15)=>some (.inl (v13,v14,v15,(IntKind.i64.wrap (v6+1))))) (some (.inr (v3,v4,v5)))) FUEL (0,0,0,0)).bind fun (v7,v8,v9)=>cond (p0.Kind == 1) (some (p1.Obtained&&(v9 == 0))) (cond (p0.Kind == 2) ((iH v8 p0.Tolerance p1.Price).bind fun x24=>some x24) (cond (p0.Kind == 3) ((iH v7 p0.Limit p1.Price).bind fun x26=>some x26) (cond (p0.Kind == 4) ((bv p1.Processes p0.Name).bind fun x28=>some x28) (some false))))
theorem oY {p0:Ze} {p1:Zl} {r:Bool}  (h:rule_holds p0 p1=some r):PF 250 [.agg (aK p0),.agg (bM p1)] (pB r):=by
 unfold rule_holds at h
 refine aY ?_
 refine dw Tryz.func250 rfl Tryz.ntmps250 Tryz.results250 rfl (aa (aj rfl (bj (cs:=(aK p0)) rfl rfl (fun b1=>aj rfl (bj (cs:=(bM p1)) rfl rfl (fun b2=>aZ [4] (by kernel_rfl) (br (ak [(5,pI 0),(6,pI 0),(7,pI 0)] (by kernel_rfl) (cg (aW [0] [10] [(11,pL Zk.enc p1.Inputs),(12,pI (p1.Inputs.length:Int)),(13,pI 0)] (by kernel_rfl) (fG h fun q11 hq11 h=>?_)))))))))))
 refine av (Y:=Unit×(Int×Int×Int)) (fun (_,(v7,v8,v9))=>[(2,pP b1 0),(3,pP b2 0),(5,pI v7),(6,pI v8),(7,pI v9)]) (fun (_,(v7,v8,v9))=>[PRes.b b1 84 (aK p0),PRes.b b2 36 (bM p1)]) (fun (_,(v7,v8,v9))=>q11=(v7,v8,v9)) ?_ ?_
 ·refine aA ?_
  refine aC (Y:=Unit) (S:=Int×Int×Int×Int) _ hq11 (fun _ (v3,v4,v5,v6)=>[(2,pP b1 0),(3,pP b2 0),(5,pI v3),(6,pI v4),(7,pI v5),(11,pL Zk.enc p1.Inputs),(12,pI (p1.Inputs.length:Int)),(13,pI v6)]) (fun _ (v3,v4,v5,v6)=>[PRes.b b1 84 (aK p0),PRes.b b2 36 (bM p1)]) () (oN rfl) (bu (az aV) dl) ?_
  rintro _ ⟨v3,v4,v5,v6⟩ o τ hb10;(try dsimp only at hb10);dsimp only [aw]
  refine ae (ak [(14,pB (decide (v6<(p1.Inputs.length:Int))))] (by kernel_rfl) (br (gM rfl hb10 (fun hc12 hb10=>?_) fun hc12 hb10=>?_)))
  ·refine ai ?_
   refine cr hb10 fun q16 hq16 hb10=>?_
   refine av (Y:=Unit×(Int×Int×Int)) (fun (_,(v13,v14,v15))=>[(2,pP b1 0),(3,pP b2 0),(5,pI v13),(6,pI v14),(7,pI v15),(11,pL Zk.enc p1.Inputs),(12,pI (p1.Inputs.length:Int)),(13,pI v6)]) (fun (_,(v13,v14,v15))=>[PRes.b b1 84 (aK p0),PRes.b b2 36 (bM p1)]) (fun (_,(v13,v14,v15))=>q16=(v13,v14,v15)) ?_ ?_
   ·skip
    refine ff (af hq16 fun m17 hm17 hq16=>aa (aU 2 [] [15] [(16,.agg [pS m17.Code,pI m17.Value,pB m17.Originating])] (cn 0 Zk.enc hm17 bo) (by kernel_rfl) (aj rfl (aQ (cs:=[pS ByteArray.empty,pI 0,pB false]) rfl rfl rfl rfl (fun b18=>aX rfl rfl (aH (vs:=[pS m17.Code,pI m17.Value,pB m17.Originating]) rfl rfl rfl rfl rfl dy zl3 (au (cg (aW [0] [17] [(18,pB m17.Originating)] (by kernel_rfl) (bK rfl hq16 (fun hc19 hq16=>?_) fun hc19 hq16=>?_))))))))))
    ·refine aM ?_
     refine aq (ap rfl ?_)
     obtain rfl:=osi hq16
     exact aD ((),(v3,v4,v5)) (oN rfl) (bu (az aV) (bu (az aV) bz)) rfl
    refine ai ?_
    refine br (ah [19,20] [(7,pI (IntKind.i64.wrap (v5+1)))] (by kernel_rfl) (br (aW [0] [21,22,23,24] [(5,pI (IntKind.i64.wrap (v3+m17.Value)))] (by kernel_rfl) (cr hq16 fun x20 hx20 hq16=>an [1,1,2,0] (rg 25 10) [(35,pB ((p0.Kind == 2)&&x20))] (dR 9 (fun hc=>mi (dj hx20 hc)) bo) (by kernel_rfl) (bK rfl hq16 (fun hc21 hq16=>?_) fun hc21 hq16=>?_)))))
    ·refine aW [0] [36,37,38,39] [(6,pI (IntKind.i64.wrap (v4+m17.Value)))] (by kernel_rfl) ?_
     refine aB ?_
     obtain rfl:=osi hq16
     exact aD ((),((IntKind.i64.wrap (v3+m17.Value)),(IntKind.i64.wrap (v4+m17.Value)),(IntKind.i64.wrap (v5+1)))) (oN rfl) (bu (az aV) (bu (az aV) bz)) rfl
    refine ai ?_
    refine aB ?_
    obtain rfl:=osi hq16
    exact aD ((),((IntKind.i64.wrap (v3+m17.Value)),v4,(IntKind.i64.wrap (v5+1)))) (oN rfl) (bu (az aV) (bu (az aV) bz)) rfl
   rintro ⟨_,⟨v13,v14,v15⟩⟩ τ hz;(try dsimp only at hz);subst q16;(try dsimp only at hb10);dsimp only [aw]
   refine ah [40] [(13,pI (IntKind.i64.wrap (v6+1)))] (by kernel_rfl) ?_
   exact aT hb10 () (oN rfl) pu
  refine aM ?_
  refine aq (al hb10 (fun ht=>ap rfl ?_))
  exact aD ((),(v3,v4,v5)) (lQ rfl) pu ht.symm
 rintro ⟨_,⟨v7,v8,v9⟩⟩ τ hz;(try dsimp only at hz);subst q11;(try dsimp only at h);dsimp only [aw]
 refine ae (ae (aW [0] [41] [(42,pI p0.Kind)] (by kernel_rfl) (aG (ff (ah [44] [(43,pB (p0.Kind == 1))] (by kernel_rfl) (bK rfl h (fun hc22 h=>?_) fun hc22 h=>?_))))))
 ·refine ae ?_
  refine aW [1] (rg 45 6) [(4,pB (p1.Obtained&&(v9 == 0)))] (by kernel_rfl) (df (eV ?_))
  exact zz r h rfl
 refine ae ?_
 refine ah [52] [(51,pB (p0.Kind == 2))] (by kernel_rfl) (bK rfl h (fun hc23 h=>?_) fun hc23 h=>?_)
 ·refine ae ?_
  refine af h fun x24 hx24 h=>an [0,1] (rg 53 6) [(4,pB x24)] (bA 5 (kw hx24) bo) (by kernel_rfl) (df (eV ?_))
  exact zz r h rfl
 refine ae ?_
 refine ah [60] [(59,pB (p0.Kind == 3))] (by kernel_rfl) (bK rfl h (fun hc25 h=>?_) fun hc25 h=>?_)
 ·refine ae ?_
  refine af h fun x26 hx26 h=>an [0,1] (rg 61 6) [(4,pB x26)] (bA 5 (kw hx26) bo) (by kernel_rfl) (df (eV ?_))
  exact zz r h rfl
 refine ae ?_
 refine ah [68] [(67,pB (p0.Kind == 4))] (by kernel_rfl) (bK rfl h (fun hc27 h=>?_) fun hc27 h=>?_)
 ·refine ae ?_
  refine af h fun x28 hx28 h=>an [1,0] (rg 69 5) [(4,pB x28)] (bA 4 (bJ hx28) bo) (by kernel_rfl) (df (eV ?_))
  exact zz r h rfl
 refine ai ?_
 refine aB (br (dn [(4,pB false)] (by kernel_rfl) ?_))
 exact zz r h rfl
def eJ (rec:Zf→Zl→Option ((List Int)×Bool)) (p0:(List Zf)) (p1:Zl):Option ((List Int)×Bool):=(bf (S:=(List Int)×Int) (T:=((List Int))⊕(_)) (fun (l3,v6)=>cond (decide (v6<(p0.length:Int))) ((idx p0 v6).bind fun m15=>(rec m15 p1).bind fun x16=>cond (!x16.2) (some (.inr (.inr ([],false)))) ((app 8 l3 x16.1).bind fun l18=>some (.inl (l18,(IntKind.i64.wrap (v6+1)))))) (some (.inr (.inl l3)))) FUEL (([]:List Int),0)).bind fun q=>match q with | .inl l10=>some (l10,true) | .inr e=>some e
theorem jn {rec:Zf→Zl→Option ((List Int)×Bool)} (hrec:∀ {x:Zf} {y0:Zl} {w:((List Int)×Bool)},rec x y0=some w→PFI x.pv "customs/rule.witness" [.agg (bM y0)] (.tup [pL eI w.1,pB w.2])) {p0:(List Zf)} {p1:Zl} {r:((List Int)×Bool)} (h:eJ rec p0 p1=some r):PF 243 [pL Zf.enc p0,.agg (bM p1)] (.tup [pL eI r.1,pB r.2]):=by
 unfold eJ at h
 refine aY ?_
 refine dw Tryz.func243 rfl Tryz.ntmps243 Tryz.results243 rfl (aa (aj rfl (bj (cs:=(bM p1)) rfl rfl (fun b1=>aZ [4,5] (by kernel_rfl) (br (ak [(6,pN)] (by kernel_rfl) (cg (ak [(11,pL Zf.enc p0),(12,pI (p0.length:Int)),(13,pI 0)] (by kernel_rfl) (aG (bO 3 1 (af h fun q12 hq12 h=>?_)))))))))))
 refine av (Y:=(Option Addr×Nat)×((List Int))) (fun ((a8,c9),l10)=>[(6,pO a8 l10.length c9)]) (fun ((a8,c9),l10)=>[PRes.row a8 l10.length c9 3 1 (List.map eI l10)]) (fun ((a8,c9),l10)=>q12=Sum.inl l10) ?_ ?_
 ·refine aA ?_
  refine aC (Y:=Option Addr×Nat) (S:=(List Int)×Int) _ hq12 (fun (a4,c5) (l3,v6)=>[(3,pP b1 0),(6,pO a4 l3.length c5),(11,pL Zf.enc p0),(12,pI (p0.length:Int)),(13,pI v6)]) (fun (a4,c5) (l3,v6)=>[PRes.b b1 36 (bM p1),PRes.row a4 l3.length c5 3 1 (List.map eI l3)]) (none,0) (lQ rfl) (bu (az aV) dl) ?_
  rintro ⟨a4,c5⟩ ⟨l3,v6⟩ o τ hb11;(try dsimp only at hb11);dsimp only [aw]
  refine ae (ak [(14,pB (decide (v6<(p0.length:Int))))] (by kernel_rfl) (br (gM rfl hb11 (fun hc14 hb11=>?_) fun hc14 hb11=>?_)))
  ·refine ai ?_
   refine br (ff (af hb11 fun m15 hm15 hb11=>an [] [15,16] [(8,Zf.pv m15)] (cn 0 Zf.enc hm15 bo) (by kernel_rfl) (cr hb11 fun x16 hx16 hb11=>an [0] [18,19,20,17,21,22] [(9,pL eI x16.1),(10,pB x16.2)] (foci 2 (hrec hx16) bo) (by kernel_rfl) (cg (ah [23] [(24,pB (!x16.2))] (by kernel_rfl) (bK rfl hb11 (fun hc17 hb11=>?_) fun hc17 hb11=>?_))))))
   ·refine ae ?_
    refine ak [(4,pN),(5,pB false)] (by kernel_rfl) (aG (fM 4 rfl (bx (am (eV ?_)))))
    refine aF hb11 (fun ht=>?_);subst ht
    refine ar (aJ ?_)
    obtain rfl:=osi h
    exact aO (cC (aN rfl) (aN rfl)) bz ⟨rfl,rfl⟩
   refine ai ?_
   refine fG hb11 fun l18 hl18 hb11=>aa (aI 2 [(25,pO a4 l3.length c5),(26,pL eI x16.1)] (by kernel_rfl) ?_)
   refine aj rfl (gw (enc:=eI) rfl rfl rfl rfl rfl (fun _=>rfl) rfl rfl rfl (by exact az aV) hl18 (fun a19 c20=>?_))
   refine aP [(6,pO a19 l18.length c20)] (by kernel_rfl) (dY (ah [28] [(13,pI (IntKind.i64.wrap (v6+1)))] (by kernel_rfl) ?_))
   exact aT hb11 (a19,c20) (lQ rfl) (bu (az aV) dl)
  refine aM ?_
  refine aq (al hb11 (fun ht=>ap rfl ?_))
  exact aD ((a4,c5),l3) (uu rfl) (bu (az aV) bz) ht.symm
 rintro ⟨⟨a8,c9⟩,l10⟩ τ hz;(try dsimp only at hz);subst q12;(try dsimp only at h);dsimp only [aw]
 refine ae (ah [29] [(4,pO a8 l10.length c9),(5,pB true)] (by kernel_rfl) (aG ?_))
 refine dO (enc:=eI) (xs:=l10) 4 rfl (by exact aV) ?_
 refine bx ?_
 obtain rfl:=osi h
 exact aO (cC (aN rfl) (aN rfl)) bz ⟨rfl,rfl⟩
def eY (p1:Int):Option (List Int):=(mk0 8 p1).bind fun _=>some []
theorem jP {p1:Int} {r:(List Int)} (h:eY p1=some r):PCall 247 [.v (.slice none 0 0),pI p1] [] (fun pv ρ'=>∃ a c,pv=.v (.slice a r.length c)∧ρ'=[PRes.row a r.length c 3 1 (List.map eI r)]):=by
 unfold eY at h
 obtain ⟨u,hu,h⟩:=Option.bind_eq_some_iff.1 h
 obtain rfl:=osi h
 obtain ⟨hg0,hg1⟩:=wE hu
 have ew:IntKind.i64.wrap (p1 - IntKind.i64.wrap (((0:Nat):Int) - ((0:Nat):Int)))=p1:=pJ hg0 hg1
 refine eP Tryz.func247 rfl Tryz.ntmps247 Tryz.results247 rfl ?_
 (repeat refine ae ?_)
 refine aR [4] (by kernel_rfl) (aG ?_)
 (repeat refine ae ?_)
 refine ah [5] [(6,pB (decide (p1<0)))] (by kernel_rfl) (aG ?_)
 refine dN rfl (fun hc=>absurd (of_decide_eq_true hc) (by omega)) (fun hc=>?_)
 refine ai (aG ?_)
 (repeat refine ae ?_)
 refine aa (aI 2 [(8,pI p1),(9,.v (.slice none 0 0))] (by kernel_rfl) (bh rfl rfl rfl (ni rfl rfl (.p rfl)) (ji [11,12,13,14] [(1,pI (IntKind.i64.wrap (p1 - IntKind.i64.wrap (((0:Nat):Int) - ((0:Nat):Int)))))] (by kernel_rfl) ?_)))
 rw [ew]
 refine aG ?_
 (repeat refine ae ?_)
 refine ah [15] [(16,pB (decide (0<p1)))] (by kernel_rfl) (aG ?_)
 refine dN rfl (fun hc=>?_) (fun hc=>?_)
 ·refine aa ?_
  refine aI 2 [(17,.v (.slice none 0 0)),(18,.v (.slice none 0 0))] (by kernel_rfl) (bh rfl rfl rfl (ni rfl rfl (.p rfl)) (bh rfl rfl rfl (kR rfl rfl rfl (.p rfl) (.p rfl) rfl (Nat.zero_le _)) (aI 1 [(21,pI p1)] (by kernel_rfl) (nI 3 1 ?_))))
  refine aj rfl (rS rfl rfl rfl rfl rfl rfl rfl rfl (of_decide_eq_true hc) hu (by exact aV) (fun a c hac=>?_))
  refine aI 2 [(23,.v (.slice none 0 0)),(24,pI 0)] (by kernel_rfl) (bh rfl rfl rfl (kR (k:=0) rfl rfl rfl (.p rfl) (.p rfl) rfl (Nat.zero_le _)) (aP [(0,.v (.slice a 0 c))] (by kernel_rfl) (aG ?_)))
  (repeat refine ae ?_)
  refine ah [26] [(4,.v (.slice a 0 c))] (by kernel_rfl) (df ?_)
  exact aO (cJ (aN rfl)) dl ⟨_,_,rfl,rfl⟩
 refine ai ?_
 refine aG ?_
 (repeat refine ae ?_)
 refine ah [26] [(4,.v (.slice none 0 0))] (by kernel_rfl) (aG (bO 3 1 (bx ?_)))
 exact aO (cJ (aN rfl)) dl ⟨_,_,rfl,rfl⟩
def ez (p0:(List (List Int))):Option (List Int):=(bf (S:=Int×Int) (T:=(Int)) (fun (v1,v2)=>cond (decide (v2<(p0.length:Int))) ((idx p0 v2).bind fun m7=>cond (decide ((IntKind.i64.wrap (v1+(m7.length:Int)))<0)) (none) (some (.inl ((IntKind.i64.wrap (v1+(m7.length:Int))),(IntKind.i64.wrap (v2+1)))))) (some (.inr v1))) FUEL (0,0)).bind fun v3=>(eY v3).bind fun x9=>(bf (S:=(List Int)×Int) (T:=((List Int))) (fun (l14,v17)=>cond (decide (v17<(p0.length:Int))) ((idx p0 v17).bind fun m25=>(app 8 l14 m25).bind fun l26=>some (.inl (l26,(IntKind.i64.wrap (v17+1))))) (some (.inr l14))) FUEL (x9,0)).bind fun l21=>some l21
theorem iY {p0:(List (List Int))} {r:(List Int)}  (h:ez p0=some r):PCall 246 [pL (eL eI) p0] [] (fun pv ρ'=>∃ a c,pv=.v (.slice a r.length c)∧ρ'=[PRes.row a r.length c 3 1 (List.map eI r)]):=by
 unfold ez at h
 refine dw Tryz.func246 rfl Tryz.ntmps246 Tryz.results246 rfl (aR [2] (by kernel_rfl) (br (ak [(3,pI 0)] (by kernel_rfl) (cg (ak [(9,pL (eL eI) p0),(10,pI (p0.length:Int)),(11,pI 0)] (by kernel_rfl) (fG h fun q5 hq5 h=>?_))))))
 refine av (Y:=Unit×Int) (fun (_,v3)=>[(0,pL (eL eI) p0),(3,pI v3)]) (fun (_,v3)=>[]) (fun (_,v3)=>q5=v3) ?_ ?_
 ·refine aA ?_
  refine aC (Y:=Unit) (S:=Int×Int) _ hq5 (fun _ (v1,v2)=>[(0,pL (eL eI) p0),(3,pI v1),(9,pL (eL eI) p0),(10,pI (p0.length:Int)),(11,pI v2)]) (fun _ (v1,v2)=>[]) () (lQ rfl) bz ?_
  rintro _ ⟨v1,v2⟩ o τ hb4;(try dsimp only at hb4);dsimp only [aw]
  refine ae (ak [(12,pB (decide (v2<(p0.length:Int))))] (by kernel_rfl) (br (gM rfl hb4 (fun hc6 hb4=>?_) fun hc6 hb4=>?_)))
  ·refine ai ?_
   refine br (ff (af hb4 fun m7 hm7 hb4=>an [] [13,14] [(5,pL eI m7)] (cn 0 (eL eI) hm7 bo) (by kernel_rfl) (br (ah [15,16,17,18] [(3,pI (IntKind.i64.wrap (v1+(m7.length:Int))))] (by kernel_rfl) (br (ah [19] [(20,pB (decide ((IntKind.i64.wrap (v1+(m7.length:Int)))<0)))] (by kernel_rfl) (bK rfl hb4 (fun hc8 hb4=>?_) fun hc8 hb4=>?_)))))))
   ·refine aa ?_
    exact absurd hb4 (by simp)
   refine ai ?_
   refine dY (ah [22] [(11,pI (IntKind.i64.wrap (v2+1)))] (by kernel_rfl) ?_)
   exact aT hb4 () (lQ rfl) bz
  refine aM ?_
  refine aq (al hb4 (fun ht=>ap rfl ?_))
  exact aD ((),v1) (nT rfl) bz ht.symm
 rintro ⟨_,v3⟩ τ hz;(try dsimp only at hz);subst q5;(try dsimp only at h);dsimp only [aw]
 refine ae (af h fun x9 hx9 h=>aa (aI 1 [(23,pI v3)] (by kernel_rfl) ?_))
 refine aj rfl (co rfl rfl (ρ1:=[]) (List.Perm.refl _) (jP hx9) ?_);rintro _ _ ⟨a10,c11,rfl,rfl⟩
 refine aP [(6,pO a10 x9.length c11)] (by kernel_rfl) (cg (ak [(25,pL (eL eI) p0),(26,pI (p0.length:Int)),(27,pI 0)] (by kernel_rfl) (fG h fun q23 hq23 h=>?_)))
 refine av (Y:=(Option Addr×Nat)×((List Int))) (fun ((a19,c20),l21)=>[(6,pO a19 l21.length c20)]) (fun ((a19,c20),l21)=>[PRes.row a19 l21.length c20 3 1 (List.map eI l21)]) (fun ((a19,c20),l21)=>q23=l21) ?_ ?_
 ·refine aA ?_
  refine aC (Y:=Option Addr×Nat) (S:=(List Int)×Int) _ hq23 (fun (a15,c16) (l14,v17)=>[(6,pO a15 l14.length c16),(25,pL (eL eI) p0),(26,pI (p0.length:Int)),(27,pI v17)]) (fun (a15,c16) (l14,v17)=>[PRes.row a15 l14.length c16 3 1 (List.map eI l14)]) (a10,c11) (gI rfl) dl ?_
  rintro ⟨a15,c16⟩ ⟨l14,v17⟩ o τ hb22;(try dsimp only at hb22);dsimp only [aw]
  refine ae (ak [(28,pB (decide (v17<(p0.length:Int))))] (by kernel_rfl) (br (gM rfl hb22 (fun hc24 hb22=>?_) fun hc24 hb22=>?_)))
  ·refine ai ?_
   refine br (ff (af hb22 fun m25 hm25 hb22=>an [] [29,30] [(8,pL eI m25)] (cn 0 (eL eI) hm25 bo) (by kernel_rfl) (fG hb22 fun l26 hl26 hb22=>aa (aI 2 [(31,pO a15 l14.length c16),(32,pL eI m25)] (by kernel_rfl) ?_))))
   refine aj rfl (gw (enc:=eI) rfl rfl rfl rfl rfl (fun _=>rfl) rfl rfl rfl (by exact aV) hl26 (fun a27 c28=>?_))
   refine aP [(6,pO a27 l26.length c28)] (by kernel_rfl) (dY (ah [34] [(27,pI (IntKind.i64.wrap (v17+1)))] (by kernel_rfl) ?_))
   exact aT hb22 (a27,c28) (gI rfl) dl
  refine aM ?_
  refine aq (al hb22 (fun ht=>ap rfl ?_))
  exact aD ((a15,c16),l14) (uu rfl) dl ht.symm
 rintro ⟨⟨a19,c20⟩,l21⟩ τ hz;(try dsimp only at hz);subst q23;(try dsimp only at h);dsimp only [aw]
 refine ae (ah [35] [(2,pO a19 l21.length c20)] (by kernel_rfl) (df ?_))
 obtain rfl:=osi h
 exact aO (cJ (aN rfl)) dl ⟨_,_,rfl,rfl⟩
def eZ (rec:Zf→Zl→Option ((List Int)×Bool)) (p0:(List Zf)) (p1:Zl):Option ((List Int)×Bool):=(bf (S:=Int) (T:=(Unit)⊕(_)) (fun v2=>cond (decide (v2<(p0.length:Int))) ((idx p0 v2).bind fun m6=>(rec m6 p1).bind fun x7=>cond x7.2 ((ez [[v2],x7.1]).bind fun x13=>some (.inr (.inr (x13,true)))) (some (.inl (IntKind.i64.wrap (v2+1))))) (some (.inr (.inl ())))) FUEL 0).bind fun q=>match q with | .inl _=>some ([],false) | .inr e=>some e
theorem jQ {rec:Zf→Zl→Option ((List Int)×Bool)} (hrec:∀ {x:Zf} {y0:Zl} {w:((List Int)×Bool)},rec x y0=some w→PFI x.pv "customs/rule.witness" [.agg (bM y0)] (.tup [pL eI w.1,pB w.2])) {p0:(List Zf)} {p1:Zl} {r:((List Int)×Bool)} (h:eZ rec p0 p1=some r):PF 245 [pL Zf.enc p0,.agg (bM p1)] (.tup [pL eI r.1,pB r.2]):=by
 unfold eZ at h
 refine aY ?_
 refine dw Tryz.func245 rfl Tryz.ntmps245 Tryz.results245 rfl (aa (aj rfl (bj (cs:=(bM p1)) rfl rfl (fun b1=>aZ [4,5] (by kernel_rfl) (cg (ak [(10,pL Zf.enc p0),(11,pI (p0.length:Int)),(12,pI 0)] (by kernel_rfl) (fG h fun q4 hq4 h=>?_)))))))
 refine av (Y:=Unit×Unit) (fun (_,_)=>[]) (fun (_,_)=>[]) (fun (_,_)=>q4=Sum.inl ()) ?_ ?_
 ·refine aA ?_
  refine aC (Y:=Unit) (S:=Int) _ hq4 (fun _ v2=>[(3,pP b1 0),(10,pL Zf.enc p0),(11,pI (p0.length:Int)),(12,pI v2)]) (fun _ v2=>[PRes.b b1 36 (bM p1)]) () (gI rfl) dl ?_
  rintro _ v2 o τ hb3;(try dsimp only at hb3);dsimp only [aw]
  refine ae (ak [(13,pB (decide (v2<(p0.length:Int))))] (by kernel_rfl) (br (gM rfl hb3 (fun hc5 hb3=>?_) fun hc5 hb3=>?_)))
  ·refine ai ?_
   refine br (ff (af hb3 fun m6 hm6 hb3=>an [] [14,15,16] [(6,pI v2),(7,Zf.pv m6)] (cn 1 Zf.enc hm6 bo) (by kernel_rfl) (cr hb3 fun x7 hx7 hb3=>an [0] [18,19,20,17,21,22] [(8,pL eI x7.1),(9,pB x7.2)] (foci 2 (hrec hx7) bo) (by kernel_rfl) (br (ak [(23,pB x7.2)] (by kernel_rfl) (bK rfl hb3 (fun hc8 hb3=>?_) fun hc8 hb3=>?_))))))
   ·refine ae ?_
    refine aa (aI 1 [(24,pI v2)] (by kernel_rfl) (aj rfl (bR rfl rfl rfl rfl rfl (ko rfl kO) rfl rfl rfl rfl (fun b9=>aI 1 [(26,pL eI x7.1)] (by kernel_rfl) ?_))))
    refine eo (enc:=eI) (xs:=[v2]) 25 rfl (by exact aV) ?_
    refine aj rfl (bR rfl rfl rfl rfl rfl (ko rfl (ko rfl kO)) rfl rfl rfl rfl (fun b11=>?_))
    refine eo (enc:=(eL eI)) (xs:=[[v2],x7.1]) 27 rfl (by exact aV) ?_
    refine af hb3 fun x13 hx13 hb3=>?_
    refine aj rfl (co rfl rfl (ρ1:=[]) (List.Perm.refl _) (iY hx13) ?_);rintro _ _ ⟨a14,c15,rfl,rfl⟩
    refine aP [(4,pO a14 x13.length c15),(5,pB true)] (by kernel_rfl) (aG ?_)
    refine dO (enc:=eI) (xs:=x13) 4 rfl (by exact aV) ?_
    refine bx (eV ?_)
    refine aF hb3 (fun ht=>?_);subst ht
    refine ar (aJ ?_)
    obtain rfl:=osi h
    exact aO (cC (aN rfl) (aN rfl)) bz ⟨rfl,rfl⟩
   refine ai ?_
   refine dY (ah [29] [(12,pI (IntKind.i64.wrap (v2+1)))] (by kernel_rfl) ?_)
   exact aT hb3 () (gI rfl) dl
  refine aM ?_
  refine aq (al hb3 (fun ht=>ap rfl ?_))
  exact aD ((),()) kl bz ht.symm
 rintro ⟨_,_⟩ τ hz;(try dsimp only at hz);subst q4;(try dsimp only at h);dsimp only [aw]
 refine ae (ak [(4,pN),(5,pB false)] (by kernel_rfl) (aG (fM 4 rfl (bx ?_))))
 obtain rfl:=osi h
 exact aO (cC (aN rfl) (aN rfl)) bz ⟨rfl,rfl⟩
end SX
end Go.Proofs.YtgmbmepakpcpaaaGreatDoor
