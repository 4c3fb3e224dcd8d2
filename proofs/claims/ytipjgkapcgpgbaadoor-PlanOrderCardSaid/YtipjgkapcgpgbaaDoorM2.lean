/- A part of the proof: texts of the walk and of the plain laws, merged. No condition. -/
import Derived.Test.YtipjgkapcgpgbaaDoorM1
set_option linter.unusedVariables false
set_option linter.unusedSimpArgs false
set_option maxHeartbeats 4000000
set_option maxRecDepth 100000
namespace Go.Proofs.YtipjgkapcgpgbaaDoor
namespace SX
open Go
abbrev pI (x:Int):PV:=.v (.int .i64 x)
abbrev pY (x:Int):PV:=.v (.int .u8 x)
abbrev pB (b:Bool):PV:=.v (.bool b)
abbrev pS (s:ByteArray):PV:=.v (.string s)
abbrev pP (b off:Nat):PV:=.v (.pointer (some ⟨b,off,none⟩))
abbrev pO (a:Option Addr) (n c:Nat):PV:=.v (.slice a n c)
abbrev pN:PV:=.v (.slice none 0 0)
abbrev pL {α:Type} (e:α→List PV) (xs:List α):PV:=.slc xs.length (List.map e xs)
def mI:IntKind→Nat
 | .i8=>0 | .i16=>1 | .i32=>2 | .i64=>3 | .u8=>4 | .u16=>5 | .u32=>6 | .u64=>7
theorem jD {a b:IntKind} (h:Nat.beq (mI a) (mI b)=true):a=b:=by cases a <;> cases b <;> first | rfl | cases h
def sc:Int→Bool
 | .ofNat (_+1)=>true
 | _=>false
def ge0l:Int→Bool
 | .ofNat _=>true
 | _=>false
theorem pV {b:Int} (h:sc b=true):b≠0:=by rintro rfl;cases h
theorem ge0l_ge {b:Int} (h:ge0l b=true):0≤b:=by cases b with | ofNat n=>exact Int.natCast_nonneg n | negSucc n=>cases h
def qcmp (op:BinOp) (a b:Int):Option Bool:=match op with | .eql=>some (a == b) | .neq=>some (a != b) | .lss=>some (decide (a<b)) | .leq=>some (decide (a≤b)) | .gtr=>some (decide (b<a)) | .geq=>some (decide (b≤a)) | _=>none
def qari (op:BinOp) (a b:Int):Option Int:=match op with | .add=>some (a+b) | .sub=>some (a - b) | .mul=>some (a*b) | _=>none
def qbit (op:BinOp) (k:IntKind) (a b:Int):Option Int:=match op with | .and=>some (jt k a b) | .or=>some (ior k a b) | .xor=>some (rW k a b) | _=>none
def qshf (op:BinOp) (k:IntKind) (a b:Int):Option Int:=match op with | .shl=>some (qw k a b) | .shr=>some (gu k a b) | _=>none
def qeqb (op:BinOp) (p q:Bool):Option Bool:=match op with | .eql=>some (p == q) | .neq=>some (p != q) | _=>none
def qstr (op:BinOp) (s u:ByteArray):Option Bool:=match op with | .eql=>some (decide (s=u)) | .neq=>some (!decide (s=u)) | .lss=>some (Op.bytesLess s.toList u.toList) | .leq=>some (Op.bytesLess s.toList u.toList||decide (s=u)) | .gtr=>some (!(Op.bytesLess s.toList u.toList||decide (s=u))) | .geq=>some (!Op.bytesLess s.toList u.toList) | _=>none
def qint (op:BinOp) (k k':IntKind) (a b:Int):Option PV :=
 match qshf op k a b with
 | some r=>cond (ge0l b) (some (.v (.int k r))) none
 | none=>cond (Nat.beq (mI k) (mI k'))
  (match qcmp op a b with
   | some r=>some (.v (.bool r))
   | none=>match qari op a b with
    | some r=>some (.v (.int k (k.wrap r)))
    | none=>match qbit op k a b with
     | some r=>some (.v (.int k r))
     | none=>match op with
      | .quo=>cond (sc b) (some (.v (.int k (k.wrap (a.tdiv b))))) none
      | .rem=>cond (sc b) (some (.v (.int k (a.tmod b)))) none
      | _=>none) none
def qbin (op:BinOp) (t:Nat) (p q:PV):Option PV:=match p,q with
 | .v (.int k a),.v (.int k' b)=>qint op k k' a b
 | .v (.bool p),.v (.bool q)=>(match bU t with | some .bool=>(qeqb op p q).map fun r=>.v (.bool r) | _=>none)
 | .v (.string s),.v (.string u)=>(qstr op s u).map fun r=>.v (.bool r)
 | _,_=>none
def qlen (t:Nat) (p:PV):Option PV:=match bU t,p with
 | some (.slice _),.slc m _=>some (.v (.int .i64 (m:Int)))
 | some (.slice _),.v (.slice _ m _)=>some (.v (.int .i64 (m:Int)))
 | some .string,.v (.string s)=>some (.v (.int .i64 (s.size:Int)))
 | _,_=>none
def qmm (mx:Bool) (p q:PV):Option PV:=match p,q with
 | .v (.int k a),.v (.int k' b)=>cond (Nat.beq (mI k) (mI k')) (some (.v (.int k (cond mx (rZ a b) (rY a b))))) none
 | _,_=>none
def nx (σ:PEnv) (fl:List (Nat×Nat)):List PV→List (Nat×Operand)→Option (List PV)
 | zs,[]=>some zs
 | zs,(i,x)::r=>match fl[i]? with
  | some (k,ty)=>match cH ty,dy (av σ x) with
   | some (_,sz,_),some vs=>cond (Nat.beq vs.length sz&&Nat.ble (k+vs.length) zs.length) (nx σ fl (zs.take k++vs++zs.drop (k+vs.length)) r) none
   | _,_=>none
  | none=>none
theorem ny {σ:PEnv} {fl:List (Nat×Nat)}:∀ {parts:List (Nat×Operand)} {zs cs:List PV},nx σ fl zs parts=some cs→PFill σ fl zs parts cs
 | [],zs,cs,h=>by simp only [nx,bF] at h;exact h
 | (i,x)::r,zs,cs,h=>by
  simp only [nx] at h
  split at h
  ·rename_i k ty h1
   split at h
   ·rename_i z sz by' vs h2 h3
    cases hb:(Nat.beq vs.length sz&&Nat.ble (k+vs.length) zs.length)
    ·rw [hb] at h;cases h
    rw [hb] at h
    simp only [Bool.and_eq_true] at hb
    exact zfc h1 h2 h3 hb.1 ⟨rfl,Nat.le_of_ble_eq_true hb.2⟩ (ny h)
   cases h
  cases h
def qfa (s f:Nat) (p:PV):Option PV:=match iN s with
 | some l=>match l[f]? with
  | some (kk,ty)=>match cH ty with
   | some (_,sz,_)=>cond (Nat.blt 0 sz) (match p with
    | .v (.pointer (some ⟨b,off,none⟩))=>some (.v (.pointer (some ⟨b,off+kk,none⟩)))
    | .ref cs off=>some (.ref cs (off+kk))
    | _=>none) none
   | none=>none
  | none=>none
 | none=>none
def qfd (t f:Nat) (p:PV):Option PV:=match iN t with
 | some l=>match l[f]? with
  | some (kk,ty)=>match p with
   | .agg cs=>cond (Nat.ble kk cs.length) (d9 ty (cs.drop kk)) none
   | _=>none
  | none=>none
 | none=>none
def qx (σ:PEnv) (ρ:List PRes) (at_:Nat):Op→Option (PV×Option (Nat×Nat))
 | .move x=>some (av σ x,none)
 | .assign x=>some (av σ x,none)
 | .binOp op t x y _=>(qbin op t (av σ x) (av σ y)).map fun p=>(p,none)
 | .unOp .not _ x=>(match av σ x with | .v (.bool p)=>some (.v (.bool !p),none) | _=>none)
 | .unOp .neg _ x=>(match av σ x with | .v (.int k a)=>some (.v (.int k (k.wrap (0 - a))),none) | _=>none)
 | .convert s d x=>(match bU s,bU d,av σ x with | some _,some (.int k'),.v (.int _ a)=>some (.v (.int k' (k'.wrap a)),none) | _,_,_=>none)
 | .nilCheck x=>(match av σ x with | .v (.pointer (some ad))=>some (.v (.pointer (some ad)),none) | .ref cs k=>some (.ref cs k,none) | .ifc t p=>some (.ifc t p,none) | _=>none)
 | .fieldAddr s x f=>(qfa s f (av σ x)).map fun p=>(p,none)
 | .field t x f=>(qfd t f (av σ x)).map fun p=>(p,none)
 | .extract x i=>(match av σ x with | .tup vs=>(vs[i]?).map fun p=>(p,none) | _=>none)
 | .load t x=>(match av σ x with
  | .ref cs off=>(d9 t (cs.drop off)).map fun p=>(p,none)
  | .v (.pointer (some ⟨b,off,none⟩))=>(match ρ[at_]? with | some (.b b' _ cs)=>(d9 t (cs.drop off)).map fun p=>(p,some (b,b')) | _=>none)
  | _=>none)
 | .call ⟨.builtin .len,⟨[x]⟩,⟨[t]⟩⟩=>(qlen t (av σ x)).map fun p=>(p,none)
 | .call ⟨.builtin .min,⟨[x,y]⟩,_⟩=>(qmm false (av σ x) (av σ y)).map fun p=>(p,none)
 | .call ⟨.builtin .max,⟨[x,y]⟩,_⟩=>(qmm true (av σ x) (av σ y)).map fun p=>(p,none)
 | .makeFunc (.func f) ⟨[]⟩ ⟨l⟩=>some (.fn f (l.map (av σ)),none)
 | .makeInterface t x=>(match bU t with | some d=>cond (nw d) none (some (.ifc t (av σ x),none)) | none=>none)
 | .build t ⟨parts⟩=>(match cH t,iN t with
  | some (.agg ⟨zs⟩,_,_),some fl=>cond ((fl.all fun p=>(cH p.2).isSome)&&zs.all Value.oneCell') ((nx σ fl (zs.map fun x=>cond (ot x) (.v x) .any) parts).map fun cs=>(.agg cs,none)) none
  | _,_=>none)
 | _=>none
section
variable {o:Oper} {σ:PEnv} {ρ:List PRes} {x y:Operand} {t t':Nat} {p:PV}
theorem map_none {a:Option PV} {p:PV} {e:Option (Nat×Nat)} (h:(a.map fun q=>(q,(none:Option (Nat×Nat))))=some (p,e)):a=some p:=by
 cases a with
 | none=>cases h
 | some q=>simp only [Option.map_some,bF,Prod.mk.injEq] at h;rw [h.1]
theorem qint_ok {op:BinOp} {k k':IntKind} {a b:Int} (ho:o.op=.binOp op t x y t') (hx:av σ x=.v (.int k a)) (hy:av σ y=.v (.int k' b)) (h:qint op k k' a b=some p):POpQ true o σ ρ p:=by
 unfold qint at h
 split at h
 ·rename_i r hr
  cases hb:ge0l b
  ·rw [hb] at h;cases h
  rw [hb] at h;simp only [cR,bF] at h;subst h
  exact j7 ho (.p hx) (.p hy) (fun _=>ge0l_ge hb) (by cases op <;> exact hr)
 cases hk:Nat.beq (mI k) (mI k')
 ·rw [hk] at h;cases h
 rw [hk] at h;simp only [cR] at h
 have:=jD hk;subst this
 split at h
 ·rename_i r hr;simp only [bF] at h;subst h;exact oN ho (.p hx) (.p hy) (by cases op <;> exact hr)
 split at h
 ·rename_i r hr;simp only [bF] at h;subst h;exact nj ho (.p hx) (.p hy) (by cases op <;> exact hr)
 split at h
 ·rename_i r hr;simp only [bF] at h;subst h;exact pq_bits ho (.p hx) (.p hy) (by cases op <;> exact hr)
 split at h
 ·cases hb:sc b
  ·rw [hb] at h;cases h
  rw [hb] at h;simp only [cR,bF] at h;subst h;exact rU ho (.p hx) (.p hy) fun _=>pV hb
 ·cases hb:sc b
  ·rw [hb] at h;cases h
  rw [hb] at h;simp only [cR,bF] at h;subst h;exact rV ho (.p hx) (.p hy) fun _=>pV hb
 cases h
theorem qbin_ok {op:BinOp} (ho:o.op=.binOp op t x y t') (h:qbin op t (av σ x) (av σ y)=some p):POpQ true o σ ρ p:=by
 unfold qbin at h
 split at h
 ·rename_i h1 h2;exact qint_ok ho h1 h2 h
 ·rename_i h1 h2
  split at h
  ·rename_i hu
   obtain ⟨r,hr,rfl⟩:=Option.map_eq_some_iff.1 h
   exact pq_eqB ho hu (.p h1) (.p h2) (by cases op <;> exact hr)
  cases h
 ·rename_i h1 h2
  obtain ⟨r,hr,rfl⟩:=Option.map_eq_some_iff.1 h
  exact pq_str ho (.p h1) (.p h2) (by cases op <;> exact hr)
 cases h
theorem qlen_ok (ho:o.op=.call { callee:=.builtin .len,args:=#[x],argTypes:=#[t] }) (h:qlen t (av σ x)=some p):POpQ true o σ ρ p:=by
 unfold qlen at h
 split at h
 ·rename_i hu hx;simp only [bF] at h;subst h;exact pq_len ho hu (.p hx)
 ·rename_i hu hx;simp only [bF] at h;subst h;exact pq_lenO ho hu (.p hx)
 ·rename_i hu hx;simp only [bF] at h;subst h;exact pq_lenS ho hu (.p hx)
 cases h
theorem sd {mx:Bool} {ts:List Nat} (ho:o.op=.call { callee:=.builtin (cond mx .max .min),args:=#[x,y],argTypes:=ts.toArray }) (h:qmm mx (av σ x) (av σ y)=some p):POpQ true o σ ρ p:=by
 unfold qmm at h
 split at h
 ·rename_i k a k' b h1 h2
  cases hk:Nat.beq (mI k) (mI k')
  ·rw [hk] at h;cases h
  have:=jD hk;subst this
  rw [hk] at h
  simp only [cR,bF] at h;subst h
  cases mx
  ·exact pq_min ho (.p h1) (.p h2)
  exact pq_max ho (.p h1) (.p h2)
 cases h
theorem qfa_ok {s f:Nat} (ho:o.op=.fieldAddr s x f) (h:qfa s f (av σ x)=some p):POpQ true o σ ρ p:=by
 unfold qfa at h
 split at h
 ·rename_i l h1
  split at h
  ·rename_i kk ty h2
   split at h
   ·rename_i z sz by' h3
    cases h4:Nat.blt 0 sz
    ·rw [h4] at h;cases h
    rw [h4] at h;simp only [cR] at h
    split at h
    ·rename_i hx;simp only [bF] at h;subst h;exact cU ho h1 h2 h3 h4 (.p hx)
    ·rename_i hx;simp only [bF] at h;subst h;exact kR ho h1 h2 h3 h4 (.p hx)
    cases h
   cases h
  cases h
 cases h
theorem qfd_ok {f:Nat} (ho:o.op=.field t x f) (h:qfd t f (av σ x)=some p):POpQ true o σ ρ p:=by
 unfold qfd at h
 split at h
 ·rename_i l h1
  split at h
  ·rename_i kk ty h2
   split at h
   ·rename_i cs hx
    cases h4:Nat.ble kk cs.length
    ·rw [h4] at h;cases h
    rw [h4] at h;exact rX ho h1 h2 (.p hx) h4 h
   cases h
  cases h
 cases h
theorem ma {c:Bool} {tt:Nat} {pp:PV} (ho:o.op=.nilCheck x) (hx:PEv σ c x (.ifc tt pp)):POpQ c o σ ρ (.ifc tt pp):=fun κ σ' ρ' g hs _=>by
 refine ⟨ev σ' x,hs.pe hx,fun hc w _=>?_⟩
 have h:=hs.pe hx hc
 generalize he:ev σ' x=y at h
 cases h with
 | ifc h=>simp [execOp,ho,he]
theorem qx_ok {k:Nat} {e:Option (Nat×Nat)} (h:qx σ ρ k o.op=some (p,e)) (he:∀ b b',e=some (b,b')→b=b'):POpQ true o σ ρ p:=by
 generalize ho:o.op=op at h
 unfold qx at h
 split at h
 ·simp only [bF,Prod.mk.injEq] at h;obtain ⟨rfl,_⟩:=h;exact gg ho (.p rfl)
 ·simp only [bF,Prod.mk.injEq] at h;obtain ⟨rfl,_⟩:=h;exact gX ho (.p rfl)
 ·exact qbin_ok ho (map_none h)
 ·split at h
  ·rename_i hx;simp only [bF,Prod.mk.injEq] at h;obtain ⟨rfl,_⟩:=h;exact pq_not ho (.p hx)
  cases h
 ·split at h
  ·rename_i hx;simp only [bF,Prod.mk.injEq] at h;obtain ⟨rfl,_⟩:=h;exact pq_neg ho (.p hx)
  cases h
 ·split at h
  ·rename_i h1 h2 hx;simp only [bF,Prod.mk.injEq] at h;obtain ⟨rfl,_⟩:=h;exact pq_conv ho h1 h2 (.p hx)
  cases h
 ·split at h
  ·rename_i hx;simp only [bF,Prod.mk.injEq] at h;obtain ⟨rfl,_⟩:=h;exact nk ho (.p hx)
  ·rename_i hx;simp only [bF,Prod.mk.injEq] at h;obtain ⟨rfl,_⟩:=h;exact lU ho (.p hx)
  ·rename_i hx;simp only [bF,Prod.mk.injEq] at h;obtain ⟨rfl,_⟩:=h;exact ma ho (.p hx)
  cases h
 ·exact qfa_ok ho (map_none h)
 ·exact qfd_ok ho (map_none h)
 ·split at h
  ·rename_i hx;exact j8 ho (.p hx) (map_none h)
  cases h
 ·split at h
  ·rename_i hx;exact qy ho (.p hx) (map_none h)
  ·rename_i b off hx
   split at h
   ·rename_i b' T cs hr
    obtain ⟨q,hq,h2⟩:=Option.map_eq_some_iff.1 h
    simp only [Prod.mk.injEq] at h2
    obtain ⟨rfl,rfl⟩:=h2
    have:=he b b' rfl;subst this
    exact fH ho (.p hx) (List.mem_of_getElem? hr) hq
   cases h
  cases h
 ·exact qlen_ok ho (map_none h)
 ·exact sd (mx:=false) (ts:=_) ho (map_none h)
 ·exact sd (mx:=true) (ts:=_) ho (map_none h)
 ·simp only [bF,Prod.mk.injEq] at h;obtain ⟨rfl,_⟩:=h;exact nq ho
 ·split at h
  ·rename_i d hu
   cases hn:nw d
   ·rw [hn] at h;simp only [eo,bF,Prod.mk.injEq] at h;obtain ⟨rfl,_⟩:=h;exact oU ho hu hn
   rw [hn] at h;cases h
  cases h
 ·split at h
  ·rename_i zs sz by' fl h1 h2
   cases hc:((fl.all fun p=>(cH p.2).isSome)&&zs.all Value.oneCell')
   ·rw [hc] at h;cases h
   rw [hc] at h
   simp only [cR] at h
   obtain ⟨q,hq,h3⟩:=Option.map_eq_some_iff.1 h
   simp only [Prod.mk.injEq] at h3
   obtain ⟨rfl,_⟩:=h3
   simp only [Bool.and_eq_true] at hc
   exact kb rfl ho h1 h2 hc.1 rfl hc.2 (ny hq)
  cases h
 cases h
end
structure GE where
 gs:List Bool
 p:PV
def gl (t:Nat):List (Nat×GE)→Option GE
 | []=>none
 | (d,e)::l=>cond (Nat.beq t d) (some e) (gl t l)
def se (t:Nat):List (Nat×GE)→List (Nat×GE)
 | []=>[]
 | (d,e)::l=>cond (Nat.beq t d) (se t l) ((d,e)::se t l)
def sf (d:Nat):List Nat→Bool
 | []=>false
 | k::l=>cond (Nat.beq d k) true (sf d l)
theorem jE {d:Nat}:∀ {l:List Nat},sf d l=true↔d∈l
 | []=>by simp [sf]
 | k::l=>by
  unfold sf
  cases h:Nat.beq d k
  ·have:d≠k:=fun e=>by rw [e] at h;simp at h
   simp [jE (l:=l),this]
  simp [Nat.eq_of_beq_eq_true h]
def cq:List Operand→List Nat
 | []=>[]
 | .tmp t::l=>t::cq l
 | _::l=>cq l
def gw (σ:PEnv) (G:List (Nat×GE)) (ts:List Nat) (gs:List Bool):PEnv:=fun t=>match gl t G with
 | none=>σ t
 | some e=>cond (sf t ts&&Nat.ble e.gs.length gs.length) e.p .any
def eE (G:List (Nat×GE)) (gs:List Bool):List Nat→List (Bool×Bool)
 | []=>[]
 | t::ts=>match gl t G with
  | none=>eE G gs ts
  | some e=>(e.gs.headD true,(gs.drop (gs.length - e.gs.length)).headD true)::eE G gs ts
def mg (ops:Array Oper) (σ:PEnv) (G:List (Nat×GE)):Option (Nat×Bool)→Option (List Bool)
 | none=>some []
 | some (j,pol)=>match (ops[j]?).bind (·.dst) with
  | none=>none
  | some d=>match gl d G with
   | none=>match σ d with | .v (.bool p)=>some [cond pol p (!p)] | _=>none
   | some e=>match e.p with | .v (.bool p)=>some ((e.gs.headD true&&cond pol p (!p))::e.gs) | _=>none
def StackOk (gs:List Bool):Prop:=gs.headD true=true→∀ b∈gs,b=true
def GInv (σ:PEnv) (G:List (Nat×GE)):Prop:=∀ t e,gl t G=some e→σ t=pgv (e.gs.headD true) e.p∧StackOk e.gs∧e.gs≠[]
def AllEq (l:List (Bool×Bool)):Prop:=l.map (·.1)=l.map (·.2)
theorem AllEq.nil:AllEq []:=rfl
theorem AllEq.cons {a b:Bool} {l:List (Bool×Bool)} (h:AllEq ((a,b)::l)):a=b∧AllEq l:=by
 unfold AllEq at h;simp only [List.map_cons,List.cons.injEq] at h;exact h
theorem AllEq.app {l m:List (Bool×Bool)} (h:AllEq (l++m)):AllEq l∧AllEq m:=by
 unfold AllEq at h;simp only [List.map_append] at h
 exact List.append_inj h (by simp)
theorem iu {G:List (Nat×GE)} {gs:List Bool} {t:Nat} {e:GE}:∀ {ts:List Nat},t∈ts→gl t G=some e→AllEq (eE G gs ts)→e.gs.headD true=(gs.drop (gs.length - e.gs.length)).headD true
 | u::ts,hm,hg,ha=>by
  simp only [eE] at ha
  rcases List.mem_cons.1 hm with rfl | hm
  ·rw [hg] at ha;exact ha.cons.1
  split at ha
  ·exact iu hm hg ha
  exact iu hm hg ha.cons.2
theorem kj {gs:List Bool} (h:StackOk gs) (hc:gs.headD true=true) (k:Nat):(gs.drop k).headD true=true:=by
 rw [List.headD_eq_head?_getD,List.head?_drop]
 cases e:gs[k]? with
 | none=>rfl
 | some b=>exact h hc b (List.mem_of_getElem? e)
theorem iv {κ:Kr} {σ:PEnv} {σ':Env} {G:List (Nat×GE)} {ts:List Nat} {gs:List Bool} (hs:Sim κ σ σ') (hi:GInv σ G) (ha:AllEq (eE G gs ts)) (hk:StackOk gs) (hc:gs.headD true=true):Sim κ (gw σ G ts gs) σ':=fun t=>by
 unfold gw
 cases hg:gl t G with
 | none=>exact hs t
 | some e =>
  simp only
  cases hb:(sf t ts&&Nat.ble e.gs.length gs.length)
  ·exact .any
  simp only [Bool.and_eq_true,jE] at hb
  have h1:=iu hb.1 hg ha
  rw [kj hk hc] at h1
  have h2:=(hi t e hg).1
  rw [h1,ec] at h2
  have:=hs t
  rw [h2] at this
  exact this
theorem iX {o:Oper} {σ:PEnv} {ρ:List PRes} {G:List (Nat×GE)} {ts:List Nat} {gs:List Bool} {p:PV} (h:gs.headD true=true→POpQ true o (gw σ G ts gs) ρ p) (hi:GInv σ G) (ha:AllEq (eE G gs ts)) (hk:StackOk gs):POpQ (gs.headD true) o σ ρ p:=fun κ σ' ρ' g hs hr=>by
 cases hc:gs.headD true with
 | false=>exact ou
 | true=>exact h hc κ σ' ρ' g (iv hs hi ha hk hc) hr
theorem qD {ops:Array Oper} {σ:PEnv} {G:List (Nat×GE)} {o:Oper} {gs:List Bool} (hi:GInv σ G) (h:mg ops σ G o.guard=some gs):PGuardIs ops σ o (gs.headD true)∧StackOk gs:=by
 cases hg:o.guard with
 | none =>
  rw [hg] at h;simp only [mg,bF] at h;subst h
  exact ⟨fun κ σ' _=>oB hg,fun _ b hb=>by cases hb⟩
 | some jp =>
  obtain ⟨j,pol⟩:=jp
  rw [hg] at h;simp only [mg] at h
  split at h
  ·cases h
  rename_i d hd
  split at h
  ·split at h
   ·rename_i p hp
    simp only [bF] at h;subst h
    refine ⟨?_,fun hc b hb=>by rw [List.mem_singleton.1 hb];exact hc⟩
    cases pol
    ·exact gB hg hd hp
    exact cB hg hd hp
   cases h
  rename_i e hgl
  split at h
  ·rename_i p hp
   simp only [bF] at h;subst h
   obtain ⟨h1,h2,h3⟩:=hi d e hgl
   rw [hp] at h1
   refine ⟨?_,fun hc b hb=>?_⟩
   ·cases pol
    ·exact iT hg hd h1
    exact dM hg hd h1
   simp only [List.headD_cons,Bool.and_eq_true] at hc
   rcases List.mem_cons.1 hb with rfl | hb
   ·simp only [hc,Bool.and_self]
   exact h2 hc.1 b hb
  cases h
def pW (σ:PEnv) (G:List (Nat×GE)) (want:Bool):Operand→Option (PV×List (Bool×Bool))
 | .tmp t=>match gl t G with
  | some e=>some (e.p,[(e.gs.headD true,want)])
  | none=>some (σ t,[])
 | x=>some (av σ x,[])
theorem nA {σ:PEnv} {G:List (Nat×GE)} {want:Bool} {x:Operand} {p:PV} {l:List (Bool×Bool)} (hi:GInv σ G) (h:pW σ G want x=some (p,l)) (ha:AllEq l):PEv σ want x p:=by
 unfold pW at h
 split at h
 ·rename_i t
  split at h
  ·rename_i e hg
   simp only [bF,Prod.mk.injEq] at h;obtain ⟨rfl,rfl⟩:=h
   have h1:=ha.cons.1
   have h2:=(hi t e hg).1
   rw [h1] at h2
   exact .g h2
  simp only [bF,Prod.mk.injEq] at h;obtain ⟨rfl,rfl⟩:=h;exact .p rfl
 simp only [bF,Prod.mk.injEq] at h;obtain ⟨rfl,rfl⟩:=h;exact .p rfl
def kl:PV→Option Bool
 | .v (.bool p)=>some p
 | _=>none
theorem iY {p:PV} {b:Bool} (h:kl p=some b):p=.v (.bool b):=by
 unfold kl at h;split at h
 ·simp only [bF] at h;rw [h]
 cases h
def mh:Operand→Bool
 | .const (.bool true)=>true
 | _=>false
def jF:Operand→Bool
 | .const (.bool false)=>true
 | _=>false
theorem qE {x:Operand} {σ:PEnv} (h:mh x=true):av σ x=.v (.bool true):=by
 unfold mh at h;split at h
 ·rfl
 cases h
theorem oW {x:Operand} {σ:PEnv} (h:jF x=true):av σ x=.v (.bool false):=by
 unfold jF at h;split at h
 ·rfl
 cases h
def sg (σ:PEnv) (G:List (Nat×GE)) (gs:List Bool) (cc a b:Operand):Option (PV×List (Bool×Bool)) :=
 match kl (av (gw σ G (cq [cc]) gs) cc) with
 | none=>none
 | some p=>cond (mh a)
  (match pW σ G (gs.headD true && !p) b with
   | some (q,l)=>match kl q with
    | some q=>some (.v (.bool (p||q)),eE G gs (cq [cc])++l)
    | none=>none
   | none=>none)
  (cond (jF b)
   (match pW σ G (gs.headD true&&p) a with
    | some (q,l)=>match kl q with
     | some q=>some (.v (.bool (p&&q)),eE G gs (cq [cc])++l)
     | none=>none
    | none=>none) none)
theorem pX {σ:PEnv} {G:List (Nat×GE)} {gs:List Bool} {x:Operand} {p:PV} (hi:GInv σ G) (hk:StackOk gs) (ha:AllEq (eE G gs (cq [x]))) (h:av (gw σ G (cq [x]) gs) x=p) (hn:p≠.any):PEv σ (gs.headD true) x p:=fun hc=>by
 cases x with
 | tmp t =>
  simp only [av,cq] at h ⊢
  unfold gw at h
  cases hg:gl t G with
  | none=>rw [hg] at h;exact h
  | some e =>
   rw [hg] at h
   simp only at h
   cases hb:(sf t [t]&&Nat.ble e.gs.length gs.length)
   ·rw [hb] at h;exact absurd h.symm hn
   ·rw [hb] at h;simp only [cR] at h
    have h1:=iu (t:=t) (ts:=[t]) (by simp) hg ha
    rw [kj hk hc] at h1
    have h2:=(hi t e hg).1
    rw [h1,ec] at h2
    rw [h2,h]
 | const x=>exact h
 | global g=>exact h
 | func f=>exact h
theorem si {o:Oper} {σ:PEnv} {ρ:List PRes} {G:List (Nat×GE)} {gs:List Bool} {cc a b:Operand} {p:PV} {l:List (Bool×Bool)} (ho:o.op=.pick cc a b) (hi:GInv σ G) (hk:StackOk gs) (h:sg σ G gs cc a b=some (p,l)) (ha:AllEq l):POpQ (gs.headD true) o σ ρ p:=by
 unfold sg at h
 split at h
 ·cases h
 rename_i c hc
 have hc:=iY hc
 cases h1:mh a
 ·rw [h1] at h;simp only [eo] at h
  cases h2:jF b
  ·rw [h2] at h;cases h
  rw [h2] at h;simp only [cR] at h
  split at h
  ·rename_i q m hl
   split at h
   ·rename_i q' hq
    simp only [bF,Prod.mk.injEq] at h;obtain ⟨rfl,rfl⟩:=h
    have hl':=nA hi hl ha.app.2
    rw [iY hq] at hl'
    exact gF ho (pX hi hk ha.app.1 hc (by simp)) (.p (oW h2)) hl'
   cases h
  cases h
 rw [h1] at h;simp only [cR] at h
 split at h
 ·rename_i q m hl
  split at h
  ·rename_i q' hq
   simp only [bF,Prod.mk.injEq] at h;obtain ⟨rfl,rfl⟩:=h
   have hl':=nA hi hl ha.app.2
   rw [iY hq] at hl'
   exact rT ho (pX hi hk ha.app.1 hc (by simp)) (.p (qE h1)) hl'
  cases h
 cases h
inductive Fct where
 | ix (c:Bool) (css:List (List PV)) (i:Int) (cs:List PV)
 | sx (c:Bool) (s:ByteArray) (i:Int) (u:UInt8)
 | nz (c:Bool) (b:Int)
 | ge (c:Bool) (b:Int)
 | sl (c:Bool) (css:List (List PV)) (lo hi:Int) (zss:List (List PV)) (m sz:Nat)
 | ss (c:Bool) (s:ByteArray) (lo hi:Int) (z:ByteArray)
 | ct (c:Bool) (s u z:ByteArray)
 | eq (t:Nat) (ks:List Nat)
 | cl (c:Bool) (f:Nat) (pargs:List PV) (r:PV)
 | cv (c:Bool) (pf:PV) (pargs:List PV) (r:PV)
 | ci (c:Bool) (p:PV) (name:String) (pargs:List PV) (r:PV)
 | ta (T:Nat) (p r:PV)
structure EqOk (t:Nat) (ks:List Nat):Prop where
 h1:Tryd.prog.underlying t=some (.struct (Tryd.prog.fieldsOf t))
 h2:Tryd.prog.stoodInHeld t=false
 h3:Tryd.prog.eqGuardType Tryd.prog.depth t=false
 h4:nt (Tryd.prog.fieldsOf t).toList 0 ks=true
def Fct.ok:Fct→Prop
 | .ix c css i cs=>c=true→idx css i=some cs
 | .sx c s i u=>c=true→idx s.data.toList i=some u
 | .nz c b=>c=true→b≠0
 | .ge c b=>c=true→0≤b
 | .sl c css lo hi zss m sz=>(c=true→sub css lo hi=some zss)∧m=zss.length∧∀ cs∈css,cs.length=sz
 | .ss c s lo hi z=>c=true→lW s lo hi=some z
 | .ct c s u z=>c=true→cat s u=some z
 | .eq t ks=>EqOk t ks
 | .cl c f pargs r=>c=true→PF f pargs r
 | .cv c pf pargs r=>c=true→PFV pf pargs r
 | .ci c p name pargs r=>c=true→PFI p name pargs r
 | .ta T p r=>SX.ta T p=some r
def FOk:List (Nat×Fct)→Prop
 | []=>True
 | f::l=>f.2.ok∧FOk l
theorem cw:FOk []:=trivial
section
variable {F:List (Nat×Fct)} {c:Bool} {α:Type} {xs zs:List α} {i lo hi b:Int} {m:α}
theorem iw (k:Nat) (e:α→List PV) (hm:c=true→idx xs i=some m) (h:FOk F):FOk ((k,.ix c (List.map e xs) i (e m))::F):=⟨fun hc=>by
 obtain ⟨h0,hmm⟩:=gG (hm hc)
 unfold idx;rw [if_pos h0,List.getElem?_map,hmm];rfl,h⟩
theorem dQ (k:Nat) (e:α→List PV) (hm:idx xs i=some m) (h:FOk F):FOk ((k,.ix true (List.map e xs) i (e m))::F):=iw k e (fun _=>hm) h
theorem fosxg (k:Nat) {s:ByteArray} {u:UInt8} (hm:c=true→idx s.data.toList i=some u) (h:FOk F):FOk ((k,.sx c s i u)::F):=⟨hm,h⟩
theorem fonz (k:Nat) {u:Unit} (hm:SX.nz b=some u) (h:FOk F):FOk ((k,.nz true b)::F):=⟨fun _=>nz_some hm,h⟩
theorem foge (k:Nat) {u:Unit} (hm:tk b=some u) (h:FOk F):FOk ((k,.ge true b)::F):=⟨fun _=>r7 hm,h⟩
theorem foslg (k:Nat) (e:α→List PV) (sz:Nat) (hw:∀ m,(e m).length=sz) (hm:c=true→sub xs lo hi=some zs) (h:FOk F):FOk ((k,.sl c (List.map e xs) lo hi (List.map e zs) zs.length sz)::F):=⟨⟨fun hc=>by
 obtain ⟨h1,rfl⟩:=iq (hm hc)
 unfold sub;rw [if_pos (by rw [List.length_map];exact h1),List.map_drop,List.map_take],by rw [List.length_map],fun cs hcs=>by obtain ⟨x,_,rfl⟩:=List.mem_map.1 hcs;exact hw x⟩,h⟩
theorem fosl (k:Nat) (e:α→List PV) (sz:Nat) (hw:∀ m,(e m).length=sz) (hm:sub xs lo hi=some zs) (h:FOk F):FOk ((k,.sl true (List.map e xs) lo hi (List.map e zs) zs.length sz)::F):=foslg k e sz hw (fun _=>hm) h
theorem eu (k:Nat) {f:Nat} {pargs:List PV} {r:PV} (hm:PF f pargs r) (h:FOk F):FOk ((k,.cl true f pargs r)::F):=⟨fun _=>hm,h⟩
theorem hQ (k:Nat) {f:Nat} {pargs:List PV} {r:PV} (hm:c=true→PF f pargs r) (h:FOk F):FOk ((k,.cl c f pargs r)::F):=⟨hm,h⟩
theorem focv (k:Nat) {pf:PV} {pargs:List PV} {r:PV} (hm:PFV pf pargs r) (h:FOk F):FOk ((k,.cv true pf pargs r)::F):=⟨fun _=>hm,h⟩
theorem focvg (k:Nat) {pf:PV} {pargs:List PV} {r:PV} (hm:c=true→PFV pf pargs r) (h:FOk F):FOk ((k,.cv c pf pargs r)::F):=⟨hm,h⟩
end
inductive Eqn where
 | n (a:Nat)
 | b (a:Bool)
 | i (a:Int)
 | p (a:PV)
 | l (a:List PV)
 | q (a:List (List PV))
 | s (a:ByteArray)
 | m (a:String)
abbrev StepR:=PV×List Eqn×List Eqn
def oX (σ:PEnv) (c:Bool) (t:Nat) (p:PV) (lo hi:Option Operand):Fct→Option StepR
 | .sl c' css l h zss m sz=>(match bU t,p with
  | some (.slice E),.slc mm css'=>(match cH E with
   | some (_,sz',_)=>(match lo,hi with
    | none,some y=>(match av σ y with | .v (.int _ b)=>some (.slc m zss,[.b c',.q css,.i l,.i h,.n sz],[.b c,.q css',.i 0,.i b,.n sz']) | _=>none)
    | some x,none=>(match av σ x with | .v (.int _ a)=>some (.slc m zss,[.b c',.q css,.i l,.i h,.n sz],[.b c,.q css',.i a,.i (mm:Int),.n sz']) | _=>none)
    | _,_=>none)
   | none=>none)
  | _,_=>none)
 | .ss c' s l h z=>(match bU t,p with
  | some .string,.v (.string s')=>(match lo,hi with
   | none,some y=>(match av σ y with | .v (.int _ b)=>some (.v (.string z),[.b c',.s s,.i l,.i h],[.b c,.s s',.i 0,.i b]) | _=>none)
   | some x,none=>(match av σ x with | .v (.int _ a)=>some (.v (.string z),[.b c',.s s,.i l,.i h],[.b c,.s s',.i a,.i (s'.size:Int)]) | _=>none)
   | some x,some y=>(match av σ x,av σ y with | .v (.int _ a),.v (.int _ b)=>some (.v (.string z),[.b c',.s s,.i l,.i h],[.b c,.s s',.i a,.i b]) | _,_=>none)
   | none,none=>none)
  | _,_=>none)
 | _=>none
def sj (σ:PEnv) (c:Bool):Op→Fct→Option StepR
 | .indexAddr t x y,.ix c' css i cs=>(match bU t,av σ x,av σ y with
  | some (.slice E),.slc _ css',.v (.int _ i')=>(match cH E with | some (_,sz,_)=>some (.ref cs 0,[.b c',.q css,.i i,.n cs.length],[.b c,.q css',.i i',.n sz]) | none=>none)
  | _,_,_=>none)
 | .index t x y,.sx c' s i u=>(match bU t,av σ x,av σ y with
  | some .string,.v (.string s'),.v (.int _ i')=>some (.v (.int .u8 (u.toNat:Int)),[.b c',.s s,.i i],[.b c,.s s',.i i'])
  | _,_,_=>none)
 | .binOp .quo _ x y _,.nz c' b=>(match av σ x,av σ y with
  | .v (.int k a),.v (.int k' b')=>cond (Nat.beq (mI k) (mI k')) (some (.v (.int k (k.wrap (a.tdiv b))),[.b c',.i b],[.b c,.i b'])) none
  | _,_=>none)
 | .binOp .rem _ x y _,.nz c' b=>(match av σ x,av σ y with
  | .v (.int k a),.v (.int k' b')=>cond (Nat.beq (mI k) (mI k')) (some (.v (.int k (a.tmod b)),[.b c',.i b],[.b c,.i b'])) none
  | _,_=>none)
 | .binOp .shl _ x y _,.ge c' b=>(match av σ x,av σ y with
  | .v (.int k a),.v (.int _ b')=>some (.v (.int k (qw k a b)),[.b c',.i b],[.b c,.i b'])
  | _,_=>none)
 | .binOp .shr _ x y _,.ge c' b=>(match av σ x,av σ y with
  | .v (.int k a),.v (.int _ b')=>some (.v (.int k (gu k a b)),[.b c',.i b],[.b c,.i b'])
  | _,_=>none)
 | .binOp .add _ x y _,.ct c' s u z=>(match av σ x,av σ y with
  | .v (.string s'),.v (.string u')=>some (.v (.string z),[.b c',.s s,.s u],[.b c,.s s',.s u'])
  | _,_=>none)
 | .binOp .eql t x y _,.eq t' ks=>(match av σ x,av σ y with
  | .agg cs,.agg ds=>(match r9 cs,r9 ds with
   | some xs,some ys=>(match nu ks xs ys with | some r=>some (.v (.bool r),[.n t'],[.n t]) | none=>none)
   | _,_=>none)
  | _,_=>none)
 | .binOp .neq t x y _,.eq t' ks=>(match av σ x,av σ y with
  | .agg cs,.agg ds=>(match r9 cs,r9 ds with
   | some xs,some ys=>(match nu ks xs ys with | some r=>some (.v (.bool !r),[.n t'],[.n t]) | none=>none)
   | _,_=>none)
  | _,_=>none)
 | .slice t x lo hi none,f=>oX σ c t (av σ x) lo hi f
 | .typeAssert x _ T true,.ta T' p r=>(match bU T with
  | some d=>cond (!nw d&&(cH T).isSome) (some (r,[.n T',.p p],[.n T,.p (av σ x)])) none
  | none=>none)
 | _,_=>none
section
variable {o:Oper} {σ:PEnv} {ρ:List PRes} {x y:Operand} {t:Nat} {k:IntKind} {a b:Int} {css zss:List (List PV)}
theorem qF {E sz by' mm:Nat} {z:Value} {cs:List PV} (ho:o.op=.indexAddr t x y) (hu:bU t=some (.slice E)) (hi:cH E=some (z,sz,by')) (hw:cs.length=sz) (hx:av σ x=.slc mm css) (hy:av σ y=.v (.int k a)) (hm:idx css a=some cs):POpQ true o σ ρ (.ref cs 0):=fun κ σ' ρ' g hs hrr=>by
 obtain ⟨h0,hcs⟩:=gG hm
 have h:=hs.ev x
 rw [hx] at h
 generalize he:ev σ' x=w at h
 cases h with
 | slc hsl hb h1 hss =>
  rename_i ad cp sz' dss
  obtain ⟨ds,hd,hds⟩:=hss.get hcs
  have hlt:a.toNat<mm:=by rw [← hsl.len];exact (List.getElem?_eq_some_iff.1 hd).1
  obtain ⟨bb,off,ha,hsh⟩:=hsl.at_ (by omega)
  have hwid:sz'=sz:=by
   have e1:=hsl.wid ds (List.mem_of_getElem? hd)
   have e2:=hds.len
   omega
  subst hwid
  have h2:=mO (c:=true) (ρ:=ρ') (κ:=κ) (j:=a.toNat) ho hu hi (.p (by rw [he,ha])) (.p (hs.v1 hy)) (fun _=>by omega) (fun _=>hlt)
  exact ⟨_,fun _=>by have:=Rp.ref (k:=0) (hsh _ _ hd) (h1 ds (List.mem_of_getElem? hd)) hds;rwa [Nat.add_zero] at this,h2⟩
theorem nB {κ:Kr} {sz:Nat}:∀ {css:List (List PV)} {dss:List (List Value)},(∀ cs∈css,cs.length=sz)→Rpss κ css dss→∀ ds∈dss,ds.length=sz
 | _,_,_,.nil,ds,hd=>by cases hd
 | _,_,hw,.cons h hs,ds,hd=>by
  rcases List.mem_cons.1 hd with rfl | hd
  ·rw [← h.len];exact hw _ (by simp)
  exact nB (fun c hc=>hw c (by simp [hc])) hs ds hd
theorem oY {E sz by' mm:Nat} {z:Value} (ho:o.op=.slice t x none (some y) none) (hu:bU t=some (.slice E)) (hi:cH E=some (z,sz,by')) (hx:av σ x=.slc mm css) (hy:av σ y=.v (.int k b)) (hm:sub css 0 b=some zss):POpQ true o σ ρ (.slc zss.length zss):=fun κ σ' ρ' g hs hrr=>by
 obtain ⟨⟨h0,h1,h2⟩,rfl⟩:=iq hm
 have h:=hs.ev x
 rw [hx] at h
 generalize he:ev σ' x=w at h
 cases h with
 | slc hsl hb ho1 hss =>
  rename_i ad cp sz' dss
  have hl:css.length=mm:=by rw [← hsl.len,← hss.len]
  have hcap:=hsl.cap
  have hzl:((css.take b.toNat).drop (0:Int).toNat).length=b.toNat:=by simp;omega
  rw [hzl]
  refine ⟨.slice ad b.toNat cp,fun _=>?_,jY (c:=true) (k:=b.toNat) ho hu hi (.p he) (.p (hs.v1 hy)) (fun _=>by omega) (fun _=>by omega)⟩
  have:=Rp.slc (hsl.take (m:=b.toNat) (by omega)) (by omega) (nr ho1 fun d hd=>List.mem_of_mem_take hd) (hss.take b.toNat)
  simpa using this
theorem oZ {E sz by' mm:Nat} {z:Value} (ho:o.op=.slice t x (some y) none none) (hu:bU t=some (.slice E)) (hi:cH E=some (z,sz,by')) (hw:∀ cs∈css,cs.length=sz) (hx:av σ x=.slc mm css) (hy:av σ y=.v (.int k a)) (hm:sub css a (mm:Int)=some zss):POpQ true o σ ρ (.slc zss.length zss):=fun κ σ' ρ' g hs hrr=>by
 obtain ⟨⟨h0,h1,h2⟩,rfl⟩:=iq hm
 have h:=hs.ev x
 rw [hx] at h
 generalize he:ev σ' x=w at h
 cases h with
 | slc hsl hb ho1 hss =>
  rename_i ad cp sz' dss
  have hl:css.length=mm:=by rw [← hsl.len,← hss.len]
  have hcap:=hsl.cap
  have hq:=oI (c:=true) (ρ:=ρ') (κ:=κ) (k:=a.toNat) ho hu hi (.p he) (.p (hs.v1 hy)) (fun _=>by omega) (fun _=>by omega)
  have hd:=hsl.dropT (m:=a.toNat) (by omega)
  have e2:List.drop a.toNat (List.take (mm:Int).toNat css)=css.drop a.toNat:=by rw [Int.toNat_natCast,← hl,List.take_length]
  rw [e2]
  have hzl:(css.drop a.toNat).length=mm - a.toNat:=by simp [hl]
  rw [hzl]
  by_cases hz:mm - a.toNat=0
  ·refine ⟨_,fun _=>?_,hq⟩
   have e3:css.drop a.toNat=[]:=List.drop_of_length_le (by omega)
   rw [e3]
   exact .slc (sz:=sz) (css:=[]) ⟨by simp [hz],by omega,by simp,fun h=>absurd h (by omega)⟩ (by omega) (fun _ h=>by cases h) .nil
  have hszz:sz'=sz:=by
   have hlen:=hsl.len
   match dss,hlen with
   | [],hlen=>simp only [List.length_nil] at hlen;omega
   | d::ds,_=>rw [← hsl.wid d (by simp),nB hw hss d (by simp)]
  subst hszz
  exact ⟨_,fun _=>Rp.slc hd (by omega) (nr ho1 fun d hd=>List.mem_of_mem_drop hd) (hss.drop a.toNat),hq⟩
end
theorem qG {o:Oper} {σ:PEnv} {ρ:List PRes} {c:Bool} {x:Operand} {t:Nat} {lo hi:Option Operand} {f:Fct} {p:PV} {L R:List Eqn} (ho:o.op=.slice t x lo hi none) (h:oX σ c t (av σ x) lo hi f=some (p,L,R)) (he:L=R) (hf:f.ok) (hc:c=true):POpQ true o σ ρ p:=by
 unfold oX at h
 split at h
 ·rename_i c' css l hh zss m sz
  split at h
  ·rename_i E mm css' hu hx
   split at h
   ·rename_i z sz' by' hi'
    split at h
    ·rename_i y
     split at h
     ·rename_i k b hy
      simp only [bF,Prod.mk.injEq] at h;obtain ⟨rfl,rfl,rfl⟩:=h
      simp only [List.cons.injEq,Eqn.b.injEq,Eqn.q.injEq,Eqn.i.injEq,Eqn.n.injEq,and_true] at he
      obtain ⟨rfl,rfl,rfl,rfl,rfl⟩:=he
      obtain ⟨h1,rfl,h3⟩:=hf
      exact oY ho hu hi' hx hy (h1 hc)
     cases h
    ·rename_i y
     split at h
     ·rename_i k b hy
      simp only [bF,Prod.mk.injEq] at h;obtain ⟨rfl,rfl,rfl⟩:=h
      simp only [List.cons.injEq,Eqn.b.injEq,Eqn.q.injEq,Eqn.i.injEq,Eqn.n.injEq,and_true] at he
      obtain ⟨rfl,rfl,rfl,rfl,rfl⟩:=he
      obtain ⟨h1,rfl,h3⟩:=hf
      exact oZ ho hu hi' h3 hx hy (h1 hc)
     cases h
    cases h
   cases h
  cases h
 ·rename_i c' s l hh z
  split at h
  ·rename_i s' hu hx
   split at h
   ·split at h
    ·rename_i hy
     simp only [bF,Prod.mk.injEq] at h;obtain ⟨rfl,rfl,rfl⟩:=h
     simp only [List.cons.injEq,Eqn.b.injEq,Eqn.s.injEq,Eqn.i.injEq,and_true] at he
     obtain ⟨rfl,rfl,rfl,rfl⟩:=he
     exact oR ho hu (.p hx) (.p hy) (fun _=>hf hc)
    cases h
   ·split at h
    ·rename_i hy
     simp only [bF,Prod.mk.injEq] at h;obtain ⟨rfl,rfl,rfl⟩:=h
     simp only [List.cons.injEq,Eqn.b.injEq,Eqn.s.injEq,Eqn.i.injEq,and_true] at he
     obtain ⟨rfl,rfl,rfl,rfl⟩:=he
     exact oS ho hu (.p hx) (.p hy) (fun _=>hf hc)
    cases h
   ·split at h
    ·rename_i hy hy2
     simp only [bF,Prod.mk.injEq] at h;obtain ⟨rfl,rfl,rfl⟩:=h
     simp only [List.cons.injEq,Eqn.b.injEq,Eqn.s.injEq,Eqn.i.injEq,and_true] at he
     obtain ⟨rfl,rfl,rfl,rfl⟩:=he
     exact ns ho hu (.p hx) (.p hy) (.p hy2) (fun _=>hf hc)
    cases h
   cases h
  cases h
 cases h
theorem sk {o:Oper} {σ:PEnv} {ρ:List PRes} {c:Bool} {f:Fct} {p:PV} {L R:List Eqn} (h:sj σ c o.op f=some (p,L,R)) (he:L=R) (hf:f.ok) (hc:c=true):POpQ true o σ ρ p:=by
 generalize ho:o.op=op at h
 unfold sj at h
 split at h
 ·split at h
  ·rename_i hu hx hy
   split at h
   ·rename_i hi
    simp only [bF,Prod.mk.injEq] at h;obtain ⟨rfl,rfl,rfl⟩:=h
    simp only [List.cons.injEq,Eqn.b.injEq,Eqn.q.injEq,Eqn.i.injEq,Eqn.n.injEq,and_true] at he
    obtain ⟨rfl,rfl,rfl,h4⟩:=he
    exact qF ho hu hi h4 hx hy (hf hc)
   cases h
  cases h
 ·split at h
  ·rename_i hu hx hy
   simp only [bF,Prod.mk.injEq] at h;obtain ⟨rfl,rfl,rfl⟩:=h
   simp only [List.cons.injEq,Eqn.b.injEq,Eqn.s.injEq,Eqn.i.injEq,and_true] at he
   obtain ⟨rfl,rfl,rfl⟩:=he
   exact qz ho hu (.p hx) (.p hy) (fun _=>hf hc)
  cases h
 ·split at h
  ·rename_i k a k' b' hx hy
   cases hk:Nat.beq (mI k) (mI k')
   ·rw [hk] at h;cases h
   rw [hk] at h;have:=jD hk;subst this
   simp only [cR,bF,Prod.mk.injEq] at h;obtain ⟨rfl,rfl,rfl⟩:=h
   simp only [List.cons.injEq,Eqn.b.injEq,Eqn.i.injEq,and_true] at he
   obtain ⟨rfl,rfl⟩:=he
   exact rU ho (.p hx) (.p hy) (fun _=>hf hc)
  cases h
 ·split at h
  ·rename_i k a k' b' hx hy
   cases hk:Nat.beq (mI k) (mI k')
   ·rw [hk] at h;cases h
   rw [hk] at h;have:=jD hk;subst this
   simp only [cR,bF,Prod.mk.injEq] at h;obtain ⟨rfl,rfl,rfl⟩:=h
   simp only [List.cons.injEq,Eqn.b.injEq,Eqn.i.injEq,and_true] at he
   obtain ⟨rfl,rfl⟩:=he
   exact rV ho (.p hx) (.p hy) (fun _=>hf hc)
  cases h
 ·split at h
  ·rename_i hx hy
   simp only [bF,Prod.mk.injEq] at h;obtain ⟨rfl,rfl,rfl⟩:=h
   simp only [List.cons.injEq,Eqn.b.injEq,Eqn.i.injEq,and_true] at he
   obtain ⟨rfl,rfl⟩:=he
   exact j7 ho (.p hx) (.p hy) (fun _=>hf hc) rfl
  cases h
 ·split at h
  ·rename_i hx hy
   simp only [bF,Prod.mk.injEq] at h;obtain ⟨rfl,rfl,rfl⟩:=h
   simp only [List.cons.injEq,Eqn.b.injEq,Eqn.i.injEq,and_true] at he
   obtain ⟨rfl,rfl⟩:=he
   exact j7 ho (.p hx) (.p hy) (fun _=>hf hc) rfl
  cases h
 ·split at h
  ·rename_i hx hy
   simp only [bF,Prod.mk.injEq] at h;obtain ⟨rfl,rfl,rfl⟩:=h
   simp only [List.cons.injEq,Eqn.b.injEq,Eqn.s.injEq,and_true] at he
   obtain ⟨rfl,rfl,rfl⟩:=he
   exact pq_catT ho (.p hx) (.p hy) (fun _=>hf hc)
  cases h
 ·split at h
  ·rename_i hx hy
   split at h
   ·rename_i h5 h6
    split at h
    ·rename_i r hr
     simp only [bF,Prod.mk.injEq] at h;obtain ⟨rfl,rfl,rfl⟩:=h
     simp only [List.cons.injEq,Eqn.n.injEq,and_true] at he
     subst he
     exact pQ _ ho hf.h1 hf.h2 hf.h3 hf.h4 (.p hx) (.p hy) h5 h6 hr rfl
    cases h
   cases h
  cases h
 ·split at h
  ·rename_i hx hy
   split at h
   ·rename_i h5 h6
    split at h
    ·rename_i r hr
     simp only [bF,Prod.mk.injEq] at h;obtain ⟨rfl,rfl,rfl⟩:=h
     simp only [List.cons.injEq,Eqn.n.injEq,and_true] at he
     subst he
     exact pQ _ ho hf.h1 hf.h2 hf.h3 hf.h4 (.p hx) (.p hy) h5 h6 hr rfl
    cases h
   cases h
  cases h
 ·exact qG ho h he hf hc
 ·split at h
  ·rename_i d hu
   cases hb:(!nw d&&(cH _).isSome)
   ·rw [hb] at h;cases h
   rw [hb] at h
   simp only [cR,bF,Prod.mk.injEq] at h;obtain ⟨rfl,rfl,rfl⟩:=h
   simp only [List.cons.injEq,Eqn.n.injEq,Eqn.p.injEq,and_true] at he
   obtain ⟨rfl,h2⟩:=he
   simp only [Bool.and_eq_true,Bool.not_eq_true'] at hb
   exact pq_ta ho hu hb.1 hb.2 h2.symm hf
  cases h
 cases h
def gL (l:List (Bool×Bool)):List Eqn:=l.map fun z=>.b z.1
def gR (l:List (Bool×Bool)):List Eqn:=l.map fun z=>.b z.2
theorem gLR:∀ {l:List (Bool×Bool)},gL l=gR l→AllEq l
 | [],_=>AllEq.nil
 | (a,b)::l,h=>by
  simp only [gL,gR,List.map_cons,List.cons.injEq,Eqn.b.injEq] at h
  have:=gLR (l:=l) h.2
  unfold AllEq at this ⊢
  simp only [List.map_cons,h.1,this]
theorem sm {l:List (Bool×Bool)}:(gL l).length=(gR l).length:=by simp [gL,gR]
def gJ:Op→Bool
 | .call ⟨.value _,_,_⟩=>true
 | .call ⟨.invoke _ _,_,_⟩=>true
 | _=>false
abbrev StepO:=Option (PV×Bool×List Eqn×List Eqn)
def km (σ:PEnv) (G:List (Nat×GE)) (ρ:List PRes) (gs:List Bool) (at_:Nat) (op:Op):StepO :=
 match qx (gw σ G (cq op.operands.toList) gs) ρ at_ op with
 | some (p,none)=>some (p,false,gL (eE G gs (cq op.operands.toList)),gR (eE G gs (cq op.operands.toList)))
 | some (p,some (b,b'))=>some (p,true,gL (eE G gs (cq op.operands.toList))++[.n b],gR (eE G gs (cq op.operands.toList))++[.n b'])
 | none=>none
def sn (σ:PEnv) (G:List (Nat×GE)) (gs:List Bool) (op:Op) (cal:Operand) (ags:List Operand):Fct→StepO
 | .cl c f pargs r=>(match cal with
  | .func f'=>some (r,false,gL (eE G gs (cq op.operands.toList))++[.b c,.n f,.l pargs],gR (eE G gs (cq op.operands.toList))++[.b (gs.headD true),.n f',.l (ags.map (av (gw σ G (cq op.operands.toList) gs)))])
  | _=>none)
 | .cv c pf pargs r=>some (r,false,gL (eE G gs (cq op.operands.toList))++[.b c,.p pf,.l pargs],gR (eE G gs (cq op.operands.toList))++[.b (gs.headD true),.p (av (gw σ G (cq op.operands.toList) gs) cal),.l (ags.map (av (gw σ G (cq op.operands.toList) gs)))])
 | _=>none
def invx (σ:PEnv) (G:List (Nat×GE)) (gs:List Bool) (op:Op) (x:Operand) (name:String) (ags:List Operand):Fct→StepO
 | .ci c p name' pargs r=>some (r,false,gL (eE G gs (cq op.operands.toList))++[.b c,.p p,.m name',.l pargs],gR (eE G gs (cq op.operands.toList))++[.b (gs.headD true),.p (av (gw σ G (cq op.operands.toList) gs) x),.m name,.l (ags.map (av (gw σ G (cq op.operands.toList) gs)))])
 | _=>none
def so (σ:PEnv) (G:List (Nat×GE)) (ρ:List PRes) (gs:List Bool) (at_:Nat) (fo:Option Fct) (op:Op):StepO :=
 match fo with
 | some f=>(match op with
  | .call ⟨.value cal,⟨ags⟩,ts⟩=>sn σ G gs (.call ⟨.value cal,⟨ags⟩,ts⟩) cal ags f
  | .call ⟨.invoke x name,⟨ags⟩,ts⟩=>invx σ G gs (.call ⟨.invoke x name,⟨ags⟩,ts⟩) x name ags f
  | op=>(match sj (gw σ G (cq op.operands.toList) gs) (gs.headD true) op f with
   | some (p,L,R)=>some (p,false,gL (eE G gs (cq op.operands.toList))++L,gR (eE G gs (cq op.operands.toList))++R)
   | none=>none))
 | none=>(match op with
  | .pick cc a b=>(match sg σ G gs cc a b with | some (p,l)=>some (p,false,gL l,gR l) | none=>none)
  | op=>km σ G ρ gs at_ op)
def POpG (c:Bool) (o:Oper) (σ:PEnv) (r:PV):Prop:=∀ κ σ' ρ' (KK:Value→Kr→Prop),GOK κ→Sim κ σ σ'→(∀ v κ',Kle κ κ'→(c=true→Rp κ' r v)→KK v κ')→OpG c o σ' ρ' κ KK
theorem nC {a b l m:List Eqn} (h:a++l=b++m) (hl:a.length=b.length):a=b∧l=m:=List.append_inj h hl
theorem popg_cl {o:Oper} {σ:PEnv} {G:List (Nat×GE)} {gs:List Bool} {ts:List Nat} {f:Nat} {ags:List Operand} {at_:Array Nat} {pargs:List PV} {r:PV} (ho:o.op=.call { callee:=.value (.func f),args:=ags.toArray,argTypes:=at_ }) (hi:GInv σ G) (ha:AllEq (eE G gs ts)) (hk:StackOk gs) (hp:pargs=ags.map (av (gw σ G ts gs))) (hc:gs.headD true=true→PF f pargs r):POpG (gs.headD true) o σ r:=fun κ σ' ρ' KK g hs h =>
 jN ho (fun _=>rfl) (fun hct=>hc hct κ _ g (by rw [hp];exact eb (iv hs hi ha hk hct) ags)) h
theorem popg_cv {o:Oper} {σ:PEnv} {G:List (Nat×GE)} {gs:List Bool} {ts:List Nat} {x:Operand} {ags:List Operand} {at_:Array Nat} {pf:PV} {pargs:List PV} {r:PV} (ho:o.op=.call { callee:=.value x,args:=ags.toArray,argTypes:=at_ }) (hi:GInv σ G) (ha:AllEq (eE G gs ts)) (hk:StackOk gs) (hx:pf=av (gw σ G ts gs) x) (hp:pargs=ags.map (av (gw σ G ts gs))) (hc:gs.headD true=true→PFV pf pargs r):POpG (gs.headD true) o σ r:=fun κ σ' ρ' KK g hs h=>by
 refine ⟨fun hct=>?_,fun hcf=>h undef κ (.refl _) fun h=>by rw [hcf] at h;cases h⟩
 have hs':=iv hs hi ha hk hct
 obtain ⟨f,first,cap,h1,h2⟩:=hc hct κ _ _ g (by rw [hx];exact hs'.ev x) (by rw [hp];exact eb hs' ags)
 exact qi ho h1 rfl h2 fun v κ' hk hv=>⟨rfl,h v κ' hk fun _=>hv⟩
theorem popg_ci {o:Oper} {σ:PEnv} {G:List (Nat×GE)} {gs:List Bool} {ts:List Nat} {x:Operand} {name:String} {ags:List Operand} {at_:Array Nat} {p:PV} {pargs:List PV} {r:PV} (ho:o.op=.call { callee:=.invoke x name,args:=ags.toArray,argTypes:=at_ }) (hi:GInv σ G) (ha:AllEq (eE G gs ts)) (hk:StackOk gs) (hx:p=av (gw σ G ts gs) x) (hp:pargs=ags.map (av (gw σ G ts gs))) (hc:gs.headD true=true→PFI p name pargs r):POpG (gs.headD true) o σ r:=fun κ σ' ρ' KK g hs h=>by
 refine ⟨fun hct=>?_,fun hcf=>h undef κ (.refl _) fun h=>by rw [hcf] at h;cases h⟩
 have hs':=iv hs hi ha hk hct
 obtain ⟨t,q,f,e1,hm,hf⟩:=hc hct
 have hv:=hs'.ev x
 rw [← hx,e1] at hv
 generalize he:ev σ' x=w at hv
 cases hv with
 | ifc hv=>exact oV ho he hm (hf κ _ g (.cons hv (by rw [hp];exact eb hs' ags))) fun v κ' hk hv=>⟨rfl,h v κ' hk fun _=>hv⟩
theorem qH {o:Oper} {σ:PEnv} {G:List (Nat×GE)} {ρ:List PRes} {gs:List Bool} {k:Nat} {p:PV} {u:Bool} {L R:List Eqn} (hi:GInv σ G) (hk:StackOk gs) (h:km σ G ρ gs k o.op=some (p,u,L,R)) (he:L=R):POpQ (gs.headD true) o σ ρ p:=by
 unfold km at h
 split at h
 ·rename_i p' hq
  simp only [bF,Prod.mk.injEq] at h;obtain ⟨rfl,_,rfl,rfl⟩:=h
  exact iX (fun _=>qx_ok hq (fun _ _ e=>by cases e)) hi (gLR he) hk
 ·rename_i p' b b' hq
  simp only [bF,Prod.mk.injEq] at h;obtain ⟨rfl,_,rfl,rfl⟩:=h
  obtain ⟨h1,h2⟩:=nC he sm
  simp only [List.cons.injEq,Eqn.n.injEq,and_true] at h2
  exact iX (fun _=>qx_ok hq (fun _ _ e=>by simp only [bF,Prod.mk.injEq] at e;rw [← e.1,← e.2];exact h2)) hi (gLR h1) hk
 cases h
theorem sq {o:Oper} {σ:PEnv} {G:List (Nat×GE)} {gs:List Bool} {cal:Operand} {ags:List Operand} {ts:Array Nat} {f:Fct} {p:PV} {u:Bool} {L R:List Eqn} (ho:o.op=.call ⟨.value cal,⟨ags⟩,ts⟩) (hi:GInv σ G) (hk:StackOk gs) (h:sn σ G gs (.call ⟨.value cal,⟨ags⟩,ts⟩) cal ags f=some (p,u,L,R)) (he:L=R) (hf:f.ok):POpG (gs.headD true) o σ p:=by
 unfold sn at h
 split at h
 ·split at h
  ·simp only [bF,Prod.mk.injEq] at h;obtain ⟨rfl,_,rfl,rfl⟩:=h
   obtain ⟨h1,h2⟩:=nC he sm
   simp only [List.cons.injEq,Eqn.n.injEq,Eqn.b.injEq,Eqn.l.injEq,and_true] at h2
   obtain ⟨h3,h4,h5⟩:=h2
   subst h4
   exact popg_cl ho hi (gLR h1) hk h5 (fun hc=>hf (by rw [h3];exact hc))
  cases h
 ·simp only [bF,Prod.mk.injEq] at h;obtain ⟨rfl,_,rfl,rfl⟩:=h
  obtain ⟨h1,h2⟩:=nC he sm
  simp only [List.cons.injEq,Eqn.p.injEq,Eqn.b.injEq,Eqn.l.injEq,and_true] at h2
  obtain ⟨h3,h4,h5⟩:=h2
  exact popg_cv ho hi (gLR h1) hk h4 h5 (fun hc=>hf (by rw [h3];exact hc))
 cases h
theorem invx_ok {o:Oper} {σ:PEnv} {G:List (Nat×GE)} {gs:List Bool} {x:Operand} {name:String} {ags:List Operand} {ts:Array Nat} {f:Fct} {p:PV} {u:Bool} {L R:List Eqn} (ho:o.op=.call ⟨.invoke x name,⟨ags⟩,ts⟩) (hi:GInv σ G) (hk:StackOk gs) (h:invx σ G gs (.call ⟨.invoke x name,⟨ags⟩,ts⟩) x name ags f=some (p,u,L,R)) (he:L=R) (hf:f.ok):POpG (gs.headD true) o σ p:=by
 unfold invx at h
 split at h
 ·simp only [bF,Prod.mk.injEq] at h;obtain ⟨rfl,_,rfl,rfl⟩:=h
  obtain ⟨h1,h2⟩:=nC he sm
  simp only [List.cons.injEq,Eqn.p.injEq,Eqn.b.injEq,Eqn.l.injEq,Eqn.m.injEq,and_true] at h2
  obtain ⟨h3,h4,h5,h6⟩:=h2
  subst h5
  exact popg_ci ho hi (gLR h1) hk h4 h6 (fun hc=>hf (by rw [h3];exact hc))
 cases h
theorem sr {o:Oper} {σ:PEnv} {G:List (Nat×GE)} {ρ:List PRes} {gs:List Bool} {k:Nat} {fo:Option Fct} {p:PV} {u:Bool} {L R:List Eqn} (hi:GInv σ G) (hk:StackOk gs) (h:so σ G ρ gs k fo o.op=some (p,u,L,R)) (he:L=R) (hf:∀ f,fo=some f→f.ok):(gJ o.op=false∧POpQ (gs.headD true) o σ ρ p)∨(gJ o.op=true∧POpG (gs.headD true) o σ p):=by
 unfold so at h
 split at h
 ·rename_i f
  split at h
  ·rename_i cal ags ts ho
   exact .inr ⟨by rw [ho];rfl,sq ho hi hk h he (hf f rfl)⟩
  ·rename_i x name ags ts ho
   exact .inr ⟨by rw [ho];rfl,invx_ok ho hi hk h he (hf f rfl)⟩
  rename_i hnc hnc2
  split at h
  ·rename_i p' L' R' hq
   simp only [bF,Prod.mk.injEq] at h;obtain ⟨rfl,_,rfl,rfl⟩:=h
   obtain ⟨h1,h2⟩:=nC he sm
   refine .inl ⟨?_,iX (fun hc=>sk hq h2 (hf f rfl) hc) hi (gLR h1) hk⟩
   unfold gJ
   split
   ·rename_i cal ags ts ho;exact absurd ho (hnc cal ags.toList ts)
   ·rename_i x name ags ts ho;exact absurd ho (hnc2 x name ags.toList ts)
   rfl
  cases h
 split at h
 ·rename_i cc a b ho
  split at h
  ·rename_i p' l' hp
   simp only [bF,Prod.mk.injEq] at h;obtain ⟨rfl,_,rfl,rfl⟩:=h
   exact .inl ⟨by rw [ho];rfl,si ho hi hk hp (gLR he)⟩
  cases h
 cases hc:gJ o.op
 ·exact .inl ⟨rfl,qH hi hk h he⟩
 exfalso
 unfold gJ at hc
 split at hc
 ·rename_i ho
  rw [ho] at h
  unfold km at h
  simp only [qx] at h
  cases h
 ·rename_i ho
  rw [ho] at h
  unfold km at h
  simp only [qx] at h
  cases h
 cases hc
def mi (σ:PEnv) (G:List (Nat×GE)) (d:Nat) (gs:List Bool) (p:PV):PEnv×List (Nat×GE):=match gs with
 | []=>(cn σ d p,se d G)
 | c::gs=>(cn σ d (pgv c p),(d,⟨c::gs,p⟩)::G)
theorem mj {d t:Nat} {e:GE}:∀ {G:List (Nat×GE)},gl t (se d G)=some e→t≠d∧gl t G=some e
 | [],h=>by cases h
 | (k,e')::l,h=>by
  simp only [se] at h
  cases hd:Nat.beq d k
  ·rw [hd] at h;simp only [eo,gl] at h ⊢
   cases ht:Nat.beq t k
   ·rw [ht] at h;exact mj h
   rw [ht] at h
   refine ⟨fun e=>?_,h⟩
   rw [Nat.eq_of_beq_eq_true ht] at e;rw [e] at hd;simp at hd
  rw [hd] at h;simp only [cR] at h
  obtain ⟨h1,h2⟩:=mj h
  refine ⟨h1,?_⟩
  simp only [gl]
  have:Nat.beq t k=false:=by cases e:Nat.beq t k;rfl;exact absurd ((Nat.eq_of_beq_eq_true e).trans (Nat.eq_of_beq_eq_true hd).symm) h1
  rw [this];exact h2
theorem ml {σ:PEnv} {d t:Nat} {p:PV} (h:t≠d):cn σ d p t=σ t:=by
 unfold cn
 have:Nat.beq t d=false:=by cases e:Nat.beq t d;rfl;exact absurd (Nat.eq_of_beq_eq_true e) h
 rw [this];rfl
theorem kn {σ:PEnv} {G:List (Nat×GE)} {d:Nat} {gs:List Bool} {p:PV} (hi:GInv σ G) (hk:StackOk gs):GInv (mi σ G d gs p).1 (mi σ G d gs p).2:=by
 unfold mi
 split
 ·intro t e h
  obtain ⟨h1,h2⟩:=mj h
  simp only [ml h1]
  exact hi t e h2
 rename_i c gs
 intro t e h
 simp only [gl] at h
 cases ht:Nat.beq t d
 ·rw [ht] at h
  have hne:t≠d:=fun e=>by rw [e] at ht;simp at ht
  simp only [ml hne]
  exact hi t e h
 rw [ht] at h
 simp only [cR,bF] at h;subst h
 have:=Nat.eq_of_beq_eq_true ht;subst this
 refine ⟨?_,hk,by simp⟩
 simp only [cn,Nat.beq_refl,cR,List.headD_cons]
theorem ko {σ:PEnv} {G:List (Nat×GE)} {d:Nat} {gs:List Bool} {p:PV}:(mi σ G d gs p).1=cn σ d (pgv (gs.headD true) p):=by
 unfold mi;split
 ·rw [List.headD_nil,ec]
 rfl
structure RunR where
 σ:PEnv
 L:List Eqn
 R:List Eqn
def pZ (i:Nat):List (Nat×Fct)→Option Fct
 | (k,f)::_=>cond (Nat.beq k i) (some f) none
 | []=>none
def iy (n:Nat) (ops:Array Oper) (ρ:List PRes):List Oper→Nat→List Nat→List (Nat×Fct)→PEnv→List (Nat×GE)→Option RunR
 | [],_,_,_,σ,_=>some ⟨σ,[],[]⟩
 | o::l,i,H,F,σ,G=>match o.dst with
  | some d=>cond (Nat.blt d n) (match mg ops σ G o.guard with
   | some gs=>match so σ G ρ gs (H.headD 0) (pZ i F) o.op with
    | some (p,u,L,R)=>match iy n ops ρ l (i+1) (cond u H.tail H) (match pZ i F with | some _=>F.tail | none=>F) (mi σ G d gs p).1 (mi σ G d gs p).2 with
     | some r=>cond (Nat.beq L.length R.length) (some ⟨r.σ,L++r.L,R++r.R⟩) none
     | none=>none
    | none=>none
   | none=>none) none
  | none=>none
theorem st {i:Nat} {F:List (Nat×Fct)} (h:FOk F):∀ f,pZ i F=some f→f.ok:=fun f hf=>by
 cases F with
 | nil=>cases hf
 | cons a l =>
  obtain ⟨k,g⟩:=a
  simp only [pZ] at hf
  cases hk:Nat.beq k i
  ·rw [hk] at hf;cases hf
  rw [hk] at hf;simp only [cR,bF] at hf;subst hf;exact h.1
theorem su {F:List (Nat×Fct)} (h:FOk F) (b:Option Fct):FOk (match b with | some _=>F.tail | none=>F):=by
 cases b with
 | none=>exact h
 | some f=>cases F with
  | nil=>exact h
  | cons a l=>exact h.2
theorem kp {n:Nat} {ops:Array Oper} {ρ:List PRes} {o:Oper} {l:List Oper} {i:Nat} {H:List Nat} {F:List (Nat×Fct)} {σ:PEnv} {G:List (Nat×GE)} {r:RunR} (h:iy n ops ρ (o::l) i H F σ G=some r) (he:r.L=r.R) (hF:FOk F) (hi:GInv σ G) :
    ∃ d gs p H' F' r',o.dst=some d∧Nat.blt d n=true∧PGuardIs ops σ o (gs.headD true)∧StackOk gs∧((gJ o.op=false∧POpQ (gs.headD true) o σ ρ p)∨(gJ o.op=true∧POpG (gs.headD true) o σ p))∧iy n ops ρ l (i+1) H' F' (mi σ G d gs p).1 (mi σ G d gs p).2=some r'∧r'.σ=r.σ∧r'.L=r'.R∧FOk F':=by
  simp only [iy] at h
  split at h
  · rename_i d hd
    cases hlt:Nat.blt d n
    · rw [hlt] at h;cases h
    rw [hlt] at h;simp only [cR] at h
    split at h
    · rename_i gs hgs
      split at h
      · rename_i p u L R hst
        split at h
        · rename_i r' hr
          cases hlen:Nat.beq L.length R.length
          · rw [hlen] at h;cases h
          rw [hlen] at h;simp only [cR,bF] at h;subst h
          obtain ⟨h1,h2⟩:=List.append_inj he (Nat.eq_of_beq_eq_true hlen)
          obtain ⟨hg,hk⟩:=qD hi hgs
          exact ⟨d,gs,p,_,_,r',hd,hlt,hg,hk,sr hi hk hst h1 (st hF),hr,rfl,h2,su hF _⟩
        cases h
      cases h
    cases h
  cases h
theorem sv {n:Nat} {ops:Array Oper} {o:Oper} {rest:List Oper} {K:PPost} {σ:PEnv} {ρ:List PRes} {d:Nat} {c:Bool} {r:PV} (hg:PGuardIs ops σ o c) (hd:o.dst=some d) (hlt:Nat.blt d n=true) (h:POpG c o σ r) (hw:PWL n ops rest K (cn σ d (pgv c r)) ρ):PWL n ops (o::rest) K σ ρ:=fun β κ σ' ρ' g hs hr =>
 wl_g (hg κ σ' hs) hd hlt (h κ σ' ρ' _ g hs fun v κ' hk hv=>hw β κ' _ _ (g.mono hk) ((hs.mono hk).upd (na hv)) (hr.mono hk))
theorem sw {n:Nat} {ops:Array Oper} {o:Oper} {lo:List (Nat×Oper)} {K:PPost} {σ:PEnv} {ρd ρs:List PRes} {d:Nat} {c:Bool} {r:PV} (hg:PGuardIs ops σ o c) (hd:o.dst=some d) (hlt:Nat.blt d n=true) (h:POpG c o σ r) (hw:PWD n ops K lo (cn σ d (pgv c r)) ρd ρs):PWD n ops K ((1,o)::lo) σ ρd ρs:=fun β κ σ' rd rs g hs h1 h2 =>
 wd_g (hg κ σ' hs) hd hlt fun κ1 hk=>h κ1 σ' _ _ (g.mono hk) (hs.mono hk) fun v κ' hk' hv=>hw β κ' _ rd rs ((g.mono hk).mono hk') (((hs.mono hk).mono hk').upd (na hv)) ((h1.mono hk).mono hk') ((h2.mono hk).mono hk')
theorem mn {n:Nat} {ops:Array Oper} {rest:List Oper} {K:PPost} {ρ:List PRes}:∀ {l:List Oper} {i:Nat} {H:List Nat} {F:List (Nat×Fct)} {σ:PEnv} {G:List (Nat×GE)} {r:RunR},iy n ops ρ l i H F σ G=some r→r.L=r.R→FOk F→GInv σ G→PWL n ops rest K r.σ ρ→PWL n ops (l++rest) K σ ρ
 | [],i,H,F,σ,G,r,h,_,_,_,hw=>by simp only [iy,bF] at h;subst h;exact hw
 | o::l,i,H,F,σ,G,r,h,he,hF,hi,hw=>by
  obtain ⟨d,gs,p,H',F',r',h1,h2,h3,h4,h5,h6,h7,h8,h9⟩:=kp h he hF hi
  have hrec:=mn (rest:=rest) (K:=K) h6 h8 h9 (kn hi h4) (by rw [h7];exact hw)
  rw [ko] at hrec
  rcases h5 with ⟨_,hq⟩ | ⟨_,hq⟩
  ·exact dz h3 h1 h2 hq hrec
  exact sv h3 h1 h2 hq hrec
def sy (ks D:List Nat):List Oper→Bool
 | []=>true
 | o::l=>(match o.dst with | some d=>sf d ks||sf d D | none=>true)&&sy ks D l
theorem lp {n:Nat} {ops:Array Oper} {ρ:List PRes} {ks D:List Nat}:∀ {l:List Oper} {i:Nat} {H:List Nat} {F:List (Nat×Fct)} {σ:PEnv} {G:List (Nat×GE)} {r:RunR},iy n ops ρ l i H F σ G=some r→r.L=r.R→FOk F→GInv σ G→sy ks D l=true→∀ t,t ∉ ks→t ∉ D→r.σ t=σ t
 | [],i,H,F,σ,G,r,h,_,_,_,_,t,_,_=>by simp only [iy,bF] at h;subst h;rfl
 | o::l,i,H,F,σ,G,r,h,he,hF,hi,hd,t,g1,g2=>by
  obtain ⟨d,gs,p,H',F',r',h1,h2,h3,h4,h5,h6,h7,h8,h9⟩:=kp h he hF hi
  simp only [sy,Bool.and_eq_true] at hd
  rw [h1] at hd
  simp only [Bool.or_eq_true,jE] at hd
  have hne:t≠d:=fun e=>by subst e;rcases hd.1 with h | h;exact g1 h;exact g2 h
  rw [← h7,lp h6 h8 h9 (kn hi h4) hd.2 t g1 g2,ko]
  exact ml hne
abbrev RunO:=Option (List PV×List Eqn)
def gK (n:Nat) (ops:Array Oper) (ρ:List PRes) (l:List Oper) (H:List Nat) (F:List (Nat×Fct)) (σ:PEnv) (ks D:List Nat):RunO :=
 match iy n ops ρ l 0 H F σ [] with
 | some r=>cond (sy ks D l) (some (ks.map r.σ,r.L)) none
 | none=>none
def fA (n:Nat) (ops:Array Oper) (ρ:List PRes) (l:List Oper) (H:List Nat) (F:List (Nat×Fct)) (σ:PEnv) (vs:List PV):RunO :=
 match iy n ops ρ l 0 H F σ [] with
 | some r=>some (vs,r.R)
 | none=>some ([],[])
def pdel (σ:PEnv) (D:List Nat):PEnv:=fun t=>cond (sf t D) .any (σ t)
def fJ (σ:PEnv) (D:List Nat) (X:List (Nat×PV)):PEnv:=aF (pdel σ D) X
def nD (t:Nat):List (Nat×PV)→Option PV
 | []=>none
 | (d,v)::l=>cond (Nat.beq t d) (some v) (nD t l)
theorem kq {σ:PEnv} {t:Nat}:∀ {X:List (Nat×PV)},aF σ X t=(nD t X).getD (σ t)
 | []=>rfl
 | (d,v)::l=>by
  simp only [aF,cn,nD]
  cases Nat.beq t d
  ·exact kq (X:=l)
  rfl
theorem lq {t:Nat} {v:PV} {σ:PEnv}:∀ {X:List (Nat×PV)},nD t X=some v→(X.map (·.1)).map σ=X.map (·.2)→σ t=v
 | (d,w)::l,h,e=>by
  simp only [List.map_cons,List.cons.injEq] at e
  simp only [nD] at h
  cases hb:Nat.beq t d
  ·rw [hb] at h;exact lq h e.2
  rw [hb] at h;simp only [cR,bF] at h
  rw [Nat.eq_of_beq_eq_true hb,e.1,h]
theorem lr {t:Nat}:∀ {X:List (Nat×PV)},nD t X=none→t ∉ X.map (·.1)
 | [],_=>by simp
 | (d,v)::l,h=>by
  simp only [nD] at h
  cases hb:Nat.beq t d
  ·rw [hb] at h
   have:t≠d:=fun e=>by rw [e] at hb;simp at hb
   simp only [List.map_cons,List.mem_cons,not_or]
   exact ⟨this,lr h⟩
  rw [hb] at h;cases h
def PWeak (σ σ1:PEnv):Prop:=∀ t,σ1 t=σ t∨σ1 t=.any
theorem Sim.weak {κ:Kr} {σ σ1:PEnv} {σ':Env} (h:Sim κ σ σ') (hw:PWeak σ σ1):Sim κ σ1 σ':=fun t=>by
 rcases hw t with e | e
 ·rw [e];exact h t
 rw [e];exact .any
theorem p4 {σ:PEnv}:GInv σ []:=fun t e h=>by cases h
theorem mq {n:Nat} {ops:Array Oper} {ρ:List PRes} {l:List Oper} {H D:List Nat} {F:List (Nat×Fct)} {σ:PEnv} {X:List (Nat×PV)} (hF:FOk F) (h:gK n ops ρ l H F σ (X.map (·.1)) D=fA n ops ρ l H F σ (X.map (·.2))):∃ r,iy n ops ρ l 0 H F σ []=some r∧r.L=r.R∧PWeak r.σ (fJ σ D X):=by
 unfold gK fA at h
 cases hr:iy n ops ρ l 0 H F σ [] with
 | none=>rw [hr] at h;cases h
 | some r =>
  rw [hr] at h
  simp only at h
  cases hd:sy (X.map (·.1)) D l
  ·rw [hd] at h;cases h
  rw [hd] at h
  simp only [cR,bF,Prod.mk.injEq] at h
  obtain ⟨h1,h2⟩:=h
  refine ⟨r,rfl,h2,fun t=>?_⟩
  unfold fJ
  rw [kq]
  cases hl:nD t X with
  | some v=>exact .inl (by rw [Option.getD_some,lq hl h1])
  | none =>
   rw [Option.getD_none]
   unfold pdel
   cases hi:sf t D
   ·have h3':t ∉ D:=fun hm=>by rw [jE.2 hm] at hi;cases hi
    exact .inl (by rw [eo,lp hr h2 hF p4 hd t (lr hl) h3'])
   exact .inr rfl
section
variable {n:Nat} {ops:Array Oper} {l:List Oper} {K:PPost} {KC:Exit→PPost} {σ:PEnv} {ρ:List PRes} {id:Nat} {F:List (Nat×Fct)}
theorem nE {σ1:PEnv} (hw:PWeak σ σ1) (h:PWL n ops l K σ1 ρ):PWL n ops l K σ ρ:=fun β κ σ' ρ' g hs hr=>h β κ σ' ρ' g (hs.weak hw) hr
theorem bz (k:Nat) (H D:List Nat) (X:List (Nat×PV)) (hF:FOk F) (h:gK n ops ρ (l.take k) H F σ (X.map (·.1)) D=fA n ops ρ (l.take k) H F σ (X.map (·.2))) (hw:PWL n ops (l.drop k) K (fJ σ D X) ρ):PWL n ops l K σ ρ:=by
 obtain ⟨r,h1,h2,h3⟩:=mq hF h
 have:=mn h1 h2 hF p4 (nE h3 hw)
 rwa [List.take_append_drop] at this
theorem eF (H D:List Nat) (X:List (Nat×PV)) (hF:FOk F) (h:gK n ops ρ l H F σ (X.map (·.1)) D=fA n ops ρ l H F σ (X.map (·.2))) (hw:K (fJ σ D X) ρ):PWL n ops l K σ ρ:=by
 obtain ⟨r,h1,h2,h3⟩:=mq hF h
 have:=mn (rest:=[]) h1 h2 hF p4 (nE h3 (bM (ops:=ops) hw))
 rwa [List.append_nil] at this
theorem aK (H D:List Nat) (X:List (Nat×PV)) (hF:FOk F) (h:gK n l.toArray ρ l H F σ (X.map (·.1)) D=fA n l.toArray ρ l H F σ (X.map (·.2))) (hw:KC .normal (fJ σ D X) ρ):PWC n (.region id l.toArray false) KC σ ρ:=af (eF H D X hF h hw)
end
def nF:List (Nat×Oper)→Bool
 | []=>true
 | (k,o)::l=>cond (gJ o.op) (Nat.beq k 1) (Nat.beq k 0)&&nF l
theorem nG {n:Nat} {ops:Array Oper} {rest:List (Nat×Oper)} {K:PPost} {ρd ρ:List PRes}:∀ {l:List (Nat×Oper)} {i:Nat} {H:List Nat} {F:List (Nat×Fct)} {σ:PEnv} {G:List (Nat×GE)} {r:RunR},nF l=true→iy n ops ρ (l.map (·.2)) i H F σ G=some r→r.L=r.R→FOk F→GInv σ G→PWD n ops K rest r.σ ρd ρ→PWD n ops K (l++rest) σ ρd ρ
 | [],i,H,F,σ,G,r,_,h,_,_,_,hw=>by simp only [List.map_nil,iy,bF] at h;subst h;exact hw
 | (k,o)::l,i,H,F,σ,G,r,ht,h,he,hF,hi,hw=>by
  simp only [nF,Bool.and_eq_true] at ht
  obtain ⟨d,gs,p,H',F',r',h1,h2,h3,h4,h5,h6,h7,h8,h9⟩:=kp h he hF hi
  have hrec:=nG (rest:=rest) (K:=K) (ρd:=ρd) ht.2 h6 h8 h9 (kn hi h4) (by rw [h7];exact hw)
  rw [ko] at hrec
  rcases h5 with ⟨hc,hq⟩ | ⟨hc,hq⟩
  ·rw [hc] at ht;have:=Nat.eq_of_beq_eq_true ht.1;subst this
   exact pwd_qg h3 h1 h2 hq hrec
  rw [hc] at ht;have:=Nat.eq_of_beq_eq_true ht.1;subst this
  exact sw h3 h1 h2 hq hrec
section
variable {n:Nat} {ops:Array Oper} {l:List (Nat×Oper)} {K:PPost} {σ:PEnv} {ρd ρs:List PRes} {F:List (Nat×Fct)}
theorem sA {σ1:PEnv} (hw:PWeak σ σ1) (h:PWD n ops K l σ1 ρd ρs):PWD n ops K l σ ρd ρs:=fun β κ σ' rd rs g hs h1 h2=>h β κ σ' rd rs g (hs.weak hw) h1 h2
def nH (n:Nat) (ops:Array Oper) (ρ:List PRes) (l:List (Nat×Oper)) (H:List Nat) (F:List (Nat×Fct)) (σ:PEnv) (ks D:List Nat):RunO:=cond (nF l) (gK n ops ρ (l.map (·.2)) H F σ ks D) none
theorem dh (k:Nat) (H D:List Nat) (X:List (Nat×PV)) (hF:FOk F) (h:nH n ops ρs (l.take k) H F σ (X.map (·.1)) D=fA n ops ρs ((l.take k).map (·.2)) H F σ (X.map (·.2))) (hw:PWD n ops K (l.drop k) (fJ σ D X) ρd ρs):PWD n ops K l σ ρd ρs:=by
 unfold nH at h
 cases ht:nF (l.take k)
 ·rw [ht] at h;unfold fA at h;split at h <;> cases h
 rw [ht] at h
 obtain ⟨r,h1,h2,h3⟩:=mq hF h
 have:=nG ht h1 h2 hF p4 (sA h3 hw)
 rwa [List.take_append_drop] at this
end
def Found (v:Value) (es:List MapEntry) (r:Option (Nat×Value)):Prop:=(r=none∧∀ e∈es,e.key≠v)∨∃ i e,r=some (i,e.val)∧es[i]?=some e∧e.key=v
structure KeyLaw (kt:Nat) (P:Value→Prop):Prop where
 chk:∀ v,P v→∀ e w,(Instr.checkKey e 10000 kt v).run Tryd.prog w=.ok () w
 find:∀ v es,P v→(∀ e∈es,P e.key)→∀ w,∃ r,(Instr.findKey kt v es).run Tryd.prog w=.ok r w∧Found v es r
 same:∀ v,P v→Instr.sameBits 10000 v v=true
def IntKey (v:Value):Prop:=∃ a,v=.int .i64 a
theorem nI (a:Int):∀ (es:List MapEntry) (i:Nat),(∀ e∈es,IntKey e.key)→∃ r,Instr.findNow (.int .i64) (.int .i64 a) es i=some r∧((r=none∧∀ e∈es,e.key≠.int .i64 a)∨∃ j e,r=some (i+j,e.val)∧es[j]?=some e∧e.key=.int .i64 a):=by
 intro es
 induction es with
 | nil=>intro i _;exact ⟨none,rfl,.inl ⟨rfl,fun e h=>by cases h⟩⟩
 | cons e es ih =>
  intro i h
  obtain ⟨b,hb⟩:=h e (by simp)
  unfold Instr.findNow
  rw [hb]
  by_cases hab:a=b
  ·subst hab
   simp only [Instr.sameNow,if_true,beq_self_eq_true]
   exact ⟨_,rfl,.inr ⟨0,e,rfl,rfl,hb⟩⟩
  have:(a == b)=false:=by simp [hab]
  simp only [Instr.sameNow,if_true,this]
  obtain ⟨r,h1,h2⟩:=ih (i+1) (fun x hx=>h x (by simp [hx]))
  refine ⟨r,h1,?_⟩
  rcases h2 with ⟨h2,h3⟩ | ⟨j,x,h2,h3,h4⟩
  ·left
   refine ⟨h2,fun x hx=>?_⟩
   rcases List.mem_cons.1 hx with rfl | hx
   ·rw [hb];intro hh;injection hh with _ hh;exact hab hh.symm
   exact h3 x hx
  right;exact ⟨j+1,x,by rw [h2];congr 2;omega,h3,h4⟩
theorem key_int {kt:Nat} (hu:bU kt=some (.int .i64)):KeyLaw kt IntKey where
 chk:=by
  rintro v ⟨a,rfl⟩ e w
  have:∀ n,(Instr.checkKey e (n+1) kt (.int .i64 a)).run Tryd.prog w=.ok () w:=fun n=>by simp [Instr.checkKey,run_underlying (aG hu)]
  exact this 9999
 find:=by
  rintro v es ⟨a,rfl⟩ h w
  obtain ⟨r,h1,h2⟩:=nI a es 0 h
  refine ⟨r,?_,?_⟩
  ·simp [Instr.findKey,run_underlying (aG hu),h1]
  rcases h2 with h2 | ⟨j,e,h2,h3⟩
  ·exact .inl h2
  exact .inr ⟨j,e,by rw [h2,Nat.zero_add],h3⟩
 same:=by
  rintro v ⟨a,rfl⟩
  have:∀ n,Instr.sameBits (n+1) (.int .i64 a) (.int .i64 a)=true:=fun n=>by simp [Instr.sameBits]
  exact this 9999
section
variable {K V:Type} [DecidableEq K]
def aZ:List (K×V)→K→Option V
 | [],_=>none
 | (a,v)::r,k=>if a=k then some v else aZ r k
def dH:List (K×V)→K→V→List (K×V)
 | [],k,v=>[(k,v)]
 | (a,w)::r,k,v=>if a=k then (k,v)::r else (a,w)::dH r k v
def ju:List (K×V)→K→List (K×V)
 | [],_=>[]
 | (a,w)::r,k=>if a=k then r else (a,w)::ju r k
def mpos:List (K×V)→K→Nat
 | [],_=>0
 | (a,_)::r,k=>if a=k then 0 else mpos r k+1
def MND (xs:List (K×V)):Prop:=xs.Pairwise fun a b=>a.1≠b.1
theorem ls {xs:List (K×V)} {k:K} (h:∀ p∈xs,p.1≠k):aZ xs k=none:=by
 induction xs with
 | nil=>rfl
 | cons p r ih =>
  obtain ⟨a,v⟩:=p
  unfold aZ
  rw [if_neg (h (a,v) (by simp)),ih (fun p hp=>h p (by simp [hp]))]
theorem iZ {xs:List (K×V)} {k:K} (h:∀ p∈xs,p.1≠k) (v:V):dH xs k v=xs++[(k,v)]:=by
 induction xs with
 | nil=>rfl
 | cons p r ih =>
  obtain ⟨a,w⟩:=p
  unfold dH
  rw [if_neg (h (a,w) (by simp)),ih (fun p hp=>h p (by simp [hp]))];rfl
theorem p5 {xs:List (K×V)} (nd:MND xs) {k:K} {v:V}:∀ {i:Nat},xs[i]?=some (k,v)→aZ xs k=some v∧mpos xs k=i∧∀ u,dH xs k u=xs.set i (k,u):=by
 induction xs with
 | nil=>intro i h;simp at h
 | cons p r ih =>
  obtain ⟨a,w⟩:=p
  intro i h
  unfold MND at nd
  rw [List.pairwise_cons] at nd
  cases i with
  | zero =>
   simp only [List.getElem?_cons_zero,bF,Prod.mk.injEq] at h
   obtain ⟨rfl,rfl⟩:=h
   unfold aZ mpos dH
   simp
  | succ i =>
   simp only [List.getElem?_cons_succ] at h
   have hne:a≠k:=nd.1 (k,v) (List.mem_of_getElem? h)
   obtain ⟨h1,h2,h3⟩:=ih nd.2 h
   unfold aZ mpos dH
   rw [if_neg hne,if_neg hne]
   refine ⟨h1,by rw [h2],fun u=>?_⟩
   rw [if_neg hne,h3];rfl
def aW (ek:K→Value) (ev:V→PV) (xs:List (K×V)):List (Value×PV):=xs.map fun p=>(ek p.1,ev p.2)
structure KEnc (kt:Nat) (ek:K→Value):Prop where
 law:∃ P,KeyLaw kt P∧∀ a,P (ek a)
 inj:∀ a b,ek a=ek b→a=b
end
section
variable {κ:Kr}
theorem KVs.get:∀ {kvs:List (Value×PV)} {es:List MapEntry} {i:Nat} {e:MapEntry},KVs κ kvs es→es[i]?=some e→∃ p,kvs[i]?=some (e.key,p)∧Rp κ p e.val
 | _,_,0,_,.cons h _,g=>by simp only [List.getElem?_cons_zero,bF] at g;subst g;exact ⟨_,rfl,h⟩
 | _,_,i+1,_,.cons _ hs,g=>by simp only [List.getElem?_cons_succ] at g ⊢;exact hs.get g
theorem KVs.get':∀ {kvs:List (Value×PV)} {es:List MapEntry} {i:Nat} {k:Value} {p:PV},KVs κ kvs es→kvs[i]?=some (k,p)→∃ e,es[i]?=some e∧e.key=k∧Rp κ p e.val
 | _,_,0,_,_,.cons h _,g=>by simp only [List.getElem?_cons_zero,bF,Prod.mk.injEq] at g;obtain ⟨rfl,rfl⟩:=g;exact ⟨_,rfl,rfl,h⟩
 | _,_,i+1,_,_,.cons _ hs,g=>by simp only [List.getElem?_cons_succ] at g ⊢;exact hs.get' g
theorem KVs.keys:∀ {kvs:List (Value×PV)} {es:List MapEntry},KVs κ kvs es→kvs.map (·.1)=es.map (·.key)
 | _,_,.nil=>rfl
 | _,_,.cons _ hs=>by simp [hs.keys]
theorem KVs.app:∀ {ps qs:List (Value×PV)} {es fs:List MapEntry},KVs κ ps es→KVs κ qs fs→KVs κ (ps++qs) (es++fs)
 | _,_,_,_,.nil,h=>h
 | _,_,_,_,.cons h hs,g=>.cons h (hs.app g)
theorem KVs.set:∀ {kvs:List (Value×PV)} {es:List MapEntry} {i:Nat} {e e':MapEntry} {p:PV},KVs κ kvs es→es[i]?=some e→e'.key=e.key→Rp κ p e'.val→KVs κ (kvs.set i (e.key,p)) (es.set i e')
 | _,_,0,_,_,_,.cons h hs,g,hk,hp=>by simp only [List.getElem?_cons_zero,bF] at g;subst g;rw [← hk];exact .cons hp hs
 | _,_,i+1,_,_,_,.cons h hs,g,hk,hp=>by simp only [List.getElem?_cons_succ] at g;exact .cons h (hs.set g hk hp)
theorem o2 {α:Type} {R:α→α→Prop}:∀ {l:List α} {i:Nat} {a a':α},l.Pairwise R→l[i]?=some a→(∀ x,R x a→R x a')→(∀ x,R a x→R a' x)→(l.set i a').Pairwise R
 | _::l,0,a,a',h,g,h1,h2=>by
  simp only [List.getElem?_cons_zero,bF] at g;subst g
  rw [List.pairwise_cons] at h
  exact List.pairwise_cons.2 ⟨fun x hx=>h2 x (h.1 x hx),h.2⟩
 | b::l,i+1,a,a',h,g,h1,h2=>by
  simp only [List.getElem?_cons_succ] at g
  rw [List.pairwise_cons] at h
  refine List.pairwise_cons.2 ⟨fun x hx=>?_,o2 h.2 g h1 h2⟩
  rcases List.mem_or_eq_of_mem_set hx with hx | rfl
  ·exact h.1 x hx
  exact h1 b (h.1 a (List.mem_of_getElem? g))
theorem MapWf.set {es:List MapEntry} {clock i:Nat} {e e':MapEntry} (h:MapWf es clock) (g:es[i]?=some e) (hk:e'.key=e.key) (hb:e'.born=e.born):MapWf (es.set i e') clock where
 nd:=o2 h.nd g (fun x hx=>by rw [hk];exact hx) (fun x hx=>by rw [hk];exact hx)
 bn:=o2 h.bn g (fun x hx=>by rw [hb];exact hx) (fun x hx=>by rw [hb];exact hx)
 lt:=fun x hx=>by
  rcases List.mem_or_eq_of_mem_set hx with hx | rfl
  ·exact h.lt x hx
  rw [hb];exact h.lt e (List.mem_of_getElem? g)
theorem MapWf.push {es:List MapEntry} {clock:Nat} (h:MapWf es clock) {k v:Value} (hk:∀ e∈es,e.key≠k):MapWf (es++[⟨k,v,clock⟩]) (clock+1) where
 nd:=List.pairwise_append.2 ⟨h.nd,by simp,fun a ha b hb=>by simp at hb;subst hb;exact hk a ha⟩
 bn:=List.pairwise_append.2 ⟨h.bn,by simp,fun a ha b hb=>by simp at hb;subst hb;have:=h.lt a ha;show a.born≠clock;omega⟩
 lt:=fun x hx=>by
  rcases List.mem_append.1 hx with hx | hx
  ·have:=h.lt x hx;omega
  simp at hx;subst hx;show clock<clock+1;omega
end
section
variable {K V:Type} {ek:K→Value} {ev:V→PV} {xs:List (K×V)} {κ:Kr} {es:List MapEntry} {clock kt:Nat}
theorem nJ {i:Nat} {k':Value} {p:PV} (h:(aW ek ev xs)[i]?=some (k',p)):∃ k v,xs[i]?=some (k,v)∧k'=ek k∧p=ev v:=by
 unfold aW at h
 rw [List.getElem?_map] at h
 cases e:xs[i]? with
 | none=>rw [e] at h;cases h
 | some q=>rw [e] at h;simp only [Option.map_some,bF,Prod.mk.injEq] at h;exact ⟨q.1,q.2,rfl,h.1.symm,h.2.symm⟩
theorem mr (h:KVs κ (aW ek ev xs) es) (hw:MapWf es clock):MND xs:=by
 have h1:(es.map (·.key)).Pairwise (· ≠ ·):=List.pairwise_map.2 hw.nd
 rw [← h.keys,aW,List.map_map,List.pairwise_map] at h1
 exact h1.imp fun hab e=>hab (by simp [e])
theorem ms {P:Value→Prop} (hP:∀ a,P (ek a)) (h:KVs κ (aW ek ev xs) es):∀ e∈es,P e.key:=by
 intro e he
 obtain ⟨i,hi,rfl⟩:=List.getElem_of_mem he
 obtain ⟨p,h1,_⟩:=h.get (List.getElem?_eq_getElem hi)
 obtain ⟨k,v,_,h2,_⟩:=nJ h1
 rw [h2];exact hP k
theorem fL (hinj:∀ a b,ek a=ek b→a=b) (h:KVs κ (aW ek ev xs) es) (hw:MapWf es clock) {k:K} {r:Option (Nat×Value)} (hf:Found (ek k) es r):(r=none∧(∀ p∈xs,p.1≠k)∧∀ e∈es,e.key≠ek k)∨∃ i e v,r=some (i,e.val)∧es[i]?=some e∧e.key=ek k∧xs[i]?=some (k,v)∧Rp κ (ev v) e.val:=by
 rcases hf with ⟨h1,h2⟩ | ⟨i,e,h1,h2,h3⟩
 ·left
  refine ⟨h1,fun p hp hpk=>?_,h2⟩
  obtain ⟨i,hi,rfl⟩:=List.getElem_of_mem hp
  have:(aW ek ev xs)[i]?=some (ek k,ev xs[i].2):=by unfold aW;rw [List.getElem?_map,List.getElem?_eq_getElem hi];simp [hpk]
  obtain ⟨e,g1,g2,_⟩:=h.get' this
  exact h2 e (List.mem_of_getElem? g1) g2
 right
 obtain ⟨p,g1,g2⟩:=h.get h2
 obtain ⟨k',v,g3,g4,g5⟩:=nJ g1
 have:k'=k:=hinj _ _ (g4.symm.trans h3)
 subst this
 exact ⟨i,e,v,h1,h2,h3,g3,by rw [← g5];exact g2⟩
end
section
variable {κ:Kr} {σ:Env} {ρ:List Res} {o:Oper} {K:Value→List Res→Kr→Prop}
theorem o3 {t:Nat} (ho:o.op=.makeMap t none) (h:∀ b κ',Kle κ κ'→K (.map (some b)) (Res.mp (some b) [] 0::ρ) κ'):OpL o σ ρ κ K:=fun β hi Nx hk=>by
 unfold execOp
 simp only [ho,Option.map_none,Instr.makeMap,Sem.run_bind,run_newObj_alloc,Result.andThen_ok,Sem.run_pure,OutV]
 exact hk _ _ _ (hi.alloc _ (Res.mp (some κ.w.heap.size) [] 0) rfl rfl) (bJ hi.fin _) (h _ _ (bJ hi.fin _))
end
theorem fM {b clock:Nat} {es:Array MapEntry} {w:World} (hb:w.heap[b]?=some (.map es clock)):(getObj b).run Tryd.prog w=.ok (.map es clock) w:=by simp [getObj,Sem.run,hb]
theorem iz {b clock:Nat} {es:Array MapEntry} {w:World} (o:Obj) (hb:w.heap[b]?=some (.map es clock)):(setObj b o).run Tryd.prog w=.ok () { w with heap:=w.heap.setIfInBounds b o }:=by simp [setObj,Sem.run,hb]
theorem lu {α:Type} {f:α→α}:∀ {l:List α} {i:Nat} {e:α},l[i]?=some e→l.modify i f=l.set i (f e)
 | _::_,0,_,h=>by simp only [List.getElem?_cons_zero,bF] at h;subst h;rfl
 | _::l,i+1,_,h=>by simp only [List.getElem?_cons_succ] at h;simp [lu h]
theorem o4 {t kt et b clock:Nat} {z v:Value} {sz by':Nat} {P:Value→Prop} (ht:bU t=some (.map kt et)) (hz:cH et=some (z,sz,by')) (L:KeyLaw kt P) (hv:P v) {es:List MapEntry} (hes:∀ e∈es,P e.key) {w:World} (hb:w.heap[b]?=some (.map es.toArray clock)) (c:Bool):∃ r,Found v es r∧(Instr.lookup t (.map (some b)) v c).run Tryd.prog w=.ok (if c then .tuple #[(r.map (·.2)).getD z,.bool r.isSome] else (r.map (·.2)).getD z) w:=by
 obtain ⟨r,h1,h2⟩:=L.find v es hv hes w
 refine ⟨r,h2,?_⟩
 simp only [Instr.lookup,Sem.run_bind,run_underlying (aG ht),Result.andThen_ok,fM hb,Sem.run_pure,L.chk v hv,h1]
 cases r with
 | none=>simp [bQ hz]
 | some q=>simp
theorem kr {t kt et:Nat} {z v:Value} {sz by':Nat} {P:Value→Prop} (ht:bU t=some (.map kt et)) (hz:cH et=some (z,sz,by')) (L:KeyLaw kt P) (hv:P v) {w:World} (c:Bool):(Instr.lookup t (.map none) v c).run Tryd.prog w=.ok (if c then .tuple #[z,.bool false] else z) w:=by
 obtain ⟨r,h1,h2⟩:=L.find v [] hv (fun e h=>by cases h) w
 have hr:r=none:=by
  rcases h2 with h2 | ⟨i,e,_,h2,_⟩
  ·exact h2.1
  simp at h2
 subst hr
 simp [Instr.lookup,run_underlying (aG ht),L.chk v hv,h1,bQ hz]
theorem kU {t kt et b clock:Nat} {v u:Value} {P:Value→Prop} (ht:bU t=some (.map kt et)) (L:KeyLaw kt P) (hv:P v) {es:List MapEntry} (hes:∀ e∈es,P e.key) {w:World} (hb:w.heap[b]?=some (.map es.toArray clock)):∃ r es' clock',Found v es r∧(Instr.mapUpdate t (.map (some b)) v u).run Tryd.prog w=.ok () { w with heap:=w.heap.setIfInBounds b (.map es'.toArray clock') }∧((r=none∧es'=es++[⟨v,u,clock⟩]∧clock'=clock+1)∨∃ i e,es[i]?=some e∧e.key=v∧r=some (i,e.val)∧es'=es.set i ⟨v,u,e.born⟩∧clock'=clock):=by
 obtain ⟨r,h1,h2⟩:=L.find v es hv hes w
 have h2':=h2
 rcases h2 with ⟨rfl,h3⟩ | ⟨i,e,rfl,h3,h4⟩
 ·refine ⟨none,es++[⟨v,u,clock⟩],clock+1,h2',?_,.inl ⟨rfl,rfl,rfl⟩⟩
  simp only [Instr.mapUpdate,Sem.run_bind,run_underlying (aG ht),Result.andThen_ok,fM hb,L.chk v hv,h1,iz _ hb]
  simp
 refine ⟨some (i,e.val),es.set i ⟨v,u,e.born⟩,clock,h2',?_,.inr ⟨i,e,h3,h4,rfl,rfl,rfl⟩⟩
 have hk:((es.toArray[i]?).map (·.key)).getD v=v:=by simp [h3,h4]
 have hst:(Instr.keyThatStays v v).run Tryd.prog w=.ok v w:=by simp [Instr.keyThatStays,L.same v hv]
 have hm:es.toArray.modify i (fun x=>({ x with key:=v,val:=u }:MapEntry))=(es.set i ⟨v,u,e.born⟩).toArray:=by
  apply Array.ext'
  simp only [Array.toList_modify]
  rw [lu h3]
 simp only [Instr.mapUpdate,Sem.run_bind,run_underlying (aG ht),Result.andThen_ok,fM hb,L.chk v hv,h1,hk,hst,hm,iz _ hb]
section
variable {K V:Type} [DecidableEq K] {ek:K→Value} {vv:V→PV} {xs:List (K×V)} {κ:Kr} {es:List MapEntry} {clock kt:Nat}
theorem sB {es':List MapEntry} {clock':Nat} {k:K} {v:V} {u:Value} {r:Option (Nat×Value)} (hinj:∀ a b,ek a=ek b→a=b) (hw:MapWf es clock) (h:KVs κ (aW ek vv xs) es) (hf:Found (ek k) es r) (hv:Rp κ (vv v) u)
    (hc:(r=none∧es'=es++[⟨ek k,u,clock⟩]∧clock'=clock+1)∨∃ i e,es[i]?=some e∧e.key=ek k∧r=some (i,e.val)∧es'=es.set i ⟨ek k,u,e.born⟩∧clock'=clock):MapWf es' clock'∧KVs κ (aW ek vv (dH xs k v)) es':=by
  rcases hc with ⟨rfl,rfl,rfl⟩ | ⟨i,e,h1,h2,rfl,rfl,rfl⟩
  · rcases fL hinj h hw hf with ⟨_,h3,h4⟩ | ⟨i,e,v,h3,_⟩
    · refine ⟨hw.push h4,?_⟩
      rw [iZ h3,aW,List.map_append]
      exact h.app (.cons (e:=⟨ek k,u,clock⟩) hv .nil)
    cases h3
  rcases fL hinj h hw hf with ⟨h3,_⟩ | ⟨i',e',v',h3,h4,h5,h6,h7⟩
  · cases h3
  have hi:i'=i:=by injection h3 with h3;injection h3 with h3 _;exact h3.symm
  subst hi
  refine ⟨hw.set h1 h2.symm rfl,?_⟩
  rw [(p5 (mr h hw) h6).2.2 v,aW,List.map_set]
  have:=h.set h1 (e':=⟨ek k,u,e.born⟩) h2.symm hv
  rw [h2] at this
  exact this
theorem sC {k:K} {z0:V} {z:Value} {r:Option (Nat×Value)} (hinj:∀ a b,ek a=ek b→a=b) (hw:MapWf es clock) (h:KVs κ (aW ek vv xs) es) (hf:Found (ek k) es r) (hz:Rp κ (vv z0) z):Rp κ (vv ((aZ xs k).getD z0)) ((r.map (·.2)).getD z)∧r.isSome=(aZ xs k).isSome:=by
 rcases fL hinj h hw hf with ⟨rfl,h3,h4⟩ | ⟨i,e,v,rfl,h4,h5,h6,h7⟩
 ·rw [ls h3];exact ⟨hz,rfl⟩
 rw [(p5 (mr h hw) h6).1];exact ⟨h7,rfl⟩
end
theorem ji {w:World} {b i:Nat} {o:Obj} (h:i≠b):({ w with heap:=w.heap.setIfInBounds b o }:World).heap[i]?=w.heap[i]?:=by
 show (w.heap.setIfInBounds b o)[i]?=_
 rw [Array.getElem?_setIfInBounds_ne (fun e=>h e.symm)]
theorem jj {w:World} {b:Nat} {o o':Obj} (h:w.heap[b]?=some o'):({ w with heap:=w.heap.setIfInBounds b o }:World).heap[b]?=some o:=by
 show (w.heap.setIfInBounds b o)[b]?=_
 have:b<w.heap.size:=by
  rcases Nat.lt_or_ge b w.heap.size with h1 | h1
  ·exact h1
  rw [Array.getElem?_eq_none h1] at h;cases h
 rw [Array.getElem?_setIfInBounds_self_of_lt this]
theorem Zd.mapTurn {β:Base} {l1 l2:List Res} {κ:Kr} {b clock clock':Nat} {es es':List MapEntry} (h:Zd β (l1++Res.mp (some b) es clock::l2) κ):Zd β (l1++Res.mp (some b) es' clock'::l2) ⟨{ κ.w with heap:=κ.w.heap.setIfInBounds b (.map es'.toArray clock') },κ.S⟩∧Kle κ ⟨{ κ.w with heap:=κ.w.heap.setIfInBounds b (.map es'.toArray clock') },κ.S⟩:=by
 have hb:κ.w.heap[b]?=some (.map es.toArray clock):=h.own (Res.mp (some b) es clock) (by simp)
 exact h.turn (r:=Res.mp (some b) es clock) (r':=Res.mp (some b) es' clock') (b:=b) rfl rfl rfl (fun i hi=>ji hi) (by simp) (jj hb) rfl rfl rfl (Nat.le_refl _)
section
variable {K V:Type} [DecidableEq K] {ek:K→Value} {vv:V→PV} {xs:List (K×V)} {o:Oper} {σ:PEnv} {ρ ρ':List PRes} {c:Bool} {x y y2:Operand} {t kt et:Nat} {KK:PV→List PRes→Prop} {k:K} {v z0:V} {z:Value} {sz by' b:Nat} {pk:PV} {mo:Option Nat}
theorem o5 (ho:o.op=.makeMap t none) (h:∀ b,KK (.v (.map (some b))) (.mp (some b) []::ρ)):POpL o σ ρ KK:=fun κ σ' ρ' g hs hr =>
 o3 ho fun b κ' hk=>⟨_,_,.v rfl,.cons (.mp (fun h=>by cases h) ⟨.nil,.nil,fun e h=>by cases h⟩ .nil) (hr.mono hk),h b⟩
def MapIs (ρ:List PRes) (mo:Option Nat) (kvs:List (Value×PV)):Prop:=∀ κ rs,RRels κ ρ rs→∃ es clock,Res.mp mo es clock∈rs∧(mo=none→es=[])∧MapWf es clock∧KVs κ kvs es
theorem c6 {kvs:List (Value×PV)} (h:PRes.mp mo kvs∈ρ):MapIs ρ mo kvs:=fun κ rs hr=>by
 obtain ⟨r,h1,h2⟩:=hr.mem h
 cases h2 with
 | mp hn hw hk=>exact ⟨_,_,h1,hn,hw,hk⟩
theorem o6 {es:List MapEntry} {clock:Nat} (hw:MapWf es clock) {u:Value} {r r':Option (Nat×Value)} (h:Found u es r) (h':Found u es r'):r=r':=by
 rcases h with ⟨rfl,h1⟩ | ⟨i,e,rfl,h1,h2⟩ <;> rcases h' with ⟨rfl,h3⟩ | ⟨j,f,rfl,h3,h4⟩
 ·rfl
 ·exact absurd h4 (h1 f (List.mem_of_getElem? h3))
 ·exact absurd h2 (h3 e (List.mem_of_getElem? h1))
 have hij:i=j:=by
  obtain ⟨li,ei⟩:=List.getElem?_eq_some_iff.1 h1
  obtain ⟨lj,ej⟩:=List.getElem?_eq_some_iff.1 h3
  have pw:=List.pairwise_iff_getElem.1 hw.nd
  rcases Nat.lt_trichotomy i j with h | h | h
  ·exact absurd (by rw [ei,ej,h2,h4]) (pw i j li lj h)
  ·exact h
  exact absurd (by rw [ei,ej,h2,h4]) (pw j i lj li h)
 subst hij
 rw [h1] at h3;injection h3 with h3;rw [h3]
theorem sD (cm:Bool) (ho:o.op=.lookup t x y cm) (ht:bU t=some (.map kt et)) (hz:cH et=some (z,sz,by')) (hzp:∀ κ,Rp κ (vv z0) z) (L:KEnc kt ek) (hx:PEv σ c x (.v (.map mo))) (hy:PEv σ c y pk) (hk:∀ κ u,Rp κ pk u→u=ek k) (hm:MapIs ρ mo (aW ek vv xs)) {κ:Kr} {σ':Env} {ρ':List Res} (hs:Sim κ σ σ') (hr:RRels κ ρ ρ'):c=true→∃ u,Rp κ (vv ((aZ xs k).getD z0)) u∧∀ w,Stab ρ' κ w→(execOp (SX.ev σ') o).run Tryd.prog w=.ok (.value (if cm then .tuple #[u,.bool (aZ xs k).isSome] else u)) w:=by
 intro hc
 obtain ⟨P,hL,hP⟩:=L.law
 have e1:SX.ev σ' x=.map mo:=hs.ve hx hc
 have e2:SX.ev σ' y=ek k:=hk κ _ (hs.pe hy hc)
 obtain ⟨es,clock,h1,hn,h2,h3⟩:=hm κ ρ' hr
 obtain ⟨r,g1,g2⟩:=hL.find (ek k) es (hP k) (ms hP h3) κ.w
 obtain ⟨l1,l2⟩:=sC L.inj h2 h3 g2 (hzp κ)
 refine ⟨_,l1,fun w hw=>?_⟩
 cases mo with
 | none =>
  have:=hn rfl;subst this
  have hr0:r=none:=by
   rcases g2 with g2 | ⟨i,e,_,g2,_⟩
   ·exact g2.1
   simp at g2
  subst hr0
  rw [← l2]
  simp only [execOp,ho,e1,e2,Sem.run_bind,kr ht hz hL (hP k) cm,Result.andThen_ok,Sem.run_pure]
  rfl
 | some b =>
  have hb:w.heap[b]?=some (.map es.toArray clock):=hw.own _ h1
  obtain ⟨r',f1,f2⟩:=o4 ht hz hL (hP k) (ms hP h3) hb cm
  have:=o6 h2 f1 g2;subst this
  rw [← l2]
  simp only [execOp,ho,e1,e2,Sem.run_bind,f2,Result.andThen_ok,Sem.run_pure]
theorem dR (ho:o.op=.lookup t x y false) (ht:bU t=some (.map kt et)) (hz:cH et=some (z,sz,by')) (hzp:∀ κ,Rp κ (vv z0) z) (L:KEnc kt ek) (hx:PEv σ c x (.v (.map mo))) (hy:PEv σ c y pk) (hk:∀ κ u,Rp κ pk u→u=ek k) (hm:MapIs ρ mo (aW ek vv xs)):POpQ c o σ ρ (vv ((aZ xs k).getD z0)):=fun κ σ' ρ' g hs hr=>by
 cases c with
 | false=>exact ou
 | true =>
  obtain ⟨u,h1,h2⟩:=sD false ho ht hz hzp L hx hy hk hm hs hr rfl
  exact ⟨u,fun _=>h1,fun _ w hw=>h2 w hw⟩
theorem jk (ho:o.op=.lookup t x y true) (ht:bU t=some (.map kt et)) (hz:cH et=some (z,sz,by')) (hzp:∀ κ,Rp κ (vv z0) z) (L:KEnc kt ek) (hx:PEv σ c x (.v (.map mo))) (hy:PEv σ c y pk) (hk:∀ κ u,Rp κ pk u→u=ek k) (hm:MapIs ρ mo (aW ek vv xs)):POpQ c o σ ρ (.tup [vv ((aZ xs k).getD z0),.v (.bool (aZ xs k).isSome)]):=fun κ σ' ρ' g hs hr=>by
 cases c with
 | false=>exact ou
 | true =>
  obtain ⟨u,h1,h2⟩:=sD true ho ht hz hzp L hx hy hk hm hs hr rfl
  exact ⟨_,fun _=>.tup (ws:=[u,.bool (aZ xs k).isSome]) (.cons h1 (.cons (.v rfl) .nil)),fun _ w hw=>h2 w hw⟩
theorem eG (ho:o.op=.mapUpdate t x y y2) (ht:bU t=some (.map kt et)) (L:KEnc kt ek) (hx:av σ x=.v (.map (some b))) (hy:av σ y=pk) (hk:∀ κ u,Rp κ pk u→u=ek k) (hv:av σ y2=vv v) (hu:PUpd ρ (.mp (some b) (aW ek vv xs)) (.mp (some b) (aW ek vv (dH xs k v))) ρ') (h:KK (.v undef) ρ'):POpL o σ ρ KK:=fun κ σ' rr g hs hr=>by
 obtain ⟨P,hL,hP⟩:=L.law
 obtain ⟨r0,l1,l2,rfl,h4,h5⟩:=hr.upd hu
 cases h4 with
 | mp hn hw hkv =>
  rename_i es clock
  intro β hi Nx hnx
  have hb:κ.w.heap[b]?=some (.map es.toArray clock):=hi.own (Res.mp (some b) es clock) (by simp)
  have e1:SX.ev σ' x=.map (some b):=hs.v1 hx
  have e2:SX.ev σ' y=ek k:=hk κ _ (by have:=hs.ev y;rwa [hy] at this)
  have rv:Rp κ (vv v) (SX.ev σ' y2):=by have:=hs.ev y2;rwa [hv] at this
  obtain ⟨r,es',clock',f1,f2,f3⟩:=kU (u:=SX.ev σ' y2) ht hL (hP k) (ms hP hkv) hb
  obtain ⟨w1,w2⟩:=sB (v:=v) L.inj hw hkv f1 rv f3
  obtain ⟨i1,i2⟩:=hi.mapTurn (es':=es') (clock':=clock')
  simp only [execOp,ho,e1,e2,Sem.run_bind,f2,Result.andThen_ok,Sem.run_pure,OutV]
  exact hnx _ _ _ i1 i2 ⟨.v undef,ρ',.v rfl,h5 _ _ i2 (.mp (fun h=>by cases h) w1 (w2.mono i2)),h⟩
end
def kI (a:Int):Value:=.int .i64 a
def vI (a:Int):PV:=.v (.int .i64 a)
def vT (a:Bool):PV:=.v (.bool a)
def vL {α:Type} (e:α→List PV) (xs:List α):PV:=.slc xs.length (xs.map e)
theorem fi {kt:Nat} (hu:bU kt=some (.int .i64)):KEnc kt kI:=⟨⟨IntKey,key_int hu,fun a=>⟨a,rfl⟩⟩,fun a b h=>by injection h⟩
theorem dC {a:Int}:∀ (κ:Kr) (u:Value),Rp κ (.v (.int .i64 a)) u→u=kI a:=fun _ _ h=>h.val
theorem fj {K V:Type} {o:Oper} {σ:PEnv} {ρ:List PRes} {t:Nat} {KK:PV→List PRes→Prop} (ek:K→Value) (vv:V→PV) (ho:o.op=.makeMap t none) (h:∀ b,KK (.v (.map (some b))) (.mp (some b) (aW ek vv [])::ρ)):POpL o σ ρ KK:=o5 ho h
theorem wl_gT {β:Base} {n:Nat} {ops:Array Oper} {o:Oper} {rest:List Oper} {K:Post} {σ:Env} {ρ:List Res} {κ:Kr} {d:Nat} (hg:GuardIs ops σ o true) (hd':o.dst=some d) (hlt:Nat.blt d n=true) (h:OpL o σ ρ κ fun v ρ' κ'=>WL β n ops rest K (upd σ d v) ρ' κ'):WL β n ops (o::rest) K σ ρ κ:=fun hi a hr Q hk=>by
 simp only [← ca hd'] at h
 have hd:=cz hd' hlt
 unfold wpList
 rw [di hr,hg]
 exact .inl (dJ hr.eval (h β hi (fun v w=>wpList Tryd.prog ops Q rest (a.put o.dst v) w) fun v ρ' κ' hi' hle hw=>hw hi' _ (hr.put hd v) Q fun a' σ' ρ'' κ'' h1 h2 h3 h4=>hk a' σ' ρ'' κ'' h1 h2 (hle.trans h3) h4) fun _ _ h=>h)
section
variable {n:Nat} {ops:Array Oper} {o:Oper} {rest:List Oper} {K:PPost} {σ:PEnv} {ρ:List PRes} {d:Nat}
theorem sE (hg:PGuardIs ops σ o true) (hd:o.dst=some d) (hlt:Nat.blt d n=true) (h:POpL o σ ρ fun p ρ'=>PWL n ops rest K (cn σ d p) ρ'):PWL n ops (o::rest) K σ ρ:=fun β κ σ' ρ' g hs hr =>
 wl_gT (hg κ σ' hs) hd hlt ((h κ σ' ρ' g hs hr).mono fun v ρ1 κ1 hk ⟨pv,ρp,h1,h2,h3⟩=>h3 β κ1 _ _ (g.mono hk) ((hs.mono hk).upd h1) h2)
theorem sF {p:PV} (hg:PGuardIs ops σ o false) (hd:o.dst=some d) (hlt:Nat.blt d n=true) (h:PWL n ops rest K (cn σ d (pgv false p)) ρ):PWL n ops (o::rest) K σ ρ :=
 dz (p:=p) hg hd hlt (fun κ σ' ρ' g hs hr=>ou) h
theorem sG {ρ':List PRes} (hp:ρ.Perm ρ') (h:PWL n ops rest K σ ρ'):PWL n ops rest K σ ρ:=fun β κ σ' r g hs hr=>by
 obtain ⟨rs',h1,h2⟩:=hr.perm hp
 exact fun hi=>h β κ σ' rs' g hs h2 (hi.perm h1)
theorem o7 {c:Bool} {f:Nat} {ags:List Operand} {ts:Array Nat} {pargs:List PV} {r:PV} {r0 r1:PRes} {l0:List PRes} (hg:PGuardIs ops σ o c) (hd:o.dst=some d) (hlt:Nat.blt d n=true) (ho:o.op=.call { callee:=.value (.func f),args:=ags.toArray,argTypes:=ts }) (hp:PPick ρ r0 l0) (ha:c=true→ags.map (av σ)=pargs) (hc:c=true→PCall f pargs [r0] (fun pv ρ'=>pv=r∧ρ'=[r1])) (hn:c=false→r1=r0) (hw:PWL n ops rest K (cn σ d (pgv c r)) (r1::l0)):PWL n ops (o::rest) K σ ρ:=by
 cases c with
 | true =>
  refine sE hg hd hlt (bp ho (ha rfl) (ρ1:=[r0]) (ρ2:=l0) hp (hc rfl) ?_)
  rintro _ _ ⟨rfl,rfl⟩
  rw [ec] at hw;exact hw
 | false =>
  have:=hn rfl;subst this
  exact sF (p:=r) hg hd hlt (sG hp hw)
end
def gdp {α β:Type} [Inhabited α] (c:Bool) (x:Option (α×β)) (m:β):Option (α×β):=cond c x (some (default,m))
theorem gdp_t {α β:Type} [Inhabited α] {c:Bool} {x:Option (α×β)} {m:β} {v:α×β} (h:gdp c x m=some v) (hc:c=true):x=some v:=by subst hc;exact h
theorem gdp_f {α β:Type} [Inhabited α] {c:Bool} {x:Option (α×β)} {m:β} {v:α×β} (h:gdp c x m=some v) (hc:c=false):v.2=m:=by subst hc;simp only [gdp,eo,bF] at h;rw [← h]
theorem sH {a:Option Addr} {n c T sz k:Nat} {css:List (List Value)} (hk:k≤n):∀ o,(Res.row a n c T sz css).says o→(Res.row a k c T sz (css.take k)).says o:=fun o h=>by
 cases a with
 | none=>obtain ⟨rfl,rfl,rfl⟩:=h;exact ⟨by omega,rfl,by simp⟩
 | some ad =>
  obtain ⟨h1,h2,h3,h4,h5,cur,h6,h7,h8⟩:=h
  refine ⟨h1,by rw [List.length_take];omega,fun cs hcs=>h3 cs (List.mem_of_mem_take hcs),by omega,h5,cur,h6,h7,?_⟩
  have hle:k*sz≤n*sz:=Nat.mul_le_mul_right _ hk
  have e:cur.toList.take (k*sz)=(css.flatten).take (k*sz):=by rw [← h8,List.take_take,Nat.min_eq_left hle]
  rw [e]
  have hw:∀ cs∈css.take k,cs.length=sz:=fun cs hcs=>h3 cs (List.mem_of_mem_take hcs)
  have hl:((css.take k).flatten).length=k*sz:=by rw [cM hw,List.length_take];congr 1;omega
  have hsplit:css.flatten=(css.take k).flatten++(css.drop k).flatten:=by rw [← List.flatten_append,List.take_append_drop]
  rw [hsplit,List.take_append_of_le_length (by omega),List.take_of_length_le (by omega)]
theorem row_blk {a:Option Addr} {n c T sz k:Nat} {css dss:List (List Value)}:(Res.row a k c T sz dss).blk=(Res.row a n c T sz css).blk:=by cases a <;> rfl
theorem qI {o:Oper} {σ:PEnv} {ρ l:List PRes} {x y:Operand} {t T T2 sz by' n c:Nat} {a:Option Addr} {kd:IntKind} {i:Int} {z:Value} {K:PV→List PRes→Prop} {α:Type} {enc:α→List PV} {xs zs:List α} (ho:o.op=.slice t x none (some y) none) (hu:bU t=some (.slice T)) (hi:cH T=some (z,sz,by')) (hx:av σ x=.v (.slice a n c)) (hy:av σ y=.v (.int kd i)) (hp:PPick ρ (.row a n c T2 sz (xs.map enc)) l) (hm:sub xs 0 i=some zs) (h:K (.v (.slice a zs.length c)) (.row a zs.length c T2 sz (zs.map enc)::l)):POpL o σ ρ K:=fun κ σ' ρ' g hs hr β hinv Nx hk=>by
 obtain ⟨⟨h0,h1,h2⟩,hz⟩:=iq hm
 have hz:zs=xs.take i.toNat:=by rw [hz];rfl
 obtain ⟨r,l',k1,k2,k3⟩:=hr.pick hp
 cases k2 with
 | row hb ho1 hc =>
  rename_i dss
  have hi2:=hinv.perm k1
  have hown:=eX (hi2.own (Res.row a n c T2 sz dss) (by simp))
  have hl:xs.length=n:=by have e:=hc.len;rw [List.length_map] at e;omega
  have hcap:n≤c:=by
   have hh:=hi2.own (Res.row a n c T2 sz dss) (by simp)
   cases a with
   | none=>obtain ⟨e1,e2,_⟩:=hh;omega
   | some ad=>exact hh.2.2.2.1
  have hq:OpQ true o σ' ρ' κ (.slice a i.toNat c):=jY (c:=true) (k:=i.toNat) ho hu hi (.p (hs.v1 hx)) (.p (hs.v1 hy)) (fun _=>by omega) (fun _=>by omega)
  have hzl:zs.length=i.toNat:=by rw [hz,List.length_take];omega
  have hv:=hinv.view (r':=Res.row a i.toNat c T2 sz (dss.take i.toNat)) k1 row_blk (sH (by omega))
  rw [hq rfl κ.w hinv.stab]
  refine hk _ (Res.row a i.toNat c T2 sz (dss.take i.toNat)::l') κ hv (.refl _) ⟨.v (.slice a zs.length c),.row a zs.length c T2 sz (zs.map enc)::l,by rw [hzl];exact .v rfl,.cons ?_ k3,h⟩
  rw [hzl]
  refine .row (by omega) (fun d hd=>ho1 d (List.mem_of_mem_take hd)) ?_
  rw [hz,List.map_take]
  exact hc.take _
section
variable {o:Oper} {σ:PEnv} {ρ ρ':List PRes} {x y:Operand} {t T T2 sz by' n c:Nat} {a:Option Addr} {kd:IntKind} {i j:Int} {z:Value} {α:Type} {enc:α→List PV} {xs zs:List α} {m:α} {K:PV→List PRes→Prop}
end
section
variable {α:Type} (lt:α→α→Bool)
def ins (x:α):List α→List α
 | []=>[x]
 | y::l=>cond (lt y x) (y::ins x l) (x::y::l)
def ku:List α→List α
 | []=>[]
 | x::l=>ins lt x (ku l)
variable {lt}
theorem kv {x:α}:∀ {l:List α},(ins lt x l).Perm (x::l)
 | []=>List.Perm.refl _
 | y::l=>by
  unfold ins
  cases lt y x
  ·exact List.Perm.refl _
  exact (List.Perm.cons y kv).trans (List.Perm.swap x y l)
theorem dS:∀ {l:List α},(ku lt l).Perm l
 | []=>List.Perm.refl _
 | x::l=>kv.trans (List.Perm.cons x dS)
theorem kw (htr:∀ x y z,lt x y=true→lt y z=true→lt x z=true) (hnt:∀ x y z,lt x y=false→lt y z=false→lt x z=false) (hir:∀ x,lt x x=false) {x:α}:∀ {l:List α},l.Pairwise (fun a b=>lt b a=false)→(ins lt x l).Pairwise (fun a b=>lt b a=false)
 | [],_=>List.pairwise_singleton _ _
 | y::l,h=>by
  unfold ins
  obtain ⟨h1,h2⟩:=List.pairwise_cons.1 h
  have asym:∀ a b,lt a b=true→lt b a=false:=fun a b hab=>by
   cases hba:lt b a
   ·rfl
   have:=htr a b a hab hba;rw [hir] at this;cases this
  cases hy:lt y x
  ·refine List.pairwise_cons.2 ⟨fun z hz=>?_,h⟩
   rcases List.mem_cons.1 hz with rfl | hz
   ·exact hy
   exact hnt z y x (h1 z hz) hy
  refine List.pairwise_cons.2 ⟨fun z hz=>?_,kw htr hnt hir h2⟩
  rcases List.mem_cons.1 (kv.mem_iff.1 hz) with rfl | hz
  ·exact asym y z hy
  exact h1 z hz
theorem gi (htr:∀ x y z,lt x y=true→lt y z=true→lt x z=true) (hnt:∀ x y z,lt x y=false→lt y z=false→lt x z=false) (hir:∀ x,lt x x=false):∀ (l:List α),(ku lt l).Pairwise (fun a b=>lt b a=false)
 | []=>List.Pairwise.nil
 | x::l=>kw htr hnt hir (gi htr hnt hir l)
theorem jl (ha:∀ x y,lt x y=false→lt y x=false→x=y):∀ {l m:List α},l.Pairwise (fun a b=>lt b a=false)→m.Pairwise (fun a b=>lt b a=false)→l.Perm m→l=m
 | [],m,_,_,hp=>(List.nil_perm.1 hp).symm
 | x::l,m,h1,h2,hp=>by
  obtain ⟨g1,g2⟩:=List.pairwise_cons.1 h1
  match m,h2,hp with
  | [],_,hp=>exact absurd (List.perm_nil.1 hp) (by simp)
  | y::m,h2,hp =>
   obtain ⟨k1,k2⟩:=List.pairwise_cons.1 h2
   have hxy:x=y:=by
    have hx:x∈y::m:=hp.mem_iff.1 (by simp)
    have hy:y∈x::l:=hp.mem_iff.2 (by simp)
    rcases List.mem_cons.1 hx with e | hx
    ·exact e
    rcases List.mem_cons.1 hy with e | hy
    ·exact e.symm
    exact ha x y (k1 x hx) (g1 y hy)
   subst hxy
   rw [jl ha g2 k2 ((List.perm_cons x).1 hp)]
end
theorem bnd {α β:Type} {x:Option α} {f:α→Option β} {a:α} (h:x=some a):x.bind f=f a:=by rw [h];rfl
theorem fe {r:Int} (h1 : -9223372036854775808≤r) (h2:r≤9223372036854775807):IntKind.i64.wrap r=r:=mM ⟨h1,h2⟩
theorem u64s {r:Int} (h1:0≤r) (h2:r≤18446744073709551615):IntKind.u64.wrap r=r:=by simp [IntKind.wrap,IntKind.signed,IntKind.bits];omega
theorem nK {n:Nat} (h:n≤1267650600228229401496703205000):n<FUEL:=Nat.lt_of_le_of_lt h (by unfold FUEL;omega)
theorem bd {α:Type} {xs:List α} {k:Nat} (h:k<xs.length):idx xs (k:Int)=some xs[k]:=by
 unfold idx;rw [if_pos (by omega)];simp [h]
theorem gt {α:Type} [Inhabited α] {x:Option α}:gd true x=x:=rfl
theorem hT {α:Type} [Inhabited α] {x:Option α}:gd false x=some default:=rfl
theorem cN {k:Nat} {n:Nat} (hk:k<n) (hn:n≤4611686018427387904):IntKind.i64.wrap ((k:Int)+1)=((k+1:Nat):Int):=by rw [fe (by omega) (by omega)];omega
theorem lv {k n:Nat} (h:k<n):decide ((k:Int)<(n:Int))=true:=by simp;omega
theorem fN (n:Nat):decide ((n:Int)<(n:Int))=false:=by simp
theorem dT {α:Type} {by':Nat} {xs ys:List α} (h:(xs.length+ys.length)*by'≤140737488355328) (h2:xs.length+ys.length≤140737488355328):app by' xs ys=some (xs++ys):=by unfold app;rw [if_pos ⟨h,h2⟩]
theorem sub_ok {α:Type} {xs:List α} {a b:Nat} (h:a≤b) (h2:b≤xs.length):sub xs (a:Int) (b:Int)=some ((xs.take b).drop a):=by
 unfold sub;rw [if_pos (by omega)];simp
def bindR {A B R:Type} (p:A⊕R) (g:A→B⊕R):B⊕R:=match p with | .inl a=>g a | .inr r=>.inr r
def run {α A R:Type} (f:Nat→α→A→A⊕R):List α→Nat→A→A⊕R
 | [],_,a=>.inl a
 | x::xs,k,a=>bindR (f k x a) (fun a'=>run f xs (k+1) a')
theorem iA {α A R:Type} (f:Nat→α→A→A⊕R) (x:α) (xs:List α) (k:Nat) (a:A):run f (x::xs) k a=bindR (f k x a) (run f xs (k+1)):=rfl
def outc {S T A R:Type} (g:A→S) (e:R→T):A⊕R→S⊕T
 | .inl a=>.inl (g a)
 | .inr r=>.inr (e r)
def outf {T A R:Type} (g:A→T) (e:R→T):A⊕R→T
 | .inl a=>g a
 | .inr r=>e r
theorem nL {S T α A R:Type} {l:List α} (hl:l.length≤4611686018427387904) {body:S→Option (S⊕T)} (pack:Int→A→S) (f:Nat→α→A→A⊕R) (fin:A→T) (exit:R→T) (P:Nat→A→Prop)
    (hstep:∀ (k:Nat) (hk:k<l.length) (a:A),P k a→body (pack (k:Int) a)=some (outc (pack ((k+1:Nat):Int)) exit (f k l[k] a))∧∀ a',f k l[k] a=.inl a'→P (k+1) a')
    (hend:∀ a,P l.length a→body (pack (l.length:Int) a)=some (.inr (fin a))) (a:A) (h0:P 0 a):aT body FUEL (pack 0 a)=some (outf fin exit (run f l 0 a))∧∀ a',run f l 0 a=.inl a'→P l.length a':=by
  have main:∀ (xs:List α) (k N:Nat) (a:A),l.drop k=xs→k≤l.length→P k a→xs.length<N→aT body N (pack (k:Int) a)=some (outf fin exit (run f xs k a))∧∀ a',run f xs k a=.inl a'→P l.length a':=by
    intro xs
    induction xs with
    | nil =>
      intro k N a hd hk hp hN
      have:k=l.length:=by
        have:=congrArg List.length hd;simp at this;omega
      subst this
      obtain ⟨N,rfl⟩:∃ M,N=M+1:=⟨N - 1,by omega⟩
      rw [gf,hend a hp]
      exact ⟨rfl,fun a' h=>by injection h with h;exact h ▸ hp⟩
    | cons x xs ih =>
      intro k N a hd hk hp hN
      have hk':k<l.length:=by
        have:=congrArg List.length hd;simp at this;omega
      have hx:l[k]=x∧l.drop (k+1)=xs:=by
        rw [List.drop_eq_getElem_cons hk'] at hd;injection hd with h1 h2;exact ⟨h1,h2⟩
      obtain ⟨N,rfl⟩:∃ M,N=M+1:=⟨N - 1,by omega⟩
      obtain ⟨e1,e2⟩:=hstep k hk' a hp
      rw [hx.1] at e1 e2
      rw [gf,e1]
      rw [iA]
      cases hf:f k x a with
      | inl a'=>exact ih (k+1) N a' hx.2 (by omega) (e2 a' hf) (by simp at hN;omega)
      | inr r=>exact ⟨rfl,fun a' h=>by change Sum.inr r=_ at h;cases h⟩
  exact main l 0 FUEL a rfl (by omega) h0 (nK (by omega))
theorem sI {S T α A R β:Type} {l:List α} (hl:l.length≤4611686018427387904) {body:S→Option (S⊕T)} {k:T→Option β} (pack:Int→A→S) (f:Nat→α→A→A⊕R) (fin:A→T) (exit:R→T) (P:Nat→A→Prop) (a:A) (h0:P 0 a)
    (hstep:∀ (k:Nat) (hk:k<l.length) (a:A),P k a→body (pack (k:Int) a)=some (outc (pack ((k+1:Nat):Int)) exit (f k l[k] a))∧∀ a',f k l[k] a=.inl a'→P (k+1) a')
    (hend:∀ a,P l.length a→body (pack (l.length:Int) a)=some (.inr (fin a))):Option.bind (aT body FUEL (pack 0 a)) k=k (outf fin exit (run f l 0 a)):=bnd (nL hl pack f fin exit P hstep hend a h0).1
def dI {α T:Type} (g:Nat→α→Option T):List α→Nat→Option T
 | [],_=>none
 | x::xs,k=>match g k x with | some t=>some t | none=>dI g xs (k+1)
def outg {T:Type} (k:Nat):Option T→Int⊕T
 | some t=>.inr t
 | none=>.inl ((k+1:Nat):Int)
theorem dU {T α β:Type} {l:List α} (hl:l.length≤4611686018427387904) {body:Int→Option (Int⊕T)} {k:T→Option β} (g:Nat→α→Option T) (e:T)
    (hstep:∀ (k:Nat) (hk:k<l.length),body (k:Int)=some (outg k (g k l[k]))) (hend:body (l.length:Int)=some (.inr e)):Option.bind (aT body FUEL 0) k=k ((dI g l 0).getD e):=by
  refine (sI hl (fun i (_:Unit)=>i) (fun k x _=>match g k x with | some t=>.inr t | none=>.inl ()) (fun _=>e) (fun (t:T)=>t) (fun _ _=>True) () trivial (fun k hk a _=>⟨by
    rw [hstep k hk];cases g k l[k] <;> rfl,fun _ _=>trivial⟩) (fun a _=>hend)).trans ?_
  congr 1
  generalize 0=i
  induction l generalizing i with
  | nil=>rfl
  | cons x xs ih =>
    clear hstep hend
    have ih2:∀ j,outf (fun _=>e) (fun t=>t) (run (fun k x (_:Unit)=>match g k x with | some t=>Sum.inr t | none=>Sum.inl ()) xs j ())=(dI g xs j).getD e:=by
      clear ih hl
      induction xs with
      | nil=>intro j;rfl
      | cons y ys ih=>intro j;rw [iA,dI];cases g j y with | some t=>rfl | none=>exact ih (j+1)
    rw [iA,dI]
    cases g i x with
    | some t=>rfl
    | none=>exact ih2 (i+1)
theorem i0 {α T:Type} (p:α→Bool) (t:T):∀ (l:List α) (k:Nat),dI (fun _ x=>cond (p x) (some t) none) l k=cond (l.any p) (some t) none
 | [],_=>rfl
 | x::xs,k=>by
  rw [dI,List.any_cons,i0 p t xs]
  cases p x <;> rfl
theorem hZ {α T:Type} (p:α→Bool) (f:α→T):∀ (l:List α) (k:Nat),dI (fun _ x=>cond (p x) (some (f x)) none) l k=(l.find? p).map f
 | [],_=>rfl
 | x::xs,k=>by
  rw [dI,List.find?_cons,hZ p f xs]
  cases p x <;> rfl
theorem eR {S T α A β:Type} {l:List α} (hl:l.length≤4611686018427387904) {body:S→Option (S⊕T)} {k:T→Option β} (pack:Int→A→S) (f:A→α→A) (fin:A→T) (P:Nat→A→Prop) (a:A) (h0:P 0 a)
    (hstep:∀ (k:Nat) (hk:k<l.length) (a:A),P k a→body (pack (k:Int) a)=some (.inl (pack ((k+1:Nat):Int) (f a l[k])))∧P (k+1) (f a l[k]))
    (hend:∀ a,P l.length a→body (pack (l.length:Int) a)=some (.inr (fin a))):Option.bind (aT body FUEL (pack 0 a)) k=k (fin (l.foldl f a))∧P l.length (l.foldl f a):=by
  have e:=nL hl pack (fun _ x a=>(.inl (f a x):A⊕Empty)) fin (fun r=>nomatch r) P (fun k hk a hp=>⟨(hstep k hk a hp).1,fun a' h=>by injection h with h;exact h ▸ (hstep k hk a hp).2⟩) hend a h0
  have e2:∀ (xs:List α) (i:Nat) (b:A),run (fun _ x a=>(.inl (f a x):A⊕Empty)) xs i b=.inl (xs.foldl f b):=by
    intro xs
    induction xs with
    | nil=>intro i b;rfl
    | cons x xs ih=>intro i b;rw [iA,List.foldl_cons];exact ih _ _
  rw [e2] at e
  exact ⟨bnd e.1,e.2 _ rfl⟩
theorem p6 {α:Type} {l:List α} {k:Nat} (h:k<l.length) (d:α):l.getD k d=l[k]:=by simp [List.getD,h]
def k0 (W:World):Kr:=⟨W,fun b=>b<W.heap.size⟩
theorem ia {t:Nat} {z:Value} {s b:Nat} (h:cH t=some (z,s,b)):Tryd.prog.cellsOf t=s∧Tryd.prog.bytesOf t=b:=by
 obtain ⟨i,h1,h2,h3,h4⟩:=jA h
 constructor
 ·simp [Program.cellsOf,h1,h3]
 simp [Program.bytesOf,h1,h4]
def Light {H:Type} (t:Nat) (d:DataW H):Prop:=∀ n∈d.weights Tryd.prog t,n≤reachBytes
theorem sJ {H:Type} (d:DataW H):1≤Rows.uptoBulk d:=by
 cases d with
 | lit l=>cases l <;> simp [Rows.uptoBulk]
 | nil=>simp [Rows.uptoBulk]
 | ptr d=>simp [Rows.uptoBulk]
 | slice elems spare=>simp [Rows.uptoBulk]
 | agg parts=>simp [Rows.uptoBulk]
 | iface t d=>simp [Rows.uptoBulk]
 | map entries=>simp [Rows.uptoBulk]
 | held h=>simp [Rows.uptoBulk]
theorem qJ {H:Type} {d:DataW H} {l:List (DataW H)} (h:d∈l):Rows.uptoBulk d≤Rows.uptoBulkAll l:=by
 induction l with
 | nil=>cases h
 | cons x r ih =>
  simp only [Rows.uptoBulkAll]
  cases List.mem_cons.1 h with
  | inl e=>subst e;omega
  | inr e=>have:=ih e;omega
theorem sK {H:Type} (l:List (DataW H)):l.length≤Rows.uptoBulkAll l:=by
 induction l with
 | nil=>simp [Rows.uptoBulkAll]
 | cons x r ih=>have:=sJ x;simp only [Rows.uptoBulkAll,List.length_cons];omega
def Opens {H:Type} (eh:TypeId×Value→H) {α:Type} (n:Nat) (t:Nat) (e:α→List PV) (B:α→Prop):Prop :=
 ∀ (W:World) (fuel:Nat) (cs:List Value) (x:DataW H×List MemPlace),DataW.trod eh Tryd.prog W 0 (fun _=>true) true fuel t cs=some x→Light t x.1→Rows.uptoBulk x.1≤n→∃ m,Rps (k0 W) (e m) cs∧One cs∧B m
section
variable {H:Type} {eh:TypeId×Value→H} {nb:Nat}
theorem one1 {v:Value} (h:v.oneCell'=true):One [v]:=fun u hu=>by rw [List.mem_singleton.1 hu];exact h
theorem qK {t:Nat} {k:IntKind} (h:bU t=some (.int k)):Opens eh nb t (fun x:Int=>[.v (.int k x)]) (fun _=>True):=fun W fuel cs x hx _ _=>by
 obtain ⟨n,rfl,_,_⟩:=DataW.trod_int (aG h) hx
 exact ⟨n,.cons (.v rfl) .nil,one1 rfl,trivial⟩
theorem gM {e:Nat}:∀ {l:List (DataW H)} {d:DataW H} {n:Nat},d∈l→n∈d.weights Tryd.prog e→n∈DataW.weightsAll Tryd.prog e l
 | d'::l,d,n,hd,hn=>by
  simp only [DataW.weightsAll,List.mem_append]
  rcases List.mem_cons.1 hd with rfl | hd
  ·exact .inl hn
  exact .inr (gM hd hn)
theorem p7 {α β:Type} {R:α→β→Prop}:∀ (l:List β),(∀ b∈l,∃ a,R a b)→∃ la:List α,la.length=l.length∧∀ (i:Nat) (b:β),l[i]?=some b→∃ a,la[i]?=some a∧R a b
 | [],_=>⟨[],rfl,fun i b h=>by simp at h⟩
 | b::l,h=>by
  obtain ⟨a,ha⟩:=h b (by simp)
  obtain ⟨la,h1,h2⟩:=p7 l fun b hb=>h b (by simp [hb])
  refine ⟨a::la,by simp [h1],fun i b' hb=>?_⟩
  cases i with
  | zero=>simp only [List.getElem?_cons_zero,bF] at hb;subst hb;exact ⟨a,rfl,ha⟩
  | succ i=>simp only [List.getElem?_cons_succ] at hb ⊢;exact h2 i b' hb
def OpensN {H:Type} (eh:TypeId×Value→H) {α:Type} (N n:Nat) (t:Nat) (e:α→List PV) (B:α→Prop):Prop :=
 ∀ (W:World) (fuel:Nat) (cs:List Value) (x:DataW H×List MemPlace),fuel<N→DataW.trod eh Tryd.prog W 0 (fun _=>true) true fuel t cs=some x→Light t x.1→Rows.uptoBulk x.1≤n→∃ m,Rps (k0 W) (e m) cs∧One cs∧B m
theorem mu {α:Type} {N t E sz by':Nat} {z:Value} {e:α→List PV} {B:α→Prop} (hu:bU t=some (.slice E)) (hi:cH E=some (z,sz,by')) (h0:Nat.blt 0 sz=true) (hb0:Nat.blt 0 by'=true) (hE:OpensN eh N nb E e B):OpensN eh (N+1) nb t (eL e) (fun l=>l.length*by'≤140737488355328∧l.length≤nb∧∀ x∈l,B x):=fun W fuel cs x hfu hx hw hbk=>by
 obtain ⟨hcz,hby⟩:=ia hi
 have hsz:0<sz:=by have:=h0;simp [Nat.blt] at this;omega
 have hbp:0<by':=by have:=hb0;simp [Nat.blt] at this;omega
 rcases DataW.trod_slice (aG hu) hx with ⟨rfl,_⟩ | ⟨a,len,cap,elems,rest,n,rfl,rfl,rfl,_,hl,hm,hlen,hel,_,_⟩
 ·exact ⟨[],.cons (.slc (sz:=sz) (css:=[]) Sl.nil (Nat.zero_le _) (fun _ h=>by cases h) .nil) .nil,one1 rfl,by simp,Nat.zero_le _,fun _ h=>by cases h⟩
 rw [hcz] at hel
 have hwl:(elems.length+rest.length)*by'≤reachBytes:=by
  have:=hw ((elems.length+rest.length)*by') (by simp only [DataW.weights,aG hu,hby,List.length_map];exact List.mem_cons_self)
  exact this
 have hn:len≤140737488355328:=by
  unfold reachBytes at hwl
  have:elems.length*1≤(elems.length+rest.length)*by':=Nat.mul_le_mul (by omega) (by omega)
  omega
 have hcells:∀ i∈List.range len,∃ p:α×List Value,W.cells? 0 (a.add (i*sz)) sz=some p.2∧Rps (k0 W) (e p.1) p.2∧One p.2∧B p.1:=fun i hi'=>by
  have hi':i<len:=List.mem_range.1 hi'
  have h1:=hel i hi'
  have hlt:i<elems.length:=by omega
  rw [List.getElem?_eq_getElem hlt] at h1
  obtain ⟨cs,h2,h3⟩:=Option.bind_eq_some_iff.1 h1
  obtain ⟨m,k1,k2,k3⟩:=hE W n cs _ (by omega) h3 (fun q hq=>hw q (by
   simp only [DataW.weights,aG hu]
   exact List.mem_cons_of_mem _ (List.mem_append.2 (.inl (gM (List.mem_map.2 ⟨_,List.getElem_mem hlt,rfl⟩) hq))))) (by
   have h9:=qJ (l:=elems.map (·.1)) (List.mem_map.2 ⟨_,List.getElem_mem hlt,rfl⟩)
   simp only [Rows.uptoBulk] at hbk
   omega)
  exact ⟨(m,cs),h2,k1,k2,k3⟩
 obtain ⟨ps,g1,g2⟩:=p7 (R:=fun (p:α×List Value) i=>W.cells? 0 (a.add (i*sz)) sz=some p.2∧Rps (k0 W) (e p.1) p.2∧One p.2∧B p.1) (List.range len) hcells
 rw [List.length_range] at g1
 have g3:∀ (i:Nat) (p:α×List Value),ps[i]?=some p→W.cells? 0 (a.add (i*sz)) sz=some p.2∧Rps (k0 W) (e p.1) p.2∧One p.2∧B p.1:=fun i p hp=>by
  have hlt:=(List.getElem?_eq_some_iff.1 hp).1
  obtain ⟨p',h1,h2⟩:=g2 i i (by rw [List.getElem?_range (by omega)])
  rw [hp] at h1;injection h1 with h1;subst h1;exact h2
 have hps:(ps.map (·.1)).length=len:=by simp [g1]
 refine ⟨ps.map (·.1),?_,one1 rfl,?_,?_,?_⟩
 rotate_left
 ·rw [hps]
  have h9:len*by'≤(elems.length+rest.length)*by':=Nat.mul_le_mul_right _ (by omega)
  unfold reachBytes at hwl
  omega
 ·rw [hps]
  have h9:=sK (elems.map (·.1))
  rw [List.length_map] at h9
  simp only [Rows.uptoBulk] at hbk
  omega
 ·intro x hx
  obtain ⟨p,hp,rfl⟩:=List.mem_map.1 hx
  obtain ⟨i,hi',rfl⟩:=List.getElem_of_mem hp
  exact (g3 i _ (List.getElem?_eq_getElem hi')).2.2.2
 unfold eL;rw [hps]
 refine .cons (.slc (sz:=sz) (css:=ps.map (·.2)) ⟨by simp [g1],hl,?_,?_⟩ hn ?_ ?_) .nil
 ·intro c hc
  obtain ⟨p,hp,rfl⟩:=List.mem_map.1 hc
  obtain ⟨i,hi',rfl⟩:=List.getElem_of_mem hp
  exact (World.cells?_some (g3 i _ (List.getElem?_eq_getElem hi')).1).2.1
 ·intro hpos
  have hp0:0<ps.length:=by omega
  have hc0:=(World.cells?_some (g3 0 _ (List.getElem?_eq_getElem hp0)).1)
  have hread:=hc0.2.2 0 hsz
  have hspot:a.spot=none:=by
   have hlt:0<(ps[0]).2.length:=by rw [hc0.2.1];exact hsz
   rw [List.getElem?_eq_getElem hlt] at hread
   unfold World.cell? at hread
   cases hs:a.spot with
   | none=>rfl
   | some q =>
    have hsp:((a.add (0*sz)).add 0).spot.isSome=true:=by simp [Addr.add,hs]
    split at hread
    ·rw [if_pos hsp] at hread;cases hread
    cases hread
  obtain ⟨ab,ao,asp⟩:=a
  simp only at hspot;subst hspot
  refine ⟨ab,ao,rfl,fun j c hj=>?_⟩
  rw [List.getElem?_map] at hj
  cases hpj:ps[j]? with
  | none=>rw [hpj] at hj;cases hj
  | some p =>
   rw [hpj] at hj;simp only [Option.map_some,bF] at hj;subst hj
   have hcj:=World.cells?_some (g3 j p hpj).1
   refine ⟨?_,fun i u hu'=>?_⟩
   ·have h1:=hcj.2.2 0 hsz
    have hlt:0<p.2.length:=by rw [hcj.2.1];exact hsz
    rw [List.getElem?_eq_getElem hlt,cL,cL] at h1
    unfold World.cell? at h1
    split at h1
    ·rename_i heq
     have:=eA heq
     exact this
    cases h1
   have hlt:i<sz:=by have:=(List.getElem?_eq_some_iff.1 hu').1;omega
   have h1:=hcj.2.2 i hlt
   rw [cL,cL] at h1
   rw [← hu'];exact h1
 ·intro c hc
  obtain ⟨p,hp,rfl⟩:=List.mem_map.1 hc
  obtain ⟨i,hi',rfl⟩:=List.getElem_of_mem hp
  exact (g3 i _ (List.getElem?_eq_getElem hi')).2.2.1
 have:∀ (l:List (α×List Value)),(∀ p∈l,Rps (k0 W) (e p.1) p.2)→Rpss (k0 W) ((l.map (·.1)).map e) (l.map (·.2)):=fun l=>by
  induction l with
  | nil=>exact fun _=>.nil
  | cons p l ih=>exact fun h=>.cons (h p (by simp)) (ih fun q hq=>h q (by simp [hq]))
 refine this ps fun p hp=>?_
 obtain ⟨i,hi',rfl⟩:=List.getElem_of_mem hp
 exact (g3 i _ (List.getElem?_eq_getElem hi')).2.1
theorem nM {α:Type} {t E sz by':Nat} {z:Value} {e:α→List PV} {B:α→Prop} (hu:bU t=some (.slice E)) (hi:cH E=some (z,sz,by')) (h0:Nat.blt 0 sz=true) (hb0:Nat.blt 0 by'=true) (hE:Opens eh nb E e B):Opens eh nb t (eL e) (fun l=>l.length*by'≤140737488355328∧l.length≤nb∧∀ x∈l,B x):=fun W fuel cs x hx hw =>
 mu (N:=fuel) hu hi h0 hb0 (fun W' f' cs' x' _=>hE W' f' cs' x') W fuel cs x (Nat.lt_succ_self _) hx hw
end
end SX
end Go.Proofs.YtipjgkapcgpgbaaDoor
set_option maxRecDepth 100000
namespace Go.Proofs.YtipjgkapcgpgbaaDoor
open Go Go.ChangeShapes Go.WideShapes Go.RowKit
namespace SX
theorem own_ok:ownKnob Tryd.prog.godebug=none:=by kernel_rfl
theorem o8:laidOutB Tryd.prog=true:=by kernel_rfl
def lw:List (String×DataW Unit):=[("unicode/utf8.acceptRanges",Rows.laid_unicode_utf8_acceptRanges),("customs/nomenclature.lengths",Rows.laid_customs_nomenclature_lengths),("unicode/utf8.first",Rows.laid_unicode_utf8_first)]
mutual
def o9:DataW Unit→List Value
 | .lit (.int k n)=>[.int k n]
 | .agg ds=>p8 ds
 | _=>[]
def p8:List (DataW Unit)→List Value
 | []=>[]
 | d::r=>o9 d++p8 r
end
def c_acc:Array Value:=(o9 Rows.laid_unicode_utf8_acceptRanges).toArray
def nN:Array Value:=#[.int .i64 2,.int .i64 4,.int .i64 6,.int .i64 8]
def p9:Array Value:=(o9 Rows.laid_unicode_utf8_first).toArray
def sL (h:Array Obj) (g:Nat) (cs:Array Value):Array Obj:=h.modify g fun | .cells _ t frozen=>.cells cs t frozen | o=>o
noncomputable def laidWorld (os:Os):World :=
 { World.holding Tryd.prog os ⟨#[],#[],[]⟩ with heap:=sL (sL (sL (World.holding Tryd.prog os ⟨#[],#[],[]⟩).heap 2 c_acc) 0 nN) 1 p9 }
theorem kx:(lw.filter fun x=>x.2.handleName?.isSome)=[]:=by kernel_rfl
def sM (w:World):MemPlace→Bool
 | .cell b off=>match w.heap[b]? with
  | some (.cells c _ (0,0))=>match c[off]? with | some (.iface _ _)=>false | _=>true
  | _=>false
 | _=>true
theorem pa {w:World} {ps:List MemPlace} (h:ps.all (sM w)=true):∀ b off,MemPlace.cell b off∈ps→(∃ c t,w.heap[b]?=some (.cells c t (0,0)))∧∀ u v,w.cell? ⟨b,off,none⟩=some (.iface u v)→Value.okWide Tryd.prog w .any 0 u v:=fun b off hm=>by
 have:=List.all_eq_true.1 h _ hm
 unfold sM at this
 split at this
 ·rename_i b' off' e
  injection e with e1 e2;subst e1;subst e2
  split at this
  ·rename_i c t heq
   refine ⟨⟨c,t,heq⟩,fun u v hc=>?_⟩
   simp only [World.cell?,heq] at hc
   split at this
   ·cases this
   rename_i hno;exact absurd hc (by simpa using hno u v)
  cases this
 rename_i hno;exact absurd rfl (hno b off)
theorem kV (os:Os) (args:Array Value):laidMetH Tryd.prog lw ((laidWorld os).forCall (fun _ _=>0) ⟨#[],args,[]⟩).memory:=by
 unfold laidMetH
 rw [kx]
 refine ⟨_,⟨2,132,c_acc,8,[],_,by kernel_rfl,by kernel_rfl,by kernel_rfl,by kernel_rfl,⟨0,89,nN,8,[],_,by kernel_rfl,by kernel_rfl,by kernel_rfl,by kernel_rfl,⟨1,129,p9,8,[],_,by kernel_rfl,by kernel_rfl,by kernel_rfl,by kernel_rfl,rfl,rfl⟩,rfl⟩,rfl⟩,?_,?_⟩
 ·exact of_decide_eq_true (by kernel_rfl)
 exact pa (by kernel_rfl)
theorem fk {H:Type} {eh:TypeId×Value→H} {P:Program} {w:World} {base:Nat} {sp:Nat→Bool} {held:Bool} {fuel:Nat} {t:TypeId} {k:IntKind} {c:Value} {y:DataW H×List MemPlace} (ht:P.underlying t=some (.int k)) (h:DataW.trod eh P w base sp held fuel t [c]=some y):∃ n,c=.int k n∧y=(.lit (.int k n),[]):=by
 obtain ⟨n,h1,h2,_⟩:=DataW.trod_int ht h
 injection h1 with h1 _
 exact ⟨n,h1,h2⟩
theorem nO {W:World} (h:laidMetH Tryd.prog lw W):GOK (k0 W):=by
 unfold laidMetH at h
 rw [kx] at h
 obtain ⟨ps,⟨_,_,_,_,_,_,_,_,_,_,⟨g,t,cs,fuel,p,q,hg,ht,hvar,hd,_,_⟩,_⟩,_⟩:=h
 obtain rfl:=Option.some.inj ((show Tryd.prog.globalNamed "customs/nomenclature.lengths" = some 0 by kernel_rfl).symm.trans hg)
 obtain rfl:=Option.some.inj ((show (Tryd.prog.globals[0]?).map (·.type)=some 89 by kernel_rfl).symm.trans ht)
 have hcs:cs=nN:=by
  obtain ⟨l⟩:=cs
  cases fuel with
  | zero=>simp [DataW.trod] at hd
  | succ fuel =>
   have hc1:=(ia (t:=89) rfl).1
   have hc2:=(ia (t:=3) rfl).1
   have hu1:Tryd.prog.underlying 89=some (.array 4 3):=aG rfl
   simp only [DataW.trod,hu1,hc1,hc2] at hd
   split at hd
   ·rename_i hl
    obtain ⟨c0,c1,c2,c3,rfl⟩:∃ c0 c1 c2 c3,l=[c0,c1,c2,c3]:=by
     match l,hl with
     | [a,b,c,d],_=>exact ⟨a,b,c,d,rfl⟩
    have e:List.range 4=[0,1,2,3]:=rfl
    rw [e] at hd
    simp only [Option.map_eq_some_iff,List.mapM_cons,List.mapM_nil,Option.bind_eq_bind,Option.bind_eq_some_iff,Option.pure_def,bF] at hd
    obtain ⟨xs,⟨y0,h0,_,⟨y1,h1,_,⟨y2,h2,_,⟨y3,h3,_,rfl,rfl⟩,rfl⟩,rfl⟩,rfl⟩,hx⟩:=hd
    have hui:Tryd.prog.underlying 3=some (.int .i64):=aG rfl
    obtain ⟨n0,rfl,rfl⟩:=fk hui h0
    obtain ⟨n1,rfl,rfl⟩:=fk hui h1
    obtain ⟨n2,rfl,rfl⟩:=fk hui h2
    obtain ⟨n3,rfl,rfl⟩:=fk hui h3
    simp [Rows.laid_customs_nomenclature_lengths] at hx
    obtain ⟨⟨rfl,rfl,rfl,rfl⟩,_⟩:=hx
    rfl
   cases hd
 subst hcs
 have hcell:∀ j u,nN[j]?=some u→W.cell? ⟨0,j,none⟩=some u:=fun j u hu=>by
  have:=World.var?_cell hg hvar j
  rw [this];exact hu
 refine ⟨?_,fun j u hu=>?_⟩
 ·have h0:=hcell 0 _ rfl
  unfold World.cell? at h0
  split at h0
  ·rename_i heq;exact eA heq
  cases h0
 rw [Nat.zero_add];exact hcell j u (by simpa [nN] using hu)
end SX
end Go.Proofs.YtipjgkapcgpgbaaDoor
set_option maxRecDepth 100000
namespace Go.Proofs.YtipjgkapcgpgbaaDoor
open Go Go.ChangeShapes Go.WideShapes Go.RowKit
namespace SX
theorem inv0 (W:World):Zd ⟨k0 W,[]⟩ [] (k0 W):=⟨.refl _ _,fun _ h=>h,(fun _ h=>by cases h),(fun _ h=>by cases h),.nil⟩
theorem sN {W:World} {ρ:List Res} {κ:Kr} (h:Zd ⟨k0 W,[]⟩ ρ κ):Below W.heap.size W κ.w:=⟨h.le.os,h.le.tape,h.le.output,h.le.kle.size,fun k hk=>h.le.same k hk (by simp)⟩
section
variable {H:Type} {eh:TypeId×Value→H}
theorem kW {W W':World} (hb:Below W.heap.size W W') {ts:List TypeId} (hr:∀ t∈ts,Tryd.prog.readableRec t=true∧t<Tryd.prog.types.size):∀ {vs:List Value} {ds:List (DataW H)} {ps:List MemPlace},DataW.TrodAll eh Tryd.prog W 0 (fun _=>true) true ts vs ds ps→(∀ p∈ps,p.block<W.heap.size)→DataW.TrodAll eh Tryd.prog W' 0 (fun b=>decide (b<W.heap.size)) true ts vs ds ps:=by
 induction ts with
 | nil=>intro vs ds ps h _;cases vs <;> cases ds <;> first | exact h | cases h
 | cons t ts ih =>
  intro vs ds ps h hlt
  cases vs with
  | nil=>cases h
  | cons v vs =>
   cases ds with
   | nil=>cases h
   | cons d ds =>
    obtain ⟨p,q,h1,h2,e⟩:=h
    have ht:=hr t (by simp)
    exact ⟨p,q,Below.trod o8 ht.1 ht.2 h1 hb (fun x hx=>hlt x (by rw [e];simp [hx])),ih (fun u hu=>hr u (by simp [hu])) h2 (fun x hx=>hlt x (by rw [e];simp [hx])),e⟩
theorem readB {ts:List TypeId} (h:(ts.all fun t=>Tryd.prog.readableRec t&&Nat.blt t Tryd.prog.types.size)=true):∀ t∈ts,Tryd.prog.readableRec t=true∧t<Tryd.prog.types.size:=fun t ht=>by
 have:=List.all_eq_true.1 h t ht
 rw [Bool.and_eq_true] at this
 exact ⟨this.1,by have h2:=this.2;exact Nat.le_of_ble_eq_true h2⟩
theorem sO {f tb:Nat} {fn:Func} {s:ChangeSpec} {W:World} {args:Array Value} {ds gs:List (DataW H)} {before:List MemPlace} {pargs:List PV}
    (hrd:∀ t∈fn.params.toList,Tryd.prog.readableRec t=true∧t<Tryd.prog.types.size) (hres:fn.resultTypes=#[tb]) (hub:Tryd.prog.underlying tb=some .bool) (hvars:s.vars=[])
    (hspec:s.fn H ds={ results:=[.lit (.bool true)],args:=ds }) (hW:DataW.Whole eh Tryd.prog fn.params.toList s.vars false W args.toList ds gs before) (hG:GOK (k0 W)) (hargs:Rps (k0 W) pargs args.toList) (hPF:PF f pargs (.v (.bool true))) :
    Calls Tryd.prog f args W fun e W'=>∃ v,e=.returned v∧s.post eh Tryd.prog fn false true false false W args v W':=by
  have hc:=(hPF (k0 W) args.toList hG hargs).2 (inv0 W)
  have e:args.toList.toArray=args:=by simp
  rw [e] at hc
  refine Calls.mono hc fun en W' ⟨v,ρ',κ',h1,h2,h3,h4,h5⟩=>⟨v,h1,?_⟩
  subst h2
  have hv:=h5.val
  subst hv
  have hb:=sN h3
  have hW':=hW
  obtain ⟨p,q,hA,hV,rfl,hfz,hnd⟩:=hW
  rw [hvars] at hV
  obtain ⟨rfl,rfl⟩:gs=[]∧q=[]:=by
    cases gs with
    | nil=>exact ⟨rfl,hV⟩
    | cons g r=>exact absurd hV (by intro h;cases h)
  refine ⟨ds,[],_,[],p,[],hW',?_,?_,?_,hb.frame _,fun h=>by cases h⟩
  · rw [List.append_nil,hspec,hres];exact trodAll_mk1 (shut_bool hub true)
  · rw [List.append_nil,hspec];exact kW hb hrd hA (DataW.TrodAll.lt hA)
  rw [hvars,List.append_nil,hspec];rfl
theorem trodAll_cons {W:World} {t:TypeId} {ts:List TypeId} {vs:List Value} {ds:List (DataW H)} {ps:List MemPlace} (h:DataW.TrodAll eh Tryd.prog W 0 (fun _=>true) true (t::ts) vs ds ps):∃ v vs' d ds' p q,vs=v::vs'∧ds=d::ds'∧DataW.Trod eh Tryd.prog W 0 (fun _=>true) true t v d p∧DataW.TrodAll eh Tryd.prog W 0 (fun _=>true) true ts vs' ds' q:=by
 cases vs with
 | nil=>cases h
 | cons v vs =>
  cases ds with
  | nil=>cases h
  | cons d ds=>obtain ⟨p,q,h1,h2,_⟩:=h;exact ⟨v,vs,d,ds,p,q,rfl,rfl,h1,h2⟩
theorem trodAll_nil {W:World} {vs:List Value} {ds:List (DataW H)} {ps:List MemPlace} (h:DataW.TrodAll eh Tryd.prog W 0 (fun _=>true) true [] vs ds ps):vs=[]∧ds=[]:=by
 cases vs <;> cases ds <;> first | exact ⟨rfl,rfl⟩ | cases h
theorem nP {l:Array TypeId} (h:(l.toList.all fun t => !Tryd.prog.wantsStandIn t)=true) {j:Nat} {t:TypeId} (ht:l[j]?=some t):Tryd.prog.wantsStandIn t=false:=by
 have:=List.all_eq_true.1 h t (by have:=Array.mem_of_getElem? ht;simpa using this)
 simpa using this
theorem light_head {t:Nat} {ts:List Nat} {d:DataW H} {ds:List (DataW H)} (h:(DataW.weightsEach Tryd.prog (t::ts) (d::ds)).all (· ≤ reachBytes)=true):Light t d∧(DataW.weightsEach Tryd.prog ts ds).all (· ≤ reachBytes)=true:=by
 simp only [DataW.weightsEach,List.all_append,Bool.and_eq_true] at h
 exact ⟨fun n hn=>by simpa using List.all_eq_true.1 h.1 n hn,h.2⟩
def ky:TypeDesc→Bool
 | .int _ | .bool | .string | .slice _=>true
 | _=>false
theorem not_agg {W:World} {r:Reach} {base t:Nat} {v:Value} {D:TypeDesc} (hu:bU t=some D) (hD:ky D=true) (h:Value.okWide Tryd.prog W r base t v):∀ cs,v.cells.toList=[cs]→v=cs:=fun cs he=>by
 cases v with
 | agg arr =>
  exfalso
  unfold Value.okWide at h
  rw [aG hu] at h
  cases D <;> first | (revert hD;simp [ky];done) | (simp only at h;unfold Cell.okWide at h;rw [aG hu] at h;simp only at h;unfold Cell.ok at h;rw [aG hu] at h;simp at h)
 | _=>simpa [Value.cells] using he
theorem arg_one {nb:Nat} {W:World} {r:Reach} {base t:Nat} {v:Value} {D:TypeDesc} {α:Type} {e:α→List PV} {B:α→Prop} {d:DataW H} {ps:List MemPlace} (hu:bU t=some D) (hD:ky D=true) (hO:Opens eh nb t e B) (h1:∀ m,∃ p,e m=[p]) (h:Value.okWide Tryd.prog W r base t v) (hd:DataW.Trod eh Tryd.prog W 0 (fun _=>true) true t v d ps) (hl:Light t d) (hn:Rows.uptoBulk d≤nb):∃ m,Rps (k0 W) (e m) [v]∧B m:=by
 obtain ⟨fuel,hf⟩:=hd
 obtain ⟨m,h2,_,h9⟩:=hO W fuel _ _ hf hl hn
 refine ⟨m,?_,h9⟩
 obtain ⟨p,hp⟩:=h1 m
 rw [hp] at h2
 generalize hc:v.cells.toList=cs at h2
 obtain ⟨w,ws,rfl,h3,h4⟩:=h2.cons_inv
 rw [h4.nil_inv] at hc
 rw [not_agg hu hD h w hc,hp]
 exact .cons h3 .nil
end
end SX
end Go.Proofs.YtipjgkapcgpgbaaDoor
namespace Go.Proofs.YtipjgkapcgpgbaaDoor
namespace SX
open Go
structure Zb where
 Product:Int
 Value:Int
 deriving Inhabited,DecidableEq
def Zb.enc (m:Zb):List PV:=[pI m.Product,pI m.Value]
structure Za where
 ID:Int
 Code:ByteArray
 Country:ByteArray
 Price:Int
 Obtained:Bool
 Processes:(List ByteArray)
 Inputs:(List Zb)
 deriving Inhabited,DecidableEq
def Za.enc (m:Za):List PV:=[pI m.ID,pS m.Code,pS m.Country,pI m.Price,pB m.Obtained,pL eS m.Processes,pL Zb.enc m.Inputs]
structure Zc where
 L:(List Int)
 I:Int
 deriving Inhabited,DecidableEq
def Zc.enc (m:Zc):List PV:=[pL eI m.L,pI m.I]
abbrev aC (m:Za):List PV:=[pI m.ID,pS m.Code,pS m.Country,pI m.Price,pB m.Obtained,pL eS m.Processes,pL Zb.enc m.Inputs]

section
variable {o:Oper} {σ:PEnv} {ρ:List PRes} {f:Nat} {l:List Operand} {ts:Array Nat} {pargs caps:List PV} {x:Operand} {KV:PV→List PRes→Prop}
theorem qL {R:PV→List PRes→Prop} {ρ1 ρ2:List PRes} (ho:o.op=.call { callee:=.value x,args:=l.toArray,argTypes:=ts }) (hx:av σ x=.fn f caps) (ha:l.map (av σ)++caps=pargs) (hp:ρ.Perm (ρ1++ρ2)) (hc:PCall f pargs ρ1 R) (h:∀ pv ρ',R pv ρ'→KV pv (ρ'++ρ2)):POpL o σ ρ KV:=fun κ σ' ρ' g hs hr=>by
 obtain ⟨rs,h1,h2⟩:=hr.perm hp
 obtain ⟨r1,r2,rfl,h3,h4⟩:=h2.split
 have hv:=hs.ev x
 rw [hx] at hv
 generalize hw:ev σ' x=fv at hv
 cases hv with
 | fn hcap=>exact mP (first:=[]) ho hw rfl h1 (hc κ _ r1 g (by rw [← ha];exact (eb hs l).app hcap) h3) fun v ρ'' κ' hk ⟨pv,ρp,g1,g2,g3⟩=>⟨pv,ρp++ρ2,g1,g2.app (h4.mono hk),h pv ρp g3⟩
end
theorem mv {n:Nat} {x:Code} {K:Exit→PPost} {σ:PEnv} {ρ l:List PRes} {b k T:Nat} {cs:List PV} (t:Nat) (ht:σ t=.v (.pointer (some ⟨b,k,none⟩))) (hp:PPick ρ (.b b T cs) l) (h:PWC n x K (cn σ t (.ref cs k)) (.frb b cs::l)):PWC n x K σ ρ:=fun β κ σ' ρ' g hs hr=>by
  obtain ⟨r,l',h1,h2,h3⟩:=hr.pick hp
  cases h2 with
  | b ho hc=>exact rF h1 rfl fun κ' hk hS hsay=>ng (by
      have hfr:RRel κ' (.frb b cs) jZ:=.frb (oJ hS hsay) ho (hc.mono hk)
      exact h β κ' σ' _ (g.mono hk) (fG (hs.mono hk) (rR hfr (by have:=hs t;rw [ht] at this;exact this.val))) (.cons hfr (h3.mono hk)))
theorem pb {o:Oper} {σ:PEnv} {ρ:List PRes} {K:PV→List PRes→Prop} (h:POpL { o with guard:=none } σ ρ K):POpL o σ ρ K:=h
theorem iB {n:Nat} {ops:Array Oper} {o:Oper} {rest:List Oper} {K:PPost} {σ:PEnv} {ρ:List PRes} {d t E len sz by':Nat} {c:Bool} {z:Value} {parts:List (Nat×Operand)} {css:List (List PV)} (hg:PGuardIs ops σ o c) (hd:o.dst=some d) (hlt:Nat.blt d n=true) (ho:o.op=.buildSlice t len parts.toArray) (hu:bU t=some (.slice E)) (hi:cH E=some (z,sz,by')) (hz:Nat.beq z.cells.size sz=true)
    (hp:c=true→PLit σ 0 parts css) (hl:Nat.beq css.length len=true) (hw:(css.all fun cs=>Nat.beq cs.length sz)=true) (hb:Nat.ble (len*sz) 16777216=true) (hb2:Nat.ble len 16777216=true) (h:PWL n ops rest K (cn σ d (pgv c (.slc len css))) ρ):PWL n ops (o::rest) K σ ρ:=by
  cases c with
  | true =>
    refine sE hg hd hlt (pb (pl_fz (cJ (o:={ o with guard:=none }) rfl ho hu hi hz (hp rfl) hl hw hb hb2 fun b=>⟨_,_,_,_,_,_,_,rfl,br,?_⟩)))
    rw [ec] at h;exact h
  | false=>exact sF hg hd hlt h
section
variable {o:Oper} {σ:PEnv} {ρ:List PRes} {x y:Operand} {t:Nat} {K:PV→List PRes→Prop} {α:Type} {enc:α→List PV} {xs:List α} {m m':α} {i:Int}
end

end SX
namespace SX
open Go
attribute [local irreducible] PWL PWC PWD POpL POpQ PEv PGuardIs PSub PPick PUpd PSplice PFill PLit PF PFV PCall FOk gr df jf jg gD ip Cov PHolds aT idx app mk gd lb nz tk cat sub lW jt ior rW qw gu rY rZ IntKind.wrap Int.tmod Int.tdiv Op.bytesLess strOfNums
theorem aJ {n:Nat} {l:List Oper} {KC:Exit→PPost} {σ:PEnv} {ρ:List PRes} {id:Nat} (D:List Nat) (h:gK n l.toArray ρ l [] [] σ [] D=fA n l.toArray ρ l [] [] σ []) (hw:KC .normal (fJ σ D []) ρ):PWC n (.region id l.toArray false) KC σ ρ:=aK [] D [] cw h hw
theorem eZ {n:Nat} {l:List Oper} {KC:Exit→PPost} {σ:PEnv} {ρ:List PRes} {id:Nat} (H D:List Nat) (X:List (Nat×PV)) (h:gK n l.toArray ρ l H [] σ (X.map (·.1)) D=fA n l.toArray ρ l H [] σ (X.map (·.2))) (hw:KC .normal (fJ σ D X) ρ):PWC n (.region id l.toArray false) KC σ ρ:=aK H D X cw h hw
theorem aj {n:Nat} {l:List Oper} {KC:Exit→PPost} {σ:PEnv} {ρ:List PRes} {id:Nat} (X:List (Nat×PV)) (h:gK n l.toArray ρ l [] [] σ (X.map (·.1)) []=fA n l.toArray ρ l [] [] σ (X.map (·.2))) (hw:KC .normal (fJ σ [] X) ρ):PWC n (.region id l.toArray false) KC σ ρ:=aK [] [] X cw h hw
theorem ak {n:Nat} {l:List Oper} {KC:Exit→PPost} {σ:PEnv} {ρ:List PRes} {id:Nat} (D:List Nat) (X:List (Nat×PV)) (h:gK n l.toArray ρ l [] [] σ (X.map (·.1)) D=fA n l.toArray ρ l [] [] σ (X.map (·.2))) (hw:KC .normal (fJ σ D X) ρ):PWC n (.region id l.toArray false) KC σ ρ:=aK [] D X cw h hw
theorem sP {n:Nat} {ops:Array Oper} {l:List (Nat×Oper)} {K:PPost} {σ:PEnv} {ρd ρs:List PRes} (k:Nat) (H D:List Nat) (X:List (Nat×PV)) (h:nH n ops ρs (l.take k) H [] σ (X.map (·.1)) D=fA n ops ρs ((l.take k).map (·.2)) H [] σ (X.map (·.2))) (hw:PWD n ops K (l.drop k) (fJ σ D X) ρd ρs):PWD n ops K l σ ρd ρs:=dh k H D X cw h hw
theorem sQ {n:Nat} {ops:Array Oper} {l:List (Nat×Oper)} {K:PPost} {σ:PEnv} {ρd ρs:List PRes} (k:Nat) (X:List (Nat×PV)) (h:nH n ops ρs (l.take k) [] [] σ (X.map (·.1)) []=fA n ops ρs ((l.take k).map (·.2)) [] [] σ (X.map (·.2))) (hw:PWD n ops K (l.drop k) (fJ σ [] X) ρd ρs):PWD n ops K l σ ρd ρs:=dh k [] [] X cw h hw
theorem kz {n:Nat} {ops:Array Oper} {l:List (Nat×Oper)} {K:PPost} {σ:PEnv} {ρd ρs:List PRes} (k:Nat) (D:List Nat) (X:List (Nat×PV)) (h:nH n ops ρs (l.take k) [] [] σ (X.map (·.1)) D=fA n ops ρs ((l.take k).map (·.2)) [] [] σ (X.map (·.2))) (hw:PWD n ops K (l.drop k) (fJ σ D X) ρd ρs):PWD n ops K l σ ρd ρs:=dh k [] D X cw h hw
theorem fP {n:Nat} {ops:Array Oper} {l:List Oper} {K:PPost} {σ:PEnv} {ρ:List PRes} (D:List Nat) (h:gK n ops ρ l [] [] σ [] D=fA n ops ρ l [] [] σ []) (hw:K (fJ σ D []) ρ):PWL n ops l K σ ρ:=eF [] D [] cw h hw
theorem aQ {n:Nat} {ops:Array Oper} {l:List Oper} {K:PPost} {σ:PEnv} {ρ:List PRes} (X:List (Nat×PV)) (h:gK n ops ρ l [] [] σ (X.map (·.1)) []=fA n ops ρ l [] [] σ (X.map (·.2))) (hw:K (fJ σ [] X) ρ):PWL n ops l K σ ρ:=eF [] [] X cw h hw
theorem fQ {n:Nat} {ops:Array Oper} {l:List Oper} {K:PPost} {σ:PEnv} {ρ:List PRes} (D:List Nat) (X:List (Nat×PV)) (h:gK n ops ρ l [] [] σ (X.map (·.1)) D=fA n ops ρ l [] [] σ (X.map (·.2))) (hw:K (fJ σ D X) ρ):PWL n ops l K σ ρ:=eF [] D X cw h hw
theorem sR {n:Nat} {ops:Array Oper} {l:List Oper} {K:PPost} {σ:PEnv} {ρ:List PRes} (k:Nat) (H:List Nat) (X:List (Nat×PV)) (h:gK n ops ρ (l.take k) H [] σ (X.map (·.1)) []=fA n ops ρ (l.take k) H [] σ (X.map (·.2))) (hw:PWL n ops (l.drop k) K (fJ σ [] X) ρ):PWL n ops l K σ ρ:=bz k H [] X cw h hw
theorem cD {n:Nat} {ops:Array Oper} {l:List Oper} {K:PPost} {σ:PEnv} {ρ:List PRes} (k:Nat) (H D:List Nat) (X:List (Nat×PV)) (h:gK n ops ρ (l.take k) H [] σ (X.map (·.1)) D=fA n ops ρ (l.take k) H [] σ (X.map (·.2))) (hw:PWL n ops (l.drop k) K (fJ σ D X) ρ):PWL n ops l K σ ρ:=bz k H D X cw h hw
theorem aX {n:Nat} {ops:Array Oper} {l:List Oper} {K:PPost} {σ:PEnv} {ρ:List PRes} (k:Nat) (X:List (Nat×PV)) (h:gK n ops ρ (l.take k) [] [] σ (X.map (·.1)) []=fA n ops ρ (l.take k) [] [] σ (X.map (·.2))) (hw:PWL n ops (l.drop k) K (fJ σ [] X) ρ):PWL n ops l K σ ρ:=bz k [] [] X cw h hw
theorem e8 {n:Nat} {ops:Array Oper} {l:List Oper} {K:PPost} {σ:PEnv} {ρ:List PRes} (k:Nat) (D:List Nat) (X:List (Nat×PV)) (h:gK n ops ρ (l.take k) [] [] σ (X.map (·.1)) D=fA n ops ρ (l.take k) [] [] σ (X.map (·.2))) (hw:PWL n ops (l.drop k) K (fJ σ D X) ρ):PWL n ops l K σ ρ:=bz k [] D X cw h hw
theorem aB {n:Nat} {ops:Array Oper} {o:Oper} {rest:List Oper} {K:PPost} {σ:PEnv} {ρ:List PRes} {d:Nat} (hg:(o.guard,o.dst,Nat.blt d n)=(none,some d,true)) (h:POpL o σ ρ fun p ρ'=>PWL n ops rest K (cn σ d p) ρ'):PWL n ops (o::rest) K σ ρ:=rQ (Prod.mk.inj hg).1 (Prod.mk.inj (Prod.mk.inj hg).2).1 (Prod.mk.inj (Prod.mk.inj hg).2).2 h
theorem zz {α:Type} {t:Nat} {enc:α→PV} {σ:PEnv} {ρ:List PRes} {v:α} (r:α) (h:some v=some r) (e:σ t=enc v):ip [.tmp t] (fun pv ρ'=>pv=enc r∧ρ'=[]) .ret σ ρ:=by cases h;exact bG (ed (bK e)) ey ⟨rfl,rfl⟩
theorem bi {x y1:Code} {K1:Exit→PPost} {ρ1:List PRes} {n1:Nat} {σ1:PEnv} (h1:PWC n1 x (gr n1 y1 K1) σ1 ρ1):gr n1 (.seq x y1) K1 .normal σ1 ρ1:=ah (aa h1)
theorem dk {K1:Exit→PPost} {ρ1:List PRes} {n1:Nat} {σ1:PEnv} (h1:K1 .ret σ1 ρ1):gr n1 .ret K1 .normal σ1 ρ1:=ah (dg h1)
def cb (p0:Int):Option Bool:=some ((decide (65≤p0))&&(decide (p0≤90)))
theorem dp {p0:Int} {r:Bool}  (h:cb p0=some r):PF 37 [pY p0] (pB r):=by
 unfold cb at h
 refine bW ?_
 refine aI Tryd.func37 rfl Tryd.ntmps37 Tryd.results37 rfl (aa (aJ [2] (by kernel_rfl) (bi (ak (rg 3 6) [(2,pB ((decide (65≤p0))&&(decide (p0≤90))))] (by kernel_rfl) (dk ?_)))))
 exact zz r h rfl
def cr (p0:ByteArray):Option Bool:=(gd ((p0.size:Int) == 2) (idx p0.data.toList 0)).bind fun c1=>(gd ((p0.size:Int) == 2) (cb (c1.toNat:Int))).bind fun x2=>(gd (((p0.size:Int) == 2)&&x2) (idx p0.data.toList 1)).bind fun c3=>(gd (((p0.size:Int) == 2)&&x2) (cb (c3.toNat:Int))).bind fun x4=>some ((((p0.size:Int) == 2)&&x2)&&x4)
theorem e9 {p0:ByteArray} {r:Bool}  (h:cr p0=some r):PF 13 [pS p0] (pB r):=by
 unfold cr at h
 refine bW ?_
 refine aI Tryd.func13 rfl Tryd.ntmps13 Tryd.results13 rfl (aa (aJ [2] (by kernel_rfl) (bi (ae h fun c1 hc1 h=>ae h fun x2 hx2 h=>ae h fun c3 hc3 h=>ae h fun x4 hx4 h=>aK [] (rg 3 13) [(2,pB ((((p0.size:Int) == 2)&&x2)&&x4))] (fosxg 5 (dO hc1) (hQ 6 (fun hc=>dp (dO hx2 hc)) (fosxg 10 (dO hc3) (hQ 11 (fun hc=>dp (dO hx4 hc)) cw)))) (by kernel_rfl) (dk ?_)))))
 exact zz r h rfl
def bf (p0:(List Za)) (p1:(Za→Option Bool)):Option Int:=(aT (S:=Int) (T:=(Unit)⊕(_)) (fun v1=>cond (decide (v1<(p0.length:Int))) ((idx p0 v1).bind fun m5=>(p1 m5).bind fun x6=>cond x6 (some (.inr (.inr v1))) (some (.inl (IntKind.i64.wrap (v1+1))))) (some (.inr (.inl ())))) FUEL 0).bind fun q=>match q with | .inl _=>some (-1) | .inr e=>some e
theorem cx {p0:(List Za)} {p1:(Za→Option Bool)} {r:Int} {g1:PV} (hg1:∀ {y0:Za} {w:Bool},p1 y0=some w→PFV g1 [.agg (aC y0)] (pB w)) (h:bf p0 p1=some r):PF 65 [pL Za.enc p0,g1] (pI r):=by
 unfold bf at h
 refine bW ?_
 refine aI Tryd.func65 rfl Tryd.ntmps65 Tryd.results65 rfl (aa (aJ [4] (by kernel_rfl) (bi (aa (ak [6] [(7,pI (p0.length:Int)),(8,pI 0)] (by kernel_rfl) (ah (ae h fun q3 hq3 h=>?_)))))))
 refine aM (Y:=Unit×Unit) (fun (_,_)=>[]) (fun (_,_)=>[]) (fun (_,_)=>q3=Sum.inl ()) ?_ ?_
 ·refine am ?_
  refine aO (Y:=Unit) (S:=Int) _ hq3 (fun _ v1=>[(0,pL Za.enc p0),(1,g1),(7,pI (p0.length:Int)),(8,pI v1)]) (fun _ v1=>[]) () (mH rfl) ey ?_
  rintro _ v1 o τ hb2;(try dsimp only at hb2);dsimp only [aF]
  refine aa (aj [(9,pB (decide (v1<(p0.length:Int))))] (by kernel_rfl) (bi (cX rfl hb2 (fun hc4 hb2=>?_) fun hc4 hb2=>?_)))
  ·refine al ?_
   refine bi (am (aa (ak [10] [(5,pI v1)] (by kernel_rfl) (bi (ae hb2 fun m5 hm5 hb2=>ae hb2 fun x6 hx6 hb2=>aK [] (rg 11 5) [(16,pB x6)] (dQ 3 Za.enc hm5 (focv 5 (hg1 hx6) cw)) (by kernel_rfl) (ah (cX rfl hb2 (fun hc7 hb2=>?_) fun hc7 hb2=>?_)))))))
   ·refine aa ?_
    refine ak [17] [(4,pI v1)] (by kernel_rfl) (dk (ai (ap ?_)))
    refine aL hb2 (fun ht=>?_);subst ht
    refine ai (aN ?_)
    exact zz r h rfl
   refine al ?_
   refine an (ah (ak [18] [(8,pI (IntKind.i64.wrap (v1+1)))] (by kernel_rfl) ?_))
   exact bk hb2 () (mH rfl) ey
  refine aS ?_
  refine ar (aq hb2 (fun ht=>au rfl ?_))
  exact bc ((),()) kQ ey ht.symm
 rintro ⟨_,_⟩ τ hz;(try dsimp only at hz);subst q3;(try dsimp only at h);dsimp only [aF]
 refine aa (aj [(4,pI (-1))] (by kernel_rfl) (dk ?_))
 exact zz r h rfl
def ba (p0:(List Za)) (p1:(Za→Option Bool)):Option Bool:=(bf p0 p1).bind fun x1=>some (decide (0≤x1))
theorem ce {p0:(List Za)} {p1:(Za→Option Bool)} {r:Bool} {g1:PV} (hg1:∀ {y0:Za} {w:Bool},p1 y0=some w→PFV g1 [.agg (aC y0)] (pB w)) (h:ba p0 p1=some r):PF 50 [pL Za.enc p0,g1] (pB r):=by
 unfold ba at h
 refine bW ?_
 refine aI Tryd.func50 rfl Tryd.ntmps50 Tryd.results50 rfl (aa (aJ [4] (by kernel_rfl) (bi (ae h fun x1 hx1 h=>aK [] [5,6,7,8] [(4,pB (decide (0≤x1)))] (eu 2 (cx hg1 hx1) cw) (by kernel_rfl) (dk ?_)))))
 exact zz r h rfl
def bN (p0:Za) (p1:Zb):Option Bool:=some (p0.ID == p1.Product)
theorem dV {p0:Za} {p1:Zb} {r:Bool}  (h:bN p0 p1=some r):PF 51 [.agg (aC p0),.ref [pI p1.Product,pI p1.Value] 0] (pB r):=by
 unfold bN at h
 refine bW ?_
 refine aI Tryd.func51 rfl Tryd.ntmps51 Tryd.results51 rfl (aa (af (aB rfl (gH (cs:=(aC p0)) rfl rfl (fun b1=>fP [3] (by kernel_rfl) (bi (eZ [0] (rg 4 5) [(3,pB (p0.ID == p1.Product))] (by kernel_rfl) (dk ?_))))))))
 exact zz r h rfl
def bY (p0:(List Za)) (p1:(List Zb)):Option Int:=(aT (S:=Int) (T:=(Unit)⊕(_)) (fun v1=>cond (decide (v1<(p1.length:Int))) ((idx p1 v1).bind fun m5=>(gd (decide (0<v1)) (idx p1 (IntKind.i64.wrap (v1 - 1)))).bind fun m7=>cond ((decide (0<v1))&&(decide (m5.Product≤m7.Product))) (some (.inr (.inr (9:Int)))) ((ba p0 (fun y9=>bN y9 m5)).bind fun x10=>cond (!x10) (some (.inr (.inr (6:Int)))) (cond ((decide (m5.Value<0))||(decide (1000000000000<m5.Value))) (some (.inr (.inr (2:Int)))) (some (.inl (IntKind.i64.wrap (v1+1))))))) (some (.inr (.inl ())))) FUEL 0).bind fun q=>match q with | .inl _=>some (0:Int) | .inr e=>some e
theorem ew {p0:(List Za)} {p1:(List Zb)} {r:Int}  (h:bY p0 p1=some r):PF 28 [pL Za.enc p0,pL Zb.enc p1] (pI r):=by
 unfold bY at h
 refine bW ?_
 refine aI Tryd.func28 rfl Tryd.ntmps28 Tryd.results28 rfl (aa (aJ [4] (by kernel_rfl) (bi (aa (aj [(7,pL Zb.enc p1),(8,pI (p1.length:Int)),(9,pI 0)] (by kernel_rfl) (ah (ae h fun q3 hq3 h=>?_)))))))
 refine aM (Y:=Unit×Unit) (fun (_,_)=>[]) (fun (_,_)=>[]) (fun (_,_)=>q3=Sum.inl ()) ?_ ?_
 ·refine am ?_
  refine aO (Y:=Unit) (S:=Int) _ hq3 (fun _ v1=>[(0,pL Za.enc p0),(1,pL Zb.enc p1),(7,pL Zb.enc p1),(8,pI (p1.length:Int)),(9,pI v1)]) (fun _ v1=>[]) () (pU rfl) ey ?_
  rintro _ v1 o τ hb2;(try dsimp only at hb2);dsimp only [aF]
  refine aa (aj [(10,pB (decide (v1<(p1.length:Int))))] (by kernel_rfl) (bi (cX rfl hb2 (fun hc4 hb2=>?_) fun hc4 hb2=>?_)))
  ·refine al ?_
   refine bi (am (aa (ae hb2 fun m5 hm5 hb2=>af (bz 3 [] [12] [(11,pI v1),(13,.agg [pI m5.Product,pI m5.Value])] (dQ 1 Zb.enc hm5 cw) (by kernel_rfl) (aB rfl (ee (cs:=[pI 0,pI 0]) rfl rfl rfl rfl (fun b6=>aX 1 [(5,pI v1)] (by kernel_rfl) (er rfl rfl (co (vs:=[pI m5.Product,pI m5.Value]) rfl rfl rfl rfl rfl ll zl2 (bM (bi (aa (dA (ρd:=[]) [(0,0),(1,0),(2,0),(3,0),(4,0),(5,0),(6,0),(7,0),(8,0),(9,0),(10,0),(11,0),(12,0)] _ (List.Perm.refl _) (by kernel_rfl) rfl (ae hb2 fun m7 hm7 hb2=>dh 13 [0] (rg 14 12) [(26,pB ((decide (0<v1))&&(decide (m5.Product≤m7.Product))))] (iw 8 Zb.enc (dO hm7) cw) (by kernel_rfl) (eC (ah (cX rfl hb2 (fun hc8 hb2=>?_) fun hc8 hb2=>?_)))))))))))))))))
   ·refine aa ?_
    refine aj [(4,pI 9)] (by kernel_rfl) (dk (ap (ai (ap ?_))))
    refine aL hb2 (fun ht=>?_);subst ht
    refine ai (aN ?_)
    exact zz r h rfl
   refine al ?_
   refine bi (aa (af (aX 1 [(27,pL Za.enc p0)] (by kernel_rfl) ?_)))
   refine pJ 6 rfl (by exact br) ?_
   refine ae hb2 fun x10 hx10 hb2=>eF [] [28,29] [(30,pB (!x10))] (eu 1 (ce (fun hr=>oL (dV hr)) hx10) cw) (by kernel_rfl) (ah (cX rfl hb2 (fun hc11 hb2=>?_) fun hc11 hb2=>?_))
   ·refine aa ?_
    refine aj [(4,pI 6)] (by kernel_rfl) (dk (ap (ai (ap ?_))))
    refine aL hb2 (fun ht=>?_);subst ht
    refine ai (aN ?_)
    exact zz r h rfl
   refine al ?_
   refine bi (ak (rg 31 7) [(38,pB ((decide (m5.Value<0))||(decide (1000000000000<m5.Value))))] (by kernel_rfl) (ah (cX rfl hb2 (fun hc12 hb2=>?_) fun hc12 hb2=>?_)))
   ·refine aa ?_
    refine aj [(4,pI 2)] (by kernel_rfl) (dk (ai (ap ?_)))
    refine aL hb2 (fun ht=>?_);subst ht
    refine ai (aN ?_)
    exact zz r h rfl
   refine al ?_
   refine an (ah (ak [39] [(9,pI (IntKind.i64.wrap (v1+1)))] (by kernel_rfl) ?_))
   exact bk hb2 () (pU rfl) ey
  refine aS ?_
  refine ar (aq hb2 (fun ht=>au rfl ?_))
  exact bc ((),()) kQ ey ht.symm
 rintro ⟨_,_⟩ τ hz;(try dsimp only at hz);subst q3;(try dsimp only at h);dsimp only [aF]
 refine aa (aj [(4,pI 0)] (by kernel_rfl) (dk ?_))
 exact zz r h rfl
def fR (p0:(List Int)) (p1:Int):Option (List Int):=cond (decide (p1<(p0.length:Int))) ((sub p0 0 p1).bind fun l2=>some l2) (some p0)
theorem nQ {p0:(List Int)} {p1:Int} {r:(List Int)}  (h:fR p0 p1=some r):PF 32 [pL eI p0,pI p1] (pL eI r):=by
 unfold fR at h
 refine bW ?_
 refine aI Tryd.func32 rfl Tryd.ntmps32 Tryd.results32 rfl (aa (aJ [4] (by kernel_rfl) (bi (aa (ak [5,6,7] [(8,pB (decide (p1<(p0.length:Int))))] (by kernel_rfl) (ah (cX rfl h (fun hc1 h=>?_) fun hc1 h=>?_)))))))
 ·refine aa ?_
  refine ae h fun l2 hl2 h=>aK [] [9,10,11] [(4,pL eI l2)] (fosl 2 eI 1 (fun _=>rfl) hl2 cw) (by kernel_rfl) (dk (ap ?_))
  exact zz r h rfl
 refine al ?_
 refine bi (ak [12] [(4,pL eI p0)] (by kernel_rfl) (dk ?_))
 exact zz r h rfl
def ef (p0:Int) (p1:Int):Option Int:=(nz p1).bind fun u1=>(nz p1).bind fun u2=>lb ((Int.tmod (IntKind.i64.wrap ((Int.tmod p0 p1)+p1)) p1)) (fun w3=>some w3)
theorem kA {p0:Int} {p1:Int} {r:Int}  (h:ef p0 p1=some r):PF 15 [pI p0,pI p1] (pI r):=by
 unfold ef at h
 refine bW ?_
 refine aI Tryd.func15 rfl Tryd.ntmps15 Tryd.results15 rfl (aa (aJ [4] (by kernel_rfl) (bi (ae h fun u1 hu1 h=>ae h fun u2 hu2 h=>?_))))
 refine pM h ?_;clear h;intro w3 hw3 h
 refine af (bz 7 [] (rg 5 6) [(11,pI (Int.tmod (IntKind.i64.wrap ((Int.tmod p0 p1)+p1)) p1))] (fonz 2 hu1 (fonz 6 hu2 cw)) (by kernel_rfl) (cC rfl rfl rfl (gX rfl (.p (congrArg (fun z=>PV.v (Value.int .i64 z)) hw3))) (bM (dk ?_))))
 exact zz r h rfl
def aA (p0:Zc) (p1:Int):Option (Int×Zc):=cond (decide ((p0.L.length:Int)≤p0.I)) (some ((0:Int),p0)) ((idx p0.L (IntKind.i64.wrap ((IntKind.i64.wrap (p0.I+1)) - 1))).bind fun m2=>(ef m2 p1).bind fun x3=>some (x3,(⟨p0.L,(IntKind.i64.wrap (p0.I+1))⟩:Zc)))
theorem aD {p0:Zc} {p1:Int} {b0:Nat} {r:(Int×Zc)}  (h:aA p0 p1=some r):PCall 33 [pP b0 0,pI p1] [PRes.b b0 57 [pL eI p0.L,pI p0.I]] (fun pv ρ'=>pv=pI r.1∧ρ'=[PRes.b b0 57 [pL eI r.2.L,pI r.2.I]]):=by
 unfold aA at h
 refine aI Tryd.func33 rfl Tryd.ntmps33 Tryd.results33 rfl (aa (aJ [4] (by kernel_rfl) (bi (aa (dA (ρd:=[]) [(0,0),(1,0),(2,0),(3,0),(4,0),(5,0),(6,0),(7,0),(8,0),(9,0)] _ (List.Perm.refl _) (by kernel_rfl) rfl (sP 10 [0,0] (rg 5 9) [(14,pB (decide ((p0.L.length:Int)≤p0.I)))] (by kernel_rfl) (eC (ah (cX rfl h (fun hc1 h=>?_) fun hc1 h=>?_)))))))))
 ·refine aa ?_
  refine aj [(4,pI 0)] (by kernel_rfl) (dk (ap ?_))
  obtain rfl:=osi h
  exact bG (ed (bK rfl)) eD ⟨rfl,rfl⟩
 refine al ?_
 refine bi (af (cD 7 [0] [15,16,17,18,20] [(19,pI (IntKind.i64.wrap (p0.I+1))),(21,pP b0 1)] (by kernel_rfl) (er rfl rfl (co (vs:=[pI (IntKind.i64.wrap (p0.I+1))]) rfl rfl rfl rfl rfl ll (kS zl1) (bM (bi (dA (ρd:=[]) [(0,0),(1,0),(2,0),(3,0),(4,0),(5,0),(6,0),(7,0),(8,0),(9,0),(10,0),(11,0),(12,1),(13,0)] _ (List.Perm.refl _) (by kernel_rfl) rfl (ae h fun m2 hm2 h=>ae h fun x3 hx3 h=>dh 14 [0,0] (rg 22 13) [(4,pI x3)] (dQ 9 eI hm2 (eu 12 (kA hx3) cw)) (by kernel_rfl) (eC (dk ?_))))))))))
 obtain rfl:=osi h
 exact bG (ed (bK rfl)) eD ⟨rfl,rfl⟩
def cu (p0:Zc) (p1:Int):Option (ByteArray×Zc):=(aA p0 2).bind fun x1=>(aT (S:=(List Int)×(List Int)×Int) (T:=((List Int)×(List Int)×Int)) (fun (l5,l8,v9)=>cond (decide (((l5.length:Nat):Int)<p1)) ((aA (⟨l8,v9⟩:Zc) 3).bind fun x19=>(app 1 l5 [48,(IntKind.u8.wrap (IntKind.i64.wrap (49+x19.1)))]).bind fun l22=>some (.inl (l22,x19.2.L,x19.2.I))) (some (.inr (l5,l8,v9)))) FUEL ([57,(IntKind.u8.wrap (IntKind.i64.wrap (52+x1.1)))],x1.2.L,x1.2.I)).bind fun (l13,l14,v15)=>some ((strOfNums l13),(⟨l14,v15⟩:Zc))
theorem gZ {p0:Zc} {p1:Int} {b0:Nat} {r:(ByteArray×Zc)}  (h:cu p0 p1=some r):PCall 34 [pP b0 0,pI p1] [PRes.b b0 57 [pL eI p0.L,pI p0.I]] (fun pv ρ'=>pv=pS r.1∧ρ'=[PRes.b b0 57 [pL eI r.2.L,pI r.2.I]]):=by
 unfold cu at h
 refine aI Tryd.func34 rfl Tryd.ntmps34 Tryd.results34 rfl (aa (aJ [4] (by kernel_rfl) (bi (ae h fun x1 hx1 h=>af (aX 1 [(6,pP b0 0)] (by kernel_rfl) ?_)))))
 refine aB rfl (bp rfl rfl (ρ1:=[_]) (aE (by exact br) (List.Perm.refl _)) (aD hx1) ?_);rintro _ _ ⟨rfl,rfl⟩
 refine e8 2 [8] [(9,pY (IntKind.u8.wrap (IntKind.i64.wrap (52+x1.1))))] (by kernel_rfl) (aB rfl (cJ rfl rfl rfl rfl rfl (gI rfl (gI rfl kT)) rfl rfl rfl rfl (fun b2=>aQ [(5,pO (some ⟨b2,0,none⟩) 2 2)] (by kernel_rfl) (bi (ae h fun q17 hq17 h=>?_)))))
 refine aM (Y:=(Option Addr×Nat)×((List Int)×(List Int)×Int)) (fun ((a11,c12),(l13,l14,v15))=>[(5,pO a11 l13.length c12)]) (fun ((a11,c12),(l13,l14,v15))=>[PRes.b b0 57 [pL eI l14,pI v15],PRes.row a11 l13.length c12 5 1 (List.map eB l13)]) (fun ((a11,c12),(l13,l14,v15))=>q17=(l13,l14,v15)) ?_ ?_
 ·refine am ?_
  refine aO (Y:=Option Addr×Nat) (S:=(List Int)×(List Int)×Int) _ hq17 (fun (a6,c7) (l5,l8,v9)=>[(0,pP b0 0),(1,pI p1),(5,pO a6 l5.length c7)]) (fun (a6,c7) (l5,l8,v9)=>[PRes.b b0 57 [pL eI l8,pI v9],PRes.row a6 l5.length c7 5 1 (List.map eB l5)]) ((some ⟨b2,0,none⟩),2) (pT rfl) (cI (bm br) eD) ?_
  rintro ⟨a6,c7⟩ ⟨l5,l8,v9⟩ o τ hb16;(try dsimp only at hb16);dsimp only [aF]
  refine aa (aa (ak [11,12,13] [(14,pB (decide (((l5.length:Nat):Int)<p1)))] (by kernel_rfl) (ah (cX rfl hb16 (fun hc18 hb16=>?_) fun hc18 hb16=>?_))))
  ·refine al ?_
   refine ah (am (ae hb16 fun x19 hx19 hb16=>af (aX 2 [(15,pO a6 l5.length c7),(16,pP b0 0)] (by kernel_rfl) ?_)))
   refine aB rfl (bp rfl rfl (ρ1:=[_]) (aE (by exact br) (List.Perm.refl _)) (aD hx19) ?_);rintro _ _ ⟨rfl,rfl⟩
   refine e8 2 [18] [(19,pY (IntKind.u8.wrap (IntKind.i64.wrap (49+x19.1))))] (by kernel_rfl) (aB rfl (cJ rfl rfl rfl rfl rfl (gI rfl (gI rfl kT)) rfl rfl rfl rfl (fun b20=>ae hb16 fun l22 hl22 hb16=>?_)))
   refine aB rfl (cZ (enc:=eB) rfl rfl rfl rfl rfl rfl rfl rfl rfl lZ (by exact bm (bm br)) hl22 (fun a23 c24=>?_))
   refine aQ [(5,pO a23 l22.length c24)] (by kernel_rfl) (an ?_)
   exact bk hb16 (a23,c24) (pT rfl) (cI (bm (bm br)) eD)
  refine aS ?_
  refine ar (aq hb16 (fun ht=>au rfl ?_))
  exact bc ((a6,c7),(l5,l8,v9)) (zh1 rfl) mG ht.symm
 rintro ⟨⟨a11,c12⟩,⟨l13,l14,v15⟩⟩ τ hz;(try dsimp only at hz);subst q17;(try dsimp only at h);dsimp only [aF]
 refine aa (af (aX 1 [(22,pO a11 l13.length c12)] (by kernel_rfl) (aB rfl (sa rfl rfl rfl rfl rfl (xs:=l13) tl rfl (aQ [(4,pS (strOfNums l13))] (by kernel_rfl) (dk ?_))))))
 obtain rfl:=osi h
 exact bG (ed (bK rfl)) eD ⟨rfl,rfl⟩
def dD  : Option (List ByteArray):=some [(⟨#[65,65]⟩:ByteArray),(⟨#[66,66]⟩:ByteArray),(⟨#[67,67]⟩:ByteArray),(⟨#[68,68]⟩:ByteArray),(⟨#[69,69]⟩:ByteArray),(⟨#[70,70]⟩:ByteArray)]
theorem iC  {r:(List ByteArray)}  (h:dD  = some r):PF 35 [] (pL eS r):=by
 unfold dD at h
 refine bW ?_
 refine aI Tryd.func35 rfl Tryd.ntmps35 Tryd.results35 rfl (aa (aJ [0] (by kernel_rfl) (bi (af (aB rfl (cJ rfl rfl rfl rfl rfl (gI rfl (gI rfl (gI rfl (gI rfl (gI rfl (gI rfl kT)))))) rfl rfl rfl rfl (fun b1=>aQ [(0,pO (some ⟨b1,0,none⟩) 6 6)] (by kernel_rfl) (ah ?_))))))))
 refine eY (enc:=eS) (xs:=[(⟨#[65,65]⟩:ByteArray),(⟨#[66,66]⟩:ByteArray),(⟨#[67,67]⟩:ByteArray),(⟨#[68,68]⟩:ByteArray),(⟨#[69,69]⟩:ByteArray),(⟨#[70,70]⟩:ByteArray)]) 0 rfl (by exact br) ?_
 refine dg ?_
 exact zz r h rfl
def bE (p0:Zc):Option ((List ByteArray)×Zc):=(aA p0 32).bind fun x1=>(aT (S:=(List ByteArray)×Int) (T:=((List ByteArray))) (fun (l3,v6)=>cond (decide (v6<5)) (((tk v6).bind fun u20=>cond ((jt .i64 (gu .i64 x1.1 v6) 1) == 1) ((idx [(⟨#[97,110,100]⟩:ByteArray),(⟨#[99,117,116]⟩:ByteArray),(⟨#[111,114]⟩:ByteArray),(⟨#[115,101,119]⟩:ByteArray),(⟨#[115,112,105,110]⟩:ByteArray)] v6).bind fun m24=>(app 16 l3 [m24]).bind fun l27=>some l27) (some l3)).bind fun l18=>some (.inl (l18,(IntKind.i64.wrap (v6+1))))) (some (.inr l3))) FUEL (([]:List ByteArray),0)).bind fun l10=>some (l10,x1.2)
theorem fB {p0:Zc} {b0:Nat} {r:((List ByteArray)×Zc)}  (h:bE p0=some r):PCall 36 [pP b0 0] [PRes.b b0 57 [pL eI p0.L,pI p0.I]] (fun pv ρ'=>pv=pL eS r.1∧ρ'=[PRes.b b0 57 [pL eI r.2.L,pI r.2.I]]):=by
 unfold bE at h
 refine aI Tryd.func36 rfl Tryd.ntmps36 Tryd.results36 rfl (aa (aJ [2] (by kernel_rfl) (bi (aj [(3,pN)] (by kernel_rfl) (bi (ae h fun x1 hx1 h=>af (aX 1 [(6,pP b0 0)] (by kernel_rfl) ?_)))))))
 refine aB rfl (bp rfl rfl (ρ1:=[_]) (aE (by exact br) (List.Perm.refl _)) (aD hx1) ?_);rintro _ _ ⟨rfl,rfl⟩
 refine aQ [(4,pI x1.1)] (by kernel_rfl) (bi (aa (aj [(5,pI 0)] (by kernel_rfl) (ah (dj 9 1 (ae h fun q12 hq12 h=>?_))))))
 refine aM (Y:=(Option Addr×Nat)×((List ByteArray))) (fun ((a8,c9),l10)=>[(3,pO a8 l10.length c9)]) (fun ((a8,c9),l10)=>[PRes.b b0 57 [pL eI x1.2.L,pI x1.2.I],PRes.row a8 l10.length c9 9 1 (List.map eS l10)]) (fun ((a8,c9),l10)=>q12=l10) ?_ ?_
 ·refine am ?_
  refine aO (Y:=Option Addr×Nat) (S:=(List ByteArray)×Int) _ hq12 (fun (a4,c5) (l3,v6)=>[(3,pO a4 l3.length c5),(4,pI x1.1),(5,pI v6)]) (fun (a4,c5) (l3,v6)=>[PRes.b b0 57 [pL eI x1.2.L,pI x1.2.I],PRes.row a4 l3.length c5 9 1 (List.map eS l3)]) (none,0) (pT rfl) (cI (bm br) eD) ?_
  rintro ⟨a4,c5⟩ ⟨l3,v6⟩ o τ hb11;(try dsimp only at hb11);dsimp only [aF]
  refine aa (aa (ak [8] [(9,pB (decide (v6<5)))] (by kernel_rfl) (ah (cX rfl hb11 (fun hc14 hb11=>?_) fun hc14 hb11=>?_))))
  ·refine al ?_
   refine bi (ae hb11 fun q19 hq19 hb11=>?_)
   refine aM (Y:=(Option Addr×Nat)×((List ByteArray))) (fun ((a16,c17),l18)=>[(3,pO a16 l18.length c17),(4,pI x1.1),(5,pI v6)]) (fun ((a16,c17),l18)=>[PRes.b b0 57 [pL eI x1.2.L,pI x1.2.I],PRes.row a16 l18.length c17 9 1 (List.map eS l18)]) (fun ((a16,c17),l18)=>q19=l18) ?_ ?_
   ·skip
    refine am (aa (ae hq19 fun u20 hu20 hq19=>aK [] [12,13,14,15] [(16,pB ((jt .i64 (gu .i64 x1.1 v6) 1) == 1))] (foge 2 hu20 cw) (by kernel_rfl) (ah (cX rfl hq19 (fun hc21 hq19=>?_) fun hc21 hq19=>?_))))
    ·refine af ?_
     refine aX 1 [(17,pO a4 l3.length c5)] (by kernel_rfl) (aB rfl (cJ rfl rfl rfl rfl rfl (gI rfl (gI rfl (gI rfl (gI rfl (gI rfl kT))))) rfl rfl rfl rfl (fun b22=>ae hq19 fun m24 hm24 hq19=>aX 1 [(19,pI v6)] (by kernel_rfl) (cC rfl rfl rfl (iU (enc:=eS) (xs:=[(⟨#[97,110,100]⟩:ByteArray),(⟨#[99,117,116]⟩:ByteArray),(⟨#[111,114]⟩:ByteArray),(⟨#[115,101,119]⟩:ByteArray),(⟨#[115,112,105,110]⟩:ByteArray)]) rfl rfl rfl (.p rfl) lZ (.p rfl) (fun _=>hm24)) (cC rfl rfl rfl (iV (sz:=1) (p:=pS m24) (enc:=eS) (xs:=[(⟨#[97,110,100]⟩:ByteArray),(⟨#[99,117,116]⟩:ByteArray),(⟨#[111,114]⟩:ByteArray),(⟨#[115,101,119]⟩:ByteArray),(⟨#[115,112,105,110]⟩:ByteArray)]) (a:=(some ⟨b22,0,none⟩)) v6 0 m24 rfl (.p rfl) rfl lZ (fun _=>hm24) rfl) (aB rfl (cJ rfl rfl rfl rfl rfl (gI rfl kT) rfl rfl rfl rfl (fun b25=>ae hq19 fun l27 hl27 hq19=>?_))))))))
     refine aB rfl (cZ (enc:=eS) rfl rfl rfl rfl rfl rfl rfl rfl rfl lZ (by exact bm (bm (bm br))) hl27 (fun a28 c29=>?_))
     refine aQ [(3,pO a28 l27.length c29)] (by kernel_rfl) (an ?_)
     obtain rfl:=osi hq19
     exact bc ((a28,c29),l27) (pT rfl) (cI (bm (bm (bm br))) eD) rfl
    refine al ?_
    refine an ?_
    obtain rfl:=osi hq19
    exact bc ((a4,c5),l3) (pT rfl) mG rfl
   rintro ⟨⟨a16,c17⟩,l18⟩ τ hz;(try dsimp only at hz);subst q19;(try dsimp only at hb11);dsimp only [aF]
   refine ak [10,11] [(5,pI (IntKind.i64.wrap (v6+1)))] (by kernel_rfl) ?_
   exact bk hb11 (a16,c17) (pT rfl) mG
  refine aS ?_
  refine ar (aq hb11 (fun ht=>au rfl ?_))
  exact bc ((a4,c5),l3) (zh1 rfl) mG ht.symm
 rintro ⟨⟨a8,c9⟩,l10⟩ τ hz;(try dsimp only at hz);subst q12;(try dsimp only at h);dsimp only [aF]
 refine aa (ak [24] [(2,pO a8 l10.length c9)] (by kernel_rfl) (ah ?_))
 refine eY (enc:=eS) (xs:=l10) 2 rfl (by exact bm br) ?_
 refine dg ?_
 obtain rfl:=osi h
 exact bG (ed (bK rfl)) (cI (bm br) ey) ⟨rfl,rfl⟩
def fT (p0:(List Int)):Option (List Za):=(fR p0 300).bind fun x1=>(aA (⟨x1,0⟩:Zc) 10).bind fun x3=>(aT (S:=(List Za)×Int×(List Int)×Int) (T:=((List Za))) (fun (l5,v8,l9,v10)=>cond (decide (v8≤(IntKind.i64.wrap (1+x3.1)))) ((aA (⟨l9,v10⟩:Zc) 2).bind fun x19=>(cu x19.2 (IntKind.i64.wrap (6+(IntKind.i64.wrap (2*x19.1))))).bind fun x20=>(dD).bind fun x21=>(aA x20.2 4).bind fun x22=>(idx x21 x22.1).bind fun m23=>(aA x22.2 200).bind fun x24=>(bE x24.2).bind fun x25=>(aA x25.2 4).bind fun x26=>(aA x26.2 1024).bind fun x28=>(aT (S:=Int×(List Int)×Int×(List Zb)) (T:=((List Int)×Int×(List Zb))) (fun (v29,l30,v31,l33)=>cond (((decide (v29≤(IntKind.i64.wrap (1+x3.1))))&&(decide (((l33.length:Nat):Int)<4)))&&(!(x26.1 == 1))) (((tk (IntKind.i64.wrap (v29 - 1))).bind fun u55=>(gdp (((jt .i64 (gu .i64 x28.1 (IntKind.i64.wrap (v29 - 1))) 1) == 1)&&(!(decide (v29<v8)))) (aA (⟨l30,v31⟩:Zc) 3) (⟨l30,v31⟩:Zc)).bind fun x56=>cond (((jt .i64 (gu .i64 x28.1 (IntKind.i64.wrap (v29 - 1))) 1) == 1)&&((decide (v29<v8))||(x56.1 == 1))) ((aA x56.2 100).bind fun x58=>(app 16 l33 [(⟨(IntKind.i64.wrap (3*v29)),x58.1⟩:Zb)]).bind fun l61=>some (x58.2.L,x58.2.I,l61)) (some (x56.2.L,x56.2.I,l33))).bind fun (l48,v49,l53)=>some (.inl ((IntKind.i64.wrap (v29+1)),l48,v49,l53))) (some (.inr (l30,v31,l33)))) FUEL (1,x28.2.L,x28.2.I,([]:List Zb))).bind fun (l37,v38,l42)=>(app 104 l5 [(⟨(IntKind.i64.wrap (3*v8)),x20.1,m23,(IntKind.i64.wrap (1+x24.1)),(x26.1 == 1),x25.1,l42⟩:Za)]).bind fun l68=>some (.inl (l68,(IntKind.i64.wrap (v8+1)),l37,v38))) (some (.inr l5))) FUEL (([]:List Za),1,x3.2.L,x3.2.I)).bind fun l14=>some l14
theorem mw {p0:(List Int)} {r:(List Za)}  (h:fT p0=some r):PCall 12 [pL eI p0] [] (fun pv ρ'=>∃ a c,pv=.v (.slice a r.length c)∧ρ'=[PRes.row a r.length c 34 7 (List.map Za.enc r)]):=by
 unfold fT at h
 refine aI Tryd.func12 rfl Tryd.ntmps12 Tryd.results12 rfl (aa (aJ [2] (by kernel_rfl) (bi (ae h fun x1 hx1 h=>af (bz 3 [] [10,11] [(12,.agg [pL eI x1,pI 0])] (eu 1 (nQ hx1) cw) (by kernel_rfl) (aB rfl (gH (cs:=[pL eI x1,pI 0]) rfl rfl (fun b2=>aQ [(3,pP b2 0)] (by kernel_rfl) (bi (ae h fun x3 hx3 h=>af (aX 1 [(14,pP b2 0)] (by kernel_rfl) ?_)))))))))))
 refine aB rfl (bp rfl rfl (ρ1:=[_]) (aE (by exact br) (List.Perm.refl _)) (aD hx3) ?_);rintro _ _ ⟨rfl,rfl⟩
 refine fQ [16] [(4,pI (IntKind.i64.wrap (1+x3.1)))] (by kernel_rfl) (bi (aj [(5,pN)] (by kernel_rfl) (bi (aa (aj [(6,pI 1)] (by kernel_rfl) (ah (dj 34 7 (ae h fun q16 hq16 h=>?_))))))))
 refine aM (Y:=(Option Addr×Nat)×((List Za))) (fun ((a12,c13),l14)=>[(5,pO a12 l14.length c13)]) (fun ((a12,c13),l14)=>[PRes.row a12 l14.length c13 34 7 (List.map Za.enc l14)]) (fun ((a12,c13),l14)=>q16=l14) ?_ ?_
 ·refine am ?_
  refine aO (Y:=Option Addr×Nat) (S:=(List Za)×Int×(List Int)×Int) _ hq16 (fun (a6,c7) (l5,v8,l9,v10)=>[(3,pP b2 0),(4,pI (IntKind.i64.wrap (1+x3.1))),(5,pO a6 l5.length c7),(6,pI v8)]) (fun (a6,c7) (l5,v8,l9,v10)=>[PRes.b b2 57 [pL eI l9,pI v10],PRes.row a6 l5.length c7 34 7 (List.map Za.enc l5)]) (none,0) (mH rfl) (cI (bm br) eD) ?_
  rintro ⟨a6,c7⟩ ⟨l5,v8,l9,v10⟩ o τ hb15;(try dsimp only at hb15);dsimp only [aF]
  refine aa (aa (ak [17,18] [(19,pB (decide (v8≤(IntKind.i64.wrap (1+x3.1)))))] (by kernel_rfl) (ah (cX rfl hb15 (fun hc18 hb15=>?_) fun hc18 hb15=>?_))))
  ·refine al ?_
   refine bi (am (aa (dA (ρd:=[PRes.b b2 _ _]) [(0,0),(1,0),(2,0),(3,0),(9,0),(13,0),(16,0),(18,0),(4,1),(5,0),(6,0),(7,1),(8,1),(10,1),(11,0),(12,0),(14,1),(15,0),(17,1),(19,1),(20,0),(21,0),(22,2),(23,1)] _ (List.Perm.refl _) (by kernel_rfl) rfl (ae hb15 fun x19 hx19 hb15=>kz 8 [22] [(23,pI (IntKind.i64.wrap (3*v8))),(24,pP b2 0),(25,pP b2 0),(31,pP b2 0),(35,pP b2 0),(38,pP b2 0),(40,pP b2 0)] (by kernel_rfl) ?_))))
   refine ln rfl rfl rfl (bp rfl rfl (ρ1:=[_]) (aE (by exact br) (List.Perm.refl _)) (aD hx19) ?_);rintro _ _ ⟨rfl,rfl⟩
   refine ae hb15 fun x20 hx20 hb15=>kz 2 [27] [(28,pI (IntKind.i64.wrap (6+(IntKind.i64.wrap (2*x19.1)))))] (by kernel_rfl) ?_
   refine ln rfl rfl rfl (bp rfl rfl (ρ1:=[_]) (aE (by exact br) (List.Perm.refl _)) (gZ hx20) ?_);rintro _ _ ⟨rfl,rfl⟩
   refine ae hb15 fun x21 hx21 hb15=>ae hb15 fun x22 hx22 hb15=>dh 1 [] [] [(30,pL eS x21)] (eu 0 (iC hx21) cw) (by kernel_rfl) ?_
   refine ln rfl rfl rfl (bp rfl rfl (ρ1:=[_]) (aE (by exact br) (List.Perm.refl _)) (aD hx22) ?_);rintro _ _ ⟨rfl,rfl⟩
   refine ae hb15 fun m23 hm23 hb15=>ae hb15 fun x24 hx24 hb15=>dh 2 [] [33] [(34,pS m23)] (dQ 0 eS hm23 cw) (by kernel_rfl) ?_
   refine ln rfl rfl rfl (bp rfl rfl (ρ1:=[_]) (aE (by exact br) (List.Perm.refl _)) (aD hx24) ?_);rintro _ _ ⟨rfl,rfl⟩
   refine ae hb15 fun x25 hx25 hb15=>sQ 1 [(37,pI (IntKind.i64.wrap (1+x24.1)))] (by kernel_rfl) ?_
   refine ln rfl rfl rfl (bp rfl rfl (ρ1:=[_]) (aE (by exact br) (List.Perm.refl _)) (fB hx25) ?_);rintro _ _ ⟨rfl,rfl⟩
   refine ae hb15 fun x26 hx26 hb15=>?_
   refine ln rfl rfl rfl (bp rfl rfl (ρ1:=[_]) (aE (by exact br) (List.Perm.refl _)) (aD hx26) ?_);rintro _ _ ⟨rfl,rfl⟩
   refine kz 2 [42] [(43,.agg [pI (IntKind.i64.wrap (3*v8)),pS x20.1,pS m23,pI (IntKind.i64.wrap (1+x24.1)),pB (x26.1 == 1),pL eS x25.1,pN])] (by kernel_rfl) (r6 (nm rfl rfl rfl rfl rfl) (fun _=>rfl) rfl (fun b27=>oO rfl rfl (co (vs:=[pI (IntKind.i64.wrap (3*v8)),pS x20.1,pS m23,pI (IntKind.i64.wrap (1+x24.1)),pB (x26.1 == 1),pL eS x25.1,pN]) rfl rfl rfl rfl rfl ll zl7 (eC (bi (ae hb15 fun x28 hx28 hb15=>af (aX 1 [(44,pP b2 0)] (by kernel_rfl) ?_)))))))
   refine aB rfl (bp rfl rfl (ρ1:=[_]) (aE (by exact bm br) (List.Perm.refl _)) (aD hx28) ?_);rintro _ _ ⟨rfl,rfl⟩
   refine aQ [(8,pI x28.1)] (by kernel_rfl) (bi (aa (aj [(9,pI 1)] (by kernel_rfl) (ah (dj 38 2 (ae hb15 fun q44 hq44 hb15=>?_))))))
   refine aM (Y:=(Option Addr×Nat)×((List Int)×Int×(List Zb))) (fun ((a40,c41),(l37,v38,l42))=>[(3,pP b2 0),(4,pI (IntKind.i64.wrap (1+x3.1))),(5,pO a6 l5.length c7),(6,pI v8),(7,pP b27 0)]) (fun ((a40,c41),(l37,v38,l42))=>[PRes.b b2 57 [pL eI l37,pI v38],PRes.b b27 34 [pI (IntKind.i64.wrap (3*v8)),pS x20.1,pS m23,pI (IntKind.i64.wrap (1+x24.1)),pB (x26.1 == 1),pL eS x25.1,pO a40 l42.length c41],PRes.row a6 l5.length c7 34 7 (List.map Za.enc l5),PRes.row a40 l42.length c41 38 2 (List.map Zb.enc l42)]) (fun ((a40,c41),(l37,v38,l42))=>q44=(l37,v38,l42)) ?_ ?_
   ·refine am ?_
    refine aO (Y:=Option Addr×Nat) (S:=Int×(List Int)×Int×(List Zb)) _ hq44 (fun (a34,c35) (v29,l30,v31,l33)=>[(3,pP b2 0),(4,pI (IntKind.i64.wrap (1+x3.1))),(5,pO a6 l5.length c7),(6,pI v8),(7,pP b27 0),(8,pI x28.1),(9,pI v29)]) (fun (a34,c35) (v29,l30,v31,l33)=>[PRes.b b2 57 [pL eI l30,pI v31],PRes.b b27 34 [pI (IntKind.i64.wrap (3*v8)),pS x20.1,pS m23,pI (IntKind.i64.wrap (1+x24.1)),pB (x26.1 == 1),pL eS x25.1,pO a34 l33.length c35],PRes.row a34 l33.length c35 38 2 (List.map Zb.enc l33),PRes.row a6 l5.length c7 34 7 (List.map Za.enc l5)]) (none,0) (qC rfl) (cI (bm br) (cI (bm br) mG)) ?_
    rintro ⟨a34,c35⟩ ⟨v29,l30,v31,l33⟩ o τ hb43;(try dsimp only at hb43);dsimp only [aF]
    refine aa (aa (eZ [1,1] (rg 46 13) [(59,pB (((decide (v29≤(IntKind.i64.wrap (1+x3.1))))&&(decide (((l33.length:Nat):Int)<4)))&&(!(x26.1 == 1))))] (by kernel_rfl) (ah (cX rfl hb43 (fun hc46 hb43=>?_) fun hc46 hb43=>?_))))
    ·refine al ?_
     refine bi (ae hb43 fun q54 hq54 hb43=>?_)
     refine aM (Y:=(Option Addr×Nat)×((List Int)×Int×(List Zb))) (fun ((a51,c52),(l48,v49,l53))=>[(3,pP b2 0),(4,pI (IntKind.i64.wrap (1+x3.1))),(5,pO a6 l5.length c7),(6,pI v8),(7,pP b27 0),(8,pI x28.1),(9,pI v29)]) (fun ((a51,c52),(l48,v49,l53))=>[PRes.b b2 57 [pL eI l48,pI v49],PRes.b b27 34 [pI (IntKind.i64.wrap (3*v8)),pS x20.1,pS m23,pI (IntKind.i64.wrap (1+x24.1)),pB (x26.1 == 1),pL eS x25.1,pO a51 l53.length c52],PRes.row a6 l5.length c7 34 7 (List.map Za.enc l5),PRes.row a51 l53.length c52 38 2 (List.map Zb.enc l53)]) (fun ((a51,c52),(l48,v49,l53))=>q54=(l48,v49,l53)) ?_ ?_
     ·skip
      refine am (aa (ae hq54 fun u55 hu55 hq54=>ae hq54 fun x56 hx56 hq54=>af (bz 12 [] ((rg 62 6)++[69,70,71]) [(68,pB ((jt .i64 (gu .i64 x28.1 (IntKind.i64.wrap (v29 - 1))) 1) == 1)),(72,pgv ((jt .i64 (gu .i64 x28.1 (IntKind.i64.wrap (v29 - 1))) 1) == 1) (pB (decide (v29<v8)))),(73,pgv (((jt .i64 (gu .i64 x28.1 (IntKind.i64.wrap (v29 - 1))) 1) == 1)&&(!(decide (v29<v8)))) (pP b2 0))] (foge 3 hu55 cw) (by kernel_rfl) ?_)))
      refine o7 (iT rfl rfl rfl) rfl rfl rfl (by exact br) (bx (.g rfl) (bx (.p rfl) dP)) (fun hc=>aD (gdp_t hx56 hc)) (fun hc=>by rw [gdp_f hx56 hc]) ?_
      refine dz (iT rfl rfl rfl) rfl rfl (oN rfl (.g rfl) (.p rfl) rfl) (dz (cB rfl rfl rfl) rfl rfl (rT rfl (.g rfl) (.p rfl) (.g rfl)) (cC rfl rfl rfl (gF rfl (.p rfl) (.p rfl) (.g rfl)) (bM (ah (cX rfl hq54 (fun hc57 hq54=>?_) fun hc57 hq54=>?_)))))
      ·refine ae hq54 ?_;clear hq54;intro x58 hx58 hq54
       refine ae hq54 fun l61 hl61 hq54=>?_
       refine j0 (Y:=Option Addr×Nat) (fun (a62,c63)=>[(3,pP b2 0),(4,pI (IntKind.i64.wrap (1+x3.1))),(5,pO a6 l5.length c7),(6,pI v8),(7,pP b27 0),(8,pI x28.1),(9,pI v29)]) (fun (a62,c63)=>[PRes.b b2 57 [pL eI x58.2.L,pI x58.2.I],PRes.b b27 34 [pI (IntKind.i64.wrap (3*v8)),pS x20.1,pS m23,pI (IntKind.i64.wrap (1+x24.1)),pB (x26.1 == 1),pL eS x25.1,pO a62 l61.length c63],PRes.row a6 l5.length c7 34 7 (List.map Za.enc l5),PRes.row a62 l61.length c63 38 2 (List.map Zb.enc l61)]) (fun _=>True) ?_ ?_
       ·refine qB (ρd:=[PRes.b b2 _ _,PRes.row a34 _ _ _ _ _,PRes.b b27 _ _]) _ (aE br (aE (bm br) (List.Perm.refl _))) ?_
        refine ir 0 (by kernel_rfl) rfl rfl rfl rfl (cU rfl rfl rfl rfl rfl (.p rfl)) (ir 2 (by kernel_rfl) rfl rfl rfl rfl (gg (p:=pI v29) rfl (.p rfl)) (ir 3 (by kernel_rfl) rfl rfl rfl rfl (nj rfl (.p rfl) (.p rfl) rfl) (ir 4 (by kernel_rfl) rfl rfl rfl rfl (gg (p:=pP b2 0) rfl (.p rfl)) ?_)))
        refine pR 1 5 (by kernel_rfl) ?_ ?_
        ·skip
         refine dB rfl rfl rfl rfl (pl_q (fH (p:=pO a34 l33.length c35) rfl (.p rfl) zm2 rfl) (ea 5 (by kernel_rfl) ?_))
         refine dB rfl rfl rfl rfl (bp rfl rfl (ρ1:=[_]) (aE (by exact br) (List.Perm.refl _)) (aD hx58) ?_);rintro _ _ ⟨rfl,rfl⟩
         refine ir 6 (by kernel_rfl) rfl rfl rfl rfl (kb (cs:=[pI (IntKind.i64.wrap (3*v29)),pI x58.1]) rfl rfl rfl rfl rfl rfl rfl (zfc rfl rfl rfl rfl zl1 (zfc rfl rfl rfl rfl (kS zl1) zfn))) (ea 7 (by kernel_rfl) (dB rfl rfl rfl rfl (cJ rfl rfl rfl rfl rfl (gI rfl kT) rfl rfl rfl rfl (fun b59=>ea 8 (by kernel_rfl) ?_))))
         refine dB rfl rfl rfl rfl (cZ (enc:=Zb.enc) rfl rfl rfl rfl rfl rfl rfl rfl rfl lZ (by exact bm (bm br)) hl61 (fun a62 c63=>?_))
         refine ir 9 (by kernel_rfl) rfl rfl rfl rfl (cU rfl rfl rfl rfl rfl (.p rfl)) (ea 10 (by kernel_rfl) (ki rfl rfl rfl (co (vs:=[pO a62 l61.length c63]) rfl rfl rfl rfl rfl (lS (lS (lS ll))) (kS (kS (kS (kS (kS (kS zl1)))))) (kh (by kernel_rfl) ?_))))
         exact j5 (a62,c63) (qC rfl) (cI (bm (bm br)) (cI (bm (bm br)) (cI (bm (bm br)) eD))) trivial
        skip
        refine dB rfl rfl rfl rfl (bp rfl rfl (ρ1:=[_]) (aE (by exact br) (List.Perm.refl _)) (aD hx58) ?_);rintro _ _ ⟨rfl,rfl⟩
        refine ir 6 (by kernel_rfl) rfl rfl rfl rfl (kb (cs:=[pI (IntKind.i64.wrap (3*v29)),pI x58.1]) rfl rfl rfl rfl rfl rfl rfl (zfc rfl rfl rfl rfl zl1 (zfc rfl rfl rfl rfl (kS zl1) zfn))) ?_
        refine pR 1 7 (by kernel_rfl) ?_ ?_
        ·skip
         refine dB rfl rfl rfl rfl (pl_q (fH (p:=pO a34 l33.length c35) rfl (.p rfl) zm2 rfl) (ea 7 (by kernel_rfl) (dB rfl rfl rfl rfl (cJ rfl rfl rfl rfl rfl (gI rfl kT) rfl rfl rfl rfl (fun b59=>ea 8 (by kernel_rfl) ?_)))))
         refine dB rfl rfl rfl rfl (cZ (enc:=Zb.enc) rfl rfl rfl rfl rfl rfl rfl rfl rfl lZ (by exact bm (bm br)) hl61 (fun a62 c63=>?_))
         refine ir 9 (by kernel_rfl) rfl rfl rfl rfl (cU rfl rfl rfl rfl rfl (.p rfl)) (ea 10 (by kernel_rfl) (ki rfl rfl rfl (co (vs:=[pO a62 l61.length c63]) rfl rfl rfl rfl rfl (lS (lS (lS ll))) (kS (kS (kS (kS (kS (kS zl1)))))) (kh (by kernel_rfl) ?_))))
         exact j5 (a62,c63) (qC rfl) (cI (bm (bm br)) (cI (bm (bm br)) (cI (bm (bm br)) eD))) trivial
        skip
        refine dB rfl rfl rfl rfl (cJ rfl rfl rfl rfl rfl (gI rfl kT) rfl rfl rfl rfl (fun b59=>ea 1 (by kernel_rfl) (dB rfl rfl rfl rfl (pl_q (fH (p:=pO a34 l33.length c35) rfl (.p rfl) zm3 rfl) (ea 8 (by kernel_rfl) ?_)))))
        refine dB rfl rfl rfl rfl (cZ (enc:=Zb.enc) rfl rfl rfl rfl rfl rfl rfl rfl rfl lZ (by exact bm (bm br)) hl61 (fun a62 c63=>?_))
        refine ir 9 (by kernel_rfl) rfl rfl rfl rfl (cU rfl rfl rfl rfl rfl (.p rfl)) (ea 10 (by kernel_rfl) (ki rfl rfl rfl (co (vs:=[pO a62 l61.length c63]) rfl rfl rfl rfl rfl (lS (lS (lS ll))) (kS (kS (kS (kS (kS (kS zl1)))))) (kh (by kernel_rfl) ?_))))
        exact j5 (a62,c63) (qC rfl) (cI (bm (bm br)) (cI (bm (bm br)) (cI (bm (bm br)) eD))) trivial
       rintro ⟨a62,c63⟩ τ ρ1 hsub65 _;(try dsimp only at hsub65);dsimp only [aF]
       refine an ?_
       obtain rfl:=osi hq54
       exact bc ((a62,c63),(x58.2.L,x58.2.I,l61)) (qC rfl) (PSub.trans zs4 hsub65) rfl
      refine al ?_
      refine an ?_
      obtain rfl:=osi hq54
      exact bc ((a34,c35),(x56.2.L,x56.2.I,l33)) (qC rfl) (cI br (cI br (cI (bm br) eD))) rfl
     rintro ⟨⟨a51,c52⟩,⟨l48,v49,l53⟩⟩ τ hz;(try dsimp only at hz);subst q54;(try dsimp only at hb43);dsimp only [aF]
     refine ak [60,61] [(9,pI (IntKind.i64.wrap (v29+1)))] (by kernel_rfl) ?_
     exact bk hb43 (a51,c52) (qC rfl) (cI br (cI br (cI (bm br) eD)))
    refine aS ?_
    refine ar (aq hb43 (fun ht=>au rfl ?_))
    exact bc ((a34,c35),(l30,v31,l33)) (pU rfl) (cI br (cI br (cI (bm br) eD))) ht.symm
   rintro ⟨⟨a40,c41⟩,⟨l37,v38,l42⟩⟩ τ hz;(try dsimp only at hz);subst q44;(try dsimp only at hb15);dsimp only [aF]
   refine af (aX 1 [(88,pO a6 l5.length c7)] (by kernel_rfl) ?_)
   refine pH (css:=List.map Zb.enc l42) (a:=a40) (by exact bm (bm (bm br))) ?_
   refine qv (k:=6) (enc:=Zb.enc) (xs:=l42) (b:=b27) (a:=a40) rfl lZ (lS (lS ll)) (sR 1 [2] [(89,.agg [pI (IntKind.i64.wrap (3*v8)),pS x20.1,pS m23,pI (IntKind.i64.wrap (1+x24.1)),pB (x26.1 == 1),pL eS x25.1,pL Zb.enc l42])] (by kernel_rfl) (aB rfl (cJ rfl rfl rfl rfl rfl (gI rfl kT) rfl rfl rfl rfl (fun b66=>ae hb15 fun l68 hl68 hb15=>?_))))
   refine aB rfl (cZ (enc:=Za.enc) rfl rfl rfl rfl rfl rfl rfl rfl rfl lZ (by exact bm (bm (bm (bm br)))) hl68 (fun a69 c70=>?_))
   refine aQ [(5,pO a69 l68.length c70)] (by kernel_rfl) (an (ah (ak [20,21] [(6,pI (IntKind.i64.wrap (v8+1)))] (by kernel_rfl) ?_)))
   exact bk hb15 (a69,c70) (mH rfl) (cI (bm (bm (bm br))) eD)
  refine aS ?_
  refine ar (aq hb15 (fun ht=>au rfl ?_))
  exact bc ((a6,c7),l5) (zh1 rfl) (cI (bm br) ey) ht.symm
 rintro ⟨⟨a12,c13⟩,l14⟩ τ hz;(try dsimp only at hz);subst q16;(try dsimp only at h);dsimp only [aF]
 refine aa (ak [92] [(2,pO a12 l14.length c13)] (by kernel_rfl) (dk ?_))
 obtain rfl:=osi h
 exact bG (ed (bK rfl)) eD ⟨_,_,rfl,rfl⟩
def az (p0:(List Za)) (p1:Int) (p2:(Za→Int→Option Int)):Option (Int×Bool):=(aT (S:=Int×Int) (T:=(Int)) (fun (v1,v2)=>cond (decide (v1<v2)) (lb ((IntKind.i64.wrap (gu .u64 (IntKind.u64.wrap (IntKind.i64.wrap (v1+v2))) 1))) (fun w7=>(idx p0 w7).bind fun m8=>(p2 m8 p1).bind fun x9=>cond (decide (x9<0)) (some (.inl ((IntKind.i64.wrap (w7+1)),v2))) (some (.inl (v1,w7))))) (some (.inr v1))) FUEL (0,(p0.length:Int))).bind fun v3=>(gd (decide (v3<(p0.length:Int))) (idx p0 v3)).bind fun m11=>(gd (decide (v3<(p0.length:Int))) (p2 m11 p1)).bind fun x12=>some (v3,((decide (v3<(p0.length:Int)))&&(x12 == 0)))
theorem bL {p0:(List Za)} {p1:Int} {p2:(Za→Int→Option Int)} {r:(Int×Bool)} {g2:PV} (hg2:∀ {y0:Za} {y1:Int} {w:Int},p2 y0 y1=some w→PFV g2 [.agg (aC y0),pI y1] (pI w)) (h:az p0 p1 p2=some r):PF 56 [pL Za.enc p0,pI p1,g2] (.tup [pI r.1,pB r.2]):=by
 unfold az at h
 refine bW ?_
 refine aI Tryd.func56 rfl Tryd.ntmps56 Tryd.results56 rfl (aa (aJ [6,7] (by kernel_rfl) (bi (ak [12,13] [(8,pI (p0.length:Int))] (by kernel_rfl) (bi (ak [14] [(9,pI 0),(10,pI (p0.length:Int))] (by kernel_rfl) (bi (ae h fun q5 hq5 h=>?_))))))))
 refine aM (Y:=Unit×Int) (fun (_,v3)=>[(0,pL Za.enc p0),(1,pI p1),(2,g2),(8,pI (p0.length:Int)),(9,pI v3)]) (fun (_,v3)=>[]) (fun (_,v3)=>q5=v3) ?_ ?_
 ·refine am ?_
  refine aO (Y:=Unit) (S:=Int×Int) _ hq5 (fun _ (v1,v2)=>[(0,pL Za.enc p0),(1,pI p1),(2,g2),(8,pI (p0.length:Int)),(9,pI v1),(10,pI v2)]) (fun _ (v1,v2)=>[]) () (ow rfl) ey ?_
  rintro _ ⟨v1,v2⟩ o τ hb4;(try dsimp only at hb4);dsimp only [aF]
  refine aa (aa (ak [15,16] [(17,pB (decide (v1<v2)))] (by kernel_rfl) (ah (cX rfl hb4 (fun hc6 hb4=>?_) fun hc6 hb4=>?_))))
  ·refine al ?_
   refine ah (am (aa ?_))
   refine pM hb4 ?_;clear hb4;intro w7 hw7 hb4
   refine af (e8 6 (rg 18 5) [(23,pI (IntKind.i64.wrap (gu .u64 (IntKind.u64.wrap (IntKind.i64.wrap (v1+v2))) 1)))] (by kernel_rfl) (cC rfl rfl rfl (gX rfl (.p (congrArg (fun z=>PV.v (Value.int .i64 z)) hw7))) (bM (bi (ae hb4 fun m8 hm8 hb4=>ae hb4 fun x9 hx9 hb4=>aK [] (rg 24 7) [(31,pB (decide (x9<0)))] (dQ 3 Za.enc hm8 (focv 6 (hg2 hx9) cw)) (by kernel_rfl) (ah (cX rfl hb4 (fun hc10 hb4=>?_) fun hc10 hb4=>?_)))))))
   ·refine ak [32,33] [(9,pI (IntKind.i64.wrap (w7+1)))] (by kernel_rfl) ?_
    refine an ?_
    exact bk hb4 () (ow rfl) ey
   refine ak [34] [(10,pI w7)] (by kernel_rfl) ?_
   refine an ?_
   exact bk hb4 () (ow rfl) ey
  refine aS ?_
  refine ar (aq hb4 (fun ht=>au rfl ?_))
  exact bc ((),v1) (pU rfl) ey ht.symm
 rintro ⟨_,v3⟩ τ hz;(try dsimp only at hz);subst q5;(try dsimp only at h);dsimp only [aF]
 refine aa (ae h fun m11 hm11 h=>ae h fun x12 hx12 h=>aK [] (rg 35 14) [(6,pI v3),(7,pB ((decide (v3<(p0.length:Int)))&&(x12 == 0)))] (iw 8 Za.enc (dO hm11) (focvg 11 (fun hc=>hg2 (dO hx12 hc)) cw)) (by kernel_rfl) (dk ?_))
 obtain rfl:=osi h
 exact bG (pG (bK rfl) (bK rfl)) ey ⟨rfl,rfl⟩
def da (p0:Int):Option Bool:=some (p0 != p0)
theorem fU {p0:Int} {r:Bool}  (h:da p0=some r):PF 68 [pI p0] (pB r):=by
 unfold da at h
 refine bW ?_
 refine aI Tryd.func68 rfl Tryd.ntmps68 Tryd.results68 rfl (aa (aJ [2] (by kernel_rfl) (bi (ak [3,4,5] [(2,pB (p0 != p0))] (by kernel_rfl) (dk ?_)))))
 exact zz r h rfl
def cE (p0:Int) (p1:Int):Option Int:=(da p0).bind fun x1=>(da p1).bind fun x2=>cond x1 (cond x2 (some (0:Int)) (some (-1))) (cond x2 (some (1:Int)) (cond (decide (p0<p1)) (some (-1)) (cond (decide (p1<p0)) (some (1:Int)) (some (0:Int)))))
theorem ib {p0:Int} {p1:Int} {r:Int}  (h:cE p0 p1=some r):PF 58 [pI p0,pI p1] (pI r):=by
 unfold cE at h
 refine bW ?_
 refine aI Tryd.func58 rfl Tryd.ntmps58 Tryd.results58 rfl (aa (aJ [4] (by kernel_rfl) (bi (ae h fun x1 hx1 h=>aK [] [7,8] [(5,pB x1)] (eu 1 (fU hx1) cw) (by kernel_rfl) (bi (ae h fun x2 hx2 h=>aK [] [9,10] [(6,pB x2)] (eu 1 (fU hx2) cw) (by kernel_rfl) (bi (aa (aj [(11,pB x1)] (by kernel_rfl) (ah (cX rfl h (fun hc3 h=>?_) fun hc3 h=>?_)))))))))))
 ·refine aa ?_
  refine aa (aj [(12,pB x2)] (by kernel_rfl) (ah (cX rfl h (fun hc4 h=>?_) fun hc4 h=>?_)))
  ·refine aa ?_
   refine aj [(4,pI 0)] (by kernel_rfl) (dk (ap (ap ?_)))
   exact zz r h rfl
  refine al ?_
  refine bi (aj [(4,pI (-1))] (by kernel_rfl) (dk (ap ?_)))
  exact zz r h rfl
 refine al ?_
 refine bi (aa (aj [(13,pB x2)] (by kernel_rfl) (ah (cX rfl h (fun hc5 h=>?_) fun hc5 h=>?_))))
 ·refine aa ?_
  refine aj [(4,pI 1)] (by kernel_rfl) (dk (ap ?_))
  exact zz r h rfl
 refine al ?_
 refine bi (aa (ak [14,15] [(16,pB (decide (p0<p1)))] (by kernel_rfl) (ah (cX rfl h (fun hc6 h=>?_) fun hc6 h=>?_))))
 ·refine aa ?_
  refine aj [(4,pI (-1))] (by kernel_rfl) (dk (ap ?_))
  exact zz r h rfl
 refine al ?_
 refine bi (aa (ak [17,18] [(19,pB (decide (p1<p0)))] (by kernel_rfl) (ah (cX rfl h (fun hc7 h=>?_) fun hc7 h=>?_))))
 ·refine aa ?_
  refine aj [(4,pI 1)] (by kernel_rfl) (dk (ap ?_))
  exact zz r h rfl
 refine al ?_
 refine bi (aj [(4,pI 0)] (by kernel_rfl) (dk ?_))
 exact zz r h rfl
def bC (p0:Za) (p1:Int):Option Int:=(cE p0.ID p1).bind fun x2=>some x2
theorem gj {p0:Za} {p1:Int} {r:Int}  (h:bC p0 p1=some r):PF 57 [.agg (aC p0),pI p1] (pI r):=by
 unfold bC at h
 refine bW ?_
 refine aI Tryd.func57 rfl Tryd.ntmps57 Tryd.results57 rfl (aa (af (aB rfl (gH (cs:=(aC p0)) rfl rfl (fun b1=>fP [4] (by kernel_rfl) (bi (ae h fun x2 hx2 h=>aK [0] [5,6,7,8] [(4,pI x2)] (eu 3 (ib hx2) cw) (by kernel_rfl) (dk ?_))))))))
 exact zz r h rfl
def cd (p0:(List Za)) (p1:Int):Option (Int×Bool):=(az p0 p1 (fun y1 y2=>bC y1 y2)).bind fun x3=>some (x3.1,x3.2)
theorem gN {p0:(List Za)} {p1:Int} {r:(Int×Bool)}  (h:cd p0 p1=some r):PF 41 [pL Za.enc p0,pI p1] (.tup [pI r.1,pB r.2]):=by
 unfold cd at h
 refine bW ?_
 refine aI Tryd.func41 rfl Tryd.ntmps41 Tryd.results41 rfl (aa (aJ [4,5] (by kernel_rfl) (bi (ae h fun x3 hx3 h=>aK [] (rg 6 5) [(4,pI x3.1),(5,pB x3.2)] (eu 2 (bL (fun hr=>oL (gj hr)) hx3) cw) (by kernel_rfl) (dk ?_)))))
 obtain rfl:=osi h
 exact bG (pG (bK rfl) (bK rfl)) ey ⟨rfl,rfl⟩
def bI (p0:(List Int)) (p1:Int):Option Int:=(aT (S:=Int) (T:=(Unit)⊕(_)) (fun v1=>cond (decide (v1<(p0.length:Int))) ((idx p0 v1).bind fun m5=>cond (p1 == m5) (some (.inr (.inr v1))) (some (.inl (IntKind.i64.wrap (v1+1))))) (some (.inr (.inl ())))) FUEL 0).bind fun q=>match q with | .inl _=>some (-1) | .inr e=>some e
theorem fV {p0:(List Int)} {p1:Int} {r:Int}  (h:bI p0 p1=some r):PF 66 [pL eI p0,pI p1] (pI r):=by
 unfold bI at h
 refine bW ?_
 refine aI Tryd.func66 rfl Tryd.ntmps66 Tryd.results66 rfl (aa (aJ [4] (by kernel_rfl) (bi (aa (ak [6] [(7,pI (p0.length:Int)),(8,pI 0)] (by kernel_rfl) (ah (ae h fun q3 hq3 h=>?_)))))))
 refine aM (Y:=Unit×Unit) (fun (_,_)=>[]) (fun (_,_)=>[]) (fun (_,_)=>q3=Sum.inl ()) ?_ ?_
 ·refine am ?_
  refine aO (Y:=Unit) (S:=Int) _ hq3 (fun _ v1=>[(0,pL eI p0),(1,pI p1),(7,pI (p0.length:Int)),(8,pI v1)]) (fun _ v1=>[]) () (mH rfl) ey ?_
  rintro _ v1 o τ hb2;(try dsimp only at hb2);dsimp only [aF]
  refine aa (aj [(9,pB (decide (v1<(p0.length:Int))))] (by kernel_rfl) (bi (cX rfl hb2 (fun hc4 hb2=>?_) fun hc4 hb2=>?_)))
  ·refine al ?_
   refine bi (am (aa (ak [10] [(5,pI v1)] (by kernel_rfl) (bi (ae hb2 fun m5 hm5 hb2=>aK [] (rg 11 5) [(16,pB (p1 == m5))] (dQ 3 eI hm5 cw) (by kernel_rfl) (ah (cX rfl hb2 (fun hc6 hb2=>?_) fun hc6 hb2=>?_)))))))
   ·refine aa ?_
    refine ak [17] [(4,pI v1)] (by kernel_rfl) (dk (ai (ap ?_)))
    refine aL hb2 (fun ht=>?_);subst ht
    refine ai (aN ?_)
    exact zz r h rfl
   refine al ?_
   refine an (ah (ak [18] [(8,pI (IntKind.i64.wrap (v1+1)))] (by kernel_rfl) ?_))
   exact bk hb2 () (mH rfl) ey
  refine aS ?_
  refine ar (aq hb2 (fun ht=>au rfl ?_))
  exact bc ((),()) kQ ey ht.symm
 rintro ⟨_,_⟩ τ hz;(try dsimp only at hz);subst q3;(try dsimp only at h);dsimp only [aF]
 refine aa (aj [(4,pI (-1))] (by kernel_rfl) (dk ?_))
 exact zz r h rfl
def bj (p0:(List Int)) (p1:Int):Option Bool:=(bI p0 p1).bind fun x1=>some (decide (0≤x1))
theorem cO {p0:(List Int)} {p1:Int} {r:Bool}  (h:bj p0 p1=some r):PF 53 [pL eI p0,pI p1] (pB r):=by
 unfold bj at h
 refine bW ?_
 refine aI Tryd.func53 rfl Tryd.ntmps53 Tryd.results53 rfl (aa (aJ [4] (by kernel_rfl) (bi (ae h fun x1 hx1 h=>aK [] [5,6,7,8] [(4,pB (decide (0≤x1)))] (eu 2 (fV hx1) cw) (by kernel_rfl) (dk ?_)))))
 exact zz r h rfl
def bA (p0:(List Za)) (p1:(List (Int×(List Int)))) (p2:Int):Option (List Int):=(aT (S:=(List Int)×Int) (T:=((List Int))) (fun (l2,v5)=>cond (decide (v5<(p0.length:Int))) (((idx p0 v5).bind fun m19=>(gd (!(m19.ID == p2)) (bj ((aZ p1 p2).getD []) m19.ID)).bind fun x21=>(gd ((!(m19.ID == p2))&&x21) (bj ((aZ p1 m19.ID).getD []) p2)).bind fun x22=>cond ((m19.ID == p2)||(x21&&x22)) ((app 8 l2 [m19.ID]).bind fun l26=>some l26) (some l2)).bind fun l17=>some (.inl (l17,(IntKind.i64.wrap (v5+1))))) (some (.inr l2))) FUEL (([]:List Int),0)).bind fun l9=>some l9
theorem ff {p0:(List Za)} {p1:(List (Int×(List Int)))} {p2:Int} {m1_:Nat} {r:(List Int)}  (h:bA p0 p1 p2=some r):PCall 39 [pL Za.enc p0,.v (.map (some m1_)),pI p2] [PRes.mp (some m1_) (aW kI (vL eI) p1)] (fun pv ρ'=>pv=pL eI r∧ρ'=[PRes.mp (some m1_) (aW kI (vL eI) p1)]):=by
 unfold bA at h
 refine aI Tryd.func39 rfl Tryd.ntmps39 Tryd.results39 rfl (aa (aJ [6] (by kernel_rfl) (bi (aj [(7,pN)] (by kernel_rfl) (bi (aa (aj [(10,pL Za.enc p0),(11,pI (p0.length:Int)),(12,pI 0)] (by kernel_rfl) (ah (dj 3 1 (ae h fun q11 hq11 h=>?_))))))))))
 refine aM (Y:=(Option Addr×Nat)×((List Int))) (fun ((a7,c8),l9)=>[(7,pO a7 l9.length c8)]) (fun ((a7,c8),l9)=>[PRes.mp (some m1_) (aW kI (vL eI) p1),PRes.row a7 l9.length c8 3 1 (List.map eI l9)]) (fun ((a7,c8),l9)=>q11=l9) ?_ ?_
 ·refine am ?_
  refine aO (Y:=Option Addr×Nat) (S:=(List Int)×Int) _ hq11 (fun (a3,c4) (l2,v5)=>[(1,.v (.map (some m1_))),(2,pI p2),(7,pO a3 l2.length c4),(10,pL Za.enc p0),(11,pI (p0.length:Int)),(12,pI v5)]) (fun (a3,c4) (l2,v5)=>[PRes.mp (some m1_) (aW kI (vL eI) p1),PRes.row a3 l2.length c4 3 1 (List.map eI l2)]) (none,0) (ow rfl) (cI (bm br) eD) ?_
  rintro ⟨a3,c4⟩ ⟨l2,v5⟩ o τ hb10;(try dsimp only at hb10);dsimp only [aF]
  refine aa (aj [(13,pB (decide (v5<(p0.length:Int))))] (by kernel_rfl) (bi (cX rfl hb10 (fun hc13 hb10=>?_) fun hc13 hb10=>?_)))
  ·refine al ?_
   refine bi (ae hb10 fun q18 hq18 hb10=>?_)
   refine aM (Y:=(Option Addr×Nat)×((List Int))) (fun ((a15,c16),l17)=>[(1,.v (.map (some m1_))),(2,pI p2),(7,pO a15 l17.length c16),(10,pL Za.enc p0),(11,pI (p0.length:Int)),(12,pI v5)]) (fun ((a15,c16),l17)=>[PRes.mp (some m1_) (aW kI (vL eI) p1),PRes.row a15 l17.length c16 3 1 (List.map eI l17)]) (fun ((a15,c16),l17)=>q18=l17) ?_ ?_
   ·skip
    refine am (aa (ae hq18 fun m19 hm19 hq18=>af (bz 2 [] [14] [(15,.agg (aC m19))] (dQ 0 Za.enc hm19 cw) (by kernel_rfl) (aB rfl (ee (cs:=[pI 0,pS ByteArray.empty,pS ByteArray.empty,pI 0,pB false,pN,pN]) rfl rfl rfl rfl (fun b20=>er rfl rfl (co (vs:=(aC m19)) rfl rfl rfl rfl rfl ll zl7 (bM (bi (af (cD 7 [0] [16,17,18,19] [(20,pB (m19.ID == p2)),(21,pgv (!(m19.ID == p2)) (.v (.map (some m1_)))),(22,pgv (!(m19.ID == p2)) (pI p2))] (by kernel_rfl) (dz (gB rfl rfl rfl) rfl rfl (show POpQ _ _ _ _ (pL eI ((aZ p1 p2).getD [])) from dR (xs:=p1) (k:=p2) (ek:=kI) (vv:=(vL eI)) (z0:=[]) rfl rfl rfl (fun _=>gE) (fi rfl) (.g rfl) (.g rfl) dC (c6 tl)) (ae hq18 fun x21 hx21 hq18=>cD 2 [0] [24] [(25,pgv (!(m19.ID == p2)) (pI m19.ID))] (by kernel_rfl) (eQ (gB rfl rfl rfl) rfl rfl rfl (bx (.g rfl) (bx (.g rfl) dP)) (fun hc=>cO (dO hx21 hc)) (dz (gB rfl rfl rfl) rfl rfl (gg (p:=pB x21) rfl (.g rfl)) (dz (dM rfl rfl rfl) rfl rfl (gg (p:=.v (.map (some m1_))) rfl (.p rfl)) (dz (dM rfl rfl rfl) rfl rfl (cU rfl rfl rfl rfl rfl (.p rfl)) (dz (dM rfl rfl rfl) rfl rfl (fH (p:=pI m19.ID) rfl (.g rfl) lZ rfl) (dz (dM rfl rfl rfl) rfl rfl (show POpQ _ _ _ _ (pL eI ((aZ p1 m19.ID).getD [])) from dR (xs:=p1) (k:=m19.ID) (ek:=kI) (vv:=(vL eI)) (z0:=[]) rfl rfl rfl (fun _=>gE) (fi rfl) (.g rfl) (.g rfl) dC (c6 tl)) (dz (dM rfl rfl rfl) rfl rfl (gg (p:=pI p2) rfl (.p rfl)) (ae hq18 fun x22 hx22 hq18=>eQ (dM rfl rfl rfl) rfl rfl rfl (bx (.g rfl) (bx (.g rfl) dP)) (fun hc=>cO (dO hx22 hc)) (dz (gB rfl rfl rfl) rfl rfl (gF rfl (.g rfl) (.p rfl) (.g rfl)) (cC rfl rfl rfl (rT rfl (.p rfl) (.p rfl) (.g rfl)) (bM (ah (cX rfl hq18 (fun hc23 hq18=>?_) fun hc23 hq18=>?_))))))))))))))))))))))))))
    ·refine af ?_
     refine cD 3 [0] [37] [(36,pO a3 l2.length c4),(38,pI m19.ID)] (by kernel_rfl) (aB rfl (cJ rfl rfl rfl rfl rfl (gI rfl kT) rfl rfl rfl rfl (fun b24=>ae hq18 fun l26 hl26 hq18=>?_)))
     refine aB rfl (cZ (enc:=eI) rfl rfl rfl rfl rfl rfl rfl rfl rfl lZ (by exact bm (bm (bm br))) hl26 (fun a27 c28=>?_))
     refine aQ [(7,pO a27 l26.length c28)] (by kernel_rfl) (an ?_)
     obtain rfl:=osi hq18
     exact bc ((a27,c28),l26) (ow rfl) (cI (bm (bm (bm br))) eD) rfl
    refine al ?_
    refine an ?_
    obtain rfl:=osi hq18
    exact bc ((a3,c4),l2) (ow rfl) (cI (bm br) (cI (bm br) ey)) rfl
   rintro ⟨⟨a15,c16⟩,l17⟩ τ hz;(try dsimp only at hz);subst q18;(try dsimp only at hb10);dsimp only [aF]
   refine ak [41] [(12,pI (IntKind.i64.wrap (v5+1)))] (by kernel_rfl) ?_
   exact bk hb10 (a15,c16) (ow rfl) mG
  refine aS ?_
  refine ar (aq hb10 (fun ht=>au rfl ?_))
  exact bc ((a3,c4),l2) (zh1 rfl) mG ht.symm
 rintro ⟨⟨a7,c8⟩,l9⟩ τ hz;(try dsimp only at hz);subst q11;(try dsimp only at h);dsimp only [aF]
 refine aa (ak [42] [(6,pO a7 l9.length c8)] (by kernel_rfl) (ah ?_))
 refine eY (enc:=eI) (xs:=l9) 6 rfl (by exact bm br) ?_
 refine dg ?_
 obtain rfl:=osi h
 exact bG (ed (bK rfl)) (cI (bm br) ey) ⟨rfl,rfl⟩
def bB (p0:Int) (p1:(List (Int×(List Int)))) (p2:(List (Int×Int))) (p3:Za):Option Bool:=some ((aZ p1 ((aZ p2 p0).getD (0:Int))).isSome&&(((aZ p2 p0).getD (0:Int)) != p3.ID))
theorem eg {p0:Int} {p1:(List (Int×(List Int)))} {p2:(List (Int×Int))} {p3:Za} {m1_:Nat}  {m2_:Nat} {r:Bool}  (h:bB p0 p1 p2 p3=some r):PCall 55 [pI p0,.ref [.v (.map (some m1_))] 0,.ref [.v (.map (some m2_))] 0,.ref (aC p3) 0] [PRes.mp (some m1_) (aW kI (vL eI) p1),PRes.mp (some m2_) (aW kI vI p2)] (fun pv ρ'=>pv=pB r∧ρ'=[PRes.mp (some m1_) (aW kI (vL eI) p1),PRes.mp (some m2_) (aW kI vI p2)]):=by
 unfold bB at h
 refine aI Tryd.func55 rfl Tryd.ntmps55 Tryd.results55 rfl (aa (aJ [5] (by kernel_rfl) (bi (af (aX 3 [(9,.v (.map (some m1_))),(10,.v (.map (some m2_))),(11,pI p0)] (by kernel_rfl) (cC rfl rfl rfl (show POpQ _ _ _ _ (pI ((aZ p2 p0).getD (0:Int))) from dR (xs:=p2) (k:=p0) (ek:=kI) (vv:=vI) (z0:=(0:Int)) rfl rfl rfl (fun _=>.v rfl) (fi rfl) (.p rfl) (.p rfl) dC (c6 tl)) (cC rfl rfl rfl (show POpQ _ _ _ _ (.tup [pL eI ((aZ p1 ((aZ p2 p0).getD (0:Int))).getD []),pB ((aZ p1 ((aZ p2 p0).getD (0:Int))).isSome)]) from jk (xs:=p1) (k:=((aZ p2 p0).getD (0:Int))) (ek:=kI) (vv:=(vL eI)) (z0:=[]) rfl rfl rfl (fun _=>gE) (fi rfl) (.p rfl) (.p rfl) dC (c6 lZ)) (fQ [8,14,15,6] [(7,pB ((aZ p1 ((aZ p2 p0).getD (0:Int))).isSome))] (by kernel_rfl) (bi (af (e8 4 [16] [(17,pB ((aZ p1 ((aZ p2 p0).getD (0:Int))).isSome)),(18,pgv ((aZ p1 ((aZ p2 p0).getD (0:Int))).isSome) (.v (.map (some m2_)))),(19,pgv ((aZ p1 ((aZ p2 p0).getD (0:Int))).isSome) (pI p0))] (by kernel_rfl) (dz (cB rfl rfl rfl) rfl rfl (show POpQ _ _ _ _ (pI ((aZ p2 p0).getD (0:Int))) from dR (xs:=p2) (k:=p0) (ek:=kI) (vv:=vI) (z0:=(0:Int)) rfl rfl rfl (fun _=>.v rfl) (fi rfl) (.g rfl) (.g rfl) dC (c6 tl)) (e8 2 [21] [(22,pgv ((aZ p1 ((aZ p2 p0).getD (0:Int))).isSome) (pI p3.ID))] (by kernel_rfl) (dz (cB rfl rfl rfl) rfl rfl (oN rfl (.g rfl) (.g rfl) rfl) (cC rfl rfl rfl (gF rfl (.p rfl) (.p rfl) (.g rfl)) (aQ [(5,pB ((aZ p1 ((aZ p2 p0).getD (0:Int))).isSome&&(((aZ p2 p0).getD (0:Int)) != p3.ID)))] (by kernel_rfl) (dk ?_)))))))))))))))))
 obtain rfl:=osi h
 exact bG (ed (bK rfl)) mG ⟨rfl,rfl⟩
def bh (p0:(List Int)) (p1_0:(List (Int×(List Int)))) (p1_1:(List (Int×Int))) (p1_2:Za):Option Int:=(aT (S:=Int) (T:=(Unit)⊕(_)) (fun v1=>cond (decide (v1<(p0.length:Int))) ((idx p0 v1).bind fun m5=>(bB m5 p1_0 p1_1 p1_2).bind fun x6=>cond x6 (some (.inr (.inr v1))) (some (.inl (IntKind.i64.wrap (v1+1))))) (some (.inr (.inl ())))) FUEL 0).bind fun q=>match q with | .inl _=>some (-1) | .inr e=>some e
theorem dW {p0:(List Int)} {p1_0:(List (Int×(List Int)))} {p1_1:(List (Int×Int))} {p1_2:Za} {m1_0_:Nat}  {m1_1_:Nat} {r:Int}  (h:bh p0 p1_0 p1_1 p1_2=some r):PCall 67 [pL eI p0,.fn 55 [.ref [.v (.map (some m1_0_))] 0,.ref [.v (.map (some m1_1_))] 0,.ref (aC p1_2) 0]] [PRes.mp (some m1_0_) (aW kI (vL eI) p1_0),PRes.mp (some m1_1_) (aW kI vI p1_1)] (fun pv ρ'=>pv=pI r∧ρ'=[PRes.mp (some m1_0_) (aW kI (vL eI) p1_0),PRes.mp (some m1_1_) (aW kI vI p1_1)]):=by
 unfold bh at h
 refine aI Tryd.func67 rfl Tryd.ntmps67 Tryd.results67 rfl (aa (aJ [4] (by kernel_rfl) (bi (aa (ak [6] [(7,pI (p0.length:Int)),(8,pI 0)] (by kernel_rfl) (ah (ae h fun q3 hq3 h=>?_)))))))
 refine aM (Y:=Unit×Unit) (fun (_,_)=>[]) (fun (_,_)=>[PRes.mp (some m1_0_) (aW kI (vL eI) p1_0),PRes.mp (some m1_1_) (aW kI vI p1_1)]) (fun (_,_)=>q3=Sum.inl ()) ?_ ?_
 ·refine am ?_
  refine aO (Y:=Unit) (S:=Int) _ hq3 (fun _ v1=>[(0,pL eI p0),(1,.fn 55 [.ref [.v (.map (some m1_0_))] 0,.ref [.v (.map (some m1_1_))] 0,.ref (aC p1_2) 0]),(7,pI (p0.length:Int)),(8,pI v1)]) (fun _ v1=>[PRes.mp (some m1_0_) (aW kI (vL eI) p1_0),PRes.mp (some m1_1_) (aW kI vI p1_1)]) () (mH rfl) mG ?_
  rintro _ v1 o τ hb2;(try dsimp only at hb2);dsimp only [aF]
  refine aa (aj [(9,pB (decide (v1<(p0.length:Int))))] (by kernel_rfl) (bi (cX rfl hb2 (fun hc4 hb2=>?_) fun hc4 hb2=>?_)))
  ·refine al ?_
   refine bi (am (aa (ak [10] [(5,pI v1)] (by kernel_rfl) (bi (ae hb2 fun m5 hm5 hb2=>ae hb2 fun x6 hx6 hb2=>af (bz 5 [] [12,13,14] [(11,.fn 55 [.ref [.v (.map (some m1_0_))] 0,.ref [.v (.map (some m1_1_))] 0,.ref (aC p1_2) 0]),(15,pI m5)] (dQ 3 eI hm5 cw) (by kernel_rfl) ?_))))))
   refine aB rfl (qL rfl rfl rfl (ρ1:=[_,_]) (aE (by exact br) (aE (by exact br) (List.Perm.refl _))) (eg hx6) ?_);rintro _ _ ⟨rfl,rfl⟩
   refine bM (ah (cX rfl hb2 (fun hc7 hb2=>?_) fun hc7 hb2=>?_))
   ·refine aa ?_
    refine ak [17] [(4,pI v1)] (by kernel_rfl) (dk (ai (ap ?_)))
    refine aL hb2 (fun ht=>?_);subst ht
    refine ai (aN ?_)
    obtain rfl:=osi h
    exact bG (ed (bK rfl)) mG ⟨rfl,rfl⟩
   refine al ?_
   refine an (ah (ak [18] [(8,pI (IntKind.i64.wrap (v1+1)))] (by kernel_rfl) ?_))
   exact bk hb2 () (mH rfl) mG
  refine aS ?_
  refine ar (aq hb2 (fun ht=>au rfl ?_))
  exact bc ((),()) kQ mG ht.symm
 rintro ⟨_,_⟩ τ hz;(try dsimp only at hz);subst q3;(try dsimp only at h);dsimp only [aF]
 refine aa (aj [(4,pI (-1))] (by kernel_rfl) (dk ?_))
 obtain rfl:=osi h
 exact bG (ed (bK rfl)) mG ⟨rfl,rfl⟩
def aY (p0:(List Int)) (p1_0:(List (Int×(List Int)))) (p1_1:(List (Int×Int))) (p1_2:Za):Option Bool:=(bh p0 p1_0 p1_1 p1_2).bind fun x1=>some (decide (0≤x1))
theorem dt {p0:(List Int)} {p1_0:(List (Int×(List Int)))} {p1_1:(List (Int×Int))} {p1_2:Za} {m1_0_:Nat}  {m1_1_:Nat} {r:Bool}  (h:aY p0 p1_0 p1_1 p1_2=some r):PCall 54 [pL eI p0,.fn 55 [.ref [.v (.map (some m1_0_))] 0,.ref [.v (.map (some m1_1_))] 0,.ref (aC p1_2) 0]] [PRes.mp (some m1_0_) (aW kI (vL eI) p1_0),PRes.mp (some m1_1_) (aW kI vI p1_1)] (fun pv ρ'=>pv=pB r∧ρ'=[PRes.mp (some m1_0_) (aW kI (vL eI) p1_0),PRes.mp (some m1_1_) (aW kI vI p1_1)]):=by
 unfold aY at h
 refine aI Tryd.func54 rfl Tryd.ntmps54 Tryd.results54 rfl (aa (aJ [4] (by kernel_rfl) (bi (ae h fun x1 hx1 h=>af (aX 2 [(5,pL eI p0),(6,.fn 55 [.ref [.v (.map (some m1_0_))] 0,.ref [.v (.map (some m1_1_))] 0,.ref (aC p1_2) 0])] (by kernel_rfl) ?_)))))
 refine aB rfl (bp rfl rfl (ρ1:=[_,_]) (aE (by exact br) (aE (by exact br) (List.Perm.refl _))) (dW hx1) ?_);rintro _ _ ⟨rfl,rfl⟩
 refine fQ [8] [(4,pB (decide (0≤x1)))] (by kernel_rfl) (dk ?_)
 obtain rfl:=osi h
 exact bG (ed (bK rfl)) mG ⟨rfl,rfl⟩
def bt (p0:(List Za)) (p1:(List (Int×(List Int)))) (p2:(List (Int×Int))) (p3:(List (Int×(List Int)))):Option (Int×Bool):=(aT (S:=Int) (T:=(Unit)⊕(_)) (fun v3=>cond (decide (v3<(p0.length:Int))) (Option.bind (α:=(Unit)⊕_) ((idx p0 v3).bind fun m8=>cond (!((aZ p3 m8.ID).isSome)) (some (.inl ())) ((aY ((aZ p1 m8.ID).getD []) p3 p2 m8).bind fun x11=>cond (!x11) (some (.inr (.inr (.inr (m8.ID,true))))) (some (.inl ())))) (fun q=>match q with | .inl _=>some (.inl (IntKind.i64.wrap (v3+1))) | .inr e=>some e)) (some (.inr (.inl ())))) FUEL 0).bind fun q=>match q with | .inl _=>some ((0:Int),false) | .inr e=>some e
theorem eH {p0:(List Za)} {p1:(List (Int×(List Int)))} {p2:(List (Int×Int))} {p3:(List (Int×(List Int)))} {m1_:Nat}  {m2_:Nat}  {m3_:Nat} {r:(Int×Bool)}  (h:bt p0 p1 p2 p3=some r):PCall 40 [pL Za.enc p0,.v (.map (some m1_)),.v (.map (some m2_)),.v (.map (some m3_))] [PRes.mp (some m1_) (aW kI (vL eI) p1),PRes.mp (some m2_) (aW kI vI p2),PRes.mp (some m3_) (aW kI (vL eI) p3)] (fun pv ρ'=>pv=.tup [pI r.1,pB r.2]∧ρ'=[PRes.mp (some m1_) (aW kI (vL eI) p1),PRes.mp (some m2_) (aW kI vI p2),PRes.mp (some m3_) (aW kI (vL eI) p3)]):=by
 unfold bt at h
 refine aI Tryd.func40 rfl Tryd.ntmps40 Tryd.results40 rfl (aa (af (aB rfl (gH (cs:=[.v (.map (some m2_))]) rfl rfl (fun b1=>aB rfl (gH (cs:=[.v (.map (some m3_))]) rfl rfl (fun b2=>fP [8,9] (by kernel_rfl) (bi (aa (aj [(15,pL Za.enc p0),(16,pI (p0.length:Int)),(17,pI 0)] (by kernel_rfl) (ah ?_)))))))))))
 refine mv 6 rfl (by exact bm br) ?_
 refine mv 7 rfl (by exact bm br) ?_
 refine ae h fun q5 hq5 h=>?_
 refine aM (Y:=Unit×Unit) (fun (_,_)=>[]) (fun (_,_)=>[PRes.mp (some m1_) (aW kI (vL eI) p1),PRes.mp (some m2_) (aW kI vI p2),PRes.mp (some m3_) (aW kI (vL eI) p3)]) (fun (_,_)=>q5=Sum.inl ()) ?_ ?_
 ·refine am ?_
  refine aO (Y:=Unit) (S:=Int) _ hq5 (fun _ v3=>[(1,.v (.map (some m1_))),(6,.ref [.v (.map (some m2_))] 0),(7,.ref [.v (.map (some m3_))] 0),(15,pL Za.enc p0),(16,pI (p0.length:Int)),(17,pI v3)]) (fun _ v3=>[PRes.mp (some m1_) (aW kI (vL eI) p1),PRes.mp (some m2_) (aW kI vI p2),PRes.mp (some m3_) (aW kI (vL eI) p3)]) () (ow rfl) (cI (bm (bm br)) (cI (bm (bm br)) (cI (bm (bm br)) ey))) ?_
  rintro _ v3 o τ hb4;(try dsimp only at hb4);dsimp only [aF]
  refine aa (aj [(18,pB (decide (v3<(p0.length:Int))))] (by kernel_rfl) (bi (cX rfl hb4 (fun hc6 hb4=>?_) fun hc6 hb4=>?_)))
  ·refine al ?_
   refine bi (ae hb4 fun q7 hq7 hb4=>?_)
   refine aM (Y:=Unit×Unit) (fun (_,_)=>[(1,.v (.map (some m1_))),(6,.ref [.v (.map (some m2_))] 0),(7,.ref [.v (.map (some m3_))] 0),(15,pL Za.enc p0),(16,pI (p0.length:Int)),(17,pI v3)]) (fun (_,_)=>[PRes.mp (some m1_) (aW kI (vL eI) p1),PRes.mp (some m2_) (aW kI vI p2),PRes.mp (some m3_) (aW kI (vL eI) p3)]) (fun (_,_)=>q7=Sum.inl ()) ?_ ?_
   ·skip
    refine am (aa (ae hq7 fun m8 hm8 hq7=>af (bz 2 [] [19] [(20,.agg (aC m8))] (dQ 0 Za.enc hm8 cw) (by kernel_rfl) (aB rfl (ee (cs:=[pI 0,pS ByteArray.empty,pS ByteArray.empty,pI 0,pB false,pN,pN]) rfl rfl rfl rfl (fun b9=>er rfl rfl (co (vs:=(aC m8)) rfl rfl rfl rfl rfl ll zl7 (bM (bi (aa (af (cD 3 [0] [23] [(22,.v (.map (some m3_))),(24,pI m8.ID)] (by kernel_rfl) (cC rfl rfl rfl (show POpQ _ _ _ _ (.tup [pL eI ((aZ p3 m8.ID).getD []),pB ((aZ p3 m8.ID).isSome)]) from jk (xs:=p3) (k:=m8.ID) (ek:=kI) (vv:=(vL eI)) (z0:=[]) rfl rfl rfl (fun _=>gE) (fi rfl) (.p rfl) (.p rfl) dC (c6 zm3)) (fQ [21,26,27,12] [(13,pB ((aZ p3 m8.ID).isSome))] (by kernel_rfl) (bi (ak [28] [(29,pB (!((aZ p3 m8.ID).isSome)))] (by kernel_rfl) (ah (cX rfl hq7 (fun hc10 hq7=>?_) fun hc10 hq7=>?_))))))))))))))))))
    ·refine aS ?_
     refine ar (au rfl ?_)
     obtain rfl:=osi hq7
     exact bc ((),()) (ow rfl) (cI (bm br) (cI (bm br) (cI (bm br) ey))) rfl
    refine al ?_
    refine bi (af (cD 3 [0] [31] [(30,.v (.map (some m1_))),(32,pI m8.ID)] (by kernel_rfl) (cC rfl rfl rfl (show POpQ _ _ _ _ (pL eI ((aZ p1 m8.ID).getD [])) from dR (xs:=p1) (k:=m8.ID) (ek:=kI) (vv:=(vL eI)) (z0:=[]) rfl rfl rfl (fun _=>gE) (fi rfl) (.p rfl) (.p rfl) dC (c6 tl)) ?_)))
    refine pJ 11 rfl (by exact br) ?_
    refine ae hq7 fun x11 hx11 hq7=>aX 1 [(34,.fn 55 [.ref [.v (.map (some m3_))] 0,.ref [.v (.map (some m2_))] 0,.ref (aC m8) 0])] (by kernel_rfl) ?_
    refine aB rfl (bp rfl rfl (ρ1:=[_,_]) (aE (by exact bm (bm (bm br))) (aE (by exact bm (bm br)) (List.Perm.refl _))) (dt hx11) ?_);rintro _ _ ⟨rfl,rfl⟩
    refine aQ [(14,pB x11)] (by kernel_rfl) (bi (ak [36] [(37,pB (!x11))] (by kernel_rfl) (ah (cX rfl hq7 (fun hc12 hq7=>?_) fun hc12 hq7=>?_))))
    ·refine aa ?_
     refine ak [38,39] [(8,pI m8.ID),(9,pB true)] (by kernel_rfl) (dk (ai (aN ?_)))
     obtain rfl:=osi hq7
     refine aL hb4 (fun ht=>?_);subst ht
     refine ai (aN ?_)
     obtain rfl:=osi h
     exact bG (pG (bK rfl) (bK rfl)) (cI (bm (bm (bm br))) (cI (bm br) eD)) ⟨rfl,rfl⟩
    refine al ?_
    refine an ?_
    obtain rfl:=osi hq7
    exact bc ((),()) (ow rfl) (cI (bm (bm (bm br))) (cI (bm br) eD)) rfl
   rintro ⟨_,_⟩ τ hz;(try dsimp only at hz);subst q7;(try dsimp only at hb4);dsimp only [aF]
   refine ak [40] [(17,pI (IntKind.i64.wrap (v3+1)))] (by kernel_rfl) ?_
   exact bk hb4 () (ow rfl) zs3
  refine aS ?_
  refine ar (aq hb4 (fun ht=>au rfl ?_))
  exact bc ((),()) kQ zs3 ht.symm
 rintro ⟨_,_⟩ τ hz;(try dsimp only at hz);subst q5;(try dsimp only at h);dsimp only [aF]
 refine aa (aj [(8,pI 0),(9,pB false)] (by kernel_rfl) (dk ?_))
 obtain rfl:=osi h
 exact bG (pG (bK rfl) (bK rfl)) zs3 ⟨rfl,rfl⟩
def cf (p0:(List Int)) (p1:(List Int)):Option Bool:=cond ((p0.length:Int) != (p1.length:Int)) (some false) ((aT (S:=Int) (T:=(Unit)⊕(_)) (fun v2=>cond (decide (v2<(p0.length:Int))) ((idx p0 v2).bind fun m6=>(idx p1 v2).bind fun m7=>cond (m6 != m7) (some (.inr (.inr false))) (some (.inl (IntKind.i64.wrap (v2+1))))) (some (.inr (.inl ())))) FUEL 0).bind fun q=>match q with | .inl _=>some true | .inr e=>some e)
theorem db {p0:(List Int)} {p1:(List Int)} {r:Bool}  (h:cf p0 p1=some r):PF 18 [pL eI p0,pL eI p1] (pB r):=by
 unfold cf at h
 refine bW ?_
 refine aI Tryd.func18 rfl Tryd.ntmps18 Tryd.results18 rfl (aa (aJ [4] (by kernel_rfl) (bi (aa (ak [6,7,8,9] [(10,pB ((p0.length:Int) != (p1.length:Int)))] (by kernel_rfl) (ah (cX rfl h (fun hc1 h=>?_) fun hc1 h=>?_)))))))
 ·refine aa ?_
  refine aj [(4,pB false)] (by kernel_rfl) (dk (ap ?_))
  exact zz r h rfl
 refine al ?_
 refine bi (aa (aj [(5,pI 0)] (by kernel_rfl) (ah (ae h fun q4 hq4 h=>?_))))
 refine aM (Y:=Unit×Unit) (fun (_,_)=>[]) (fun (_,_)=>[]) (fun (_,_)=>q4=Sum.inl ()) ?_ ?_
 ·refine am ?_
  refine aO (Y:=Unit) (S:=Int) _ hq4 (fun _ v2=>[(0,pL eI p0),(1,pL eI p1),(5,pI v2)]) (fun _ v2=>[]) () (pT rfl) ey ?_
  rintro _ v2 o τ hb3;(try dsimp only at hb3);dsimp only [aF]
  refine aa (aa (ak [11,12,13] [(14,pB (decide (v2<(p0.length:Int))))] (by kernel_rfl) (ah (cX rfl hb3 (fun hc5 hb3=>?_) fun hc5 hb3=>?_))))
  ·refine al ?_
   refine bi (am (aa (dA (ρd:=[]) [(0,0),(1,0),(2,0),(3,0),(4,0),(5,0),(6,0),(7,0),(8,0)] _ (List.Perm.refl _) (by kernel_rfl) rfl (ae hb3 fun m6 hm6 hb3=>ae hb3 fun m7 hm7 hb3=>dh 9 [] (rg 17 8) [(25,pB (m6 != m7))] (dQ 2 eI hm6 (dQ 6 eI hm7 cw)) (by kernel_rfl) (eC (ah (cX rfl hb3 (fun hc8 hb3=>?_) fun hc8 hb3=>?_)))))))
   ·refine aa ?_
    refine aj [(4,pB false)] (by kernel_rfl) (dk (ai (ap ?_)))
    refine aL hb3 (fun ht=>?_);subst ht
    refine ai (aN ?_)
    exact zz r h rfl
   refine al ?_
   refine an (ah (ak [15,16] [(5,pI (IntKind.i64.wrap (v2+1)))] (by kernel_rfl) ?_))
   exact bk hb3 () (pT rfl) ey
  refine aS ?_
  refine ar (aq hb3 (fun ht=>au rfl ?_))
  exact bc ((),()) kQ ey ht.symm
 rintro ⟨_,_⟩ τ hz;(try dsimp only at hz);subst q4;(try dsimp only at h);dsimp only [aF]
 refine aa (aj [(4,pB true)] (by kernel_rfl) (dk ?_))
 exact zz r h rfl
def aU (p0:(List Zb)) (p1:(Zb→Option Bool)):Option Int:=(aT (S:=Int) (T:=(Unit)⊕(_)) (fun v1=>cond (decide (v1<(p0.length:Int))) ((idx p0 v1).bind fun m5=>(p1 m5).bind fun x6=>cond x6 (some (.inr (.inr v1))) (some (.inl (IntKind.i64.wrap (v1+1))))) (some (.inr (.inl ())))) FUEL 0).bind fun q=>match q with | .inl _=>some (-1) | .inr e=>some e
theorem bV {p0:(List Zb)} {p1:(Zb→Option Bool)} {r:Int} {g1:PV} (hg1:∀ {y0:Zb} {w:Bool},p1 y0=some w→PFV g1 [.agg [pI y0.Product,pI y0.Value]] (pB w)) (h:aU p0 p1=some r):PF 62 [pL Zb.enc p0,g1] (pI r):=by
 unfold aU at h
 refine bW ?_
 refine aI Tryd.func62 rfl Tryd.ntmps62 Tryd.results62 rfl (aa (aJ [4] (by kernel_rfl) (bi (aa (ak [6] [(7,pI (p0.length:Int)),(8,pI 0)] (by kernel_rfl) (ah (ae h fun q3 hq3 h=>?_)))))))
 refine aM (Y:=Unit×Unit) (fun (_,_)=>[]) (fun (_,_)=>[]) (fun (_,_)=>q3=Sum.inl ()) ?_ ?_
 ·refine am ?_
  refine aO (Y:=Unit) (S:=Int) _ hq3 (fun _ v1=>[(0,pL Zb.enc p0),(1,g1),(7,pI (p0.length:Int)),(8,pI v1)]) (fun _ v1=>[]) () (mH rfl) ey ?_
  rintro _ v1 o τ hb2;(try dsimp only at hb2);dsimp only [aF]
  refine aa (aj [(9,pB (decide (v1<(p0.length:Int))))] (by kernel_rfl) (bi (cX rfl hb2 (fun hc4 hb2=>?_) fun hc4 hb2=>?_)))
  ·refine al ?_
   refine bi (am (aa (ak [10] [(5,pI v1)] (by kernel_rfl) (bi (ae hb2 fun m5 hm5 hb2=>ae hb2 fun x6 hx6 hb2=>aK [] (rg 11 5) [(16,pB x6)] (dQ 3 Zb.enc hm5 (focv 5 (hg1 hx6) cw)) (by kernel_rfl) (ah (cX rfl hb2 (fun hc7 hb2=>?_) fun hc7 hb2=>?_)))))))
   ·refine aa ?_
    refine ak [17] [(4,pI v1)] (by kernel_rfl) (dk (ai (ap ?_)))
    refine aL hb2 (fun ht=>?_);subst ht
    refine ai (aN ?_)
    exact zz r h rfl
   refine al ?_
   refine an (ah (ak [18] [(8,pI (IntKind.i64.wrap (v1+1)))] (by kernel_rfl) ?_))
   exact bk hb2 () (mH rfl) ey
  refine aS ?_
  refine ar (aq hb2 (fun ht=>au rfl ?_))
  exact bc ((),()) kQ ey ht.symm
 rintro ⟨_,_⟩ τ hz;(try dsimp only at hz);subst q3;(try dsimp only at h);dsimp only [aF]
 refine aa (aj [(4,pI (-1))] (by kernel_rfl) (dk ?_))
 exact zz r h rfl
def aP (p0:(List Zb)) (p1:(Zb→Option Bool)):Option Bool:=(aU p0 p1).bind fun x1=>some (decide (0≤x1))
theorem bO {p0:(List Zb)} {p1:(Zb→Option Bool)} {r:Bool} {g1:PV} (hg1:∀ {y0:Zb} {w:Bool},p1 y0=some w→PFV g1 [.agg [pI y0.Product,pI y0.Value]] (pB w)) (h:aP p0 p1=some r):PF 46 [pL Zb.enc p0,g1] (pB r):=by
 unfold aP at h
 refine bW ?_
 refine aI Tryd.func46 rfl Tryd.ntmps46 Tryd.results46 rfl (aa (aJ [4] (by kernel_rfl) (bi (ae h fun x1 hx1 h=>aK [] [5,6,7,8] [(4,pB (decide (0≤x1)))] (eu 2 (bV hg1 hx1) cw) (by kernel_rfl) (dk ?_)))))
 exact zz r h rfl
def dl (p0:Zb) (p1:Int):Option Bool:=some (p0.Product == p1)
theorem gx {p0:Zb} {p1:Int} {r:Bool}  (h:dl p0 p1=some r):PF 47 [.agg [pI p0.Product,pI p0.Value],.ref [pI p1] 0] (pB r):=by
 unfold dl at h
 refine bW ?_
 refine aI Tryd.func47 rfl Tryd.ntmps47 Tryd.results47 rfl (aa (af (aB rfl (gH (cs:=[pI p0.Product,pI p0.Value]) rfl rfl (fun b1=>fP [3] (by kernel_rfl) (bi (eZ [0] [4,5,6,7] [(3,pB (p0.Product == p1))] (by kernel_rfl) (dk ?_))))))))
 exact zz r h rfl
def dX (p0:(List Za)) (p1:Int):Option (List Int):=(aT (S:=(List Int)×Int) (T:=((List Int))) (fun (l3,v6)=>cond (decide (v6<(p0.length:Int))) (((idx p0 v6).bind fun m20=>(aP m20.Inputs (fun y22=>dl y22 p1)).bind fun x23=>cond x23 ((app 8 l3 [m20.ID]).bind fun l27=>some l27) (some l3)).bind fun l18=>some (.inl (l18,(IntKind.i64.wrap (v6+1))))) (some (.inr l3))) FUEL (([]:List Int),0)).bind fun l10=>some l10
theorem g0 {p0:(List Za)} {p1:Int} {r:(List Int)}  (h:dX p0 p1=some r):PF 24 [pL Za.enc p0,pI p1] (pL eI r):=by
 unfold dX at h
 refine bW ?_
 refine aI Tryd.func24 rfl Tryd.ntmps24 Tryd.results24 rfl (aa (af (aB rfl (gH (cs:=[pI p1]) rfl rfl (fun b1=>fP [4] (by kernel_rfl) (bi (aj [(5,pN)] (by kernel_rfl) (bi (aa (aj [(8,pL Za.enc p0),(9,pI (p0.length:Int)),(10,pI 0)] (by kernel_rfl) (ah ?_)))))))))))
 refine mv 3 rfl (by exact br) ?_
 refine dj 3 1 (ae h fun q12 hq12 h=>?_)
 refine aM (Y:=(Option Addr×Nat)×((List Int))) (fun ((a8,c9),l10)=>[(5,pO a8 l10.length c9)]) (fun ((a8,c9),l10)=>[PRes.row a8 l10.length c9 3 1 (List.map eI l10)]) (fun ((a8,c9),l10)=>q12=l10) ?_ ?_
 ·refine am ?_
  refine aO (Y:=Option Addr×Nat) (S:=(List Int)×Int) _ hq12 (fun (a4,c5) (l3,v6)=>[(3,.ref [pI p1] 0),(5,pO a4 l3.length c5),(8,pL Za.enc p0),(9,pI (p0.length:Int)),(10,pI v6)]) (fun (a4,c5) (l3,v6)=>[PRes.row a4 l3.length c5 3 1 (List.map eI l3)]) (none,0) (pU rfl) eD ?_
  rintro ⟨a4,c5⟩ ⟨l3,v6⟩ o τ hb11;(try dsimp only at hb11);dsimp only [aF]
  refine aa (aj [(11,pB (decide (v6<(p0.length:Int))))] (by kernel_rfl) (bi (cX rfl hb11 (fun hc14 hb11=>?_) fun hc14 hb11=>?_)))
  ·refine al ?_
   refine bi (ae hb11 fun q19 hq19 hb11=>?_)
   refine aM (Y:=(Option Addr×Nat)×((List Int))) (fun ((a16,c17),l18)=>[(3,.ref [pI p1] 0),(5,pO a16 l18.length c17),(8,pL Za.enc p0),(9,pI (p0.length:Int)),(10,pI v6)]) (fun ((a16,c17),l18)=>[PRes.row a16 l18.length c17 3 1 (List.map eI l18)]) (fun ((a16,c17),l18)=>q19=l18) ?_ ?_
   ·skip
    refine am (aa (ae hq19 fun m20 hm20 hq19=>af (bz 2 [] [12] [(13,.agg (aC m20))] (dQ 0 Za.enc hm20 cw) (by kernel_rfl) (aB rfl (ee (cs:=[pI 0,pS ByteArray.empty,pS ByteArray.empty,pI 0,pB false,pN,pN]) rfl rfl rfl rfl (fun b21=>er rfl rfl (co (vs:=(aC m20)) rfl rfl rfl rfl rfl ll zl7 (bM (bi (ae hq19 fun x23 hx23 hq19=>aK [0] [14,15,16] [(17,pB x23)] (eu 3 (bO (fun hr=>oL (gx hr)) hx23) cw) (by kernel_rfl) (ah (cX rfl hq19 (fun hc24 hq19=>?_) fun hc24 hq19=>?_))))))))))))
    ·refine af ?_
     refine cD 3 [0] [19] [(18,pO a4 l3.length c5),(20,pI m20.ID)] (by kernel_rfl) (aB rfl (cJ rfl rfl rfl rfl rfl (gI rfl kT) rfl rfl rfl rfl (fun b25=>ae hq19 fun l27 hl27 hq19=>?_)))
     refine aB rfl (cZ (enc:=eI) rfl rfl rfl rfl rfl rfl rfl rfl rfl lZ (by exact bm (bm br)) hl27 (fun a28 c29=>?_))
     refine aQ [(5,pO a28 l27.length c29)] (by kernel_rfl) (an ?_)
     obtain rfl:=osi hq19
     exact bc ((a28,c29),l27) (pU rfl) eD rfl
    refine al ?_
    refine an ?_
    obtain rfl:=osi hq19
    exact bc ((a4,c5),l3) (pU rfl) (cI (bm br) ey) rfl
   rintro ⟨⟨a16,c17⟩,l18⟩ τ hz;(try dsimp only at hz);subst q19;(try dsimp only at hb11);dsimp only [aF]
   refine ak [23] [(10,pI (IntKind.i64.wrap (v6+1)))] (by kernel_rfl) ?_
   exact bk hb11 (a16,c17) (pU rfl) eD
  refine aS ?_
  refine ar (aq hb11 (fun ht=>au rfl ?_))
  exact bc ((a4,c5),l3) (zh1 rfl) eD ht.symm
 rintro ⟨⟨a8,c9⟩,l10⟩ τ hz;(try dsimp only at hz);subst q12;(try dsimp only at h);dsimp only [aF]
 refine aa (ak [24] [(4,pO a8 l10.length c9)] (by kernel_rfl) (ah ?_))
 refine eY (enc:=eI) (xs:=l10) 4 rfl (by exact br) ?_
 refine dg ?_
 exact zz r h rfl
def dq  : Option (List Za):=some [(⟨1,(⟨#[57,52,48,49,48,49]⟩:ByteArray),(⟨#[65,65]⟩:ByteArray),10,false,[],[(⟨2,0⟩:Zb),(⟨3,0⟩:Zb)]⟩:Za),(⟨2,(⟨#[57,52,48,49,48,50]⟩:ByteArray),(⟨#[65,65]⟩:ByteArray),10,false,[],[(⟨1,0⟩:Zb)]⟩:Za),(⟨3,(⟨#[57,52,48,49,48,51]⟩:ByteArray),(⟨#[66,66]⟩:ByteArray),10,true,[],[]⟩:Za)]
theorem dE  {r:(List Za)}  (h:dq  = some r):PF 38 [] (pL Za.enc r):=by
 unfold dq at h
 refine bW ?_
 refine aI Tryd.func38 rfl Tryd.ntmps38 Tryd.results38 rfl (aa (aJ [0] (by kernel_rfl) (bi (af (aX 2 [(1,.agg [pI 2,pI 0]),(2,.agg [pI 3,pI 0])] (by kernel_rfl) (aB rfl (cJ rfl rfl rfl rfl rfl (gI rfl (gI rfl kT)) rfl rfl rfl rfl (fun b1=>?_))))))))
 refine j6 (enc:=Zb.enc) (xs:=[(⟨2,0⟩:Zb),(⟨3,0⟩:Zb)]) 3 rfl (by exact br) ?_
 refine aX 2 [(4,.agg [pI 1,pS (⟨#[57,52,48,49,48,49]⟩:ByteArray),pS (⟨#[65,65]⟩:ByteArray),pI 10,pB false,pN,pL Zb.enc [(⟨2,0⟩:Zb),(⟨3,0⟩:Zb)]]),(5,.agg [pI 1,pI 0])] (by kernel_rfl) (aB rfl (cJ rfl rfl rfl rfl rfl (gI rfl kT) rfl rfl rfl rfl (fun b3=>?_)))
 refine j6 (enc:=Zb.enc) (xs:=[(⟨1,0⟩:Zb)]) 6 rfl (by exact br) ?_
 refine aX 2 [(7,.agg [pI 2,pS (⟨#[57,52,48,49,48,50]⟩:ByteArray),pS (⟨#[65,65]⟩:ByteArray),pI 10,pB false,pN,pL Zb.enc [(⟨1,0⟩:Zb)]]),(8,.agg [pI 3,pS (⟨#[57,52,48,49,48,51]⟩:ByteArray),pS (⟨#[66,66]⟩:ByteArray),pI 10,pB true,pN,pN])] (by kernel_rfl) (gh 4 5 rfl rfl (gh 7 5 rfl rfl (gh 8 5 rfl rfl (gh 8 6 rfl rfl (aB rfl (cJ rfl rfl rfl rfl rfl (gI rfl (gI rfl (gI rfl kT))) rfl rfl rfl rfl (fun b5=>aQ [(0,pO (some ⟨b5,0,none⟩) 3 3)] (by kernel_rfl) (ah ?_))))))))
 refine eY (enc:=Za.enc) (xs:=[(⟨1,(⟨#[57,52,48,49,48,49]⟩:ByteArray),(⟨#[65,65]⟩:ByteArray),10,false,[],[(⟨2,0⟩:Zb),(⟨3,0⟩:Zb)]⟩:Za),(⟨2,(⟨#[57,52,48,49,48,50]⟩:ByteArray),(⟨#[65,65]⟩:ByteArray),10,false,[],[(⟨1,0⟩:Zb)]⟩:Za),(⟨3,(⟨#[57,52,48,49,48,51]⟩:ByteArray),(⟨#[66,66]⟩:ByteArray),10,true,[],[]⟩:Za)]) 0 rfl (by exact br) ?_
 refine dg ?_
 exact zz r h rfl
def dc (p0:(List Int)) (p1:Int):Option Bool:=(aT (S:=Int) (T:=(Unit)⊕(_)) (fun v1=>cond (decide (v1<(p0.length:Int))) ((idx p0 v1).bind fun m5=>cond (m5 == p1) (some (.inr (.inr true))) (some (.inl (IntKind.i64.wrap (v1+1))))) (some (.inr (.inl ())))) FUEL 0).bind fun q=>match q with | .inl _=>some false | .inr e=>some e
def cP (p0:(List Int)) (p1:Int):Option Bool:=(aT (S:=Int) (T:=(Unit)⊕(_)) (fun v1=>cond (decide (v1<((p0.length:Nat):Int))) ((idx p0 v1).bind fun m6=>cond (m6 == p1) (some (.inr (.inr true))) (some (.inl (IntKind.i64.wrap (v1+1))))) (some (.inr (.inl ())))) FUEL 0).bind fun q=>match q with | .inl _=>some false | .inr e=>some e
theorem kB {p0:(List Int)} {p1:Int} {a_0:Option Addr}  {n_0:Nat}  {c_0:Nat} {r:Bool}  (h:cP p0 p1=some r):PCall 20 [.v (.slice a_0 n_0 c_0),pI p1] [PRes.row a_0 n_0 c_0 3 1 (List.map eI p0)] (fun pv ρ'=>pv=pB r∧ρ'=[PRes.row a_0 n_0 c_0 3 1 (List.map eI p0)]):=by
 unfold cP at h
 refine aI Tryd.func20 rfl Tryd.ntmps20 Tryd.results20 rfl ?_
 refine nv (enc:=eI) (xs:=p0) (a:=a_0) lZ (fun hl ha=>?_);subst hl;clear ha
 refine aa (aJ [4] (by kernel_rfl) (bi (aa (aj [(5,pI 0)] (by kernel_rfl) (ah (ae h fun q4 hq4 h=>?_))))))
 refine aM (Y:=Unit×Unit) (fun (_,_)=>[]) (fun (_,_)=>[PRes.row a_0 p0.length c_0 3 1 (List.map eI p0)]) (fun (_,_)=>q4=Sum.inl ()) ?_ ?_
 ·refine am ?_
  refine aO (Y:=Unit) (S:=Int) _ hq4 (fun _ v1=>[(0,pO a_0 p0.length c_0),(1,pI p1),(5,pI v1)]) (fun _ v1=>[PRes.row a_0 p0.length c_0 3 1 (List.map eI p0)]) () (pT rfl) eD ?_
  rintro _ v1 o τ hb3;(try dsimp only at hb3);dsimp only [aF]
  refine aa (aa (ak [6,7,8] [(9,pB (decide (v1<((p0.length:Nat):Int))))] (by kernel_rfl) (ah (cX rfl hb3 (fun hc5 hb3=>?_) fun hc5 hb3=>?_))))
  ·refine al ?_
   refine bi (am (aa (ae hb3 fun m6 hm6 hb3=>af (aX 2 [(12,pO a_0 p0.length c_0),(13,pI v1)] (by kernel_rfl) (cC rfl rfl rfl (iU (enc:=eI) (xs:=p0) rfl rfl rfl (.p rfl) lZ (.p rfl) (fun _=>hm6)) (cC rfl rfl rfl (iV (sz:=1) (p:=pI m6) (enc:=eI) (xs:=p0) (a:=a_0) v1 0 m6 rfl (.p rfl) rfl lZ (fun _=>hm6) rfl) (fQ [16] [(17,pB (m6 == p1))] (by kernel_rfl) (ah (cX rfl hb3 (fun hc7 hb3=>?_) fun hc7 hb3=>?_)))))))))
   ·refine aa ?_
    refine aj [(4,pB true)] (by kernel_rfl) (dk (ai (ap ?_)))
    refine aL hb3 (fun ht=>?_);subst ht
    refine ai (aN ?_)
    obtain rfl:=osi h
    exact bG (ed (bK rfl)) eD ⟨rfl,rfl⟩
   refine al ?_
   refine an (ah (ak [10,11] [(5,pI (IntKind.i64.wrap (v1+1)))] (by kernel_rfl) ?_))
   exact bk hb3 () (pT rfl) eD
  refine aS ?_
  refine ar (aq hb3 (fun ht=>au rfl ?_))
  exact bc ((),()) kQ eD ht.symm
 rintro ⟨_,_⟩ τ hz;(try dsimp only at hz);subst q4;(try dsimp only at h);dsimp only [aF]
 refine aa (aj [(4,pB false)] (by kernel_rfl) (dk ?_))
 obtain rfl:=osi h
 exact bG (ed (bK rfl)) eD ⟨rfl,rfl⟩
def fm (p0:(List Za)) (p1:Int):Option (List Int):=(aT (S:=(List Int)×Int) (T:=((List Int))) (fun (l2,v5)=>cond (decide (v5<(p0.length:Int))) ((aT (S:=(List Int)×Int) (T:=((List Int))) (fun (l15,v18)=>(idx p0 v5).bind fun m25=>cond (decide (v18<(m25.Inputs.length:Int))) (((idx p0 v5).bind fun m32=>(idx m32.Inputs v18).bind fun m33=>cond (m33.Product == p1) ((idx p0 v5).bind fun m35=>(app 8 l15 [m35.ID]).bind fun l38=>some l38) (some l15)).bind fun l30=>some (.inl (l30,(IntKind.i64.wrap (v18+1))))) (some (.inr l15))) FUEL (l2,0)).bind fun l22=>some (.inl (l22,(IntKind.i64.wrap (v5+1))))) (some (.inr l2))) FUEL (([]:List Int),0)).bind fun l9=>some l9
def dr (p0:(List Za)) (p1:Int):Option (List Int):=(mk 1 false (p0.length:Int)).bind fun l1=>(aT (S:=(List Bool)×Bool) (T:=((List Bool))) (fun (l5,v6)=>cond v6 ((aT (S:=(List Bool)×Bool×Int) (T:=((List Bool)×Bool)) (fun (l13,v14,v15)=>cond (decide (v15<(p0.length:Int))) ((idx p0 v15).bind fun m22=>(fm p0 m22.ID).bind fun x23=>(aT (S:=(List Bool)×Bool×Int) (T:=((List Bool)×Bool)) (fun (l25,v26,v27)=>(gd (decide (v27<(p0.length:Int))) (idx l25 v15)).bind fun m33=>cond ((decide (v27<(p0.length:Int)))&&(!m33)) (((idx p0 v27).bind fun m39=>(gd (!(m39.ID == p1)) (idx l25 v27)).bind fun m40=>(gd ((m39.ID == p1)||m40) (idx p0 v27)).bind fun m41=>(gd ((m39.ID == p1)||m40) (dc x23 m41.ID)).bind fun x42=>cond (((m39.ID == p1)||m40)&&x42) ((idx l25 v15).bind fun m44=>some ((l25.set v15.toNat true),true)) (some (l25,v26))).bind fun (l36,v37)=>some (.inl (l36,v37,(IntKind.i64.wrap (v27+1))))) (some (.inr (l25,v26)))) FUEL (l13,v14,0)).bind fun (l29,v30)=>some (.inl (l29,v30,(IntKind.i64.wrap (v15+1))))) (some (.inr (l13,v14)))) FUEL (l5,false,0)).bind fun (l17,v18)=>some (.inl (l17,v18))) (some (.inr l5))) FUEL (l1,true)).bind fun l8=>(aT (S:=(List Int)×Int) (T:=((List Int))) (fun (l49,v52)=>cond (decide (v52<(p0.length:Int))) (((idx l8 v52).bind fun m67=>cond m67 ((idx p0 v52).bind fun m69=>(app 8 l49 [m69.ID]).bind fun l72=>some l72) (some l49)).bind fun l65=>some (.inl (l65,(IntKind.i64.wrap (v52+1))))) (some (.inr l49))) FUEL (([]:List Int),0)).bind fun l56=>some l56
def dY (p0:(List Za)):Option (List (List Int)):=(aT (S:=(List (List Int))×(List Int)) (T:=((List (List Int)))) (fun (l2,l6)=>cond (decide (((l6.length:Nat):Int)<(p0.length:Int))) ((aT (S:=Int) (T:=((List (List Int))×(List Int))) (fun v18=>cond (decide (v18<(p0.length:Int))) ((idx p0 v18).bind fun m30=>(cP l6 m30.ID).bind fun x31=>cond x31 (some (.inl (IntKind.i64.wrap (v18+1)))) ((idx p0 v18).bind fun m33=>(dr p0 m33.ID).bind fun x34=>(aT (S:=(List Int)×Bool×Int) (T:=((List Int)×Bool)) (fun (l38,v41,v42)=>cond (decide (v42<(p0.length:Int))) (((idx p0 v42).bind fun m61=>(idx p0 v18).bind fun m62=>(gd (!(m61.ID == m62.ID)) (dc x34 m61.ID)).bind fun x63=>(gd ((!(m61.ID == m62.ID))&&x63) (idx p0 v18)).bind fun m64=>(gd ((!(m61.ID == m62.ID))&&x63) (dr p0 m61.ID)).bind fun x65=>(gd ((!(m61.ID == m62.ID))&&x63) (dc x65 m64.ID)).bind fun x66=>cond ((m61.ID == m62.ID)||(x63&&x66)) ((app 8 l38 [m61.ID]).bind fun l70=>some (l70,v41)) ((dc x34 m61.ID).bind fun x74=>(gd x74 (cP l6 m61.ID)).bind fun x75=>cond (x74&&(!x75)) (some (l38,false)) (some (l38,v41)))).bind fun (l58,v59)=>some (.inl (l58,v59,(IntKind.i64.wrap (v42+1))))) (some (.inr (l38,v41)))) FUEL (([]:List Int),true,0)).bind fun (l48,v49)=>cond v49 ((app 24 l2 [l48]).bind fun l80=>(app 8 l6 l48).bind fun l84=>some (.inr (l80,l84))) (some (.inl (IntKind.i64.wrap (v18+1)))))) (some (.inr (l2,l6)))) FUEL 0).bind fun (l22,l26)=>some (.inl (l22,l26))) (some (.inr l2))) FUEL (([]:List (List Int)),([]:List Int))).bind fun l12=>some l12
end SX
namespace SX
open Go
abbrev bl (s:ByteArray):List UInt8:=s.data.toList
theorem bl_hi (s:ByteArray) (k:Nat):bl (s.extract 0 k)=(bl s).take k:=by simp [bl]
theorem bl_lo (s:ByteArray) (k:Nat):bl (s.extract k s.size)=(bl s).drop k:=by
  simp only [bl,ByteArray.data_extract,Array.toList_extract,List.extract_eq_take_drop]
  rw [List.take_of_length_le];simp
theorem eJ (s:ByteArray):s.size=(bl s).length:=by simp [bl]
theorem bl_inj {s u:ByteArray} (h:bl s=bl u):s=u:=by
  obtain ⟨⟨x⟩⟩:=s;obtain ⟨⟨y⟩⟩:=u;simp [bl] at h;subst h;rfl
def fa (n:Nat):Bool:=decide (48≤n∧n≤57)
def bR (p:Nat→Bool):List Value:=(List.range 256).map fun i=>.bool (p i)
theorem bP (p:Nat→Bool):(bR p).length=256:=by simp [bR]
theorem eK (p:Nat→Bool) {j:Nat} (h:j<256):(bR p)[j]?=some (.bool (p j)):=by simp [bR,h]
theorem my (p q:Nat→Bool) {j:Nat} (h:∀ i,q i=(decide (i=j)||p i)):(bR p).set j (.bool true)=bR q:=by
  apply List.ext_getElem?
  intro i
  rw [List.getElem?_set]
  simp only [bP]
  rcases Nat.lt_or_ge i 256 with hi | hi
  · rw [eK q hi,eK p hi,h i]
    by_cases e:j=i
    · subst e;simp [hi]
    · rw [if_neg e];simp [show ¬ i=j from fun h=>e h.symm]
  · rw [List.getElem?_eq_none (by rw [bP];exact hi),List.getElem?_eq_none (by rw [bP];exact hi)]
    split
    · rw [if_neg (by omega)]
    · rfl
section
variable {o:Oper} {σ:Env} {ρ:List Res} {κ:Kr} {c:Bool} {x y:Operand} {K:Value→List Res→Kr→Prop}
theorem Sh.at1 {b k:Nat} {cs:List Value} {v:Value} (h:Sh κ b 0 cs) (hv:cs[k]?=some v):Sh κ b (0+k*1) [v]:=⟨h.1,fun j u hu=>by
  cases j with
  | zero=>simp at hu;subst hu;have:=h.2 k v hv;simpa using this
  | succ j=>simp at hu⟩
theorem nR {t b T sz by':Nat} {cs:List Value} {z:Value} {d:TypeDesc} (ho:o.op=.load t x) (hx:Ev σ c x (.pointer (some ⟨b,0,none⟩))) (hm:Res.b b T cs∈ρ) (hd:bU t=some d) (ha:eV d=true) (hi:cH t=some (z,sz,by')) (hl:cs.length=sz):OpQ c o σ ρ κ (.agg cs.toArray):=by
  refine k8 ho hx hm ?_
  unfold dw
  simp only [hd,hi,ha,cond_true,List.drop_zero]
  rw [Nat.ble_eq_true_of_le (by omega)]
  simp [← hl]
end
attribute [local irreducible] WL WC WD OpL OpQ OpG Ev GuardIs oC ep rx Call CallP midK jW Holds jH Sub Pick WS Step Lit Upd SetAt SpliceAt FillR Sh LateRun
theorem jm (κ:Kr) (b:Nat) (p:Nat→Bool) (m:Int) (hs:Sh κ b 0 (bR p)) (h0:0≤m) (h1:m≤255):CallP 90 [.pointer (some ⟨b,0,none⟩),.int .u8 m] κ fun v _=>v=.bool (p m.toNat):=by
  (unfold CallP;apply f9 Tryd.func90 (ry Tryd.func90 rfl) rfl Tryd.ntmps90 Tryd.results90 rfl)
  repeat (first | (first | (apply bH rfl rfl rfl;(focus (first | exact aH (v:=(.int _ _)) rfl (.p rfl) | exact aH (v:=(.pointer _)) rfl (.p rfl) | exact aV (v:=(.bool _)) rfl (.p rfl) | exact gA rfl (.p rfl)))) | apply bq) | (first | apply bv | apply aw | apply bu))
  apply bH rfl rfl rfl (lh (j:=m.toNat) rfl rfl rfl (.p rfl) (.p rfl) (fun _=>by omega) (fun _=>by omega))
  apply bH rfl rfl rfl (iQ rfl (.p rfl) (fun _=>(hs.mono (by (repeat (exact Kle.refl _)))).at1 (eK p (by omega))) rfl)
  repeat (first | (first | (apply bH rfl rfl rfl;(focus (exact aV (v:=(.bool _)) rfl (.p rfl)))) | apply bq) | (first | apply bu | apply eU))
  exact fz (lO (v:=.bool _) rfl) .none ⟨rfl,rfl⟩
def dd:ByteArray:=⟨#[48,49,50,51,52,53,54,55,56,57]⟩
theorem mz:∀ {k:Nat},k<10→((dd.data.toList.getD k 0).toNat:Int)=48+(k:Int):=by decide
theorem sS (κ:Kr):CallP 74 [.string dd] κ fun v _=>v=.tuple #[.agg (bR fa).toArray,.bool true]:=by
  (unfold CallP;apply f9 Tryd.func74 (ry Tryd.func74 rfl) rfl Tryd.ntmps74 Tryd.results74 rfl)
  repeat (first | (first | (apply bH rfl rfl rfl;(focus (first | exact aV (v:=(.int _ _)) rfl (.p rfl) | exact aV (v:=(.bool _)) rfl (.p rfl)))) | (apply mK rfl rfl rfl;apply k9 rfl rfl;intro _ _ _) | apply bq) | (first | apply bv | apply aw | apply dv | apply bu))
  rename_i b2 κ1 _
  have e0:List.replicate 256 (Value.bool false)=bR (fun i=>decide (48≤i∧i<48+0)):=by
    apply List.ext_getElem?
    intro i
    rcases Nat.lt_or_ge i 256 with hi | hi
    · rw [eK _ hi,List.getElem?_replicate,if_pos hi];congr 2;symm;rw [decide_eq_false_iff_not];omega
    · rw [List.getElem?_eq_none (by simpa using hi),List.getElem?_eq_none (by rw [bP];exact hi)]
  rw [e0]
  refine il (X:=Nat) (fun k=>[(0,.string dd),(2,.pointer (some ⟨b2,0,none⟩)),(4,.int .i64 (k:Int))]) (fun k=>[Res.b b2 99 (bR fun i=>decide (48≤i∧i<48+k))]) (fun k _=>k≤10) (fun k=>10 - k) 0 (by (repeat (first | exact Holds.nil | apply Holds.cons rfl))) (by (repeat (first | exact Sub.nil | (apply Sub.cons;(focus (repeat (exact Pick.h))))))) (by omega) ?_
  intro k τ κ2 _ hk
  simp only [jH]
  repeat (first | (first | (apply bH rfl rfl rfl;(focus (first | exact aH (v:=(.int _ _)) rfl (.p rfl) | exact aH (v:=(.string _)) rfl (.p rfl) | exact fZ rfl (.p rfl) (.p rfl) rfl | exact fg rfl rfl (.p rfl)))) | apply bq) | (first | apply bv | apply aw | apply bu))
  apply lP rfl <;> intro hc
  · have hk10:k<10:=by
      have e:(dd.size:Int)=10:=rfl
      rw [e] at hc;omega
    repeat (first | (apply bH rfl rfl rfl;(focus (first | exact aH (v:=(.int _ _)) rfl (.p rfl) | exact aH (v:=(.string _)) rfl (.p rfl)))) | (first | apply bv | apply aw | apply dv | apply bu | apply du))
    apply bH rfl rfl rfl (fC (s:=dd) (j:=k) rfl rfl (.p rfl) (.p rfl) (fun _=>rfl) (fun _=>hk10))
    rw [mz hk10]
    repeat (first | (first | (apply bH rfl rfl rfl;(focus (first | exact aH (v:=(.int _ _)) rfl (.p rfl) | exact aV (v:=(.int _ _)) rfl (.p rfl) | exact fZ rfl (.p rfl) (.p rfl) rfl))) | apply bq) | (first | apply bv | apply aw | apply bu))
    apply rk (by have:¬ (128:Int)≤48+(k:Int):=by omega
                 simp [ev,upd,this])
    repeat (first | (apply bH rfl rfl rfl;(focus (exact aH (v:=(.int _ _)) rfl (.p rfl)))) | (first | apply aw | apply bu | apply du))
    apply bH rfl rfl rfl (lh (j:=48+k) rfl rfl rfl (.p rfl) (.p rfl) (fun _=>by omega) (fun _=>by omega))
    apply pt rfl rfl
    apply qr (v:=.bool true) rfl rfl rfl rfl rfl rfl (by (repeat (exact Upd.h))) (by rw [bP];omega)
    intro κ3 _
    have e1:(bR fun i=>decide (48≤i∧i<48+k)).set (0+(48+k)*1) (.bool true)=bR fun i=>decide (48≤i∧i<48+(k+1)) :=
      my _ _ fun i=>by rw [Bool.eq_iff_iff];simp;omega
    rw [e1]
    repeat (first | (first | (apply bH rfl rfl rfl;(focus (first | exact aH (v:=(.int _ _)) rfl (.p rfl) | exact aV (v:=(.int _ _)) rfl (.p rfl) | exact f0 rfl (.p rfl) (.p rfl) rfl (fun _=>by omega)))) | apply bq) | (first | apply aw | apply bu | apply gW))
    exact lN (k+1) (by (repeat (first | exact Holds.nil | apply Holds.cons rfl))) (by (repeat (first | exact Sub.nil | (apply Sub.cons;(focus (repeat (exact Pick.h))))))) (by omega) (by omega)
  · have hk10:k=10:=by
      have e:(dd.size:Int)=10:=rfl
      rw [e] at hc;omega
    subst hk10
    have e2:(fun i=>decide (48≤i∧i<48+10))=fa:=by funext i;simp only [fa];rw [Bool.eq_iff_iff];simp;omega
    rw [e2]
    apply fY;apply dK;apply dn;apply dL rfl;apply bu;apply bv;apply aw
    apply bH rfl rfl rfl (nR rfl (.p rfl) (by (repeat (exact List.Mem.head _))) rfl rfl rfl (bP _))
    apply pt rfl rfl
    apply lc rfl rfl rfl rfl (bP _) (by simp [bR,Value.oneCell']) (by (repeat (exact Upd.h))) rfl
    intro κ3 _
    repeat (first | (first | (apply bH rfl rfl rfl;(focus (exact aV (v:=(.bool _)) rfl (.p rfl)))) | apply bq) | (first | apply bu | apply eU))
    refine fz (rv_2 (RV1.cell rfl (by (repeat (exact List.Mem.head _))) ?_) (rv1_t (v:=.bool _) rfl)) .none ⟨rfl,rfl⟩
    unfold dw
    simp only [show bU 99=some (.array 256 4) from rfl,show cH 99=some (.agg (List.replicate 256 (.bool false)).toArray,256,256) from rfl,eV,cond_true,List.drop_zero,bP]
    rw [List.take_of_length_le (by rw [bP];omega)];rfl
theorem jG {l:List UInt8} {j:Nat} (h:j<l.length):l.getD j 0=l[j]:=by simp [List.getD_eq_getElem?_getD,h]
theorem mA (κ:Kr) (b:Nat) (s:ByteArray) (hs:Sh κ b 0 (bR fa)) (hz:s.size≤1000000000):CallP 76 [.string s,.pointer (some ⟨b,0,none⟩)] κ fun v _=>∃ u k,v=.string u∧bl u=(bl s).take k∧k≤(bl s).length∧(∀ c∈(bl s).drop k,fa c.toNat=true)∧(∀ c,(bl u).getLast?=some c→fa c.toNat=false):=by
  (unfold CallP;apply f9 Tryd.func76 (ry Tryd.func76 rfl) rfl Tryd.ntmps76 Tryd.results76 rfl)
  repeat (first | (first | (apply bH rfl rfl rfl;(focus (exact aV (v:=(.string _)) rfl (.p rfl)))) | apply bq) | (first | apply bv | apply aw | apply dv | apply bu))
  refine il (X:=ByteArray×Nat) (fun z=>[(0,.string z.1),(1,.pointer (some ⟨b,0,none⟩))]) (fun _=>[]) (fun z _=>bl z.1=(bl s).take z.2∧z.2≤(bl s).length∧∀ c∈(bl s).drop z.2,fa c.toNat=true) (fun z=>z.2) (s,(bl s).length) (by (repeat (first | exact Holds.nil | apply Holds.cons rfl))) (by (repeat (exact Sub.nil))) ⟨(List.take_length).symm,Nat.le_refl _,by rw [List.drop_length];simp⟩ ?_
  rw [eJ] at hz
  rintro ⟨u,k⟩ τ κ2 _ ⟨h1,h2,h3⟩
  dsimp only at h1 h2 h3
  have hsz:u.size=k:=by rw [eJ,h1,List.length_take];omega
  simp only [jH]
  repeat (first | (first | (apply bH rfl rfl rfl;(focus (first | exact aH (v:=(.string _)) rfl (.p rfl) | exact fZ rfl (.p rfl) (.p rfl) rfl | exact fg rfl rfl (.p rfl)))) | apply bq) | (first | apply bv | apply aw | apply bu))
  apply lP rfl <;> intro hc
  · have hk0:0<k:=by omega
    repeat (first | (apply bH rfl rfl rfl;(focus (first | exact aH (v:=(.pointer _)) rfl (.p rfl) | exact aH (v:=(.string _)) rfl (.p rfl) | exact f0 rfl (.p rfl) (.p rfl) rfl (fun _=>by omega) | exact fg rfl rfl (.p rfl)))) | (first | apply bv | apply aw | apply dv | apply bu | apply du))
    apply bH rfl rfl rfl (fC (j:=k - 1) rfl rfl (.p rfl) (.p rfl) (fun _=>by omega) (fun _=>by omega))
    have hlast:(bl u).getLast?=some ((bl u).getD (k - 1) 0):=by
      rw [List.getLast?_eq_getElem?,← eJ,hsz,jG (by rw [← eJ];omega),List.getElem?_eq_getElem]
    apply mK rfl rfl rfl;apply fD rfl rfl (jm _ b fa ((u.data.toList.getD (k - 1) 0).toNat:Int) (hs.mono (by (repeat (assumption)))) (by omega) (by have:=(u.data.toList.getD (k - 1) 0).toNat_lt;omega))
    rintro v κ3 _ rfl
    repeat (first | (first | (apply bH rfl rfl rfl;(focus (exact oE rfl (.p rfl)))) | apply bq) | (apply bu))
    rw [Int.toNat_natCast]
    apply ez rfl <;> intro hb
    · repeat (first | (first | (apply bH rfl rfl rfl;(focus (first | exact aH (v:=(.string _)) rfl (.p rfl) | exact aV (v:=(.string _)) rfl (.p rfl)))) | apply bq) | (first | apply bv | apply aw | apply bu | apply eU | apply fY | apply dK | apply dL rfl | apply jV rfl | apply dn))
      refine fz (lO (v:=.string _) rfl) .none ⟨rfl,u,k,rfl,h1,h2,h3,fun c hc=>?_⟩
      rw [hlast] at hc;injection hc with hc;subst hc;simpa using hb
    · repeat (first | (apply bH rfl rfl rfl;(focus (first | exact aH (v:=(.string _)) rfl (.p rfl) | exact f0 rfl (.p rfl) (.p rfl) rfl (fun _=>by omega) | exact fg rfl rfl (.p rfl)))) | (first | apply aw | apply bu | apply du))
      apply bH rfl rfl rfl (jd (h:=k - 1) rfl rfl (.p rfl) (.p rfl) (fun _=>by omega) (fun _=>by omega))
      repeat (first | (first | (apply bH rfl rfl rfl;(focus (exact aV (v:=(.string _)) rfl (.p rfl)))) | apply bq) | (apply gW))
      refine lN (u.extract 0 (k - 1),k - 1) (by (repeat (first | exact Holds.nil | apply Holds.cons rfl))) (by (repeat (exact Sub.nil))) ⟨?_,by ((try dsimp only at *) <;> omega),?_⟩ (by ((try dsimp only at *) <;> omega))
      · rw [bl_hi,h1,List.take_take];congr 1;omega
      · intro c hc
        rw [List.drop_eq_getElem_cons (by omega)] at hc
        rcases List.mem_cons.1 hc with rfl | hc
        · have e:(bl u).getD (k - 1) 0=(bl s)[k - 1]'(by omega):=by
            rw [jG (by rw [← eJ];omega)];simp [h1]
          rw [← e];simpa using hb
        · rw [show k - 1+1=k by omega] at hc;exact h3 c hc
  · repeat (first | (first | (apply bH rfl rfl rfl;(focus (first | exact aH (v:=(.string _)) rfl (.p rfl) | exact aV (v:=(.string _)) rfl (.p rfl)))) | apply bq) | (first | apply bv | apply aw | apply bu | apply eU | apply fY | apply dK | apply dL rfl | apply dn))
    refine fz (lO (v:=.string _) rfl) .none ⟨rfl,u,k,rfl,h1,h2,h3,fun c hc'=>?_⟩
    have:bl u=[]:=List.eq_nil_of_length_eq_zero (by rw [← eJ];omega)
    rw [this] at hc';cases hc'
end SX
namespace SX
open Go
attribute [local irreducible] WL WC WD OpL OpQ OpG Ev GuardIs oC ep rx Call CallP midK jW Holds jH Sub Pick WS Step Lit Upd SetAt SpliceAt FillR Sh LateRun
theorem nS (κ:Kr) (b:Nat) (s:ByteArray) (hs:Sh κ b 0 (bR fa)):CallP 75 [.string s,.pointer (some ⟨b,0,none⟩)] κ fun v _=>∃ u k,v=.string u∧bl u=(bl s).drop k∧k≤(bl s).length∧(∀ c∈(bl s).take k,fa c.toNat=true)∧(∀ c,(bl u).head?=some c→fa c.toNat=false):=by
  (unfold CallP;apply f9 Tryd.func75 (ry Tryd.func75 rfl) rfl Tryd.ntmps75 Tryd.results75 rfl)
  repeat (first | (first | (apply bH rfl rfl rfl;(focus (exact aV (v:=(.string _)) rfl (.p rfl)))) | apply bq) | (first | apply bv | apply aw | apply dv | apply bu))
  refine il (X:=ByteArray×Nat) (fun z=>[(0,.string z.1),(1,.pointer (some ⟨b,0,none⟩))]) (fun _=>[]) (fun z _=>bl z.1=(bl s).drop z.2∧z.2≤(bl s).length∧∀ c∈(bl s).take z.2,fa c.toNat=true) (fun z=>(bl s).length - z.2) (s,0) (by (repeat (first | exact Holds.nil | apply Holds.cons rfl))) (by (repeat (exact Sub.nil))) ⟨rfl,Nat.zero_le _,by simp⟩ ?_
  rintro ⟨u,k⟩ τ κ2 _ ⟨h1,h2,h3⟩
  dsimp only at h1 h2 h3
  have hsz:u.size=(bl s).length - k:=by rw [eJ,h1,List.length_drop]
  simp only [jH]
  repeat (first | (first | (apply bH rfl rfl rfl;(focus (first | exact aH (v:=(.string _)) rfl (.p rfl) | exact fZ rfl (.p rfl) (.p rfl) rfl | exact fg rfl rfl (.p rfl)))) | apply bq) | (first | apply bv | apply aw | apply bu))
  apply lP rfl <;> intro hc
  · have hk0:k<(bl s).length:=by omega
    have hu0:0<(bl u).length:=by rw [← eJ];omega
    repeat (first | (apply bH rfl rfl rfl;(focus (first | exact aH (v:=(.pointer _)) rfl (.p rfl) | exact aH (v:=(.string _)) rfl (.p rfl)))) | (first | apply bv | apply aw | apply dv | apply bu | apply du))
    apply bH rfl rfl rfl (fC (j:=0) rfl rfl (.p rfl) (.p rfl) (fun _=>by omega) (fun _=>by omega))
    have hhead:(bl u).head?=some ((bl u).getD 0 0):=by
      rw [List.head?_eq_getElem?,jG hu0,List.getElem?_eq_getElem hu0]
    apply mK rfl rfl rfl;apply fD rfl rfl (jm _ b fa ((u.data.toList.getD 0 0).toNat:Int) (hs.mono (by (repeat (assumption)))) (by omega) (by have:=(u.data.toList.getD 0 0).toNat_lt;omega))
    rintro v κ3 _ rfl
    repeat (first | (first | (apply bH rfl rfl rfl;(focus (exact oE rfl (.p rfl)))) | apply bq) | (apply bu))
    rw [Int.toNat_natCast]
    apply ez rfl <;> intro hb
    · repeat (first | (first | (apply bH rfl rfl rfl;(focus (first | exact aH (v:=(.string _)) rfl (.p rfl) | exact aV (v:=(.string _)) rfl (.p rfl)))) | apply bq) | (first | apply bv | apply aw | apply bu | apply eU | apply fY | apply dK | apply dL rfl | apply jV rfl | apply dn))
      refine fz (lO (v:=.string _) rfl) .none ⟨rfl,u,k,rfl,h1,h2,h3,fun c hc=>?_⟩
      rw [hhead] at hc;injection hc with hc;subst hc;simpa using hb
    · repeat (first | (apply bH rfl rfl rfl;(focus (exact aH (v:=(.string _)) rfl (.p rfl)))) | (first | apply aw | apply bu | apply du))
      apply bH rfl rfl rfl (je (l:=1) rfl rfl (.p rfl) (.p rfl) (fun _=>by omega) (fun _=>by omega))
      repeat (first | (first | (apply bH rfl rfl rfl;(focus (exact aV (v:=(.string _)) rfl (.p rfl)))) | apply bq) | (apply gW))
      refine lN (u.extract 1 u.size,k+1) (by (repeat (first | exact Holds.nil | apply Holds.cons rfl))) (by (repeat (exact Sub.nil))) ⟨?_,by ((try dsimp only at *) <;> omega),?_⟩ (by ((try dsimp only at *) <;> omega))
      · rw [bl_lo,h1,List.drop_drop]
      · intro c hc
        rw [List.take_add_one] at hc
        rcases List.mem_append.1 hc with hc | hc
        · exact h3 c hc
        · have e:(bl u).getD 0 0=(bl s)[k]'hk0:=by rw [jG hu0];simp [h1]
          rw [List.getElem?_eq_getElem hk0] at hc
          simp only [Option.toList_some,List.mem_cons,List.not_mem_nil,or_false] at hc
          subst hc;rw [← e];simpa using hb
  · repeat (first | (first | (apply bH rfl rfl rfl;(focus (first | exact aH (v:=(.string _)) rfl (.p rfl) | exact aV (v:=(.string _)) rfl (.p rfl)))) | apply bq) | (first | apply bv | apply aw | apply bu | apply eU | apply fY | apply dK | apply dL rfl | apply dn))
    refine fz (lO (v:=.string _) rfl) .none ⟨rfl,u,k,rfl,h1,h2,h3,fun c hc'=>?_⟩
    have:bl u=[]:=List.eq_nil_of_length_eq_zero (by rw [← eJ];omega)
    rw [this] at hc';cases hc'
def gO (s:ByteArray):Bool:=(bl s).all fun c=>fa c.toNat
theorem lx {s:ByteArray}:s=⟨#[]⟩↔bl s=[]:=⟨fun h=>by rw [h],fun h=>bl_inj (by rw [h])⟩
theorem trim_ok (κ:Kr) (s:ByteArray) (hz:s.size≤1000000000):CallP 63 [.string s,.string dd] κ fun v _=>∃ u,v=.string u∧(u=⟨#[]⟩↔gO s=true):=by
  (unfold CallP;apply f9 Tryd.func63 (ry Tryd.func63 rfl) rfl Tryd.ntmps63 Tryd.results63 rfl)
  repeat (first | (first | (apply bH rfl rfl rfl;(focus (first | exact aH (v:=(.bool _)) rfl (.p rfl) | exact aH (v:=(.string _)) rfl (.p rfl) | exact aV (v:=(.string _)) rfl (.p rfl) | exact oq_or rfl (.p rfl) (.p rfl) (.g rfl) | exact lG rfl (.p rfl) (.p rfl) rfl))) | (apply jJ;(focus (exact pr rfl rfl rfl));rfl;rfl;(focus (first | (apply aH (v:=(.string _)) rfl;(focus (exact Ev.p rfl))) | (apply lG rfl (by (focus (exact Ev.g rfl))) (by (focus (exact Ev.p rfl)));rfl)))) | apply bq) | (first | apply bv | apply aw | apply bu))
  apply ez rfl <;> intro hb
  · repeat (first | (first | (apply bH rfl rfl rfl;(focus (first | exact aH (v:=(.string _)) rfl (.p rfl) | exact aV (v:=(.string _)) rfl (.p rfl)))) | apply bq) | (first | apply bv | apply aw | apply bu | apply eU | apply iS))
    have:s=⟨#[]⟩:=by simpa [dd] using hb
    refine fz (lO (v:=.string _) rfl) .none ⟨rfl,s,rfl,?_⟩
    subst this;simp [gO,bl]
  · have hne:¬ bl s=[]:=fun h=>by rw [lx.2 h] at hb;simp at hb
    repeat (first | (first | (apply bH rfl rfl rfl;(focus (first | exact aH (v:=(.bool _)) rfl (.p rfl) | exact aH (v:=(.string _)) rfl (.p rfl) | exact fZ rfl (.p rfl) (.p rfl) rfl | exact fg rfl rfl (.p rfl)))) | (apply jJ;(focus (exact fX rfl rfl rfl));rfl;rfl;(focus (apply aH (v:=(.string _)) rfl;(focus (exact Ev.p rfl)))))) | (first | apply bv | apply aw | apply bu | apply du))
    apply jJ;(focus (exact fX rfl rfl rfl));rfl;rfl;exact fC (s:=dd) (j:=0) rfl rfl (.g rfl) (.p rfl) (fun _=>rfl) (fun _=>by decide)
    repeat (first | (first | (apply bH rfl rfl rfl;(focus (exact oD rfl (.p rfl) (.p rfl) (.g rfl)))) | (apply jJ;(focus (exact fX rfl rfl rfl));rfl;rfl;(focus (apply fZ rfl (by (focus (exact Ev.g rfl))) (by (focus (exact Ev.p rfl)));rfl))) | apply bq) | (apply bu))
    apply ez rfl <;> intro hb2
    · have e:(dd.size:Int)=10:=rfl
      rw [e] at hb2;simp at hb2
    repeat (first | (apply bH rfl rfl rfl;(focus (exact aH (v:=(.string _)) rfl (.p rfl)))) | (first | apply bv | apply aw | apply bu | apply du))
    refine wl_fun rfl rfl rfl rfl rfl (sS _) fun κ1 _=>?_
    repeat (first | (first | (apply bH rfl rfl rfl;(focus (first | exact aH (v:=(.bool _)) rfl (.p rfl) | exact aH (v:=(.tuple _)) rfl (.p rfl) | exact aV (v:=(.bool _)) rfl (.p rfl) | exact jK rfl (.p rfl) rfl))) | (apply mK rfl rfl rfl;apply k9 rfl rfl;intro _ _ _) | (apply pt rfl rfl;apply lc rfl rfl rfl rfl rfl rfl;(focus (repeat (exact Upd.h)));rfl;intro _ _) | apply bq) | (first | apply bv | apply aw | apply bu))
    rename_i b5 _ _ _ _
    apply rF (b:=b5) Pick.h rfl;intro κ3 _ hS hsays
    have hset:=oJ hS hsays
    apply rj rfl
    repeat (first | (apply bH rfl rfl rfl;(focus (exact aH (v:=(.string _)) rfl (.p rfl)))) | (first | apply bv | apply aw))
    apply mK rfl rfl rfl;apply fD rfl rfl (mA _ b5 s (hset.mono (by (repeat (exact Kle.refl _)))) hz)
    rintro v κ4 _ ⟨u,k,rfl,h1,h2,h3,h4⟩
    apply mK rfl rfl rfl;apply fD rfl rfl (nS _ b5 u (hset.mono (by (repeat (assumption)))))
    rintro v κ5 _ ⟨u2,k2,rfl,g1,g2,g3,g4⟩
    repeat (first | (first | (apply bH rfl rfl rfl;(focus (exact aV (v:=(.string _)) rfl (.p rfl)))) | apply bq) | (first | apply bu | apply eU | apply iS))
    refine fz (lO (v:=.string _) rfl) .none ⟨rfl,u2,rfl,?_⟩
    rw [lx]
    unfold gO
    rw [List.all_eq_true]
    constructor
    · intro h
      have hk2:k2=(bl u).length:=by
        have:=congrArg List.length (g1.symm.trans h);simp only [List.length_drop,List.length_nil] at this;omega
      intro c hc
      rw [← List.take_append_drop k (bl s)] at hc
      rcases List.mem_append.1 hc with hc | hc
      · rw [← h1] at hc;rw [hk2,List.take_length] at g3;exact g3 c hc
      · exact h3 c hc
    · intro h
      have hu:bl u=[]:=by
        rcases List.eq_nil_or_concat (bl u) with hu | ⟨l,c,hu⟩
        · exact hu
        · have hc:=h4 c (by rw [hu];simp)
          have hm:c∈bl s:=List.mem_of_mem_take (i:=k) (by rw [← h1,hu];simp)
          rw [h c hm] at hc;cases hc
      rw [g1,hu];simp
def Glob (κ:Kr):Prop:=Sh κ 0 0 [.int .i64 2,.int .i64 4,.int .i64 6,.int .i64 8]
theorem Glob.mono {κ κ':Kr} (h:Glob κ) (k:Kle κ κ'):Glob κ':=Sh.mono h k
def fW (s:ByteArray):Int:=if (s.size=2∨s.size=4∨s.size=6∨s.size=8)∧gO s=true then (s.size:Int) else 0
theorem gv_some {c:Bool} {v:Value} {P:ByteArray→Prop} (h:c=true→∃ u,v=.string u∧P u):∃ u,gv c v=gv c (.string u)∧(c=true→P u):=by
  cases c
  · exact ⟨⟨#[]⟩,by rw [cK,cK],fun h=>by cases h⟩
  · obtain ⟨u,rfl,h2⟩:=h rfl;exact ⟨u,rfl,fun _=>h2⟩
theorem sT (κ:Kr) (s:ByteArray) (hg:Glob κ):CallP 48 [.string s] κ fun v _=>v=.int .i64 (fW s):=by
  (unfold CallP;apply f9 Tryd.func48 (ry Tryd.func48 rfl) rfl Tryd.ntmps48 Tryd.results48 rfl)
  repeat (first | (first | (apply bH rfl rfl rfl;(focus (exact aV (v:=(.int _ _)) rfl (.p rfl)))) | apply bq) | (first | apply bv | apply aw | apply bu))
  apply bH rfl rfl rfl (iQ rfl (.p rfl) (fun _=>hg) rfl)
  repeat (first | (first | (apply bH rfl rfl rfl;(focus (exact aH (v:=(.int _ _)) rfl (.p rfl)))) | apply bq) | (first | apply dv | apply bu))
  refine il (X:=Nat) (fun k=>[(0,.string s),(5,.agg #[.int .i64 2,.int .i64 4,.int .i64 6,.int .i64 8]),(6,.int .i64 (k:Int))]) (fun _=>[]) (fun k _=>k≤4∧∀ j,j<k→¬ (s.size=2*(j+1)∧gO s=true)) (fun k=>4 - k) 0 (by (repeat (first | exact Holds.nil | apply Holds.cons rfl))) (by (repeat (exact Sub.nil))) ⟨by omega,by omega⟩ ?_
  rintro k τ κ1 _ ⟨hk,hno⟩
  simp only [jH]
  repeat (first | (first | (apply bH rfl rfl rfl;(focus (exact fZ rfl (.p rfl) (.p rfl) rfl))) | apply bq) | (first | apply bv | apply aw | apply bu))
  apply lP rfl <;> intro hc
  · have hk4:k<4:=by omega
    repeat (first | apply bv | apply aw | apply dv | apply bu | apply du)
    apply bH rfl rfl rfl (qq (cs:=[.int .i64 2,.int .i64 4,.int .i64 6,.int .i64 8]) (v:=.int .i64 (2*((k:Int)+1))) (j:=k) rfl rfl rfl rfl rfl (.p rfl) (.p rfl) (fun _=>rfl) (fun _=>hk4) (fun _=>by
      have:k=0∨k=1∨k=2∨k=3:=by omega
      rcases this with rfl | rfl | rfl | rfl <;> rfl))
    repeat (first | (first | (apply bH rfl rfl rfl;(focus (first | exact aH (v:=(.int _ _)) rfl (.p rfl) | exact aH (v:=(.bool _)) rfl (.p rfl) | exact aH (v:=(.string _)) rfl (.p rfl) | exact aV (v:=(.int _ _)) rfl (.p rfl) | exact fZ rfl (.p rfl) (.p rfl) rfl | exact fg rfl rfl (.p rfl)))) | (apply jJ;(focus (exact fX rfl rfl rfl));rfl;rfl;(focus (apply aH (v:=(.string _)) rfl;(focus (exact Ev.p rfl))))) | apply bq) | (first | apply bv | apply aw | apply bu))
    apply wl_g;(focus (exact fX rfl rfl rfl));rfl;rfl
    refine jN rfl (ar2 (.g rfl) (.p rfl)) (fun hcc=>trim_ok _ s (by simp at hcc;omega)) fun v κ2 _ hv=>?_
    obtain ⟨u,hu,hP⟩:=gv_some hv
    rw [hu]
    repeat (first | (first | (apply bH rfl rfl rfl;(focus (exact oD rfl (.p rfl) (.p rfl) (.g rfl)))) | (apply jJ;(focus (exact fX rfl rfl rfl));rfl;rfl;(focus (apply lG rfl (by (focus (exact Ev.g rfl))) (by (focus (exact Ev.p rfl)));rfl))) | apply bq) | (apply bu))
    apply ez rfl <;> intro hb
    · simp only [Bool.and_eq_true,beq_iff_eq,decide_eq_true_eq] at hb
      have hd:gO s=true:=(hP (by simpa using hb.1)).1 hb.2
      repeat (first | (first | (apply bH rfl rfl rfl;(focus (first | exact aH (v:=(.int _ _)) rfl (.p rfl) | exact aV (v:=(.int _ _)) rfl (.p rfl)))) | apply bq) | (first | apply bv | apply aw | apply bu | apply eU | apply iS | apply mW | apply oG))
      refine fz (lO (v:=.int _ _) rfl) .none ⟨rfl,?_⟩
      show Value.int .i64 (2*((k:Int)+1))=.int .i64 (fW s)
      unfold fW
      rw [if_pos ⟨by omega,hd⟩,← hb.1]
    · repeat (first | (first | (apply bH rfl rfl rfl;(focus (first | exact aH (v:=(.int _ _)) rfl (.p rfl) | exact f0 rfl (.p rfl) (.p rfl) rfl (fun _=>by omega)))) | apply bq) | (first | apply aw | apply bu | apply du | apply gW))
      refine lN (k+1) (by (repeat (first | exact Holds.nil | apply Holds.cons rfl))) (by (repeat (exact Sub.nil))) ⟨by omega,fun j hj=>?_⟩ (by omega)
      rcases Nat.lt_or_ge j k with h | h
      · exact hno j h
      · have:j=k:=by omega
        subst this
        rintro ⟨h1,h2⟩
        have hcc:((s.size:Int) == 2*((j:Int)+1))=true:=by simp;omega
        have:=(hP (by simpa using hcc)).2 h2
        subst this
        rw [hcc] at hb;simp at hb
  · repeat (first | (first | (apply bH rfl rfl rfl;(focus (exact aV (v:=(.int _ _)) rfl (.p rfl)))) | apply bq) | (first | apply bv | apply aw | apply bu | apply eU | apply fY | apply dK | apply dL rfl | apply dn))
    refine fz (lO (v:=.int _ _) rfl) .none ⟨rfl,?_⟩
    show Value.int .i64 0=.int .i64 (fW s)
    unfold fW
    rw [if_neg]
    rintro ⟨h1,h2⟩
    have:k=4:=by omega
    subst this
    rcases h1 with h1 | h1 | h1 | h1
    · exact hno 0 (by omega) ⟨h1,h2⟩
    · exact hno 1 (by omega) ⟨h1,h2⟩
    · exact hno 2 (by omega) ⟨h1,h2⟩
    · exact hno 3 (by omega) ⟨h1,h2⟩
end SX
namespace SX
open Go
def fb (p0:ByteArray):Option Int:=some (fW p0)
theorem gy {p0:ByteArray} {r:Int} (h:fb p0=some r):PF 48 [.v (.string p0)] (.v (.int .i64 r)):=fun κ args g ha=>by
 obtain ⟨v,ws,rfl,h1,h2⟩:=ha.cons_inv
 rw [h2.nil_inv,h1.val]
 have h:=Option.some.inj h;subst h
 exact (sT κ p0 g).mono fun v κ' _ hv=>by subst hv;exact .v rfl
def itr (b:Nat) (s:ByteArray) (pos:Nat):Res:=⟨some b,fun o=>o=some (.stringIter s pos)⟩
theorem sU {o:Oper} {σ:PEnv} {ρ:List PRes} {x:Operand} {t:Nat} {s:ByteArray} {K:PV→List PRes→Prop} (ho:o.op=.range t x) (hu:bU t=some .string) (hx:av σ x=.v (.string s)) (h:∀ b,K (.v (.pointer (some ⟨b,0,none⟩))) (.raw (itr b s 0)::ρ)):POpL o σ ρ K:=fun κ σ' ρ' g hs hr β hi Nx hk=>by
 have e1:=hs.v1 hx
 have h1:=run_underlying (w:=κ.w) (aG hu)
 have hrun:(execOp (ev σ') o).run Tryd.prog κ.w=.ok (.value (.pointer (some ⟨κ.w.heap.size,0,none⟩))) (κ.w.alloc (.stringIter s 0)):=by
  simp [execOp,ho,e1,Instr.range,h1,run_newObj_alloc]
 rw [hrun]
 exact hk _ _ ⟨κ.w.alloc (.stringIter s 0),κ.S⟩ (hi.alloc _ (itr κ.w.heap.size s 0) rfl rfl) (bJ hi.fin _) ⟨_,_,.v rfl,.cons .raw (hr.mono (bJ hi.fin _)),h _⟩
theorem pl_next {o:Oper} {σ:PEnv} {ρ ρ1:List PRes} {x:Operand} {b pos:Nat} {s:ByteArray} {K:PV→List PRes→Prop} (ho:o.op=.next x true) (hx:av σ x=.v (.pointer (some ⟨b,0,none⟩))) (hu:PUpd ρ (.raw (itr b s pos)) (.raw (itr b s (pos+(Utf8.decode s pos).2))) ρ1) (h1:pos<s.size→K (.tup [.v (.bool true),.v (.int .i64 (pos:Int)),.v (.int .i32 ((Utf8.decode s pos).1:Int))]) ρ1) (h2:s.size≤pos→K (.tup [.v (.bool false)]) ρ):POpL o σ ρ K:=fun κ σ' ρ' g hs hr β hi Nx hk=>by
 have e1:=hs.v1 hx
 have hr0:=hr
 obtain ⟨r0,l1,l2,rfl,h4,h5⟩:=hr.upd hu
 cases h4 with
 | raw =>
  have hb:κ.w.heap[b]?=some (.stringIter s pos):=hi.own (itr b s pos) (by simp)
  have hg:(getObj b).run Tryd.prog κ.w=.ok (.stringIter s pos) κ.w:=by simp [getObj,Sem.run,hb]
  have hset:∀ ob,(setObj b ob).run Tryd.prog κ.w=.ok () { κ.w with heap:=κ.w.heap.setIfInBounds b ob }:=fun ob=>by simp [setObj,Sem.run,hb]
  rcases Nat.lt_or_ge pos s.size with hlt | hge
  ·have hrun:(execOp (ev σ') o).run Tryd.prog κ.w=.ok (.value (.tuple #[.bool true,goInt pos,.int .i32 ((Utf8.decode s pos).1:Int)])) { κ.w with heap:=κ.w.heap.setIfInBounds b (.stringIter s (pos+(Utf8.decode s pos).2)) }:=by
    simp [execOp,ho,e1,Instr.next,hg,hlt,hset]
   rw [hrun]
   obtain ⟨i1,i2⟩:=hi.turn (r:=itr b s pos) (r':=itr b s (pos+(Utf8.decode s pos).2)) (b:=b) (w':={ κ.w with heap:=κ.w.heap.setIfInBounds b (.stringIter s (pos+(Utf8.decode s pos).2)) }) rfl rfl rfl (fun i hi=>ji hi) (by simp) (jj hb) rfl rfl rfl (Nat.le_refl _)
   exact hk _ _ _ i1 i2 ⟨_,ρ1,.tup (ws:=[_,_,_]) (.cons (.v rfl) (.cons (.v rfl) (.cons (.v rfl) .nil))),h5 _ _ i2 .raw,h1 hlt⟩
  ·have hrun:(execOp (ev σ') o).run Tryd.prog κ.w=.ok (.value (.tuple #[.bool false])) κ.w:=by
    simp [execOp,ho,e1,Instr.next,hg,Nat.not_lt.2 hge]
   rw [hrun]
   exact hk _ _ κ hi (.refl _) ⟨_,ρ,.tup (ws:=[_]) (.cons (.v rfl) .nil),hr0,h2 hge⟩
def gP (s:ByteArray) (pos:Nat):Option (Nat⊕Bool):=cond (Nat.blt pos s.size) (cond (decide (((Utf8.decode s pos).1:Int)<97)||decide (122<((Utf8.decode s pos).1:Int))) (some (.inr false)) (some (.inl (pos+(Utf8.decode s pos).2)))) (some (.inr true))
def gm (p0:ByteArray):Option Bool:=cond (decide ((p0.size:Int)<1)||decide (12<(p0.size:Int))) (some false) (aT (gP p0) FUEL 0)
attribute [local irreducible] PWL PWC PWD POpL POpQ PEv PGuardIs PSub PPick PUpd PSplice PFill PLit PF PFV PCall FOk gr df jf jg gD ip Cov PHolds aT gP
theorem jv {p0:ByteArray} {r:Bool} (h:gm p0=some r):PF 64 [pS p0] (pB r):=by
 unfold gm at h
 refine bW ?_
 refine aI Tryd.func64 rfl Tryd.ntmps64 Tryd.results64 rfl ?_
 (repeat refine aa ?_)
 refine aK [] [2] [] cw (by kernel_rfl) ?_
 (repeat (first | apply an | apply ah))
 (repeat refine aa ?_)
 refine aK [] [5,6,7,8,9,10,11] [(12,pB (decide ((p0.size:Int)<1)||decide (12<(p0.size:Int))))] cw (by kernel_rfl) ?_
 (repeat (first | apply an | apply ah))
 (repeat refine aa ?_)
 refine gC rfl (fun hc=>?_) (fun hc=>?_)
 ·replace h:=oP hc h
  (repeat refine aa ?_)
  refine aK [] [] [(2,pB false)] cw (by kernel_rfl) ?_
  (repeat (first | apply an | apply ah))
  (repeat refine aa ?_)
  refine dg ?_
  (repeat (first | apply ap | apply ai | apply aN | apply dN))
  obtain rfl:=Option.some.inj h
  exact bG (ed (bK rfl)) ey ⟨rfl,rfl⟩
 replace h:=oQ hc h
 refine al ?_
 (repeat (first | apply an | apply ah))
 (repeat refine aa ?_)
 refine af ?_
 refine bz 1 [] [] [(13,pS p0)] cw (by kernel_rfl) ?_
 refine rQ rfl rfl rfl (sU rfl rfl rfl fun b=>?_)
 refine bM ?_
 (repeat (first | apply an | apply ah))
 (repeat refine aa ?_)
 refine aM (Y:=Unit) (fun _=>[]) (fun _=>[]) (fun _=>r=true) ?_ ?_
 ·refine am ?_
  refine aO (Y:=Unit) (S:=Nat) _ h (fun _ _=>[(14,pP b 0)]) (fun _ pos=>[PRes.raw (itr b p0 pos)]) () (by (repeat (first | exact kQ | apply ig rfl))) (by (repeat (first | exact ey | (apply cI;(focus (repeat (first | exact br | apply bm))))))) ?_
  rintro _ pos o τ hb;dsimp only [aF]
  unfold gP at hb
  (repeat refine aa ?_)
  refine af ?_
  refine rQ rfl rfl rfl (pl_next rfl rfl ll (fun hlt=>?_) (fun hge=>?_))
  ·have hlt':Nat.blt pos p0.size=true:=by simp [Nat.blt];omega
   rw [hlt'] at hb;simp only [cR] at hb
   refine eF [] [] [(16,pB true)] cw (by kernel_rfl) ?_
   (repeat (first | apply an | apply ah))
   (repeat refine aa ?_)
   refine gC (p:=true) rfl (fun _=>?_) (fun hf=>by cases hf)
   refine al ?_
   (repeat (first | apply an | apply ah))
   (repeat refine aa ?_)
   refine am ?_
   (repeat refine aa ?_)
   refine aK [] [17] [(4,.v (.int .i32 ((Utf8.decode p0 pos).1:Int)))] cw (by kernel_rfl) ?_
   (repeat (first | apply an | apply ah))
   (repeat refine aa ?_)
   refine aK [] [18,19,20,21,22] [(23,pB (decide (((Utf8.decode p0 pos).1:Int)<97)||decide (122<((Utf8.decode p0 pos).1:Int))))] cw (by kernel_rfl) ?_
   (repeat (first | apply an | apply ah))
   (repeat refine aa ?_)
   refine gC rfl (fun hc2=>?_) (fun hc2=>?_)
   ·replace hb:=oP hc2 hb
    (repeat refine aa ?_)
    refine aK [] [] [(2,pB false)] cw (by kernel_rfl) ?_
    (repeat (first | apply an | apply ah))
    (repeat refine aa ?_)
    refine dg ?_
    (repeat (first | apply ap | apply ai | apply aN | apply dN))
    refine aL hb (fun ht=>?_);subst ht
    (repeat (first | apply ap | apply ai | apply aN | apply dN))
    exact bG (ed (bK rfl)) ey ⟨rfl,rfl⟩
   replace hb:=oQ hc2 hb
   refine al ?_
   (repeat apply an)
   exact bk hb () (by (repeat (first | exact kQ | apply ig rfl))) (by (repeat (first | exact ey | (apply cI;(focus (repeat (first | exact br | apply bm)))))))
  have hge':Nat.blt pos p0.size=false:=by cases e:Nat.blt pos p0.size;rfl;exact absurd (Nat.le_of_ble_eq_true e) (by omega)
  rw [hge'] at hb;simp only [eo] at hb
  refine eF [] [] [(16,pB false)] cw (by kernel_rfl) ?_
  (repeat (first | apply an | apply ah))
  (repeat refine aa ?_)
  refine gC (p:=false) rfl (fun hf=>by cases hf) (fun _=>?_)
  refine aS ?_
  (repeat (first | apply ar | apply ne | apply nf | apply jh rfl))
  refine aq hb (fun ht=>?_)
  refine au rfl ?_
  exact bc () kQ ey ht.symm
 rintro _ τ hz;subst hz;dsimp only [aF]
 (repeat refine aa ?_)
 refine aK [] [] [(2,pB true)] cw (by kernel_rfl) ?_
 (repeat (first | apply an | apply ah))
 (repeat refine aa ?_)
 refine dg ?_
 (repeat (first | apply ap | apply ai | apply aN | apply dN))
 exact bG (ed (bK rfl)) ey ⟨rfl,rfl⟩
end SX
end Go.Proofs.YtipjgkapcgpgbaaDoor
set_option maxRecDepth 100000
namespace Go.Proofs.YtipjgkapcgpgbaaDoor
namespace SX
open Go Go.RowKit
theorem Zd.fresh {β:Base} {r':Res} {l:List Res} {κ:Kr} {w':World} (h:Zd β l κ) (hB:Below κ.w.heap.size κ.w w') (hs:r'.holds w') (hlt:∀ b,r'.blk=some b→κ.w.heap.size≤b∧b<w'.heap.size) (hdr:DrGo κ.w.drawn w'.drawn) :
    Zd β (r'::l) ⟨w',κ.S⟩∧Kle κ ⟨w',κ.S⟩:=by
  obtain ⟨hle,hfin,hown,hblk,hnd⟩:=h
  have hk:Kle κ ⟨w',κ.S⟩:=⟨hB.size,fun _ h=>h,fun i hi=>hB.block i (hfin i hi)⟩
  refine ⟨⟨⟨hle.kle.trans hk,fun i hi hm=>(hB.block i (Nat.lt_of_lt_of_le hi hle.kle.size)).trans (hle.same i hi hm),hle.shNew,hB.os.trans hle.os,hB.tape.trans hle.tape,hB.output.trans hle.output,hle.drawn.trans hdr⟩,fun i hi=>Nat.lt_of_lt_of_le (hfin i hi) hB.size,?_,?_,?_⟩,hk⟩
  · intro s hs'
    rcases List.mem_cons.1 hs' with rfl | hs'
    · exact hs
    exact Res.holds_of (hown s hs') fun i hi=>hB.block i (hblk s hs' i hi).1
  · intro s hs' i hi
    rcases List.mem_cons.1 hs' with rfl | hs'
    · obtain ⟨h1,h2⟩:=hlt i hi
      refine ⟨h2,fun hS=>absurd (hfin i hS) (by omega),.inl ?_⟩
      have:=hle.kle.size;omega
    obtain ⟨h1,h2,h3⟩:=hblk s hs' i hi
    exact ⟨Nat.lt_of_lt_of_le h1 hB.size,h2,h3⟩
  refine List.pairwise_cons.2 ⟨fun s hs' b hb hb2=>?_,hnd⟩
  have h1:=(hlt b hb).1
  have h2:=(hblk s hs' b hb2).1
  omega
def inI (a:Int):Bool:=decide (-9223372036854775808≤a)&&decide (a≤9223372036854775807)
def ly (a b:Int):Bool:=decide (a<b)
def nT {V:Type} (xs:List (Int×V)):Option (List Int):=cond (xs.all (fun p=>inI p.1)&&decide (xs.length≤1000000000000)) (some (ku ly (xs.map (·.1)))) none
end SX
end Go.Proofs.YtipjgkapcgpgbaaDoor
set_option maxRecDepth 100000
namespace Go.Proofs.YtipjgkapcgpgbaaDoor
namespace SX
open Go Go.RowKit Go.Maps Go.Sort Go.Shelf
theorem sortsI {ρs ρo:Ren} (Lo:SlLaysM.n5 Tryd.prog ρo) (h:ρo.f 5=ρs.f 9) (m:Nat):AnyZI.SortsIn Tryd.prog ρs Fence.wide m:=by
 unfold AnyZI.SortsIn
 rw [← h]
 exact ⟨fun blk off cap ss W hH hblk hsz=>callsIn_wide.2 (AnyM.slices_Sort_int Lo blk off cap ss W hH hblk hsz),fun p cap W=>callsIn_wide.2 (AnyM.slices_Sort_int_none Lo p cap W)⟩
theorem sV {ρk:Ren} {fK fI mt:Nat} {mo:Option Nat} (Lk:SlLaysZI.n7 Tryd.prog ρk) (h1:ρk.f 7=fK) (h2:ρk.f 10=fI) (h3:ρk.t 23=mt) (fOk:FnOk fK) :
    PCall fK [.v (.map mo)] [] (fun pv ρ'=>∃ b,pv=.v (.func (.func fI) #[] #[.pointer (some ⟨b,0,none⟩)])∧ρ'=[PRes.b b mt [.v (.map mo)]]):=fun κ args ρ gk ha hr=>by
  subst h1 h2 h3
  obtain ⟨v,ws,rfl,ha1,ha2⟩:=ha.cons_inv
  rw [ha2.nil_inv,ha1.val]
  have:=hr.nil_inv;subst this
  refine ⟨fOk,fun hi=>?_⟩
  refine (callsIn_wide.1 (AnyZI.keys_in Lk Fence.wide 5 trivial rfl mo κ.w)).mono fun e w' ⟨h1,h2⟩=>?_
  subst h1 h2
  exact ⟨_,_,⟨_,κ.S⟩,rfl,rfl,hi.alloc (.cells #[.map mo] (ρk.t 23)) (Res.b κ.w.heap.size (ρk.t 23) [.map mo]) rfl rfl,_,_,.v rfl,.cons (.b (fun u hu=>by rw [List.mem_singleton.1 hu];rfl) (.cons (.v rfl) .nil)) .nil,_,rfl,rfl⟩
theorem jn {H:Type} (x:Go.Lit×DataW H):∀ l:List (Go.Lit×DataW H),(DataW.insert x l).Perm (x::l)
 | []=>.refl _
 | y::l=>by
  unfold DataW.insert
  split
  ·exact .refl _
  exact ((jn x l).cons y).trans (.swap _ _ _)
theorem dF {H:Type}:∀ l:List (Go.Lit×DataW H),(l.foldr DataW.insert []).Perm l
 | []=>.refl _
 | x::l=>by rw [List.foldr_cons];exact (jn _ _).trans ((dF l).cons x)
theorem ltI_t (x y z:Int) (h1:ly x y=true) (h2:ly y z=true):ly x z=true:=by
 unfold ly at *;simp only [decide_eq_true_eq] at *;omega
theorem ltI_n (x y z:Int) (h1:ly x y=false) (h2:ly y z=false):ly x z=false:=by
 unfold ly at *;simp only [decide_eq_false_iff_not] at *;omega
theorem ltI_i (x:Int):ly x x=false:=by unfold ly;simp
theorem ltI_a (x y:Int) (h1:ly x y=false) (h2:ly y x=false):x=y:=by
 unfold ly at *;simp only [decide_eq_false_iff_not] at *;omega
theorem jx {l m:List Int} (hp:l.Perm m):(l.mergeSort fun x y=>decide (x≤y))=ku ly m:=by
 refine jl (lt:=ly) ltI_a ?_ (gi ltI_t ltI_n ltI_i m) (((List.mergeSort_perm _ _).trans hp).trans dS.symm)
 have h:=List.pairwise_mergeSort (le:=fun x y:Int=>decide (x≤y)) (fun a b c h1 h2=>by simp only [decide_eq_true_eq] at *;omega) (fun a b=>by simp only [Bool.or_eq_true,decide_eq_true_eq];omega) l
 exact h.imp fun {a b} hab=>by unfold ly;simp only [decide_eq_true_eq] at hab;simp only [decide_eq_false_iff_not];omega
theorem qa {κ:Kr}:∀ ks:List Int,Rpss κ (ks.map eI) (ks.map fun x=>[Value.int .i64 x])
 | []=>.nil
 | x::l=>.cons (.cons (.v rfl) .nil) (qa l)
theorem sW {V:Type} {vv:V→PV} {κ:Kr}:∀ {xs:List (Int×V)} {es:List MapEntry},KVs κ (aW kI vv xs) es→es.map (·.key)=xs.map fun p=>Value.int .i64 p.1:=fun {xs es} h=>by
 rw [← h.keys];simp [aW,kI]
theorem pg {V:Type} {vv:V→PV} {κ:Kr} {xs:List (Int×V)} {es:List MapEntry} {clock mb it:Nat} (ht:Tryd.prog.underlying it=some (.int .i64)) (hin:∀ p∈xs,inI p.1=true) (hlen:xs.length≤1000000000000) (hw:MapWf es clock) (hk:KVs κ (aW kI vv xs) es) (hb:κ.w.heap[mb]?=some (.map es.toArray clock)) :
    ∃ D0:DataW Unit,κ.w.ownsMap Tryd.prog it (fun _=>some (.nil,[])) mb es.length D0∧(intKeys D0).Perm (xs.map (·.1))∧Maps.size D0=xs.length:=by
  have hkeys:=sW hk
  have hl:es.length=xs.length:=by have:=congrArg List.length hkeys;simpa using this
  have hwf:∀ a:Int,inI a=true→(Go.Lit.int .i64 a).wf=true:=fun a h=>by
    unfold inI at h
    simp only [Bool.and_eq_true,decide_eq_true_eq] at h
    simp only [Go.Lit.wf,Bool.and_eq_true,decide_eq_true_eq]
    exact ⟨h.1,h.2⟩
  have hkey:∀ e∈es,∃ a,e.key=.int .i64 a∧inI a=true:=fun e he=>by
    have:e.key∈es.map (·.key):=List.mem_map.2 ⟨e,he,rfl⟩
    rw [hkeys] at this
    obtain ⟨p,hp,e1⟩:=List.mem_map.1 this
    exact ⟨p.1,e1.symm,hin p hp⟩
  have hrd:∀ e∈es,∃ a,e.key=.int .i64 a∧WideElems.rd Tryd.prog it (fun _=>some ((.nil:DataW Unit),[])) e=some (.int .i64 a,.nil):=fun e he=>by
    obtain ⟨a,h1,h2⟩:=hkey e he
    refine ⟨a,h1,?_⟩
    exact WideElems.rd_mk (R:=fun _=>some ((.nil:DataW Unit),[])) (yv:=((.nil:DataW Unit),[])) (key:=e.key) (val:=e.val) (born:=e.born) (by rw [h1];exact keyOf_int_mk ht (hwf a h2)) rfl
  have hrg:es.map (WideElems.rg Tryd.prog it (fun _=>some ((.nil:DataW Unit),[])))=xs.map fun p=>(Go.Lit.int .i64 p.1,(.nil:DataW Unit)):=by
    have:∀ (l:List MapEntry) (ys:List (Int×V)),l.map (·.key)=ys.map (fun p=>Value.int .i64 p.1)→(∀ e∈l,∃ a,e.key=.int .i64 a∧WideElems.rd Tryd.prog it (fun _=>some ((.nil:DataW Unit),[])) e=some (.int .i64 a,.nil))→l.map (WideElems.rg Tryd.prog it (fun _=>some ((.nil:DataW Unit),[])))=ys.map fun p=>(Go.Lit.int .i64 p.1,(.nil:DataW Unit)):=fun l=>by
      induction l with
      | nil=>intro ys h _;cases ys with | nil=>rfl | cons y ys=>cases h
      | cons e l ih =>
        intro ys h hr
        cases ys with
        | nil=>cases h
        | cons y ys =>
          rw [List.map_cons,List.map_cons] at h
          injection h with h1 h2
          rw [List.map_cons,List.map_cons,ih ys h2 fun e he=>hr e (List.mem_cons_of_mem _ he)]
          obtain ⟨a,g1,g2⟩:=hr e (List.mem_cons_self)
          rw [WideElems.rg_of g2]
          rw [h1] at g1;injection g1 with _ g1;subst g1;rfl
    exact this es xs hkeys hrd
  refine ⟨_,⟨es.toArray,clock,hb,⟨by simp only [List.size_toArray];unfold maxLen;omega,⟨fun x hx=>hw.lt x (by simpa using hx),?_,?_⟩,fun x hx=>by obtain ⟨a,_,h⟩:=hrd x (by simpa using hx);exact ⟨_,h⟩⟩,by simp,rfl⟩,?_,?_⟩
  · simp only [];exact List.pairwise_map.2 hw.bn
  · simp only [];exact List.pairwise_map.2 hw.nd
  · simp only [intKeys]
    refine ((dF _).map _).trans ?_
    rw [hrg,List.map_map]
    exact .refl _
  simp only [Maps.size]
  rw [(dF _).length_eq];simp [hl]
theorem ph {V:Type} {vv:V→PV} {xs:List (Int×V)} {ks:List Int} {b mb fS fI fO mt it:Nat} {ρk ρs ρo:Ren} (Lk:SlLaysZI.n7 Tryd.prog ρk) (Ls:SlLaysZI.n6 Tryd.prog ρs) (Lo:SlLaysM.n5 Tryd.prog ρo) (h1:ρs.f 6=fS) (h2:ρk.f 10=fI) (h3:ρo.f 5=fO) (h4:ρs.f 9=fO) (h5:ρk.t 26=it) (h6:ρs.t 26=it) (fOk:FnOk fS) (iOk:FnOk fI) (oOk:FnOk fO) (hd:k7=false) (h:nT xs=some ks) :
    PCall fS [.v (.func (.func fI) #[] #[.pointer (some ⟨b,0,none⟩)])] [PRes.b b mt [.v (.map (some mb))],PRes.mp (some mb) (aW kI vv xs)] (fun pv ρ'=>∃ a c,pv=.v (.slice a ks.length c)∧ρ'=[PRes.row a ks.length c it 1 (List.map eI ks),PRes.b b mt [.v (.map (some mb))],PRes.mp (some mb) (aW kI vv xs)]):=fun κ args ρ gk ha hr=>by
  subst h1 h2 h3
  have hit:Tryd.prog.underlying it=some (.int .i64):=by rw [← h5];exact Lk.t26
  obtain ⟨v,ws,rfl,ha1,ha2⟩:=ha.cons_inv
  rw [ha2.nil_inv,ha1.val]
  obtain ⟨r0,l',rfl,hr1,hr2⟩:=hr.cons_inv
  obtain ⟨r1,l'',rfl,hr3,hr4⟩:=hr2.cons_inv
  have:=hr4.nil_inv;subst this
  refine ⟨fOk,fun hi=>?_⟩
  unfold nT at h
  cases hc:(xs.all (fun p=>inI p.1)&&decide (xs.length≤1000000000000)) with
  | false=>rw [hc] at h;cases h
  | true =>
    rw [hc,cR] at h
    have hks:=(Option.some.inj h).symm
    rw [Bool.and_eq_true,List.all_eq_true,decide_eq_true_eq] at hc
    have hres:=hr
    cases hr1 with
    | b o1 hb1 =>
      cases hr3 with
      | mp hn hw hk =>
        obtain ⟨c0,cs0,rfl,hb2,hb3⟩:=hb1.cons_inv
        rw [hb3.nil_inv,hb2.val] at hi hres
        have hob:κ.w.heap[b]?=some (.cells #[.map (some mb)] mt (0,0)):=hi.own _ (List.mem_cons_self)
        have hom:κ.w.heap[mb]?=some (.map _ _):=hi.own _ (List.mem_cons_of_mem _ List.mem_cons_self)
        have hbl:b<κ.w.heap.size:=(hi.blk _ (List.mem_cons_self) b rfl).1
        have hcell:κ.w.cell? ⟨b,0,none⟩=some (.map (some mb)):=by simp [World.cell?,hob]
        obtain ⟨D0,hown,hperm,hsize⟩:=pg hit hc.1 hc.2 hw hk hom
        have hseq:=AnyZI.keys_gives (ρ:=ρk) { Lk with } Fence.wide 2 trivial rfl (by omega) b mb _ D0 κ.w hbl hcell (by rw [h5];exact hown)
        have cS:=AnyZI.sorted_in Ls Fence.wide 5 trivial trivial trivial trivial rfl (by omega) (sortsI Lo h4.symm _) (fun args w=>by rw [h4];exact dx oOk args w) (ρk.f 10) #[.pointer (some ⟨b,0,none⟩)] trivial (fun args w=>dx iOk args w) _ _ (by rw [hsize];unfold maxLen;omega) (by rw [hsize];omega) κ.w hseq
        refine (callsIn_wide.1 cS).mono fun e w' ⟨v,ss,g1,g2,g3,g4,g5⟩=>?_
        have hss:(ss.mergeSort fun x y=>decide (x≤y))=ks:=by rw [hks];exact jx (g2.trans hperm)
        have hsl:ss.length=ks.length:=by rw [← hss];exact (List.length_mergeSort _).symm
        rw [hss,hsl,h6] at g3
        have hkl:ks.length≤1000000000000:=by
          rw [hks,dS.length_eq,List.length_map];exact hc.2
        obtain ⟨a,c,hv,hrow,hblk⟩:∃ a c,v=.slice a ks.length c∧(Res.row a ks.length c it 1 (ks.map fun x=>[Value.int .i64 x])).holds w'∧∀ q,(Res.row a ks.length c it 1 (ks.map fun x=>[Value.int .i64 x])).blk=some q→κ.w.heap.size≤q∧q<w'.heap.size:=by
          rcases g3.2 with ⟨e1,e2⟩ | ⟨g,cap,cur,e1,e2,e3,e4,e5,e6,e7⟩
          · have:ks=[]:=List.eq_nil_of_length_eq_zero e2
            subst this
            exact ⟨none,0,e1,⟨rfl,rfl,rfl⟩,fun q hq=>by cases hq⟩
          refine ⟨some ⟨g,0,none⟩,cap,e1,⟨rfl,by simp,fun cs hcs=>by obtain ⟨x,_,rfl⟩:=List.mem_map.1 hcs;rfl,e4,e5,cur,e3,e6,?_⟩,fun q hq=>?_⟩
          · rw [e7,← List.flatMap_def];exact List.map_eq_flatMap
          injection hq with hq;subst hq
          exact ⟨e2,eA e3⟩
        obtain ⟨i1,k1⟩:=hi.fresh g5 hrow hblk (fun hx=>by rw [hd] at hx;cases hx)
        subst g1 hv
        exact ⟨_,_,⟨w',κ.S⟩,rfl,rfl,i1,_,_,.v rfl,.cons (.row (by omega) (by intro cs hcs;obtain ⟨x,_,rfl⟩:=List.mem_map.1 hcs;exact fun u hu=>by rw [List.mem_singleton.1 hu];rfl) (qa ks)) (hres.mono k1),_,_,rfl,rfl⟩
end SX
end Go.Proofs.YtipjgkapcgpgbaaDoor
namespace Go.Proofs
open Go.Shelf
def Tryd.lKeys_ren:Go.Shelf.Ren:=⟨fun | 7=>43 | 10=>61 | n=>n,fun | 23=>68 | 26=>3 | 3=>4 | 28=>72 | 0=>0 | 27=>71 | 33=>84 | 4=>4 | n=>n,fun | n=>n⟩
theorem Tryd.lKeys:Go.Proofs.SlLaysZI.n7 Tryd.prog Tryd.lKeys_ren:={
 mixed:=by kernel_rfl
 f7:=⟨Tryd.f43.name,by decide,Tryd.func43.trans (congrArg some (by kernel_rfl))⟩
 f10:=⟨Tryd.f61.name,by decide,Tryd.func61.trans (congrArg some (by kernel_rfl))⟩
 t0:=Tryd.underlying0
 a0:=Tryd.isAgg0
 z0:=Tryd.sizeOf0
 v0:=Tryd.zeroValue0
 t4:=Tryd.underlying4
 a4:=Tryd.isAgg4
 z4:=Tryd.sizeOf4
 v4:=Tryd.zeroValue4
 t23:=Tryd.underlying68
 a23:=Tryd.isAgg68
 z23:=Tryd.sizeOf68
 v23:=Tryd.zeroValue68
 t26:=Tryd.underlying3
 a26:=Tryd.isAgg3
 z26:=Tryd.sizeOf3
 v26:=Tryd.zeroValue3
 t27:=Tryd.underlying71
 a27:=Tryd.isAgg71
 z27:=Tryd.sizeOf71
 v27:=Tryd.zeroValue71
 t28:=Tryd.underlying72
 a28:=Tryd.isAgg72
 z28:=Tryd.sizeOf72
 v28:=Tryd.zeroValue72
 t33:=Tryd.underlying84
 a33:=Tryd.isAgg84
 z33:=Tryd.sizeOf84
 v33:=Tryd.zeroValue84 }
end Go.Proofs
namespace Go.Proofs
open Go.Shelf
def Tryd.lSorted_ren:Go.Shelf.Ren:=⟨fun | 6=>42 | 8=>59 | 9=>60 | 11=>69 | 13=>71 | 12=>70 | 23=>88 | 24=>89 | 14=>79 | 15=>80 | 16=>81 | 17=>82 | 18=>83 | 19=>84 | 20=>85 | 21=>86 | 22=>87 | 25=>94 | 26=>95 | 27=>96 | 28=>97 | 29=>98 | 30=>68 | 31=>102 | n=>n,fun | 26=>3 | 28=>72 | 24=>23 | 0=>0 | 3=>3 | 37=>36 | 48=>113 | 50=>115 | 4=>4 | 40=>106 | 39=>105 | 45=>66 | 5=>5 | 9=>9 | 51=>119 | 55=>123 | 57=>126 | 58=>127 | 33=>84 | n=>n,fun | n=>n⟩
theorem Tryd.lSorted:Go.Proofs.SlLaysZI.n6 Tryd.prog Tryd.lSorted_ren:={
 mixed:=by kernel_rfl
 f6:=⟨Tryd.f42.name,by decide,Tryd.func42.trans (congrArg some (by kernel_rfl))⟩
 f8:=⟨Tryd.f59.name,by decide,Tryd.func59.trans (congrArg some (by kernel_rfl))⟩
 f11:=⟨Tryd.f69.name,by decide,Tryd.func69.trans (congrArg some (by kernel_rfl))⟩
 t0:=Tryd.underlying0
 a0:=Tryd.isAgg0
 z0:=Tryd.sizeOf0
 v0:=Tryd.zeroValue0
 t24:=Tryd.underlying23
 a24:=Tryd.isAgg23
 z24:=Tryd.sizeOf23
 v24:=Tryd.zeroValue23
 t26:=Tryd.underlying3
 a26:=Tryd.isAgg3
 z26:=Tryd.sizeOf3
 v26:=Tryd.zeroValue3
 t28:=Tryd.underlying72
 a28:=Tryd.isAgg72
 z28:=Tryd.sizeOf72
 v28:=Tryd.zeroValue72
 i26:=by kernel_rfl }
end Go.Proofs
namespace Go.Proofs
open Go.Shelf
def Tryd.lSortI_ren:Go.Shelf.Ren:=⟨fun | 5=>60 | 8=>71 | 7=>70 | 19=>88 | 20=>89 | 10=>79 | 11=>80 | 12=>81 | 13=>82 | 14=>83 | 15=>84 | 16=>85 | 17=>86 | 18=>87 | 30=>94 | 31=>95 | 32=>96 | 33=>97 | 34=>98 | 35=>68 | 40=>102 | n=>n,fun | 23=>23 | 25=>3 | 3=>3 | 32=>36 | 22=>23 | 0=>0 | 44=>113 | 46=>115 | 4=>4 | 36=>106 | 35=>105 | 41=>66 | 5=>5 | 9=>9 | 53=>119 | 57=>123 | 63=>126 | 64=>127 | n=>n,fun | n=>n⟩
theorem Tryd.lSortI:Go.Proofs.SlLaysM.n5 Tryd.prog Tryd.lSortI_ren:={
 mixed:=by kernel_rfl
 f5:=⟨Tryd.f60.name,by decide,Tryd.func60.trans (congrArg some (by kernel_rfl))⟩
 f7:=⟨Tryd.f70.name,by decide,Tryd.func70.trans (congrArg some (by kernel_rfl))⟩
 f8:=Tryd.func71.trans (congrArg some (by kernel_rfl))
 f10:=⟨Tryd.f79.name,by decide,Tryd.func79.trans (congrArg some (by kernel_rfl))⟩
 f11:=⟨Tryd.f80.name,by decide,Tryd.func80.trans (congrArg some (by kernel_rfl))⟩
 f12:=⟨Tryd.f81.name,by decide,Tryd.func81.trans (congrArg some (by kernel_rfl))⟩
 f13:=⟨Tryd.f82.name,by decide,Tryd.func82.trans (congrArg some (by kernel_rfl))⟩
 f14:=⟨Tryd.f83.name,by decide,Tryd.func83.trans (congrArg some (by kernel_rfl))⟩
 f15:=⟨Tryd.f84.name,by decide,Tryd.func84.trans (congrArg some (by kernel_rfl))⟩
 f16:=⟨Tryd.f85.name,by decide,Tryd.func85.trans (congrArg some (by kernel_rfl))⟩
 f17:=⟨Tryd.f86.name,by decide,Tryd.func86.trans (congrArg some (by kernel_rfl))⟩
 f18:=⟨Tryd.f87.name,by decide,Tryd.func87.trans (congrArg some (by kernel_rfl))⟩
 f19:=Tryd.func88.trans (congrArg some (by kernel_rfl))
 f20:=Tryd.func89.trans (congrArg some (by kernel_rfl))
 f30:=⟨Tryd.f94.name,by decide,Tryd.func94.trans (congrArg some (by kernel_rfl))⟩
 f31:=Tryd.func95.trans (congrArg some (by kernel_rfl))
 f32:=Tryd.func96.trans (congrArg some (by kernel_rfl))
 f33:=⟨Tryd.f97.name,by decide,Tryd.func97.trans (congrArg some (by kernel_rfl))⟩
 f34:=⟨Tryd.f98.name,by decide,Tryd.func98.trans (congrArg some (by kernel_rfl))⟩
 f35:=⟨Tryd.f68.name,by decide,Tryd.func68.trans (congrArg some (by kernel_rfl))⟩
 f40:=⟨Tryd.f102.name,by decide,Tryd.func102.trans (congrArg some (by kernel_rfl))⟩
 t0:=Tryd.underlying0
 a0:=Tryd.isAgg0
 z0:=Tryd.sizeOf0
 v0:=Tryd.zeroValue0
 t3:=Tryd.underlying3
 a3:=Tryd.isAgg3
 z3:=Tryd.sizeOf3
 v3:=Tryd.zeroValue3
 t4:=Tryd.underlying4
 a4:=Tryd.isAgg4
 z4:=Tryd.sizeOf4
 v4:=Tryd.zeroValue4
 t5:=Tryd.underlying5
 a5:=Tryd.isAgg5
 z5:=Tryd.sizeOf5
 v5:=Tryd.zeroValue5
 t9:=Tryd.underlying9
 a9:=Tryd.isAgg9
 z9:=Tryd.sizeOf9
 v9:=Tryd.zeroValue9
 t22:=Tryd.underlying23
 a22:=Tryd.isAgg23
 z22:=Tryd.sizeOf23
 v22:=Tryd.zeroValue23
 t23:=Tryd.underlying23
 a23:=Tryd.isAgg23
 z23:=Tryd.sizeOf23
 v23:=Tryd.zeroValue23
 t25:=Tryd.underlying3
 a25:=Tryd.isAgg3
 z25:=Tryd.sizeOf3
 v25:=Tryd.zeroValue3
 t32:=Tryd.underlying36
 a32:=Tryd.isAgg36
 z32:=Tryd.sizeOf36
 v32:=Tryd.zeroValue36
 t35:=Tryd.underlying105
 a35:=Tryd.isAgg105
 z35:=Tryd.sizeOf105
 v35:=Tryd.zeroValue105
 t36:=Tryd.underlying106
 a36:=Tryd.isAgg106
 z36:=Tryd.sizeOf106
 v36:=Tryd.zeroValue106
 t41:=Tryd.underlying66
 a41:=Tryd.isAgg66
 z41:=Tryd.sizeOf66
 v41:=Tryd.zeroValue66
 t44:=Tryd.underlying113
 a44:=Tryd.isAgg113
 z44:=Tryd.sizeOf113
 v44:=Tryd.zeroValue113
 t46:=Tryd.underlying115
 a46:=Tryd.isAgg115
 z46:=Tryd.sizeOf115
 v46:=Tryd.zeroValue115
 t53:=Tryd.underlying119
 a53:=Tryd.isAgg119
 z53:=Tryd.sizeOf119
 v53:=Tryd.zeroValue119
 t57:=Tryd.underlying123
 a57:=Tryd.isAgg123
 z57:=Tryd.sizeOf123
 v57:=Tryd.zeroValue123
 t63:=Tryd.underlying126
 a63:=Tryd.isAgg126
 z63:=Tryd.sizeOf126
 v63:=Tryd.zeroValue126
 t64:=Tryd.underlying127
 a64:=Tryd.isAgg127
 z64:=Tryd.sizeOf127
 v64:=Tryd.zeroValue127 }
end Go.Proofs
namespace Go.Proofs.YtipjgkapcgpgbaaDoor
namespace SX
open Go
section
variable {K V:Type} [DecidableEq K]
theorem qM {xs:List (K×V)} {k:K} (h:∀ p∈xs,p.1≠k):ju xs k=xs:=by
 induction xs with
 | nil=>rfl
 | cons p r ih =>
  obtain ⟨a,v⟩:=p
  unfold ju
  rw [if_neg (h (a,v) (by simp)),ih (fun p hp=>h p (by simp [hp]))]
theorem qb:∀ {xs:List (K×V)},MND xs→∀ {k:K} {v:V} {i:Nat},xs[i]?=some (k,v)→ju xs k=xs.eraseIdx i
 | (a,w)::r,nd,k,v,0,h=>by
  simp only [List.getElem?_cons_zero,bF,Prod.mk.injEq] at h
  unfold ju;rw [if_pos h.1,List.eraseIdx_cons_zero]
 | (a,w)::r,nd,k,v,i+1,h=>by
  simp only [List.getElem?_cons_succ] at h
  have nd':=List.pairwise_cons.1 nd
  have hne:a≠k:=nd'.1 (k,v) (List.mem_of_getElem? h)
  unfold ju;rw [if_neg hne,List.eraseIdx_cons_succ,qb nd'.2 h]
end
theorem KVs.erase {κ:Kr}:∀ {kvs:List (Value×PV)} {es:List MapEntry} (i:Nat),KVs κ kvs es→KVs κ (kvs.eraseIdx i) (es.eraseIdx i)
 | _,_,_,.nil=>.nil
 | _,_,0,.cons _ hs=>hs
 | _,_,i+1,.cons h hs=>.cons h (KVs.erase i hs)
theorem MapWf.erase {es:List MapEntry} {clock:Nat} (h:MapWf es clock) (i:Nat):MapWf (es.eraseIdx i) clock where
 nd:=h.nd.sublist (List.eraseIdx_sublist es i)
 bn:=h.bn.sublist (List.eraseIdx_sublist es i)
 lt:=fun e he=>h.lt e ((List.eraseIdx_sublist es i).subset he)
theorem jo {α β:Type} (f:α→β):∀ (l:List α) (i:Nat),(l.map f).eraseIdx i=(l.eraseIdx i).map f
 | [],_=>rfl
 | _::_,0=>rfl
 | x::l,i+1=>congrArg (f x::·) (jo f l i)
theorem KVs.length {κ:Kr} {kvs:List (Value×PV)} {es:List MapEntry} (h:KVs κ kvs es):kvs.length=es.length:=by
 have:=congrArg List.length h.keys;simpa using this
theorem sX {t kt et ty b clock:Nat} (ht:bU t=some (.map kt et)) {es:List MapEntry} {w:World} (hb:w.heap[b]?=some (.map es.toArray clock)):(Builtin.len_ #[t] ty #[.map (some b)]).run Tryd.prog w=.ok (.int .i64 (es.length:Int)) w:=by
 simp [Builtin.len_,run_underlying (aG ht),fM hb,goInt]
theorem mB {t kt et ty:Nat} (ht:bU t=some (.map kt et)) {w:World}:(Builtin.len_ #[t] ty #[.map none]).run Tryd.prog w=.ok (.int .i64 0) w:=by
 simp [Builtin.len_,run_underlying (aG ht),goInt]
theorem nU {t kt et ty b clock:Nat} {ts:Array TypeId} {v:Value} {P:Value→Prop} (h0:ts[0]?=some t) (ht:bU t=some (.map kt et)) (L:KeyLaw kt P) (hv:P v) {es:List MapEntry} (hes:∀ e∈es,P e.key) {w:World} (hb:w.heap[b]?=some (.map es.toArray clock)):∃ r es',Found v es r∧(Builtin.delete_ ts ty #[.map (some b),v]).run Tryd.prog w=.ok (.tuple #[]) { w with heap:=w.heap.setIfInBounds b (.map es'.toArray clock) }∧((r=none∧es'=es)∨∃ i e,es[i]?=some e∧e.key=v∧r=some (i,e.val)∧es'=es.eraseIdx i):=by
 obtain ⟨r,h1,h2⟩:=L.find v es hv hes w
 have h2':=h2
 rcases h2 with ⟨rfl,h3⟩ | ⟨i,e,rfl,h3,h4⟩
 ·refine ⟨none,es,h2',?_,.inl ⟨rfl,rfl⟩⟩
  simp only [Builtin.delete_,h0,List.getElem?_toArray,List.getElem?_cons_zero,List.getElem?_cons_succ,Sem.run_bind,run_underlying (aG ht),Result.andThen_ok,fM hb,L.chk v hv,h1,iz _ hb]
  simp
 refine ⟨some (i,e.val),es.eraseIdx i,h2',?_,.inr ⟨i,e,h3,h4,rfl,rfl⟩⟩
 have hlt:i<es.length:=(List.getElem?_eq_some_iff.1 h3).1
 have hm:es.toArray.eraseIdxIfInBounds i=(es.eraseIdx i).toArray:=by
  simp [Array.eraseIdxIfInBounds,hlt]
 simp only [Builtin.delete_,h0,List.getElem?_toArray,List.getElem?_cons_zero,List.getElem?_cons_succ,Sem.run_bind,run_underlying (aG ht),Result.andThen_ok,fM hb,L.chk v hv,h1,hm,iz _ hb]
 simp
section
variable {K V:Type} [DecidableEq K] {ek:K→Value} {vv:V→PV} {xs:List (K×V)} {o:Oper} {σ:PEnv} {ρ ρ':List PRes} {c:Bool} {x y:Operand} {t kt et:Nat} {KK:PV→List PRes→Prop} {k:K} {b:Nat} {pk:PV} {mo:Option Nat}
omit [DecidableEq K] in
theorem pq_lenM (ho:o.op=.call { callee:=.builtin .len,args:=#[x],argTypes:=#[t] }) (ht:bU t=some (.map kt et)) (hx:PEv σ c x (.v (.map mo))) (hm:MapIs ρ mo (aW ek vv xs)):POpQ c o σ ρ (.v (.int .i64 (xs.length:Int))):=fun κ σ' ρ' g hs hr=>by
 cases c with
 | false=>exact ou
 | true =>
  refine ⟨.int .i64 (xs.length:Int),fun _=>.v rfl,fun hc w hw=>?_⟩
  have e1:SX.ev σ' x=.map mo:=hs.ve hx hc
  obtain ⟨es,clock,h1,hn,h2,h3⟩:=hm κ ρ' hr
  have hl:es.length=xs.length:=by rw [← h3.length];simp [aW]
  cases mo with
  | none =>
   have:=hn rfl;subst this
   have:xs.length=0:=hl.symm
   simp only [execOp,ho,resolve,invoke,builtin,Sem.run_bind,Sem.run_pure,Result.andThen_ok,List.map_toArray,List.map_cons,List.map_nil,e1,mB ht,this]
   rfl
  | some b =>
   have hb:w.heap[b]?=some (.map es.toArray clock):=hw.own _ h1
   simp only [execOp,ho,resolve,invoke,builtin,Sem.run_bind,Sem.run_pure,Result.andThen_ok,List.map_toArray,List.map_cons,List.map_nil,e1,sX ht hb,hl]
theorem sY {κ:Kr} {es es':List MapEntry} {clock:Nat} {r:Option (Nat×Value)} (hinj:∀ a b,ek a=ek b→a=b) (hw:MapWf es clock) (h:KVs κ (aW ek vv xs) es) (hf:Found (ek k) es r)
    (hc:(r=none∧es'=es)∨∃ i e,es[i]?=some e∧e.key=ek k∧r=some (i,e.val)∧es'=es.eraseIdx i):MapWf es' clock∧KVs κ (aW ek vv (ju xs k)) es':=by
  rcases hc with ⟨rfl,rfl⟩ | ⟨i,e,h1,h2,rfl,rfl⟩
  · rcases fL hinj h hw hf with ⟨_,h3,h4⟩ | ⟨i,e,v,h3,_⟩
    · rw [qM h3];exact ⟨hw,h⟩
    cases h3
  rcases fL hinj h hw hf with ⟨h3,_⟩ | ⟨i',e',v',h3,h4,h5,h6,h7⟩
  · cases h3
  have hi:i'=i:=by injection h3 with h3;injection h3 with h3 _;exact h3.symm
  subst hi
  refine ⟨hw.erase _,?_⟩
  rw [qb (mr h hw) h6]
  have:=KVs.erase i' h
  rw [aW,jo] at this
  exact this
theorem qN {ts:List Nat} (ho:o.op=.call { callee:=.builtin .delete,args:=#[x,y],argTypes:=ts.toArray }) (h0:ts[0]?=some t) (ht:bU t=some (.map kt et)) (L:KEnc kt ek) (hx:av σ x=.v (.map (some b))) (hy:av σ y=pk) (hk:∀ κ u,Rp κ pk u→u=ek k) (hu:PUpd ρ (.mp (some b) (aW ek vv xs)) (.mp (some b) (aW ek vv (ju xs k))) ρ') (h:KK (.tup []) ρ'):POpL o σ ρ KK:=fun κ σ' rr g hs hr=>by
 obtain ⟨P,hL,hP⟩:=L.law
 obtain ⟨r0,l1,l2,rfl,h4,h5⟩:=hr.upd hu
 cases h4 with
 | mp hn hw hkv =>
  rename_i es clock
  intro β hi Nx hnx
  have hb:κ.w.heap[b]?=some (.map es.toArray clock):=hi.own (Res.mp (some b) es clock) (by simp)
  have e1:SX.ev σ' x=.map (some b):=hs.v1 hx
  have e2:SX.ev σ' y=ek k:=hk κ _ (by have:=hs.ev y;rwa [hy] at this)
  obtain ⟨r,es',f1,f2,f3⟩:=nU (ty:=o.type) (ts:=ts.toArray) (by simpa using h0) ht hL (hP k) (ms hP hkv) hb
  obtain ⟨w1,w2⟩:=sY (vv:=vv) L.inj hw hkv f1 f3
  obtain ⟨i1,i2⟩:=hi.mapTurn (es':=es') (clock':=clock)
  simp only [execOp,ho,resolve,invoke,builtin,Sem.run_bind,Sem.run_pure,Result.andThen_ok,List.map_toArray,List.map_cons,List.map_nil,e1,e2,f2,OutV]
  exact hnx _ _ _ i1 i2 ⟨.tup [],ρ',.tup .nil,h5 _ _ i2 (.mp (fun h=>by cases h) w1 (w2.mono i2)),h⟩
end
end SX
end Go.Proofs.YtipjgkapcgpgbaaDoor
