/- A part of the proof: texts of the walk and of the plain laws, merged. No condition. -/
import Derived.Test.YtmgcadfnkchnfaaDoorM1
set_option linter.unusedVariables false
set_option linter.unusedSimpArgs false
set_option maxHeartbeats 4000000
set_option maxRecDepth 100000
namespace Go.Proofs.YtmgcadfnkchnfaaDoor
namespace SX
open Go
abbrev pI (x:Int):PV:=.v (.int .i64 x)
abbrev pB (b:Bool):PV:=.v (.bool b)
abbrev pS (s:ByteArray):PV:=.v (.string s)
abbrev pP (b off:Nat):PV:=.v (.pointer (some ⟨b,off,none⟩))
abbrev pO (a:Option Addr) (n c:Nat):PV:=.v (.slice a n c)
abbrev pN:PV:=.v (.slice none 0 0)
abbrev pL {α:Type} (e:α→List PV) (xs:List α):PV:=.slc xs.length (List.map e xs)
def l8:IntKind→Nat
 | .i8=>0 | .i16=>1 | .i32=>2 | .i64=>3 | .u8=>4 | .u16=>5 | .u32=>6 | .u64=>7
theorem jg {a b:IntKind} (h:Nat.beq (l8 a) (l8 b)=true):a=b:=by cases a <;> cases b <;> first | rfl | cases h
def ru:Int→Bool
 | .ofNat (_+1)=>true
 | _=>false
def ge0l:Int→Bool
 | .ofNat _=>true
 | _=>false
theorem oG {b:Int} (h:ru b=true):b≠0:=by rintro rfl;cases h
theorem ge0l_ge {b:Int} (h:ge0l b=true):0≤b:=by cases b with | ofNat n=>exact Int.natCast_nonneg n | negSucc n=>cases h
def qcmp (op:BinOp) (a b:Int):Option Bool:=match op with | .eql=>some (a == b) | .neq=>some (a != b) | .lss=>some (decide (a<b)) | .leq=>some (decide (a≤b)) | .gtr=>some (decide (b<a)) | .geq=>some (decide (b≤a)) | _=>none
def qari (op:BinOp) (a b:Int):Option Int:=match op with | .add=>some (a+b) | .sub=>some (a - b) | .mul=>some (a*b) | _=>none
def qbit (op:BinOp) (k:IntKind) (a b:Int):Option Int:=match op with | .and=>some (pD k a b) | .or=>some (ior k a b) | .xor=>some (pE k a b) | _=>none
def qshf (op:BinOp) (k:IntKind) (a b:Int):Option Int:=match op with | .shl=>some (nN k a b) | .shr=>some (i5 k a b) | _=>none
def qeqb (op:BinOp) (p q:Bool):Option Bool:=match op with | .eql=>some (p == q) | .neq=>some (p != q) | _=>none
def qstr (op:BinOp) (s u:ByteArray):Option Bool:=match op with | .eql=>some (decide (s=u)) | .neq=>some (!decide (s=u)) | .lss=>some (Op.bytesLess s.toList u.toList) | .leq=>some (Op.bytesLess s.toList u.toList||decide (s=u)) | .gtr=>some (!(Op.bytesLess s.toList u.toList||decide (s=u))) | .geq=>some (!Op.bytesLess s.toList u.toList) | _=>none
def qint (op:BinOp) (k k':IntKind) (a b:Int):Option PV :=
 match qshf op k a b with
 | some r=>cond (ge0l b) (some (.v (.int k r))) none
 | none=>cond (Nat.beq (l8 k) (l8 k'))
  (match qcmp op a b with
   | some r=>some (.v (.bool r))
   | none=>match qari op a b with
    | some r=>some (.v (.int k (k.wrap r)))
    | none=>match qbit op k a b with
     | some r=>some (.v (.int k r))
     | none=>match op with
      | .quo=>cond (ru b) (some (.v (.int k (k.wrap (a.tdiv b))))) none
      | .rem=>cond (ru b) (some (.v (.int k (a.tmod b)))) none
      | _=>none) none
def qbin (op:BinOp) (t:Nat) (p q:PV):Option PV:=match p,q with
 | .v (.int k a),.v (.int k' b)=>qint op k k' a b
 | .v (.bool p),.v (.bool q)=>(match cL t with | some .bool=>(qeqb op p q).map fun r=>.v (.bool r) | _=>none)
 | .v (.string s),.v (.string u)=>(qstr op s u).map fun r=>.v (.bool r)
 | _,_=>none
def qlen (t:Nat) (p:PV):Option PV:=match cL t,p with
 | some (.slice _),.slc m _=>some (.v (.int .i64 (m:Int)))
 | some (.slice _),.v (.slice _ m _)=>some (.v (.int .i64 (m:Int)))
 | some .string,.v (.string s)=>some (.v (.int .i64 (s.size:Int)))
 | _,_=>none
def qmm (mx:Bool) (p q:PV):Option PV:=match p,q with
 | .v (.int k a),.v (.int k' b)=>cond (Nat.beq (l8 k) (l8 k')) (some (.v (.int k (cond mx (pF a b) (de a b))))) none
 | _,_=>none
def mO (σ:PEnv) (fl:List (Nat×Nat)):List PV→List (Nat×Operand)→Option (List PV)
 | zs,[]=>some zs
 | zs,(i,x)::r=>match fl[i]? with
  | some (k,ty)=>match dj ty,dP (aA σ x) with
   | some (_,sz,_),some vs=>cond (Nat.beq vs.length sz&&Nat.ble (k+vs.length) zs.length) (mO σ fl (zs.take k++vs++zs.drop (k+vs.length)) r) none
   | _,_=>none
  | none=>none
theorem mP {σ:PEnv} {fl:List (Nat×Nat)}:∀ {parts:List (Nat×Operand)} {zs cs:List PV},mO σ fl zs parts=some cs→PFill σ fl zs parts cs
 | [],zs,cs,h=>by simp only [mO,bI] at h;exact h
 | (i,x)::r,zs,cs,h=>by
  simp only [mO] at h
  split at h
  ·rename_i k ty h1
   split at h
   ·rename_i z sz by' vs h2 h3
    cases hb:(Nat.beq vs.length sz&&Nat.ble (k+vs.length) zs.length)
    ·rw [hb] at h;cases h
    rw [hb] at h
    simp only [Bool.and_eq_true] at hb
    exact zfc h1 h2 h3 hb.1 ⟨rfl,Nat.le_of_ble_eq_true hb.2⟩ (mP h)
   cases h
  cases h
def qfa (s f:Nat) (p:PV):Option PV:=match im s with
 | some l=>match l[f]? with
  | some (kk,ty)=>match dj ty with
   | some (_,sz,_)=>cond (Nat.blt 0 sz) (match p with
    | .v (.pointer (some ⟨b,off,none⟩))=>some (.v (.pointer (some ⟨b,off+kk,none⟩)))
    | .ref cs off=>some (.ref cs (off+kk))
    | _=>none) none
   | none=>none
  | none=>none
 | none=>none
def qfd (t f:Nat) (p:PV):Option PV:=match im t with
 | some l=>match l[f]? with
  | some (kk,ty)=>match p with
   | .agg cs=>cond (Nat.ble kk cs.length) (ef ty (cs.drop kk)) none
   | _=>none
  | none=>none
 | none=>none
def qx (σ:PEnv) (ρ:List PRes) (at_:Nat):Op→Option (PV×Option (Nat×Nat))
 | .move x=>some (aA σ x,none)
 | .assign x=>some (aA σ x,none)
 | .binOp op t x y _=>(qbin op t (aA σ x) (aA σ y)).map fun p=>(p,none)
 | .unOp .not _ x=>(match aA σ x with | .v (.bool p)=>some (.v (.bool !p),none) | _=>none)
 | .unOp .neg _ x=>(match aA σ x with | .v (.int k a)=>some (.v (.int k (k.wrap (0 - a))),none) | _=>none)
 | .convert s d x=>(match cL s,cL d,aA σ x with | some _,some (.int k'),.v (.int _ a)=>some (.v (.int k' (k'.wrap a)),none) | _,_,_=>none)
 | .nilCheck x=>(match aA σ x with | .v (.pointer (some ad))=>some (.v (.pointer (some ad)),none) | .ref cs k=>some (.ref cs k,none) | .ifc t p=>some (.ifc t p,none) | _=>none)
 | .fieldAddr s x f=>(qfa s f (aA σ x)).map fun p=>(p,none)
 | .field t x f=>(qfd t f (aA σ x)).map fun p=>(p,none)
 | .extract x i=>(match aA σ x with | .tup vs=>(vs[i]?).map fun p=>(p,none) | _=>none)
 | .load t x=>(match aA σ x with
  | .ref cs off=>(ef t (cs.drop off)).map fun p=>(p,none)
  | .v (.pointer (some ⟨b,off,none⟩))=>(match ρ[at_]? with | some (.b b' _ cs)=>(ef t (cs.drop off)).map fun p=>(p,some (b,b')) | _=>none)
  | _=>none)
 | .call ⟨.builtin .len,⟨[x]⟩,⟨[t]⟩⟩=>(qlen t (aA σ x)).map fun p=>(p,none)
 | .call ⟨.builtin .min,⟨[x,y]⟩,_⟩=>(qmm false (aA σ x) (aA σ y)).map fun p=>(p,none)
 | .call ⟨.builtin .max,⟨[x,y]⟩,_⟩=>(qmm true (aA σ x) (aA σ y)).map fun p=>(p,none)
 | .makeFunc (.func f) ⟨[]⟩ ⟨l⟩=>some (.fn f (l.map (aA σ)),none)
 | .makeInterface t x=>(match cL t with | some d=>cond (mN d) none (some (.ifc t (aA σ x),none)) | none=>none)
 | .build t ⟨parts⟩=>(match dj t,im t with
  | some (.agg ⟨zs⟩,_,_),some fl=>cond ((fl.all fun p=>(dj p.2).isSome)&&zs.all Value.oneCell') ((mO σ fl (zs.map fun x=>cond (je x) (.v x) .any) parts).map fun cs=>(.agg cs,none)) none
  | _,_=>none)
 | _=>none
section
variable {o:Oper} {σ:PEnv} {ρ:List PRes} {x y:Operand} {t t':Nat} {p:PV}
theorem map_none {a:Option PV} {p:PV} {e:Option (Nat×Nat)} (h:(a.map fun q=>(q,(none:Option (Nat×Nat))))=some (p,e)):a=some p:=by
 cases a with
 | none=>cases h
 | some q=>simp only [Option.map_some,bI,Prod.mk.injEq] at h;rw [h.1]
theorem qint_ok {op:BinOp} {k k':IntKind} {a b:Int} (ho:o.op=.binOp op t x y t') (hx:aA σ x=.v (.int k a)) (hy:aA σ y=.v (.int k' b)) (h:qint op k k' a b=some p):POpQ true o σ ρ p:=by
 unfold qint at h
 split at h
 ·rename_i r hr
  cases hb:ge0l b
  ·rw [hb] at h;cases h
  rw [hb] at h;simp only [dM,bI] at h;subst h
  exact jJ ho (.p hx) (.p hy) (fun _=>ge0l_ge hb) (by cases op <;> exact hr)
 cases hk:Nat.beq (l8 k) (l8 k')
 ·rw [hk] at h;cases h
 rw [hk] at h;simp only [dM] at h
 have:=jg hk;subst this
 split at h
 ·rename_i r hr;simp only [bI] at h;subst h;exact pq_cmp ho (.p hx) (.p hy) (by cases op <;> exact hr)
 split at h
 ·rename_i r hr;simp only [bI] at h;subst h;exact rj ho (.p hx) (.p hy) (by cases op <;> exact hr)
 split at h
 ·rename_i r hr;simp only [bI] at h;subst h;exact pq_bits ho (.p hx) (.p hy) (by cases op <;> exact hr)
 split at h
 ·cases hb:ru b
  ·rw [hb] at h;cases h
  rw [hb] at h;simp only [dM,bI] at h;subst h;exact rk ho (.p hx) (.p hy) fun _=>oG hb
 ·cases hb:ru b
  ·rw [hb] at h;cases h
  rw [hb] at h;simp only [dM,bI] at h;subst h;exact rl ho (.p hx) (.p hy) fun _=>oG hb
 cases h
theorem qbin_ok {op:BinOp} (ho:o.op=.binOp op t x y t') (h:qbin op t (aA σ x) (aA σ y)=some p):POpQ true o σ ρ p:=by
 unfold qbin at h
 split at h
 ·rename_i h1 h2;exact qint_ok ho h1 h2 h
 ·rename_i h1 h2
  split at h
  ·rename_i hu
   obtain ⟨r,hr,rfl⟩:=Option.map_eq_some_iff.1 h
   exact pq_eqB ho hu (.p h1) (.p h2) (by cases op <;> exact hr)
  cases h
 ·rename_i h1 h2
  obtain ⟨r,hr,rfl⟩:=Option.map_eq_some_iff.1 h
  exact pq_str ho (.p h1) (.p h2) (by cases op <;> exact hr)
 cases h
theorem qlen_ok (ho:o.op=.call { callee:=.builtin .len,args:=#[x],argTypes:=#[t] }) (h:qlen t (aA σ x)=some p):POpQ true o σ ρ p:=by
 unfold qlen at h
 split at h
 ·rename_i hu hx;simp only [bI] at h;subst h;exact pq_len ho hu (.p hx)
 ·rename_i hu hx;simp only [bI] at h;subst h;exact pq_lenO ho hu (.p hx)
 ·rename_i hu hx;simp only [bI] at h;subst h;exact pq_lenS ho hu (.p hx)
 cases h
theorem rx {mx:Bool} {ts:List Nat} (ho:o.op=.call { callee:=.builtin (cond mx .max .min),args:=#[x,y],argTypes:=ts.toArray }) (h:qmm mx (aA σ x) (aA σ y)=some p):POpQ true o σ ρ p:=by
 unfold qmm at h
 split at h
 ·rename_i k a k' b h1 h2
  cases hk:Nat.beq (l8 k) (l8 k')
  ·rw [hk] at h;cases h
  have:=jg hk;subst this
  rw [hk] at h
  simp only [dM,bI] at h;subst h
  cases mx
  ·exact fA ho (.p h1) (.p h2)
  exact pq_max ho (.p h1) (.p h2)
 cases h
theorem qfa_ok {s f:Nat} (ho:o.op=.fieldAddr s x f) (h:qfa s f (aA σ x)=some p):POpQ true o σ ρ p:=by
 unfold qfa at h
 split at h
 ·rename_i l h1
  split at h
  ·rename_i kk ty h2
   split at h
   ·rename_i z sz by' h3
    cases h4:Nat.blt 0 sz
    ·rw [h4] at h;cases h
    rw [h4] at h;simp only [dM] at h
    split at h
    ·rename_i hx;simp only [bI] at h;subst h;exact bh ho h1 h2 h3 h4 (.p hx)
    ·rename_i hx;simp only [bI] at h;subst h;exact kw ho h1 h2 h3 h4 (.p hx)
    cases h
   cases h
  cases h
 cases h
theorem qfd_ok {f:Nat} (ho:o.op=.field t x f) (h:qfd t f (aA σ x)=some p):POpQ true o σ ρ p:=by
 unfold qfd at h
 split at h
 ·rename_i l h1
  split at h
  ·rename_i kk ty h2
   split at h
   ·rename_i cs hx
    cases h4:Nat.ble kk cs.length
    ·rw [h4] at h;cases h
    rw [h4] at h;exact rm ho h1 h2 (.p hx) h4 h
   cases h
  cases h
 cases h
theorem lM {c:Bool} {tt:Nat} {pp:PV} (ho:o.op=.nilCheck x) (hx:PEv σ c x (.ifc tt pp)):POpQ c o σ ρ (.ifc tt pp):=fun κ σ' ρ' g hs _=>by
 refine ⟨ev σ' x,hs.pe hx,fun hc w _=>?_⟩
 have h:=hs.pe hx hc
 generalize he:ev σ' x=y at h
 cases h with
 | ifc h=>simp [execOp,ho,he]
theorem qx_ok {k:Nat} {e:Option (Nat×Nat)} (h:qx σ ρ k o.op=some (p,e)) (he:∀ b b',e=some (b,b')→b=b'):POpQ true o σ ρ p:=by
 generalize ho:o.op=op at h
 unfold qx at h
 split at h
 ·simp only [bI,Prod.mk.injEq] at h;obtain ⟨rfl,_⟩:=h;exact fy ho (.p rfl)
 ·simp only [bI,Prod.mk.injEq] at h;obtain ⟨rfl,_⟩:=h;exact bN ho (.p rfl)
 ·exact qbin_ok ho (map_none h)
 ·split at h
  ·rename_i hx;simp only [bI,Prod.mk.injEq] at h;obtain ⟨rfl,_⟩:=h;exact lH ho (.p hx)
  cases h
 ·split at h
  ·rename_i hx;simp only [bI,Prod.mk.injEq] at h;obtain ⟨rfl,_⟩:=h;exact pq_neg ho (.p hx)
  cases h
 ·split at h
  ·rename_i h1 h2 hx;simp only [bI,Prod.mk.injEq] at h;obtain ⟨rfl,_⟩:=h;exact pq_conv ho h1 h2 (.p hx)
  cases h
 ·split at h
  ·rename_i hx;simp only [bI,Prod.mk.injEq] at h;obtain ⟨rfl,_⟩:=h;exact mD ho (.p hx)
  ·rename_i hx;simp only [bI,Prod.mk.injEq] at h;obtain ⟨rfl,_⟩:=h;exact lI ho (.p hx)
  ·rename_i hx;simp only [bI,Prod.mk.injEq] at h;obtain ⟨rfl,_⟩:=h;exact lM ho (.p hx)
  cases h
 ·exact qfa_ok ho (map_none h)
 ·exact qfd_ok ho (map_none h)
 ·split at h
  ·rename_i hx;exact fz ho (.p hx) (map_none h)
  cases h
 ·split at h
  ·rename_i hx;exact kQ ho (.p hx) (map_none h)
  ·rename_i b off hx
   split at h
   ·rename_i b' T cs hr
    obtain ⟨q,hq,h2⟩:=Option.map_eq_some_iff.1 h
    simp only [Prod.mk.injEq] at h2
    obtain ⟨rfl,rfl⟩:=h2
    have:=he b b' rfl;subst this
    exact aZ ho (.p hx) (List.mem_of_getElem? hr) hq
   cases h
  cases h
 ·exact qlen_ok ho (map_none h)
 ·exact rx (mx:=false) (ts:=_) ho (map_none h)
 ·exact rx (mx:=true) (ts:=_) ho (map_none h)
 ·simp only [bI,Prod.mk.injEq] at h;obtain ⟨rfl,_⟩:=h;exact fT ho
 ·split at h
  ·rename_i d hu
   cases hn:mN d
   ·rw [hn] at h;simp only [eT,bI,Prod.mk.injEq] at h;obtain ⟨rfl,_⟩:=h;exact nT ho hu hn
   rw [hn] at h;cases h
  cases h
 ·split at h
  ·rename_i zs sz by' fl h1 h2
   cases hc:((fl.all fun p=>(dj p.2).isSome)&&zs.all Value.oneCell')
   ·rw [hc] at h;cases h
   rw [hc] at h
   simp only [dM] at h
   obtain ⟨q,hq,h3⟩:=Option.map_eq_some_iff.1 h
   simp only [Prod.mk.injEq] at h3
   obtain ⟨rfl,_⟩:=h3
   simp only [Bool.and_eq_true] at hc
   exact rp rfl ho h1 h2 hc.1 rfl hc.2 (mP hq)
  cases h
 cases h
end
structure GE where
 gs:List Bool
 p:PV
def gl (t:Nat):List (Nat×GE)→Option GE
 | []=>none
 | (d,e)::l=>cond (Nat.beq t d) (some e) (gl t l)
def ry (t:Nat):List (Nat×GE)→List (Nat×GE)
 | []=>[]
 | (d,e)::l=>cond (Nat.beq t d) (ry t l) ((d,e)::ry t l)
def rz (d:Nat):List Nat→Bool
 | []=>false
 | k::l=>cond (Nat.beq d k) true (rz d l)
theorem jh {d:Nat}:∀ {l:List Nat},rz d l=true↔d∈l
 | []=>by simp [rz]
 | k::l=>by
  unfold rz
  cases h:Nat.beq d k
  ·have:d≠k:=fun e=>by rw [e] at h;simp at h
   simp [jh (l:=l),this]
  simp [Nat.eq_of_beq_eq_true h]
def cn:List Operand→List Nat
 | []=>[]
 | .tmp t::l=>t::cn l
 | _::l=>cn l
def fJ (σ:PEnv) (G:List (Nat×GE)) (ts:List Nat) (gs:List Bool):PEnv:=fun t=>match gl t G with
 | none=>σ t
 | some e=>cond (rz t ts&&Nat.ble e.gs.length gs.length) e.p .any
def eu (G:List (Nat×GE)) (gs:List Bool):List Nat→List (Bool×Bool)
 | []=>[]
 | t::ts=>match gl t G with
  | none=>eu G gs ts
  | some e=>(e.gs.headD true,(gs.drop (gs.length - e.gs.length)).headD true)::eu G gs ts
def lN (ops:Array Oper) (σ:PEnv) (G:List (Nat×GE)):Option (Nat×Bool)→Option (List Bool)
 | none=>some []
 | some (j,pol)=>match (ops[j]?).bind (·.dst) with
  | none=>none
  | some d=>match gl d G with
   | none=>match σ d with | .v (.bool p)=>some [cond pol p (!p)] | _=>none
   | some e=>match e.p with | .v (.bool p)=>some ((e.gs.headD true&&cond pol p (!p))::e.gs) | _=>none
def StackOk (gs:List Bool):Prop:=gs.headD true=true→∀ b∈gs,b=true
def GInv (σ:PEnv) (G:List (Nat×GE)):Prop:=∀ t e,gl t G=some e→σ t=pgv (e.gs.headD true) e.p∧StackOk e.gs∧e.gs≠[]
def AllEq (l:List (Bool×Bool)):Prop:=l.map (·.1)=l.map (·.2)
theorem AllEq.nil:AllEq []:=rfl
theorem AllEq.cons {a b:Bool} {l:List (Bool×Bool)} (h:AllEq ((a,b)::l)):a=b∧AllEq l:=by
 unfold AllEq at h;simp only [List.map_cons,List.cons.injEq] at h;exact h
theorem AllEq.app {l m:List (Bool×Bool)} (h:AllEq (l++m)):AllEq l∧AllEq m:=by
 unfold AllEq at h;simp only [List.map_append] at h
 exact List.append_inj h (by simp)
theorem gV {G:List (Nat×GE)} {gs:List Bool} {t:Nat} {e:GE}:∀ {ts:List Nat},t∈ts→gl t G=some e→AllEq (eu G gs ts)→e.gs.headD true=(gs.drop (gs.length - e.gs.length)).headD true
 | u::ts,hm,hg,ha=>by
  simp only [eu] at ha
  rcases List.mem_cons.1 hm with rfl | hm
  ·rw [hg] at ha;exact ha.cons.1
  split at ha
  ·exact gV hm hg ha
  exact gV hm hg ha.cons.2
theorem jQ {gs:List Bool} (h:StackOk gs) (hc:gs.headD true=true) (k:Nat):(gs.drop k).headD true=true:=by
 rw [List.headD_eq_head?_getD,List.head?_drop]
 cases e:gs[k]? with
 | none=>rfl
 | some b=>exact h hc b (List.mem_of_getElem? e)
theorem gW {κ:Kr} {σ:PEnv} {σ':Env} {G:List (Nat×GE)} {ts:List Nat} {gs:List Bool} (hs:Sim κ σ σ') (hi:GInv σ G) (ha:AllEq (eu G gs ts)) (hk:StackOk gs) (hc:gs.headD true=true):Sim κ (fJ σ G ts gs) σ':=fun t=>by
 unfold fJ
 cases hg:gl t G with
 | none=>exact hs t
 | some e =>
  simp only
  cases hb:(rz t ts&&Nat.ble e.gs.length gs.length)
  ·exact .any
  simp only [Bool.and_eq_true,jh] at hb
  have h1:=gV hb.1 hg ha
  rw [jQ hk hc] at h1
  have h2:=(hi t e hg).1
  rw [h1,dq] at h2
  have:=hs t
  rw [h2] at this
  exact this
theorem iy {o:Oper} {σ:PEnv} {ρ:List PRes} {G:List (Nat×GE)} {ts:List Nat} {gs:List Bool} {p:PV} (h:gs.headD true=true→POpQ true o (fJ σ G ts gs) ρ p) (hi:GInv σ G) (ha:AllEq (eu G gs ts)) (hk:StackOk gs):POpQ (gs.headD true) o σ ρ p:=fun κ σ' ρ' g hs hr=>by
 cases hc:gs.headD true with
 | false=>exact qk
 | true=>exact h hc κ σ' ρ' g (gW hs hi ha hk hc) hr
theorem pR {ops:Array Oper} {σ:PEnv} {G:List (Nat×GE)} {o:Oper} {gs:List Bool} (hi:GInv σ G) (h:lN ops σ G o.guard=some gs):PGuardIs ops σ o (gs.headD true)∧StackOk gs:=by
 cases hg:o.guard with
 | none =>
  rw [hg] at h;simp only [lN,bI] at h;subst h
  exact ⟨fun κ σ' _=>ju hg,fun _ b hb=>by cases hb⟩
 | some jp =>
  obtain ⟨j,pol⟩:=jp
  rw [hg] at h;simp only [lN] at h
  split at h
  ·cases h
  rename_i d hd
  split at h
  ·split at h
   ·rename_i p hp
    simp only [bI] at h;subst h
    refine ⟨?_,fun hc b hb=>by rw [List.mem_singleton.1 hb];exact hc⟩
    cases pol
    ·exact qZ hg hd hp
    exact fQ hg hd hp
   cases h
  rename_i e hgl
  split at h
  ·rename_i p hp
   simp only [bI] at h;subst h
   obtain ⟨h1,h2,h3⟩:=hi d e hgl
   rw [hp] at h1
   refine ⟨?_,fun hc b hb=>?_⟩
   ·cases pol
    ·exact py hg hd h1
    exact px hg hd h1
   simp only [List.headD_cons,Bool.and_eq_true] at hc
   rcases List.mem_cons.1 hb with rfl | hb
   ·simp only [hc,Bool.and_self]
   exact h2 hc.1 b hb
  cases h
def oH (σ:PEnv) (G:List (Nat×GE)) (want:Bool):Operand→Option (PV×List (Bool×Bool))
 | .tmp t=>match gl t G with
  | some e=>some (e.p,[(e.gs.headD true,want)])
  | none=>some (σ t,[])
 | x=>some (aA σ x,[])
theorem mQ {σ:PEnv} {G:List (Nat×GE)} {want:Bool} {x:Operand} {p:PV} {l:List (Bool×Bool)} (hi:GInv σ G) (h:oH σ G want x=some (p,l)) (ha:AllEq l):PEv σ want x p:=by
 unfold oH at h
 split at h
 ·rename_i t
  split at h
  ·rename_i e hg
   simp only [bI,Prod.mk.injEq] at h;obtain ⟨rfl,rfl⟩:=h
   have h1:=ha.cons.1
   have h2:=(hi t e hg).1
   rw [h1] at h2
   exact .g h2
  simp only [bI,Prod.mk.injEq] at h;obtain ⟨rfl,rfl⟩:=h;exact .p rfl
 simp only [bI,Prod.mk.injEq] at h;obtain ⟨rfl,rfl⟩:=h;exact .p rfl
def jR:PV→Option Bool
 | .v (.bool p)=>some p
 | _=>none
theorem iz {p:PV} {b:Bool} (h:jR p=some b):p=.v (.bool b):=by
 unfold jR at h;split at h
 ·simp only [bI] at h;rw [h]
 cases h
def lO:Operand→Bool
 | .const (.bool true)=>true
 | _=>false
def ji:Operand→Bool
 | .const (.bool false)=>true
 | _=>false
theorem pT {x:Operand} {σ:PEnv} (h:lO x=true):aA σ x=.v (.bool true):=by
 unfold lO at h;split at h
 ·rfl
 cases h
theorem nV {x:Operand} {σ:PEnv} (h:ji x=true):aA σ x=.v (.bool false):=by
 unfold ji at h;split at h
 ·rfl
 cases h
def rA (σ:PEnv) (G:List (Nat×GE)) (gs:List Bool) (cc a b:Operand):Option (PV×List (Bool×Bool)) :=
 match jR (aA (fJ σ G (cn [cc]) gs) cc) with
 | none=>none
 | some p=>cond (lO a)
  (match oH σ G (gs.headD true && !p) b with
   | some (q,l)=>match jR q with
    | some q=>some (.v (.bool (p||q)),eu G gs (cn [cc])++l)
    | none=>none
   | none=>none)
  (cond (ji b)
   (match oH σ G (gs.headD true&&p) a with
    | some (q,l)=>match jR q with
     | some q=>some (.v (.bool (p&&q)),eu G gs (cn [cc])++l)
     | none=>none
    | none=>none) none)
theorem oI {σ:PEnv} {G:List (Nat×GE)} {gs:List Bool} {x:Operand} {p:PV} (hi:GInv σ G) (hk:StackOk gs) (ha:AllEq (eu G gs (cn [x]))) (h:aA (fJ σ G (cn [x]) gs) x=p) (hn:p≠.any):PEv σ (gs.headD true) x p:=fun hc=>by
 cases x with
 | tmp t =>
  simp only [aA,cn] at h ⊢
  unfold fJ at h
  cases hg:gl t G with
  | none=>rw [hg] at h;exact h
  | some e =>
   rw [hg] at h
   simp only at h
   cases hb:(rz t [t]&&Nat.ble e.gs.length gs.length)
   ·rw [hb] at h;exact absurd h.symm hn
   ·rw [hb] at h;simp only [dM] at h
    have h1:=gV (t:=t) (ts:=[t]) (by simp) hg ha
    rw [jQ hk hc] at h1
    have h2:=(hi t e hg).1
    rw [h1,dq] at h2
    rw [h2,h]
 | const x=>exact h
 | global g=>exact h
 | func f=>exact h
theorem rB {o:Oper} {σ:PEnv} {ρ:List PRes} {G:List (Nat×GE)} {gs:List Bool} {cc a b:Operand} {p:PV} {l:List (Bool×Bool)} (ho:o.op=.pick cc a b) (hi:GInv σ G) (hk:StackOk gs) (h:rA σ G gs cc a b=some (p,l)) (ha:AllEq l):POpQ (gs.headD true) o σ ρ p:=by
 unfold rA at h
 split at h
 ·cases h
 rename_i c hc
 have hc:=iz hc
 cases h1:lO a
 ·rw [h1] at h;simp only [eT] at h
  cases h2:ji b
  ·rw [h2] at h;cases h
  rw [h2] at h;simp only [dM] at h
  split at h
  ·rename_i q m hl
   split at h
   ·rename_i q' hq
    simp only [bI,Prod.mk.injEq] at h;obtain ⟨rfl,rfl⟩:=h
    have hl':=mQ hi hl ha.app.2
    rw [iz hq] at hl'
    exact lG ho (oI hi hk ha.app.1 hc (by simp)) (.p (nV h2)) hl'
   cases h
  cases h
 rw [h1] at h;simp only [dM] at h
 split at h
 ·rename_i q m hl
  split at h
  ·rename_i q' hq
   simp only [bI,Prod.mk.injEq] at h;obtain ⟨rfl,rfl⟩:=h
   have hl':=mQ hi hl ha.app.2
   rw [iz hq] at hl'
   exact pq_or ho (oI hi hk ha.app.1 hc (by simp)) (.p (pT h1)) hl'
  cases h
 cases h
inductive Fct where
 | ix (c:Bool) (css:List (List PV)) (i:Int) (cs:List PV)
 | sx (c:Bool) (s:ByteArray) (i:Int) (u:UInt8)
 | nz (c:Bool) (b:Int)
 | ge (c:Bool) (b:Int)
 | sl (c:Bool) (css:List (List PV)) (lo hi:Int) (zss:List (List PV)) (m sz:Nat)
 | ss (c:Bool) (s:ByteArray) (lo hi:Int) (z:ByteArray)
 | ct (c:Bool) (s u z:ByteArray)
 | eq (t:Nat) (ks:List Nat)
 | cl (c:Bool) (f:Nat) (pargs:List PV) (r:PV)
 | cv (c:Bool) (pf:PV) (pargs:List PV) (r:PV)
 | ci (c:Bool) (p:PV) (name:String) (pargs:List PV) (r:PV)
 | ta (T:Nat) (p r:PV)
structure EqOk (t:Nat) (ks:List Nat):Prop where
 h1:Tryd.prog.underlying t=some (.struct (Tryd.prog.fieldsOf t))
 h2:Tryd.prog.stoodInHeld t=false
 h3:Tryd.prog.eqGuardType Tryd.prog.depth t=false
 h4:flatK (Tryd.prog.fieldsOf t).toList 0 ks=true
def Fct.ok:Fct→Prop
 | .ix c css i cs=>c=true→idx css i=some cs
 | .sx c s i u=>c=true→idx s.data.toList i=some u
 | .nz c b=>c=true→b≠0
 | .ge c b=>c=true→0≤b
 | .sl c css lo hi zss m sz=>(c=true→sub css lo hi=some zss)∧m=zss.length∧∀ cs∈css,cs.length=sz
 | .ss c s lo hi z=>c=true→kx s lo hi=some z
 | .ct c s u z=>c=true→cat s u=some z
 | .eq t ks=>EqOk t ks
 | .cl c f pargs r=>c=true→PF f pargs r
 | .cv c pf pargs r=>c=true→PFV pf pargs r
 | .ci c p name pargs r=>c=true→PFI p name pargs r
 | .ta T p r=>SX.ta T p=some r
def FOk:List (Nat×Fct)→Prop
 | []=>True
 | f::l=>f.2.ok∧FOk l
theorem bT:FOk []:=trivial
section
variable {F:List (Nat×Fct)} {c:Bool} {α:Type} {xs zs:List α} {i lo hi b:Int} {m:α}
theorem rC (k:Nat) (e:α→List PV) (hm:c=true→idx xs i=some m) (h:FOk F):FOk ((k,.ix c (List.map e xs) i (e m))::F):=⟨fun hc=>by
 obtain ⟨h0,hmm⟩:=fS (hm hc)
 unfold idx;rw [if_pos h0,List.getElem?_map,hmm];rfl,h⟩
theorem ky (k:Nat) (e:α→List PV) (hm:idx xs i=some m) (h:FOk F):FOk ((k,.ix true (List.map e xs) i (e m))::F):=rC k e (fun _=>hm) h
theorem mR (k:Nat) {s:ByteArray} {u:UInt8} (hm:c=true→idx s.data.toList i=some u) (h:FOk F):FOk ((k,.sx c s i u)::F):=⟨hm,h⟩
theorem fosx (k:Nat) {s:ByteArray} {u:UInt8} (hm:idx s.data.toList i=some u) (h:FOk F):FOk ((k,.sx true s i u)::F):=⟨fun _=>hm,h⟩
theorem fonz (k:Nat) {u:Unit} (hm:SX.nz b=some u) (h:FOk F):FOk ((k,.nz true b)::F):=⟨fun _=>nz_some hm,h⟩
theorem foslg (k:Nat) (e:α→List PV) (sz:Nat) (hw:∀ m,(e m).length=sz) (hm:c=true→sub xs lo hi=some zs) (h:FOk F):FOk ((k,.sl c (List.map e xs) lo hi (List.map e zs) zs.length sz)::F):=⟨⟨fun hc=>by
 obtain ⟨h1,rfl⟩:=jO (hm hc)
 unfold sub;rw [if_pos (by rw [List.length_map];exact h1),List.map_drop,List.map_take],by rw [List.length_map],fun cs hcs=>by obtain ⟨x,_,rfl⟩:=List.mem_map.1 hcs;exact hw x⟩,h⟩
theorem fosl (k:Nat) (e:α→List PV) (sz:Nat) (hw:∀ m,(e m).length=sz) (hm:sub xs lo hi=some zs) (h:FOk F):FOk ((k,.sl true (List.map e xs) lo hi (List.map e zs) zs.length sz)::F):=foslg k e sz hw (fun _=>hm) h
theorem foeq (k:Nat) {t:Nat} {ks:List Nat} (hm:EqOk t ks) (h:FOk F):FOk ((k,.eq t ks)::F):=⟨hm,h⟩
theorem bB (k:Nat) {f:Nat} {pargs:List PV} {r:PV} (hm:PF f pargs r) (h:FOk F):FOk ((k,.cl true f pargs r)::F):=⟨fun _=>hm,h⟩
theorem oJ (k:Nat) {f:Nat} {pargs:List PV} {r:PV} (hm:c=true→PF f pargs r) (h:FOk F):FOk ((k,.cl c f pargs r)::F):=⟨hm,h⟩
theorem focv (k:Nat) {pf:PV} {pargs:List PV} {r:PV} (hm:PFV pf pargs r) (h:FOk F):FOk ((k,.cv true pf pargs r)::F):=⟨fun _=>hm,h⟩
theorem focvg (k:Nat) {pf:PV} {pargs:List PV} {r:PV} (hm:c=true→PFV pf pargs r) (h:FOk F):FOk ((k,.cv c pf pargs r)::F):=⟨hm,h⟩
end
inductive Eqn where
 | n (a:Nat)
 | b (a:Bool)
 | i (a:Int)
 | p (a:PV)
 | l (a:List PV)
 | q (a:List (List PV))
 | s (a:ByteArray)
 | m (a:String)
abbrev StepR:=PV×List Eqn×List Eqn
def nW (σ:PEnv) (c:Bool) (t:Nat) (p:PV) (lo hi:Option Operand):Fct→Option StepR
 | .sl c' css l h zss m sz=>(match cL t,p with
  | some (.slice E),.slc mm css'=>(match dj E with
   | some (_,sz',_)=>(match lo,hi with
    | none,some y=>(match aA σ y with | .v (.int _ b)=>some (.slc m zss,[.b c',.q css,.i l,.i h,.n sz],[.b c,.q css',.i 0,.i b,.n sz']) | _=>none)
    | some x,none=>(match aA σ x with | .v (.int _ a)=>some (.slc m zss,[.b c',.q css,.i l,.i h,.n sz],[.b c,.q css',.i a,.i (mm:Int),.n sz']) | _=>none)
    | _,_=>none)
   | none=>none)
  | _,_=>none)
 | .ss c' s l h z=>(match cL t,p with
  | some .string,.v (.string s')=>(match lo,hi with
   | none,some y=>(match aA σ y with | .v (.int _ b)=>some (.v (.string z),[.b c',.s s,.i l,.i h],[.b c,.s s',.i 0,.i b]) | _=>none)
   | some x,none=>(match aA σ x with | .v (.int _ a)=>some (.v (.string z),[.b c',.s s,.i l,.i h],[.b c,.s s',.i a,.i (s'.size:Int)]) | _=>none)
   | some x,some y=>(match aA σ x,aA σ y with | .v (.int _ a),.v (.int _ b)=>some (.v (.string z),[.b c',.s s,.i l,.i h],[.b c,.s s',.i a,.i b]) | _,_=>none)
   | none,none=>none)
  | _,_=>none)
 | _=>none
def rD (σ:PEnv) (c:Bool):Op→Fct→Option StepR
 | .indexAddr t x y,.ix c' css i cs=>(match cL t,aA σ x,aA σ y with
  | some (.slice E),.slc _ css',.v (.int _ i')=>(match dj E with | some (_,sz,_)=>some (.ref cs 0,[.b c',.q css,.i i,.n cs.length],[.b c,.q css',.i i',.n sz]) | none=>none)
  | _,_,_=>none)
 | .index t x y,.sx c' s i u=>(match cL t,aA σ x,aA σ y with
  | some .string,.v (.string s'),.v (.int _ i')=>some (.v (.int .u8 (u.toNat:Int)),[.b c',.s s,.i i],[.b c,.s s',.i i'])
  | _,_,_=>none)
 | .binOp .quo _ x y _,.nz c' b=>(match aA σ x,aA σ y with
  | .v (.int k a),.v (.int k' b')=>cond (Nat.beq (l8 k) (l8 k')) (some (.v (.int k (k.wrap (a.tdiv b))),[.b c',.i b],[.b c,.i b'])) none
  | _,_=>none)
 | .binOp .rem _ x y _,.nz c' b=>(match aA σ x,aA σ y with
  | .v (.int k a),.v (.int k' b')=>cond (Nat.beq (l8 k) (l8 k')) (some (.v (.int k (a.tmod b)),[.b c',.i b],[.b c,.i b'])) none
  | _,_=>none)
 | .binOp .shl _ x y _,.ge c' b=>(match aA σ x,aA σ y with
  | .v (.int k a),.v (.int _ b')=>some (.v (.int k (nN k a b)),[.b c',.i b],[.b c,.i b'])
  | _,_=>none)
 | .binOp .shr _ x y _,.ge c' b=>(match aA σ x,aA σ y with
  | .v (.int k a),.v (.int _ b')=>some (.v (.int k (i5 k a b)),[.b c',.i b],[.b c,.i b'])
  | _,_=>none)
 | .binOp .add _ x y _,.ct c' s u z=>(match aA σ x,aA σ y with
  | .v (.string s'),.v (.string u')=>some (.v (.string z),[.b c',.s s,.s u],[.b c,.s s',.s u'])
  | _,_=>none)
 | .binOp .eql t x y _,.eq t' ks=>(match aA σ x,aA σ y with
  | .agg cs,.agg ds=>(match rt cs,rt ds with
   | some xs,some ys=>(match mK ks xs ys with | some r=>some (.v (.bool r),[.n t'],[.n t]) | none=>none)
   | _,_=>none)
  | _,_=>none)
 | .binOp .neq t x y _,.eq t' ks=>(match aA σ x,aA σ y with
  | .agg cs,.agg ds=>(match rt cs,rt ds with
   | some xs,some ys=>(match mK ks xs ys with | some r=>some (.v (.bool !r),[.n t'],[.n t]) | none=>none)
   | _,_=>none)
  | _,_=>none)
 | .slice t x lo hi none,f=>nW σ c t (aA σ x) lo hi f
 | .typeAssert x _ T true,.ta T' p r=>(match cL T with
  | some d=>cond (!mN d&&(dj T).isSome) (some (r,[.n T',.p p],[.n T,.p (aA σ x)])) none
  | none=>none)
 | _,_=>none
section
variable {o:Oper} {σ:PEnv} {ρ:List PRes} {x y:Operand} {t:Nat} {k:IntKind} {a b:Int} {css zss:List (List PV)}
theorem pU {E sz by' mm:Nat} {z:Value} {cs:List PV} (ho:o.op=.indexAddr t x y) (hu:cL t=some (.slice E)) (hi:dj E=some (z,sz,by')) (hw:cs.length=sz) (hx:aA σ x=.slc mm css) (hy:aA σ y=.v (.int k a)) (hm:idx css a=some cs):POpQ true o σ ρ (.ref cs 0):=fun κ σ' ρ' g hs hrr=>by
 obtain ⟨h0,hcs⟩:=fS hm
 have h:=hs.ev x
 rw [hx] at h
 generalize he:ev σ' x=w at h
 cases h with
 | slc hsl hb h1 hss =>
  rename_i ad cp sz' dss
  obtain ⟨ds,hd,hds⟩:=hss.get hcs
  have hlt:a.toNat<mm:=by rw [← hsl.len];exact (List.getElem?_eq_some_iff.1 hd).1
  obtain ⟨bb,off,ha,hsh⟩:=hsl.at_ (by omega)
  have hwid:sz'=sz:=by
   have e1:=hsl.wid ds (List.mem_of_getElem? hd)
   have e2:=hds.len
   omega
  subst hwid
  have h2:=ml (c:=true) (ρ:=ρ') (κ:=κ) (j:=a.toNat) ho hu hi (.p (by rw [he,ha])) (.p (hs.v1 hy)) (fun _=>by omega) (fun _=>hlt)
  exact ⟨_,fun _=>by have:=Rp.ref (k:=0) (hsh _ _ hd) (h1 ds (List.mem_of_getElem? hd)) hds;rwa [Nat.add_zero] at this,h2⟩
theorem mS {κ:Kr} {sz:Nat}:∀ {css:List (List PV)} {dss:List (List Value)},(∀ cs∈css,cs.length=sz)→Rpss κ css dss→∀ ds∈dss,ds.length=sz
 | _,_,_,.nil,ds,hd=>by cases hd
 | _,_,hw,.cons h hs,ds,hd=>by
  rcases List.mem_cons.1 hd with rfl | hd
  ·rw [← h.len];exact hw _ (by simp)
  exact mS (fun c hc=>hw c (by simp [hc])) hs ds hd
theorem nX {E sz by' mm:Nat} {z:Value} (ho:o.op=.slice t x none (some y) none) (hu:cL t=some (.slice E)) (hi:dj E=some (z,sz,by')) (hx:aA σ x=.slc mm css) (hy:aA σ y=.v (.int k b)) (hm:sub css 0 b=some zss):POpQ true o σ ρ (.slc zss.length zss):=fun κ σ' ρ' g hs hrr=>by
 obtain ⟨⟨h0,h1,h2⟩,rfl⟩:=jO hm
 have h:=hs.ev x
 rw [hx] at h
 generalize he:ev σ' x=w at h
 cases h with
 | slc hsl hb ho1 hss =>
  rename_i ad cp sz' dss
  have hl:css.length=mm:=by rw [← hsl.len,← hss.len]
  have hcap:=hsl.cap
  have hzl:((css.take b.toNat).drop (0:Int).toNat).length=b.toNat:=by simp;omega
  rw [hzl]
  refine ⟨.slice ad b.toNat cp,fun _=>?_,gC (c:=true) (k:=b.toNat) ho hu hi (.p he) (.p (hs.v1 hy)) (fun _=>by omega) (fun _=>by omega)⟩
  have:=Rp.slc (hsl.take (m:=b.toNat) (by omega)) (by omega) (mI ho1 fun d hd=>List.mem_of_mem_take hd) (hss.take b.toNat)
  simpa using this
theorem nY {E sz by' mm:Nat} {z:Value} (ho:o.op=.slice t x (some y) none none) (hu:cL t=some (.slice E)) (hi:dj E=some (z,sz,by')) (hw:∀ cs∈css,cs.length=sz) (hx:aA σ x=.slc mm css) (hy:aA σ y=.v (.int k a)) (hm:sub css a (mm:Int)=some zss):POpQ true o σ ρ (.slc zss.length zss):=fun κ σ' ρ' g hs hrr=>by
 obtain ⟨⟨h0,h1,h2⟩,rfl⟩:=jO hm
 have h:=hs.ev x
 rw [hx] at h
 generalize he:ev σ' x=w at h
 cases h with
 | slc hsl hb ho1 hss =>
  rename_i ad cp sz' dss
  have hl:css.length=mm:=by rw [← hsl.len,← hss.len]
  have hcap:=hsl.cap
  have hq:=cD (c:=true) (ρ:=ρ') (κ:=κ) (k:=a.toNat) ho hu hi (.p he) (.p (hs.v1 hy)) (fun _=>by omega) (fun _=>by omega)
  have hd:=hsl.dropT (m:=a.toNat) (by omega)
  have e2:List.drop a.toNat (List.take (mm:Int).toNat css)=css.drop a.toNat:=by rw [Int.toNat_natCast,← hl,List.take_length]
  rw [e2]
  have hzl:(css.drop a.toNat).length=mm - a.toNat:=by simp [hl]
  rw [hzl]
  by_cases hz:mm - a.toNat=0
  ·refine ⟨_,fun _=>?_,hq⟩
   have e3:css.drop a.toNat=[]:=List.drop_of_length_le (by omega)
   rw [e3]
   exact .slc (sz:=sz) (css:=[]) ⟨by simp [hz],by omega,by simp,fun h=>absurd h (by omega)⟩ (by omega) (fun _ h=>by cases h) .nil
  have hszz:sz'=sz:=by
   have hlen:=hsl.len
   match dss,hlen with
   | [],hlen=>simp only [List.length_nil] at hlen;omega
   | d::ds,_=>rw [← hsl.wid d (by simp),mS hw hss d (by simp)]
  subst hszz
  exact ⟨_,fun _=>Rp.slc hd (by omega) (mI ho1 fun d hd=>List.mem_of_mem_drop hd) (hss.drop a.toNat),hq⟩
end
theorem pV {o:Oper} {σ:PEnv} {ρ:List PRes} {c:Bool} {x:Operand} {t:Nat} {lo hi:Option Operand} {f:Fct} {p:PV} {L R:List Eqn} (ho:o.op=.slice t x lo hi none) (h:nW σ c t (aA σ x) lo hi f=some (p,L,R)) (he:L=R) (hf:f.ok) (hc:c=true):POpQ true o σ ρ p:=by
 unfold nW at h
 split at h
 ·rename_i c' css l hh zss m sz
  split at h
  ·rename_i E mm css' hu hx
   split at h
   ·rename_i z sz' by' hi'
    split at h
    ·rename_i y
     split at h
     ·rename_i k b hy
      simp only [bI,Prod.mk.injEq] at h;obtain ⟨rfl,rfl,rfl⟩:=h
      simp only [List.cons.injEq,Eqn.b.injEq,Eqn.q.injEq,Eqn.i.injEq,Eqn.n.injEq,and_true] at he
      obtain ⟨rfl,rfl,rfl,rfl,rfl⟩:=he
      obtain ⟨h1,rfl,h3⟩:=hf
      exact nX ho hu hi' hx hy (h1 hc)
     cases h
    ·rename_i y
     split at h
     ·rename_i k b hy
      simp only [bI,Prod.mk.injEq] at h;obtain ⟨rfl,rfl,rfl⟩:=h
      simp only [List.cons.injEq,Eqn.b.injEq,Eqn.q.injEq,Eqn.i.injEq,Eqn.n.injEq,and_true] at he
      obtain ⟨rfl,rfl,rfl,rfl,rfl⟩:=he
      obtain ⟨h1,rfl,h3⟩:=hf
      exact nY ho hu hi' h3 hx hy (h1 hc)
     cases h
    cases h
   cases h
  cases h
 ·rename_i c' s l hh z
  split at h
  ·rename_i s' hu hx
   split at h
   ·split at h
    ·rename_i hy
     simp only [bI,Prod.mk.injEq] at h;obtain ⟨rfl,rfl,rfl⟩:=h
     simp only [List.cons.injEq,Eqn.b.injEq,Eqn.s.injEq,Eqn.i.injEq,and_true] at he
     obtain ⟨rfl,rfl,rfl,rfl⟩:=he
     exact nP ho hu (.p hx) (.p hy) (fun _=>hf hc)
    cases h
   ·split at h
    ·rename_i hy
     simp only [bI,Prod.mk.injEq] at h;obtain ⟨rfl,rfl,rfl⟩:=h
     simp only [List.cons.injEq,Eqn.b.injEq,Eqn.s.injEq,Eqn.i.injEq,and_true] at he
     obtain ⟨rfl,rfl,rfl,rfl⟩:=he
     exact nQ ho hu (.p hx) (.p hy) (fun _=>hf hc)
    cases h
   ·split at h
    ·rename_i hy hy2
     simp only [bI,Prod.mk.injEq] at h;obtain ⟨rfl,rfl,rfl⟩:=h
     simp only [List.cons.injEq,Eqn.b.injEq,Eqn.s.injEq,Eqn.i.injEq,and_true] at he
     obtain ⟨rfl,rfl,rfl,rfl⟩:=he
     exact mJ ho hu (.p hx) (.p hy) (.p hy2) (fun _=>hf hc)
    cases h
   cases h
  cases h
 cases h
theorem rE {o:Oper} {σ:PEnv} {ρ:List PRes} {c:Bool} {f:Fct} {p:PV} {L R:List Eqn} (h:rD σ c o.op f=some (p,L,R)) (he:L=R) (hf:f.ok) (hc:c=true):POpQ true o σ ρ p:=by
 generalize ho:o.op=op at h
 unfold rD at h
 split at h
 ·split at h
  ·rename_i hu hx hy
   split at h
   ·rename_i hi
    simp only [bI,Prod.mk.injEq] at h;obtain ⟨rfl,rfl,rfl⟩:=h
    simp only [List.cons.injEq,Eqn.b.injEq,Eqn.q.injEq,Eqn.i.injEq,Eqn.n.injEq,and_true] at he
    obtain ⟨rfl,rfl,rfl,h4⟩:=he
    exact pU ho hu hi h4 hx hy (hf hc)
   cases h
  cases h
 ·split at h
  ·rename_i hu hx hy
   simp only [bI,Prod.mk.injEq] at h;obtain ⟨rfl,rfl,rfl⟩:=h
   simp only [List.cons.injEq,Eqn.b.injEq,Eqn.s.injEq,Eqn.i.injEq,and_true] at he
   obtain ⟨rfl,rfl,rfl⟩:=he
   exact pG ho hu (.p hx) (.p hy) (fun _=>hf hc)
  cases h
 ·split at h
  ·rename_i k a k' b' hx hy
   cases hk:Nat.beq (l8 k) (l8 k')
   ·rw [hk] at h;cases h
   rw [hk] at h;have:=jg hk;subst this
   simp only [dM,bI,Prod.mk.injEq] at h;obtain ⟨rfl,rfl,rfl⟩:=h
   simp only [List.cons.injEq,Eqn.b.injEq,Eqn.i.injEq,and_true] at he
   obtain ⟨rfl,rfl⟩:=he
   exact rk ho (.p hx) (.p hy) (fun _=>hf hc)
  cases h
 ·split at h
  ·rename_i k a k' b' hx hy
   cases hk:Nat.beq (l8 k) (l8 k')
   ·rw [hk] at h;cases h
   rw [hk] at h;have:=jg hk;subst this
   simp only [dM,bI,Prod.mk.injEq] at h;obtain ⟨rfl,rfl,rfl⟩:=h
   simp only [List.cons.injEq,Eqn.b.injEq,Eqn.i.injEq,and_true] at he
   obtain ⟨rfl,rfl⟩:=he
   exact rl ho (.p hx) (.p hy) (fun _=>hf hc)
  cases h
 ·split at h
  ·rename_i hx hy
   simp only [bI,Prod.mk.injEq] at h;obtain ⟨rfl,rfl,rfl⟩:=h
   simp only [List.cons.injEq,Eqn.b.injEq,Eqn.i.injEq,and_true] at he
   obtain ⟨rfl,rfl⟩:=he
   exact jJ ho (.p hx) (.p hy) (fun _=>hf hc) rfl
  cases h
 ·split at h
  ·rename_i hx hy
   simp only [bI,Prod.mk.injEq] at h;obtain ⟨rfl,rfl,rfl⟩:=h
   simp only [List.cons.injEq,Eqn.b.injEq,Eqn.i.injEq,and_true] at he
   obtain ⟨rfl,rfl⟩:=he
   exact jJ ho (.p hx) (.p hy) (fun _=>hf hc) rfl
  cases h
 ·split at h
  ·rename_i hx hy
   simp only [bI,Prod.mk.injEq] at h;obtain ⟨rfl,rfl,rfl⟩:=h
   simp only [List.cons.injEq,Eqn.b.injEq,Eqn.s.injEq,and_true] at he
   obtain ⟨rfl,rfl,rfl⟩:=he
   exact pq_catT ho (.p hx) (.p hy) (fun _=>hf hc)
  cases h
 ·split at h
  ·rename_i hx hy
   split at h
   ·rename_i h5 h6
    split at h
    ·rename_i r hr
     simp only [bI,Prod.mk.injEq] at h;obtain ⟨rfl,rfl,rfl⟩:=h
     simp only [List.cons.injEq,Eqn.n.injEq,and_true] at he
     subst he
     exact oE _ ho hf.h1 hf.h2 hf.h3 hf.h4 (.p hx) (.p hy) h5 h6 hr rfl
    cases h
   cases h
  cases h
 ·split at h
  ·rename_i hx hy
   split at h
   ·rename_i h5 h6
    split at h
    ·rename_i r hr
     simp only [bI,Prod.mk.injEq] at h;obtain ⟨rfl,rfl,rfl⟩:=h
     simp only [List.cons.injEq,Eqn.n.injEq,and_true] at he
     subst he
     exact oE _ ho hf.h1 hf.h2 hf.h3 hf.h4 (.p hx) (.p hy) h5 h6 hr rfl
    cases h
   cases h
  cases h
 ·exact pV ho h he hf hc
 ·split at h
  ·rename_i d hu
   cases hb:(!mN d&&(dj _).isSome)
   ·rw [hb] at h;cases h
   rw [hb] at h
   simp only [dM,bI,Prod.mk.injEq] at h;obtain ⟨rfl,rfl,rfl⟩:=h
   simp only [List.cons.injEq,Eqn.n.injEq,Eqn.p.injEq,and_true] at he
   obtain ⟨rfl,h2⟩:=he
   simp only [Bool.and_eq_true,Bool.not_eq_true'] at hb
   exact pq_ta ho hu hb.1 hb.2 h2.symm hf
  cases h
 cases h
def gL (l:List (Bool×Bool)):List Eqn:=l.map fun z=>.b z.1
def gR (l:List (Bool×Bool)):List Eqn:=l.map fun z=>.b z.2
theorem gLR:∀ {l:List (Bool×Bool)},gL l=gR l→AllEq l
 | [],_=>AllEq.nil
 | (a,b)::l,h=>by
  simp only [gL,gR,List.map_cons,List.cons.injEq,Eqn.b.injEq] at h
  have:=gLR (l:=l) h.2
  unfold AllEq at this ⊢
  simp only [List.map_cons,h.1,this]
theorem rF {l:List (Bool×Bool)}:(gL l).length=(gR l).length:=by simp [gL,gR]
def fV:Op→Bool
 | .call ⟨.value _,_,_⟩=>true
 | .call ⟨.invoke _ _,_,_⟩=>true
 | _=>false
abbrev StepO:=Option (PV×Bool×List Eqn×List Eqn)
def jS (σ:PEnv) (G:List (Nat×GE)) (ρ:List PRes) (gs:List Bool) (at_:Nat) (op:Op):StepO :=
 match qx (fJ σ G (cn op.operands.toList) gs) ρ at_ op with
 | some (p,none)=>some (p,false,gL (eu G gs (cn op.operands.toList)),gR (eu G gs (cn op.operands.toList)))
 | some (p,some (b,b'))=>some (p,true,gL (eu G gs (cn op.operands.toList))++[.n b],gR (eu G gs (cn op.operands.toList))++[.n b'])
 | none=>none
def rG (σ:PEnv) (G:List (Nat×GE)) (gs:List Bool) (op:Op) (cal:Operand) (ags:List Operand):Fct→StepO
 | .cl c f pargs r=>(match cal with
  | .func f'=>some (r,false,gL (eu G gs (cn op.operands.toList))++[.b c,.n f,.l pargs],gR (eu G gs (cn op.operands.toList))++[.b (gs.headD true),.n f',.l (ags.map (aA (fJ σ G (cn op.operands.toList) gs)))])
  | _=>none)
 | .cv c pf pargs r=>some (r,false,gL (eu G gs (cn op.operands.toList))++[.b c,.p pf,.l pargs],gR (eu G gs (cn op.operands.toList))++[.b (gs.headD true),.p (aA (fJ σ G (cn op.operands.toList) gs) cal),.l (ags.map (aA (fJ σ G (cn op.operands.toList) gs)))])
 | _=>none
def invx (σ:PEnv) (G:List (Nat×GE)) (gs:List Bool) (op:Op) (x:Operand) (name:String) (ags:List Operand):Fct→StepO
 | .ci c p name' pargs r=>some (r,false,gL (eu G gs (cn op.operands.toList))++[.b c,.p p,.m name',.l pargs],gR (eu G gs (cn op.operands.toList))++[.b (gs.headD true),.p (aA (fJ σ G (cn op.operands.toList) gs) x),.m name,.l (ags.map (aA (fJ σ G (cn op.operands.toList) gs)))])
 | _=>none
def rH (σ:PEnv) (G:List (Nat×GE)) (ρ:List PRes) (gs:List Bool) (at_:Nat) (fo:Option Fct) (op:Op):StepO :=
 match fo with
 | some f=>(match op with
  | .call ⟨.value cal,⟨ags⟩,ts⟩=>rG σ G gs (.call ⟨.value cal,⟨ags⟩,ts⟩) cal ags f
  | .call ⟨.invoke x name,⟨ags⟩,ts⟩=>invx σ G gs (.call ⟨.invoke x name,⟨ags⟩,ts⟩) x name ags f
  | op=>(match rD (fJ σ G (cn op.operands.toList) gs) (gs.headD true) op f with
   | some (p,L,R)=>some (p,false,gL (eu G gs (cn op.operands.toList))++L,gR (eu G gs (cn op.operands.toList))++R)
   | none=>none))
 | none=>(match op with
  | .pick cc a b=>(match rA σ G gs cc a b with | some (p,l)=>some (p,false,gL l,gR l) | none=>none)
  | op=>jS σ G ρ gs at_ op)
def POpG (c:Bool) (o:Oper) (σ:PEnv) (r:PV):Prop:=∀ κ σ' ρ' (KK:Value→Kr→Prop),GOK κ→Sim κ σ σ'→(∀ v κ',Kle κ κ'→(c=true→Rp κ' r v)→KK v κ')→OpG c o σ' ρ' κ KK
theorem mT {a b l m:List Eqn} (h:a++l=b++m) (hl:a.length=b.length):a=b∧l=m:=List.append_inj h hl
theorem popg_cl {o:Oper} {σ:PEnv} {G:List (Nat×GE)} {gs:List Bool} {ts:List Nat} {f:Nat} {ags:List Operand} {at_:Array Nat} {pargs:List PV} {r:PV} (ho:o.op=.call { callee:=.value (.func f),args:=ags.toArray,argTypes:=at_ }) (hi:GInv σ G) (ha:AllEq (eu G gs ts)) (hk:StackOk gs) (hp:pargs=ags.map (aA (fJ σ G ts gs))) (hc:gs.headD true=true→PF f pargs r):POpG (gs.headD true) o σ r:=fun κ σ' ρ' KK g hs h =>
 qI ho (fun _=>rfl) (fun hct=>hc hct κ _ g (by rw [hp];exact eG (gW hs hi ha hk hct) ags)) h
theorem popg_cv {o:Oper} {σ:PEnv} {G:List (Nat×GE)} {gs:List Bool} {ts:List Nat} {x:Operand} {ags:List Operand} {at_:Array Nat} {pf:PV} {pargs:List PV} {r:PV} (ho:o.op=.call { callee:=.value x,args:=ags.toArray,argTypes:=at_ }) (hi:GInv σ G) (ha:AllEq (eu G gs ts)) (hk:StackOk gs) (hx:pf=aA (fJ σ G ts gs) x) (hp:pargs=ags.map (aA (fJ σ G ts gs))) (hc:gs.headD true=true→PFV pf pargs r):POpG (gs.headD true) o σ r:=fun κ σ' ρ' KK g hs h=>by
 refine ⟨fun hct=>?_,fun hcf=>h undef κ (.refl _) fun h=>by rw [hcf] at h;cases h⟩
 have hs':=gW hs hi ha hk hct
 obtain ⟨f,first,cap,h1,h2⟩:=hc hct κ _ _ g (by rw [hx];exact hs'.ev x) (by rw [hp];exact eG hs' ags)
 exact pj ho h1 rfl h2 fun v κ' hk hv=>⟨rfl,h v κ' hk fun _=>hv⟩
theorem popg_ci {o:Oper} {σ:PEnv} {G:List (Nat×GE)} {gs:List Bool} {ts:List Nat} {x:Operand} {name:String} {ags:List Operand} {at_:Array Nat} {p:PV} {pargs:List PV} {r:PV} (ho:o.op=.call { callee:=.invoke x name,args:=ags.toArray,argTypes:=at_ }) (hi:GInv σ G) (ha:AllEq (eu G gs ts)) (hk:StackOk gs) (hx:p=aA (fJ σ G ts gs) x) (hp:pargs=ags.map (aA (fJ σ G ts gs))) (hc:gs.headD true=true→PFI p name pargs r):POpG (gs.headD true) o σ r:=fun κ σ' ρ' KK g hs h=>by
 refine ⟨fun hct=>?_,fun hcf=>h undef κ (.refl _) fun h=>by rw [hcf] at h;cases h⟩
 have hs':=gW hs hi ha hk hct
 obtain ⟨t,q,f,e1,hm,hf⟩:=hc hct
 have hv:=hs'.ev x
 rw [← hx,e1] at hv
 generalize he:ev σ' x=w at hv
 cases hv with
 | ifc hv=>exact nU ho he hm (hf κ _ g (.cons hv (by rw [hp];exact eG hs' ags))) fun v κ' hk hv=>⟨rfl,h v κ' hk fun _=>hv⟩
theorem pW {o:Oper} {σ:PEnv} {G:List (Nat×GE)} {ρ:List PRes} {gs:List Bool} {k:Nat} {p:PV} {u:Bool} {L R:List Eqn} (hi:GInv σ G) (hk:StackOk gs) (h:jS σ G ρ gs k o.op=some (p,u,L,R)) (he:L=R):POpQ (gs.headD true) o σ ρ p:=by
 unfold jS at h
 split at h
 ·rename_i p' hq
  simp only [bI,Prod.mk.injEq] at h;obtain ⟨rfl,_,rfl,rfl⟩:=h
  exact iy (fun _=>qx_ok hq (fun _ _ e=>by cases e)) hi (gLR he) hk
 ·rename_i p' b b' hq
  simp only [bI,Prod.mk.injEq] at h;obtain ⟨rfl,_,rfl,rfl⟩:=h
  obtain ⟨h1,h2⟩:=mT he rF
  simp only [List.cons.injEq,Eqn.n.injEq,and_true] at h2
  exact iy (fun _=>qx_ok hq (fun _ _ e=>by simp only [bI,Prod.mk.injEq] at e;rw [← e.1,← e.2];exact h2)) hi (gLR h1) hk
 cases h
theorem rI {o:Oper} {σ:PEnv} {G:List (Nat×GE)} {gs:List Bool} {cal:Operand} {ags:List Operand} {ts:Array Nat} {f:Fct} {p:PV} {u:Bool} {L R:List Eqn} (ho:o.op=.call ⟨.value cal,⟨ags⟩,ts⟩) (hi:GInv σ G) (hk:StackOk gs) (h:rG σ G gs (.call ⟨.value cal,⟨ags⟩,ts⟩) cal ags f=some (p,u,L,R)) (he:L=R) (hf:f.ok):POpG (gs.headD true) o σ p:=by
 unfold rG at h
 split at h
 ·split at h
  ·simp only [bI,Prod.mk.injEq] at h;obtain ⟨rfl,_,rfl,rfl⟩:=h
   obtain ⟨h1,h2⟩:=mT he rF
   simp only [List.cons.injEq,Eqn.n.injEq,Eqn.b.injEq,Eqn.l.injEq,and_true] at h2
   obtain ⟨h3,h4,h5⟩:=h2
   subst h4
   exact popg_cl ho hi (gLR h1) hk h5 (fun hc=>hf (by rw [h3];exact hc))
  cases h
 ·simp only [bI,Prod.mk.injEq] at h;obtain ⟨rfl,_,rfl,rfl⟩:=h
  obtain ⟨h1,h2⟩:=mT he rF
  simp only [List.cons.injEq,Eqn.p.injEq,Eqn.b.injEq,Eqn.l.injEq,and_true] at h2
  obtain ⟨h3,h4,h5⟩:=h2
  exact popg_cv ho hi (gLR h1) hk h4 h5 (fun hc=>hf (by rw [h3];exact hc))
 cases h
theorem invx_ok {o:Oper} {σ:PEnv} {G:List (Nat×GE)} {gs:List Bool} {x:Operand} {name:String} {ags:List Operand} {ts:Array Nat} {f:Fct} {p:PV} {u:Bool} {L R:List Eqn} (ho:o.op=.call ⟨.invoke x name,⟨ags⟩,ts⟩) (hi:GInv σ G) (hk:StackOk gs) (h:invx σ G gs (.call ⟨.invoke x name,⟨ags⟩,ts⟩) x name ags f=some (p,u,L,R)) (he:L=R) (hf:f.ok):POpG (gs.headD true) o σ p:=by
 unfold invx at h
 split at h
 ·simp only [bI,Prod.mk.injEq] at h;obtain ⟨rfl,_,rfl,rfl⟩:=h
  obtain ⟨h1,h2⟩:=mT he rF
  simp only [List.cons.injEq,Eqn.p.injEq,Eqn.b.injEq,Eqn.l.injEq,Eqn.m.injEq,and_true] at h2
  obtain ⟨h3,h4,h5,h6⟩:=h2
  subst h5
  exact popg_ci ho hi (gLR h1) hk h4 h6 (fun hc=>hf (by rw [h3];exact hc))
 cases h
theorem rJ {o:Oper} {σ:PEnv} {G:List (Nat×GE)} {ρ:List PRes} {gs:List Bool} {k:Nat} {fo:Option Fct} {p:PV} {u:Bool} {L R:List Eqn} (hi:GInv σ G) (hk:StackOk gs) (h:rH σ G ρ gs k fo o.op=some (p,u,L,R)) (he:L=R) (hf:∀ f,fo=some f→f.ok):(fV o.op=false∧POpQ (gs.headD true) o σ ρ p)∨(fV o.op=true∧POpG (gs.headD true) o σ p):=by
 unfold rH at h
 split at h
 ·rename_i f
  split at h
  ·rename_i cal ags ts ho
   exact .inr ⟨by rw [ho];rfl,rI ho hi hk h he (hf f rfl)⟩
  ·rename_i x name ags ts ho
   exact .inr ⟨by rw [ho];rfl,invx_ok ho hi hk h he (hf f rfl)⟩
  rename_i hnc hnc2
  split at h
  ·rename_i p' L' R' hq
   simp only [bI,Prod.mk.injEq] at h;obtain ⟨rfl,_,rfl,rfl⟩:=h
   obtain ⟨h1,h2⟩:=mT he rF
   refine .inl ⟨?_,iy (fun hc=>rE hq h2 (hf f rfl) hc) hi (gLR h1) hk⟩
   unfold fV
   split
   ·rename_i cal ags ts ho;exact absurd ho (hnc cal ags.toList ts)
   ·rename_i x name ags ts ho;exact absurd ho (hnc2 x name ags.toList ts)
   rfl
  cases h
 split at h
 ·rename_i cc a b ho
  split at h
  ·rename_i p' l' hp
   simp only [bI,Prod.mk.injEq] at h;obtain ⟨rfl,_,rfl,rfl⟩:=h
   exact .inl ⟨by rw [ho];rfl,rB ho hi hk hp (gLR he)⟩
  cases h
 cases hc:fV o.op
 ·exact .inl ⟨rfl,pW hi hk h he⟩
 exfalso
 unfold fV at hc
 split at hc
 ·rename_i ho
  rw [ho] at h
  unfold jS at h
  simp only [qx] at h
  cases h
 ·rename_i ho
  rw [ho] at h
  unfold jS at h
  simp only [qx] at h
  cases h
 cases hc
def lP (σ:PEnv) (G:List (Nat×GE)) (d:Nat) (gs:List Bool) (p:PV):PEnv×List (Nat×GE):=match gs with
 | []=>(cE σ d p,ry d G)
 | c::gs=>(cE σ d (pgv c p),(d,⟨c::gs,p⟩)::G)
theorem lQ {d t:Nat} {e:GE}:∀ {G:List (Nat×GE)},gl t (ry d G)=some e→t≠d∧gl t G=some e
 | [],h=>by cases h
 | (k,e')::l,h=>by
  simp only [ry] at h
  cases hd:Nat.beq d k
  ·rw [hd] at h;simp only [eT,gl] at h ⊢
   cases ht:Nat.beq t k
   ·rw [ht] at h;exact lQ h
   rw [ht] at h
   refine ⟨fun e=>?_,h⟩
   rw [Nat.eq_of_beq_eq_true ht] at e;rw [e] at hd;simp at hd
  rw [hd] at h;simp only [dM] at h
  obtain ⟨h1,h2⟩:=lQ h
  refine ⟨h1,?_⟩
  simp only [gl]
  have:Nat.beq t k=false:=by cases e:Nat.beq t k;rfl;exact absurd ((Nat.eq_of_beq_eq_true e).trans (Nat.eq_of_beq_eq_true hd).symm) h1
  rw [this];exact h2
theorem lR {σ:PEnv} {d t:Nat} {p:PV} (h:t≠d):cE σ d p t=σ t:=by
 unfold cE
 have:Nat.beq t d=false:=by cases e:Nat.beq t d;rfl;exact absurd (Nat.eq_of_beq_eq_true e) h
 rw [this];rfl
theorem jT {σ:PEnv} {G:List (Nat×GE)} {d:Nat} {gs:List Bool} {p:PV} (hi:GInv σ G) (hk:StackOk gs):GInv (lP σ G d gs p).1 (lP σ G d gs p).2:=by
 unfold lP
 split
 ·intro t e h
  obtain ⟨h1,h2⟩:=lQ h
  simp only [lR h1]
  exact hi t e h2
 rename_i c gs
 intro t e h
 simp only [gl] at h
 cases ht:Nat.beq t d
 ·rw [ht] at h
  have hne:t≠d:=fun e=>by rw [e] at ht;simp at ht
  simp only [lR hne]
  exact hi t e h
 rw [ht] at h
 simp only [dM,bI] at h;subst h
 have:=Nat.eq_of_beq_eq_true ht;subst this
 refine ⟨?_,hk,by simp⟩
 simp only [cE,Nat.beq_refl,dM,List.headD_cons]
theorem jU {σ:PEnv} {G:List (Nat×GE)} {d:Nat} {gs:List Bool} {p:PV}:(lP σ G d gs p).1=cE σ d (pgv (gs.headD true) p):=by
 unfold lP;split
 ·rw [List.headD_nil,dq]
 rfl
structure RunR where
 σ:PEnv
 L:List Eqn
 R:List Eqn
def oK (i:Nat):List (Nat×Fct)→Option Fct
 | (k,f)::_=>cond (Nat.beq k i) (some f) none
 | []=>none
def gX (n:Nat) (ops:Array Oper) (ρ:List PRes):List Oper→Nat→List Nat→List (Nat×Fct)→PEnv→List (Nat×GE)→Option RunR
 | [],_,_,_,σ,_=>some ⟨σ,[],[]⟩
 | o::l,i,H,F,σ,G=>match o.dst with
  | some d=>cond (Nat.blt d n) (match lN ops σ G o.guard with
   | some gs=>match rH σ G ρ gs (H.headD 0) (oK i F) o.op with
    | some (p,u,L,R)=>match gX n ops ρ l (i+1) (cond u H.tail H) (match oK i F with | some _=>F.tail | none=>F) (lP σ G d gs p).1 (lP σ G d gs p).2 with
     | some r=>cond (Nat.beq L.length R.length) (some ⟨r.σ,L++r.L,R++r.R⟩) none
     | none=>none
    | none=>none
   | none=>none) none
  | none=>none
theorem rK {i:Nat} {F:List (Nat×Fct)} (h:FOk F):∀ f,oK i F=some f→f.ok:=fun f hf=>by
 cases F with
 | nil=>cases hf
 | cons a l =>
  obtain ⟨k,g⟩:=a
  simp only [oK] at hf
  cases hk:Nat.beq k i
  ·rw [hk] at hf;cases hf
  rw [hk] at hf;simp only [dM,bI] at hf;subst hf;exact h.1
theorem rL {F:List (Nat×Fct)} (h:FOk F) (b:Option Fct):FOk (match b with | some _=>F.tail | none=>F):=by
 cases b with
 | none=>exact h
 | some f=>cases F with
  | nil=>exact h
  | cons a l=>exact h.2
theorem jV {n:Nat} {ops:Array Oper} {ρ:List PRes} {o:Oper} {l:List Oper} {i:Nat} {H:List Nat} {F:List (Nat×Fct)} {σ:PEnv} {G:List (Nat×GE)} {r:RunR} (h:gX n ops ρ (o::l) i H F σ G=some r) (he:r.L=r.R) (hF:FOk F) (hi:GInv σ G) :
    ∃ d gs p H' F' r',o.dst=some d∧Nat.blt d n=true∧PGuardIs ops σ o (gs.headD true)∧StackOk gs∧((fV o.op=false∧POpQ (gs.headD true) o σ ρ p)∨(fV o.op=true∧POpG (gs.headD true) o σ p))∧gX n ops ρ l (i+1) H' F' (lP σ G d gs p).1 (lP σ G d gs p).2=some r'∧r'.σ=r.σ∧r'.L=r'.R∧FOk F':=by
  simp only [gX] at h
  split at h
  · rename_i d hd
    cases hlt:Nat.blt d n
    · rw [hlt] at h;cases h
    rw [hlt] at h;simp only [dM] at h
    split at h
    · rename_i gs hgs
      split at h
      · rename_i p u L R hst
        split at h
        · rename_i r' hr
          cases hlen:Nat.beq L.length R.length
          · rw [hlen] at h;cases h
          rw [hlen] at h;simp only [dM,bI] at h;subst h
          obtain ⟨h1,h2⟩:=List.append_inj he (Nat.eq_of_beq_eq_true hlen)
          obtain ⟨hg,hk⟩:=pR hi hgs
          exact ⟨d,gs,p,_,_,r',hd,hlt,hg,hk,rJ hi hk hst h1 (rK hF),hr,rfl,h2,rL hF _⟩
        cases h
      cases h
    cases h
  cases h
theorem rM {n:Nat} {ops:Array Oper} {o:Oper} {rest:List Oper} {K:PPost} {σ:PEnv} {ρ:List PRes} {d:Nat} {c:Bool} {r:PV} (hg:PGuardIs ops σ o c) (hd:o.dst=some d) (hlt:Nat.blt d n=true) (h:POpG c o σ r) (hw:PWL n ops rest K (cE σ d (pgv c r)) ρ):PWL n ops (o::rest) K σ ρ:=fun β κ σ' ρ' g hs hr =>
 wl_g (hg κ σ' hs) hd hlt (h κ σ' ρ' _ g hs fun v κ' hk hv=>hw β κ' _ _ (g.mono hk) ((hs.mono hk).upd (oA hv)) (hr.mono hk))
theorem rN {n:Nat} {ops:Array Oper} {o:Oper} {lo:List (Nat×Oper)} {K:PPost} {σ:PEnv} {ρd ρs:List PRes} {d:Nat} {c:Bool} {r:PV} (hg:PGuardIs ops σ o c) (hd:o.dst=some d) (hlt:Nat.blt d n=true) (h:POpG c o σ r) (hw:PWD n ops K lo (cE σ d (pgv c r)) ρd ρs):PWD n ops K ((1,o)::lo) σ ρd ρs:=fun β κ σ' rd rs g hs h1 h2 =>
 wd_g (hg κ σ' hs) hd hlt fun κ1 hk=>h κ1 σ' _ _ (g.mono hk) (hs.mono hk) fun v κ' hk' hv=>hw β κ' _ rd rs ((g.mono hk).mono hk') (((hs.mono hk).mono hk').upd (oA hv)) ((h1.mono hk).mono hk') ((h2.mono hk).mono hk')
theorem lS {n:Nat} {ops:Array Oper} {rest:List Oper} {K:PPost} {ρ:List PRes}:∀ {l:List Oper} {i:Nat} {H:List Nat} {F:List (Nat×Fct)} {σ:PEnv} {G:List (Nat×GE)} {r:RunR},gX n ops ρ l i H F σ G=some r→r.L=r.R→FOk F→GInv σ G→PWL n ops rest K r.σ ρ→PWL n ops (l++rest) K σ ρ
 | [],i,H,F,σ,G,r,h,_,_,_,hw=>by simp only [gX,bI] at h;subst h;exact hw
 | o::l,i,H,F,σ,G,r,h,he,hF,hi,hw=>by
  obtain ⟨d,gs,p,H',F',r',h1,h2,h3,h4,h5,h6,h7,h8,h9⟩:=jV h he hF hi
  have hrec:=lS (rest:=rest) (K:=K) h6 h8 h9 (jT hi h4) (by rw [h7];exact hw)
  rw [jU] at hrec
  rcases h5 with ⟨_,hq⟩ | ⟨_,hq⟩
  ·exact lF h3 h1 h2 hq hrec
  exact rM h3 h1 h2 hq hrec
def rO (ks D:List Nat):List Oper→Bool
 | []=>true
 | o::l=>(match o.dst with | some d=>rz d ks||rz d D | none=>true)&&rO ks D l
theorem kS {n:Nat} {ops:Array Oper} {ρ:List PRes} {ks D:List Nat}:∀ {l:List Oper} {i:Nat} {H:List Nat} {F:List (Nat×Fct)} {σ:PEnv} {G:List (Nat×GE)} {r:RunR},gX n ops ρ l i H F σ G=some r→r.L=r.R→FOk F→GInv σ G→rO ks D l=true→∀ t,t ∉ ks→t ∉ D→r.σ t=σ t
 | [],i,H,F,σ,G,r,h,_,_,_,_,t,_,_=>by simp only [gX,bI] at h;subst h;rfl
 | o::l,i,H,F,σ,G,r,h,he,hF,hi,hd,t,g1,g2=>by
  obtain ⟨d,gs,p,H',F',r',h1,h2,h3,h4,h5,h6,h7,h8,h9⟩:=jV h he hF hi
  simp only [rO,Bool.and_eq_true] at hd
  rw [h1] at hd
  simp only [Bool.or_eq_true,jh] at hd
  have hne:t≠d:=fun e=>by subst e;rcases hd.1 with h | h;exact g1 h;exact g2 h
  rw [← h7,kS h6 h8 h9 (jT hi h4) hd.2 t g1 g2,jU]
  exact lR hne
abbrev RunO:=Option (List PV×List Eqn)
def fW (n:Nat) (ops:Array Oper) (ρ:List PRes) (l:List Oper) (H:List Nat) (F:List (Nat×Fct)) (σ:PEnv) (ks D:List Nat):RunO :=
 match gX n ops ρ l 0 H F σ [] with
 | some r=>cond (rO ks D l) (some (ks.map r.σ,r.L)) none
 | none=>none
def fg (n:Nat) (ops:Array Oper) (ρ:List PRes) (l:List Oper) (H:List Nat) (F:List (Nat×Fct)) (σ:PEnv) (vs:List PV):RunO :=
 match gX n ops ρ l 0 H F σ [] with
 | some r=>some (vs,r.R)
 | none=>some ([],[])
def pdel (σ:PEnv) (D:List Nat):PEnv:=fun t=>cond (rz t D) .any (σ t)
def fB (σ:PEnv) (D:List Nat) (X:List (Nat×PV)):PEnv:=bj (pdel σ D) X
def mU (t:Nat):List (Nat×PV)→Option PV
 | []=>none
 | (d,v)::l=>cond (Nat.beq t d) (some v) (mU t l)
theorem jW {σ:PEnv} {t:Nat}:∀ {X:List (Nat×PV)},bj σ X t=(mU t X).getD (σ t)
 | []=>rfl
 | (d,v)::l=>by
  simp only [bj,cE,mU]
  cases Nat.beq t d
  ·exact jW (X:=l)
  rfl
theorem kT {t:Nat} {v:PV} {σ:PEnv}:∀ {X:List (Nat×PV)},mU t X=some v→(X.map (·.1)).map σ=X.map (·.2)→σ t=v
 | (d,w)::l,h,e=>by
  simp only [List.map_cons,List.cons.injEq] at e
  simp only [mU] at h
  cases hb:Nat.beq t d
  ·rw [hb] at h;exact kT h e.2
  rw [hb] at h;simp only [dM,bI] at h
  rw [Nat.eq_of_beq_eq_true hb,e.1,h]
theorem kU {t:Nat}:∀ {X:List (Nat×PV)},mU t X=none→t ∉ X.map (·.1)
 | [],_=>by simp
 | (d,v)::l,h=>by
  simp only [mU] at h
  cases hb:Nat.beq t d
  ·rw [hb] at h
   have:t≠d:=fun e=>by rw [e] at hb;simp at hb
   simp only [List.map_cons,List.mem_cons,not_or]
   exact ⟨this,kU h⟩
  rw [hb] at h;cases h
def PWeak (σ σ1:PEnv):Prop:=∀ t,σ1 t=σ t∨σ1 t=.any
theorem Sim.weak {κ:Kr} {σ σ1:PEnv} {σ':Env} (h:Sim κ σ σ') (hw:PWeak σ σ1):Sim κ σ1 σ':=fun t=>by
 rcases hw t with e | e
 ·rw [e];exact h t
 rw [e];exact .any
theorem oL {σ:PEnv}:GInv σ []:=fun t e h=>by cases h
theorem lT {n:Nat} {ops:Array Oper} {ρ:List PRes} {l:List Oper} {H D:List Nat} {F:List (Nat×Fct)} {σ:PEnv} {X:List (Nat×PV)} (hF:FOk F) (h:fW n ops ρ l H F σ (X.map (·.1)) D=fg n ops ρ l H F σ (X.map (·.2))):∃ r,gX n ops ρ l 0 H F σ []=some r∧r.L=r.R∧PWeak r.σ (fB σ D X):=by
 unfold fW fg at h
 cases hr:gX n ops ρ l 0 H F σ [] with
 | none=>rw [hr] at h;cases h
 | some r =>
  rw [hr] at h
  simp only at h
  cases hd:rO (X.map (·.1)) D l
  ·rw [hd] at h;cases h
  rw [hd] at h
  simp only [dM,bI,Prod.mk.injEq] at h
  obtain ⟨h1,h2⟩:=h
  refine ⟨r,rfl,h2,fun t=>?_⟩
  unfold fB
  rw [jW]
  cases hl:mU t X with
  | some v=>exact .inl (by rw [Option.getD_some,kT hl h1])
  | none =>
   rw [Option.getD_none]
   unfold pdel
   cases hi:rz t D
   ·have h3':t ∉ D:=fun hm=>by rw [jh.2 hm] at hi;cases hi
    exact .inl (by rw [eT,kS hr h2 hF oL hd t (kU hl) h3'])
   exact .inr rfl
section
variable {n:Nat} {ops:Array Oper} {l:List Oper} {K:PPost} {KC:Exit→PPost} {σ:PEnv} {ρ:List PRes} {id:Nat} {F:List (Nat×Fct)}
theorem mV {σ1:PEnv} (hw:PWeak σ σ1) (h:PWL n ops l K σ1 ρ):PWL n ops l K σ ρ:=fun β κ σ' ρ' g hs hr=>h β κ σ' ρ' g (hs.weak hw) hr
theorem bc (k:Nat) (H D:List Nat) (X:List (Nat×PV)) (hF:FOk F) (h:fW n ops ρ (l.take k) H F σ (X.map (·.1)) D=fg n ops ρ (l.take k) H F σ (X.map (·.2))) (hw:PWL n ops (l.drop k) K (fB σ D X) ρ):PWL n ops l K σ ρ:=by
 obtain ⟨r,h1,h2,h3⟩:=lT hF h
 have:=lS h1 h2 hF oL (mV h3 hw)
 rwa [List.take_append_drop] at this
theorem eV (H D:List Nat) (X:List (Nat×PV)) (hF:FOk F) (h:fW n ops ρ l H F σ (X.map (·.1)) D=fg n ops ρ l H F σ (X.map (·.2))) (hw:K (fB σ D X) ρ):PWL n ops l K σ ρ:=by
 obtain ⟨r,h1,h2,h3⟩:=lT hF h
 have:=lS (rest:=[]) h1 h2 hF oL (mV h3 (aw (ops:=ops) hw))
 rwa [List.append_nil] at this
theorem aG (H D:List Nat) (X:List (Nat×PV)) (hF:FOk F) (h:fW n l.toArray ρ l H F σ (X.map (·.1)) D=fg n l.toArray ρ l H F σ (X.map (·.2))) (hw:KC .normal (fB σ D X) ρ):PWC n (.region id l.toArray false) KC σ ρ:=af (eV H D X hF h hw)
end
def mW:List (Nat×Oper)→Bool
 | []=>true
 | (k,o)::l=>cond (fV o.op) (Nat.beq k 1) (Nat.beq k 0)&&mW l
theorem mX {n:Nat} {ops:Array Oper} {rest:List (Nat×Oper)} {K:PPost} {ρd ρ:List PRes}:∀ {l:List (Nat×Oper)} {i:Nat} {H:List Nat} {F:List (Nat×Fct)} {σ:PEnv} {G:List (Nat×GE)} {r:RunR},mW l=true→gX n ops ρ (l.map (·.2)) i H F σ G=some r→r.L=r.R→FOk F→GInv σ G→PWD n ops K rest r.σ ρd ρ→PWD n ops K (l++rest) σ ρd ρ
 | [],i,H,F,σ,G,r,_,h,_,_,_,hw=>by simp only [List.map_nil,gX,bI] at h;subst h;exact hw
 | (k,o)::l,i,H,F,σ,G,r,ht,h,he,hF,hi,hw=>by
  simp only [mW,Bool.and_eq_true] at ht
  obtain ⟨d,gs,p,H',F',r',h1,h2,h3,h4,h5,h6,h7,h8,h9⟩:=jV h he hF hi
  have hrec:=mX (rest:=rest) (K:=K) (ρd:=ρd) ht.2 h6 h8 h9 (jT hi h4) (by rw [h7];exact hw)
  rw [jU] at hrec
  rcases h5 with ⟨hc,hq⟩ | ⟨hc,hq⟩
  ·rw [hc] at ht;have:=Nat.eq_of_beq_eq_true ht.1;subst this
   exact pwd_qg h3 h1 h2 hq hrec
  rw [hc] at ht;have:=Nat.eq_of_beq_eq_true ht.1;subst this
  exact rN h3 h1 h2 hq hrec
section
variable {n:Nat} {ops:Array Oper} {l:List (Nat×Oper)} {K:PPost} {σ:PEnv} {ρd ρs:List PRes} {F:List (Nat×Fct)}
theorem rP {σ1:PEnv} (hw:PWeak σ σ1) (h:PWD n ops K l σ1 ρd ρs):PWD n ops K l σ ρd ρs:=fun β κ σ' rd rs g hs h1 h2=>h β κ σ' rd rs g (hs.weak hw) h1 h2
def oM (n:Nat) (ops:Array Oper) (ρ:List PRes) (l:List (Nat×Oper)) (H:List Nat) (F:List (Nat×Fct)) (σ:PEnv) (ks D:List Nat):RunO:=cond (mW l) (fW n ops ρ (l.map (·.2)) H F σ ks D) none
theorem cV (k:Nat) (H D:List Nat) (X:List (Nat×PV)) (hF:FOk F) (h:oM n ops ρs (l.take k) H F σ (X.map (·.1)) D=fg n ops ρs ((l.take k).map (·.2)) H F σ (X.map (·.2))) (hw:PWD n ops K (l.drop k) (fB σ D X) ρd ρs):PWD n ops K l σ ρd ρs:=by
 unfold oM at h
 cases ht:mW (l.take k)
 ·rw [ht] at h;unfold fg at h;split at h <;> cases h
 rw [ht] at h
 obtain ⟨r,h1,h2,h3⟩:=lT hF h
 have:=mX ht h1 h2 hF oL (rP h3 hw)
 rwa [List.take_append_drop] at this
end
def Found (v:Value) (es:List MapEntry) (r:Option (Nat×Value)):Prop:=(r=none∧∀ e∈es,e.key≠v)∨∃ i e,r=some (i,e.val)∧es[i]?=some e∧e.key=v
structure KeyLaw (kt:Nat) (P:Value→Prop):Prop where
 chk:∀ v,P v→∀ e w,(Instr.checkKey e 10000 kt v).run Tryd.prog w=.ok () w
 find:∀ v es,P v→(∀ e∈es,P e.key)→∀ w,∃ r,(Instr.findKey kt v es).run Tryd.prog w=.ok r w∧Found v es r
 same:∀ v,P v→Instr.sameBits 10000 v v=true
section
variable {K V:Type} [DecidableEq K]
structure KEnc (kt:Nat) (ek:K→Value):Prop where
 law:∃ P,KeyLaw kt P∧∀ a,P (ek a)
 inj:∀ a b,ek a=ek b→a=b
end
section
variable {κ:Kr}
theorem KVs.get:∀ {kvs:List (Value×PV)} {es:List MapEntry} {i:Nat} {e:MapEntry},KVs κ kvs es→es[i]?=some e→∃ p,kvs[i]?=some (e.key,p)∧Rp κ p e.val
 | _,_,0,_,.cons h _,g=>by simp only [List.getElem?_cons_zero,bI] at g;subst g;exact ⟨_,rfl,h⟩
 | _,_,i+1,_,.cons _ hs,g=>by simp only [List.getElem?_cons_succ] at g ⊢;exact hs.get g
theorem KVs.app:∀ {ps qs:List (Value×PV)} {es fs:List MapEntry},KVs κ ps es→KVs κ qs fs→KVs κ (ps++qs) (es++fs)
 | _,_,_,_,.nil,h=>h
 | _,_,_,_,.cons h hs,g=>.cons h (hs.app g)
theorem KVs.set:∀ {kvs:List (Value×PV)} {es:List MapEntry} {i:Nat} {e e':MapEntry} {p:PV},KVs κ kvs es→es[i]?=some e→e'.key=e.key→Rp κ p e'.val→KVs κ (kvs.set i (e.key,p)) (es.set i e')
 | _,_,0,_,_,_,.cons h hs,g,hk,hp=>by simp only [List.getElem?_cons_zero,bI] at g;subst g;rw [← hk];exact .cons hp hs
 | _,_,i+1,_,_,_,.cons h hs,g,hk,hp=>by simp only [List.getElem?_cons_succ] at g;exact .cons h (hs.set g hk hp)
theorem nZ {α:Type} {R:α→α→Prop}:∀ {l:List α} {i:Nat} {a a':α},l.Pairwise R→l[i]?=some a→(∀ x,R x a→R x a')→(∀ x,R a x→R a' x)→(l.set i a').Pairwise R
 | _::l,0,a,a',h,g,h1,h2=>by
  simp only [List.getElem?_cons_zero,bI] at g;subst g
  rw [List.pairwise_cons] at h
  exact List.pairwise_cons.2 ⟨fun x hx=>h2 x (h.1 x hx),h.2⟩
 | b::l,i+1,a,a',h,g,h1,h2=>by
  simp only [List.getElem?_cons_succ] at g
  rw [List.pairwise_cons] at h
  refine List.pairwise_cons.2 ⟨fun x hx=>?_,nZ h.2 g h1 h2⟩
  rcases List.mem_or_eq_of_mem_set hx with hx | rfl
  ·exact h.1 x hx
  exact h1 b (h.1 a (List.mem_of_getElem? g))
theorem MapWf.set {es:List MapEntry} {clock i:Nat} {e e':MapEntry} (h:MapWf es clock) (g:es[i]?=some e) (hk:e'.key=e.key) (hb:e'.born=e.born):MapWf (es.set i e') clock where
 nd:=nZ h.nd g (fun x hx=>by rw [hk];exact hx) (fun x hx=>by rw [hk];exact hx)
 bn:=nZ h.bn g (fun x hx=>by rw [hb];exact hx) (fun x hx=>by rw [hb];exact hx)
 lt:=fun x hx=>by
  rcases List.mem_or_eq_of_mem_set hx with hx | rfl
  ·exact h.lt x hx
  rw [hb];exact h.lt e (List.mem_of_getElem? g)
end
section
variable {K V:Type} {ek:K→Value} {ev:V→PV} {xs:List (K×V)} {κ:Kr} {es:List MapEntry} {clock kt:Nat}
end
section
variable {κ:Kr} {σ:Env} {ρ:List Res} {o:Oper} {K:Value→List Res→Kr→Prop}
end
section
variable {K V:Type} [DecidableEq K] {ek:K→Value} {vv:V→PV} {xs:List (K×V)} {κ:Kr} {es:List MapEntry} {clock kt:Nat}
end
section
variable {K V:Type} [DecidableEq K] {ek:K→Value} {vv:V→PV} {xs:List (K×V)} {o:Oper} {σ:PEnv} {ρ ρ':List PRes} {c:Bool} {x y y2:Operand} {t kt et:Nat} {KK:PV→List PRes→Prop} {k:K} {v z0:V} {z:Value} {sz by' b:Nat} {pk:PV} {mo:Option Nat}
end
def kP (a b:Int):Value:=.agg #[.int .i64 a,.int .i64 b]
section
variable {n:Nat} {ops:Array Oper} {o:Oper} {rest:List Oper} {K:PPost} {σ:PEnv} {ρ:List PRes} {d:Nat}
end
section
variable {o:Oper} {σ:PEnv} {ρ ρ':List PRes} {x y:Operand} {t T T2 sz by' n c:Nat} {a:Option Addr} {kd:IntKind} {i j:Int} {z:Value} {α:Type} {enc:α→List PV} {xs zs:List α} {m:α} {K:PV→List PRes→Prop}
end
section
variable {α:Type} (lt:α→α→Bool)
def ez (x:α):List α→List α
 | []=>[x]
 | y::l=>cond (lt y x) (y::ez x l) (x::y::l)
def bK:List α→List α
 | []=>[]
 | x::l=>ez lt x (bK l)
variable {lt}
theorem fX {x:α}:∀ {l:List α},(ez lt x l).Perm (x::l)
 | []=>List.Perm.refl _
 | y::l=>by
  unfold ez
  cases lt y x
  ·exact List.Perm.refl _
  exact (List.Perm.cons y fX).trans (List.Perm.swap x y l)
theorem fC:∀ {l:List α},(bK lt l).Perm l
 | []=>List.Perm.refl _
 | x::l=>fX.trans (List.Perm.cons x fC)
theorem jX (htr:∀ x y z,lt x y=true→lt y z=true→lt x z=true) (hnt:∀ x y z,lt x y=false→lt y z=false→lt x z=false) (hir:∀ x,lt x x=false) {x:α}:∀ {l:List α},l.Pairwise (fun a b=>lt b a=false)→(ez lt x l).Pairwise (fun a b=>lt b a=false)
 | [],_=>List.pairwise_singleton _ _
 | y::l,h=>by
  unfold ez
  obtain ⟨h1,h2⟩:=List.pairwise_cons.1 h
  have asym:∀ a b,lt a b=true→lt b a=false:=fun a b hab=>by
   cases hba:lt b a
   ·rfl
   have:=htr a b a hab hba;rw [hir] at this;cases this
  cases hy:lt y x
  ·refine List.pairwise_cons.2 ⟨fun z hz=>?_,h⟩
   rcases List.mem_cons.1 hz with rfl | hz
   ·exact hy
   exact hnt z y x (h1 z hz) hy
  refine List.pairwise_cons.2 ⟨fun z hz=>?_,jX htr hnt hir h2⟩
  rcases List.mem_cons.1 (fX.mem_iff.1 hz) with rfl | hz
  ·exact asym y z hy
  exact h1 z hz
theorem fD (htr:∀ x y z,lt x y=true→lt y z=true→lt x z=true) (hnt:∀ x y z,lt x y=false→lt y z=false→lt x z=false) (hir:∀ x,lt x x=false):∀ (l:List α),(bK lt l).Pairwise (fun a b=>lt b a=false)
 | []=>List.Pairwise.nil
 | x::l=>jX htr hnt hir (fD htr hnt hir l)
theorem iT (ha:∀ x y,lt x y=false→lt y x=false→x=y):∀ {l m:List α},l.Pairwise (fun a b=>lt b a=false)→m.Pairwise (fun a b=>lt b a=false)→l.Perm m→l=m
 | [],m,_,_,hp=>(List.nil_perm.1 hp).symm
 | x::l,m,h1,h2,hp=>by
  obtain ⟨g1,g2⟩:=List.pairwise_cons.1 h1
  match m,h2,hp with
  | [],_,hp=>exact absurd (List.perm_nil.1 hp) (by simp)
  | y::m,h2,hp =>
   obtain ⟨k1,k2⟩:=List.pairwise_cons.1 h2
   have hxy:x=y:=by
    have hx:x∈y::m:=hp.mem_iff.1 (by simp)
    have hy:y∈x::l:=hp.mem_iff.2 (by simp)
    rcases List.mem_cons.1 hx with e | hx
    ·exact e
    rcases List.mem_cons.1 hy with e | hy
    ·exact e.symm
    exact ha x y (k1 x hx) (g1 y hy)
   subst hxy
   rw [iT ha g2 k2 ((List.perm_cons x).1 hp)]
end
theorem kv {α β:Type} {x:Option α} {f:α→Option β} {a:α} (h:x=some a):x.bind f=f a:=by rw [h];rfl
theorem co {r:Int} (h1 : -9223372036854775808≤r) (h2:r≤9223372036854775807):IntKind.i64.wrap r=r:=gN ⟨h1,h2⟩
theorem u64s {r:Int} (h1:0≤r) (h2:r≤18446744073709551615):IntKind.u64.wrap r=r:=by simp [IntKind.wrap,IntKind.signed,IntKind.bits];omega
theorem jY {n:Nat} (h:n≤1267650600228229401496703205000):n<FUEL:=Nat.lt_of_le_of_lt h (by unfold FUEL;omega)
theorem ei {α:Type} {xs:List α} {k:Nat} (h:k<xs.length):idx xs (k:Int)=some xs[k]:=by
 unfold idx;rw [if_pos (by omega)];simp [h]
theorem gY {α:Type} [Inhabited α] {x:Option α}:gd true x=x:=rfl
theorem kV {α:Type} [Inhabited α] {x:Option α}:gd false x=some default:=rfl
theorem oN {k:Nat} {n:Nat} (hk:k<n) (hn:n≤4611686018427387904):IntKind.i64.wrap ((k:Int)+1)=((k+1:Nat):Int):=by rw [co (by omega) (by omega)];omega
theorem dlt {k n:Nat} (h:k<n):decide ((k:Int)<(n:Int))=true:=by simp;omega
theorem dnlt (n:Nat):decide ((n:Int)<(n:Int))=false:=by simp
theorem oa {α:Type} {by':Nat} {xs ys:List α} (h:(xs.length+ys.length)*by'≤140737488355328) (h2:xs.length+ys.length≤140737488355328):app by' xs ys=some (xs++ys):=by unfold app;rw [if_pos ⟨h,h2⟩]
def bindR {A B R:Type} (p:A⊕R) (g:A→B⊕R):B⊕R:=match p with | .inl a=>g a | .inr r=>.inr r
def run {α A R:Type} (f:Nat→α→A→A⊕R):List α→Nat→A→A⊕R
 | [],_,a=>.inl a
 | x::xs,k,a=>bindR (f k x a) (fun a'=>run f xs (k+1) a')
theorem gZ {α A R:Type} (f:Nat→α→A→A⊕R) (x:α) (xs:List α) (k:Nat) (a:A):run f (x::xs) k a=bindR (f k x a) (run f xs (k+1)):=rfl
def outc {S T A R:Type} (g:A→S) (e:R→T):A⊕R→S⊕T
 | .inl a=>.inl (g a)
 | .inr r=>.inr (e r)
def outf {T A R:Type} (g:A→T) (e:R→T):A⊕R→T
 | .inl a=>g a
 | .inr r=>e r
theorem mY {S T α A R:Type} {l:List α} (hl:l.length≤4611686018427387904) {body:S→Option (S⊕T)} (pack:Int→A→S) (f:Nat→α→A→A⊕R) (fin:A→T) (exit:R→T) (P:Nat→A→Prop)
    (hstep:∀ (k:Nat) (hk:k<l.length) (a:A),P k a→body (pack (k:Int) a)=some (outc (pack ((k+1:Nat):Int)) exit (f k l[k] a))∧∀ a',f k l[k] a=.inl a'→P (k+1) a')
    (hend:∀ a,P l.length a→body (pack (l.length:Int) a)=some (.inr (fin a))) (a:A) (h0:P 0 a):bZ body FUEL (pack 0 a)=some (outf fin exit (run f l 0 a))∧∀ a',run f l 0 a=.inl a'→P l.length a':=by
  have main:∀ (xs:List α) (k N:Nat) (a:A),l.drop k=xs→k≤l.length→P k a→xs.length<N→bZ body N (pack (k:Int) a)=some (outf fin exit (run f xs k a))∧∀ a',run f xs k a=.inl a'→P l.length a':=by
    intro xs
    induction xs with
    | nil =>
      intro k N a hd hk hp hN
      have:k=l.length:=by
        have:=congrArg List.length hd;simp at this;omega
      subst this
      obtain ⟨N,rfl⟩:∃ M,N=M+1:=⟨N - 1,by omega⟩
      rw [dB,hend a hp]
      exact ⟨rfl,fun a' h=>by injection h with h;exact h ▸ hp⟩
    | cons x xs ih =>
      intro k N a hd hk hp hN
      have hk':k<l.length:=by
        have:=congrArg List.length hd;simp at this;omega
      have hx:l[k]=x∧l.drop (k+1)=xs:=by
        rw [List.drop_eq_getElem_cons hk'] at hd;injection hd with h1 h2;exact ⟨h1,h2⟩
      obtain ⟨N,rfl⟩:∃ M,N=M+1:=⟨N - 1,by omega⟩
      obtain ⟨e1,e2⟩:=hstep k hk' a hp
      rw [hx.1] at e1 e2
      rw [dB,e1]
      rw [gZ]
      cases hf:f k x a with
      | inl a'=>exact ih (k+1) N a' hx.2 (by omega) (e2 a' hf) (by simp at hN;omega)
      | inr r=>exact ⟨rfl,fun a' h=>by change Sum.inr r=_ at h;cases h⟩
  exact main l 0 FUEL a rfl (by omega) h0 (jY (by omega))
theorem rQ {S T α A R β:Type} {l:List α} (hl:l.length≤4611686018427387904) {body:S→Option (S⊕T)} {k:T→Option β} (pack:Int→A→S) (f:Nat→α→A→A⊕R) (fin:A→T) (exit:R→T) (P:Nat→A→Prop) (a:A) (h0:P 0 a)
    (hstep:∀ (k:Nat) (hk:k<l.length) (a:A),P k a→body (pack (k:Int) a)=some (outc (pack ((k+1:Nat):Int)) exit (f k l[k] a))∧∀ a',f k l[k] a=.inl a'→P (k+1) a')
    (hend:∀ a,P l.length a→body (pack (l.length:Int) a)=some (.inr (fin a))):Option.bind (bZ body FUEL (pack 0 a)) k=k (outf fin exit (run f l 0 a)):=kv (mY hl pack f fin exit P hstep hend a h0).1
def g0 {α T:Type} (g:Nat→α→Option T):List α→Nat→Option T
 | [],_=>none
 | x::xs,k=>match g k x with | some t=>some t | none=>g0 g xs (k+1)
def outg {T:Type} (k:Nat):Option T→Int⊕T
 | some t=>.inr t
 | none=>.inl ((k+1:Nat):Int)
theorem iA {T α β:Type} {l:List α} (hl:l.length≤4611686018427387904) {body:Int→Option (Int⊕T)} {k:T→Option β} (g:Nat→α→Option T) (e:T)
    (hstep:∀ (k:Nat) (hk:k<l.length),body (k:Int)=some (outg k (g k l[k]))) (hend:body (l.length:Int)=some (.inr e)):Option.bind (bZ body FUEL 0) k=k ((g0 g l 0).getD e):=by
  refine (rQ hl (fun i (_:Unit)=>i) (fun k x _=>match g k x with | some t=>.inr t | none=>.inl ()) (fun _=>e) (fun (t:T)=>t) (fun _ _=>True) () trivial (fun k hk a _=>⟨by
    rw [hstep k hk];cases g k l[k] <;> rfl,fun _ _=>trivial⟩) (fun a _=>hend)).trans ?_
  congr 1
  generalize 0=i
  induction l generalizing i with
  | nil=>rfl
  | cons x xs ih =>
    clear hstep hend
    have ih2:∀ j,outf (fun _=>e) (fun t=>t) (run (fun k x (_:Unit)=>match g k x with | some t=>Sum.inr t | none=>Sum.inl ()) xs j ())=(g0 g xs j).getD e:=by
      clear ih hl
      induction xs with
      | nil=>intro j;rfl
      | cons y ys ih=>intro j;rw [gZ,g0];cases g j y with | some t=>rfl | none=>exact ih (j+1)
    rw [gZ,g0]
    cases g i x with
    | some t=>rfl
    | none=>exact ih2 (i+1)
theorem iB {α T:Type} (p:α→Bool) (t:T):∀ (l:List α) (k:Nat),g0 (fun _ x=>cond (p x) none (some t)) l k=cond (l.all p) none (some t)
 | [],_=>rfl
 | x::xs,k=>by
  rw [g0,List.all_cons,iB p t xs]
  cases p x <;> rfl
theorem jZ {α T:Type} (p:α→Bool) (f:α→T):∀ (l:List α) (k:Nat),g0 (fun _ x=>cond (p x) (some (f x)) none) l k=(l.find? p).map f
 | [],_=>rfl
 | x::xs,k=>by
  rw [g0,List.find?_cons,jZ p f xs]
  cases p x <;> rfl
theorem pX {S T α A β:Type} {l:List α} (hl:l.length≤4611686018427387904) {body:S→Option (S⊕T)} {k:T→Option β} (pack:Int→A→S) (f:A→α→A) (fin:A→T) (P:Nat→A→Prop) (a:A) (h0:P 0 a)
    (hstep:∀ (k:Nat) (hk:k<l.length) (a:A),P k a→body (pack (k:Int) a)=some (.inl (pack ((k+1:Nat):Int) (f a l[k])))∧P (k+1) (f a l[k]))
    (hend:∀ a,P l.length a→body (pack (l.length:Int) a)=some (.inr (fin a))):Option.bind (bZ body FUEL (pack 0 a)) k=k (fin (l.foldl f a))∧P l.length (l.foldl f a):=by
  have e:=mY hl pack (fun _ x a=>(.inl (f a x):A⊕Empty)) fin (fun r=>nomatch r) P (fun k hk a hp=>⟨(hstep k hk a hp).1,fun a' h=>by injection h with h;exact h ▸ (hstep k hk a hp).2⟩) hend a h0
  have e2:∀ (xs:List α) (i:Nat) (b:A),run (fun _ x a=>(.inl (f a x):A⊕Empty)) xs i b=.inl (xs.foldl f b):=by
    intro xs
    induction xs with
    | nil=>intro i b;rfl
    | cons x xs ih=>intro i b;rw [gZ,List.foldl_cons];exact ih _ _
  rw [e2] at e
  exact ⟨kv e.1,e.2 _ rfl⟩
theorem getD_in {α:Type} {l:List α} {k:Nat} (h:k<l.length) (d:α):l.getD k d=l[k]:=by simp [List.getD,h]
structure Za where
 From:Int
 Number:Int
 Day:Int
 Kind:Int
 Country:ByteArray
 Amount:Int
 Company:Int
 deriving Inhabited,DecidableEq
def Za.enc (m:Za):List PV:=[pI m.From,pI m.Number,pI m.Day,pI m.Kind,pS m.Country,pI m.Amount,pI m.Company]
def Za.eqb (a b:Za):Bool:=((a.From == b.From)&&((a.Number == b.Number)&&((a.Day == b.Day)&&((a.Kind == b.Kind)&&((decide (a.Country=b.Country))&&((a.Amount == b.Amount)&&((a.Company == b.Company)&&true)))))))
theorem Za.eqb_iff {a b:Za}:Za.eqb a b=true↔a=b:=by cases a;cases b;simp [Za.eqb]
theorem Za.eqok28:EqOk 28 [0,0,0,0,2,0,0]:=⟨by kernel_rfl,by kernel_rfl,by kernel_rfl,by kernel_rfl⟩
structure Zd where
 Source:Int
 Code:ByteArray
 Units:Int
 Facts:(List Za)
 deriving Inhabited,DecidableEq
def Zd.enc (m:Zd):List PV:=[pI m.Source,pS m.Code,pI m.Units,pL Za.enc m.Facts]
structure Ze where
 Code:ByteArray
 Origin:ByteArray
 Proof:Bool
 Company:Int
 Day:Int
 Quantity:Int
 Value:Int
 Granted:Int
 deriving Inhabited,DecidableEq
def Ze.enc (m:Ze):List PV:=[pS m.Code,pS m.Origin,pB m.Proof,pI m.Company,pI m.Day,pI m.Quantity,pI m.Value,pI m.Granted]
def Ze.eqb (a b:Ze):Bool:=((decide (a.Code=b.Code))&&((decide (a.Origin=b.Origin))&&((a.Proof == b.Proof)&&((a.Company == b.Company)&&((a.Day == b.Day)&&((a.Quantity == b.Quantity)&&((a.Value == b.Value)&&((a.Granted == b.Granted)&&true))))))))
theorem Ze.eqb_iff {a b:Ze}:Ze.eqb a b=true↔a=b:=by cases a;cases b;simp [Ze.eqb]
theorem Ze.eqok34:EqOk 34 [2,2,1,0,0,0,0,0]:=⟨by kernel_rfl,by kernel_rfl,by kernel_rfl,by kernel_rfl⟩
structure Zc where
 L:(List Int)
 I:Int
 deriving Inhabited,DecidableEq
def Zc.enc (m:Zc):List PV:=[pL eI m.L,pI m.I]
structure Zf where
 Year:Int
 Month:Int
 Dom:Int
 deriving Inhabited,DecidableEq
def Zf.enc (m:Zf):List PV:=[pI m.Year,pI m.Month,pI m.Dom]
def Zf.eqb (a b:Zf):Bool:=((a.Year == b.Year)&&((a.Month == b.Month)&&((a.Dom == b.Dom)&&true)))
theorem Zf.eqb_iff {a b:Zf}:Zf.eqb a b=true↔a=b:=by cases a;cases b;simp [Zf.eqb]
abbrev ah (m:Za):List PV:=[pI m.From,pI m.Number,pI m.Day,pI m.Kind,pS m.Country,pI m.Amount,pI m.Company]
abbrev aJ (m:Zd):List PV:=[pI m.Source,pS m.Code,pI m.Units,pL Za.enc m.Facts]
abbrev dw (m:Ze):List PV:=[pS m.Code,pS m.Origin,pB m.Proof,pI m.Company,pI m.Day,pI m.Quantity,pI m.Value,pI m.Granted]

section
variable {o:Oper} {σ:PEnv} {ρ:List PRes} {f:Nat} {l:List Operand} {ts:Array Nat} {pargs caps:List PV} {x:Operand} {KV:PV→List PRes→Prop}
end
section
variable {o:Oper} {σ:PEnv} {ρ:List PRes} {x y:Operand} {t:Nat} {K:PV→List PRes→Prop} {α:Type} {enc:α→List PV} {xs:List α} {m m':α} {i:Int}
end
theorem pY {o:Oper} {x y:Operand} {t g len E by':Nat} {z:Value} {k:IntKind} {a m:Int} {tbl:List Int} {σ:PEnv} {ρ:List PRes} (ho:o.op=.indexAddr t x y) (hu:cL t=some (.array len E)) (hi:dj E=some (z,1,by')) (hx:aA σ x=.v (.pointer (some ⟨g,0,none⟩))) (hy:aA σ y=.v (.int k a))
    (hG:∀ κ,GOK κ→Sh κ g 0 (tbl.map (Value.int .i64))) (hl:tbl.length=len) (hm:idx tbl a=some m):POpQ true o σ ρ (.ref [pI m] 0):=fun κ σ' ρ' gk hs hrr=>by
  obtain ⟨h0,h1⟩:=fS hm
  obtain ⟨j,rfl⟩:∃ j:Nat,a=(j:Int):=⟨a.toNat,by omega⟩
  rw [Int.toNat_natCast] at h1
  have hlt:j<len:=by rw [← hl];exact (List.getElem?_eq_some_iff.1 h1).1
  have hS:Sh κ g (0+j*1) [.int .i64 m]:=⟨(hG κ gk).1,fun i u hu=>by
    cases i with
    | zero =>
      simp at hu;subst hu
      have:=(hG κ gk).2 j (.int .i64 m) (by rw [List.getElem?_map,h1];rfl)
      simpa using this
    | succ i=>simp at hu⟩
  refine ⟨.pointer (some ⟨g,0+j*1,none⟩),fun _=>?_,pt ho hu hi (.p (hs.v1 hx)) (.p (hs.v1 hy)) (fun _=>rfl) (fun _=>hlt)⟩
  exact Rp.ref (ds:=[.int .i64 m]) hS (fun u hu=>by rw [List.mem_singleton.1 hu];rfl) (.cons (.v rfl) .nil)
def d9:List Int:=[31,28,31,30,31,30,31,31,30,31,30,31]
end SX
namespace SX
open Go
attribute [local irreducible] PWL PWC PWD POpL POpQ PEv PGuardIs PSub PPick PUpd PSplice PFill PLit PF PFV PCall FOk fG eg jF jG fR gw Cov PHolds bZ idx app mk gd lb nz ge0 cat sub kx pD ior pE nN i5 de pF IntKind.wrap Int.tmod Int.tdiv Op.bytesLess strOfNums
theorem bg {n:Nat} {l:List Oper} {KC:Exit→PPost} {σ:PEnv} {ρ:List PRes} {id:Nat} (D:List Nat) (h:fW n l.toArray ρ l [] [] σ [] D=fg n l.toArray ρ l [] [] σ []) (hw:KC .normal (fB σ D []) ρ):PWC n (.region id l.toArray false) KC σ ρ:=aG [] D [] bT h hw
theorem cq {n:Nat} {l:List Oper} {KC:Exit→PPost} {σ:PEnv} {ρ:List PRes} {id:Nat} (H D:List Nat) (X:List (Nat×PV)) (h:fW n l.toArray ρ l H [] σ (X.map (·.1)) D=fg n l.toArray ρ l H [] σ (X.map (·.2))) (hw:KC .normal (fB σ D X) ρ):PWC n (.region id l.toArray false) KC σ ρ:=aG H D X bT h hw
theorem am {n:Nat} {l:List Oper} {KC:Exit→PPost} {σ:PEnv} {ρ:List PRes} {id:Nat} (X:List (Nat×PV)) (h:fW n l.toArray ρ l [] [] σ (X.map (·.1)) []=fg n l.toArray ρ l [] [] σ (X.map (·.2))) (hw:KC .normal (fB σ [] X) ρ):PWC n (.region id l.toArray false) KC σ ρ:=aG [] [] X bT h hw
theorem an {n:Nat} {l:List Oper} {KC:Exit→PPost} {σ:PEnv} {ρ:List PRes} {id:Nat} (D:List Nat) (X:List (Nat×PV)) (h:fW n l.toArray ρ l [] [] σ (X.map (·.1)) D=fg n l.toArray ρ l [] [] σ (X.map (·.2))) (hw:KC .normal (fB σ D X) ρ):PWC n (.region id l.toArray false) KC σ ρ:=aG [] D X bT h hw
theorem mZ {n:Nat} {ops:Array Oper} {l:List (Nat×Oper)} {K:PPost} {σ:PEnv} {ρd ρs:List PRes} (k:Nat) (H D:List Nat) (X:List (Nat×PV)) (h:oM n ops ρs (l.take k) H [] σ (X.map (·.1)) D=fg n ops ρs ((l.take k).map (·.2)) H [] σ (X.map (·.2))) (hw:PWD n ops K (l.drop k) (fB σ D X) ρd ρs):PWD n ops K l σ ρd ρs:=cV k H D X bT h hw
theorem m6 {n:Nat} {ops:Array Oper} {l:List (Nat×Oper)} {K:PPost} {σ:PEnv} {ρd ρs:List PRes} (k:Nat) (X:List (Nat×PV)) (h:oM n ops ρs (l.take k) [] [] σ (X.map (·.1)) []=fg n ops ρs ((l.take k).map (·.2)) [] [] σ (X.map (·.2))) (hw:PWD n ops K (l.drop k) (fB σ [] X) ρd ρs):PWD n ops K l σ ρd ρs:=cV k [] [] X bT h hw
theorem cY {n:Nat} {ops:Array Oper} {l:List Oper} {K:PPost} {σ:PEnv} {ρ:List PRes} (D:List Nat) (h:fW n ops ρ l [] [] σ [] D=fg n ops ρ l [] [] σ []) (hw:K (fB σ D []) ρ):PWL n ops l K σ ρ:=eV [] D [] bT h hw
theorem aM {n:Nat} {ops:Array Oper} {l:List Oper} {K:PPost} {σ:PEnv} {ρ:List PRes} (X:List (Nat×PV)) (h:fW n ops ρ l [] [] σ (X.map (·.1)) []=fg n ops ρ l [] [] σ (X.map (·.2))) (hw:K (fB σ [] X) ρ):PWL n ops l K σ ρ:=eV [] [] X bT h hw
theorem m7 {n:Nat} {ops:Array Oper} {l:List Oper} {K:PPost} {σ:PEnv} {ρ:List PRes} (D:List Nat) (X:List (Nat×PV)) (h:fW n ops ρ l [] [] σ (X.map (·.1)) D=fg n ops ρ l [] [] σ (X.map (·.2))) (hw:K (fB σ D X) ρ):PWL n ops l K σ ρ:=eV [] D X bT h hw
theorem fY {n:Nat} {ops:Array Oper} {l:List Oper} {K:PPost} {σ:PEnv} {ρ:List PRes} (k:Nat) (H:List Nat) (X:List (Nat×PV)) (h:fW n ops ρ (l.take k) H [] σ (X.map (·.1)) []=fg n ops ρ (l.take k) H [] σ (X.map (·.2))) (hw:PWL n ops (l.drop k) K (fB σ [] X) ρ):PWL n ops l K σ ρ:=bc k H [] X bT h hw
theorem dT {n:Nat} {ops:Array Oper} {l:List Oper} {K:PPost} {σ:PEnv} {ρ:List PRes} (k:Nat) (H D:List Nat) (X:List (Nat×PV)) (h:fW n ops ρ (l.take k) H [] σ (X.map (·.1)) D=fg n ops ρ (l.take k) H [] σ (X.map (·.2))) (hw:PWL n ops (l.drop k) K (fB σ D X) ρ):PWL n ops l K σ ρ:=bc k H D X bT h hw
theorem aR {n:Nat} {ops:Array Oper} {l:List Oper} {K:PPost} {σ:PEnv} {ρ:List PRes} (k:Nat) (X:List (Nat×PV)) (h:fW n ops ρ (l.take k) [] [] σ (X.map (·.1)) []=fg n ops ρ (l.take k) [] [] σ (X.map (·.2))) (hw:PWL n ops (l.drop k) K (fB σ [] X) ρ):PWL n ops l K σ ρ:=bc k [] [] X bT h hw
theorem dU {n:Nat} {ops:Array Oper} {l:List Oper} {K:PPost} {σ:PEnv} {ρ:List PRes} (k:Nat) (D:List Nat) (X:List (Nat×PV)) (h:fW n ops ρ (l.take k) [] [] σ (X.map (·.1)) D=fg n ops ρ (l.take k) [] [] σ (X.map (·.2))) (hw:PWL n ops (l.drop k) K (fB σ D X) ρ):PWL n ops l K σ ρ:=bc k [] D X bT h hw
theorem ar {n:Nat} {ops:Array Oper} {o:Oper} {rest:List Oper} {K:PPost} {σ:PEnv} {ρ:List PRes} {d:Nat} (hg:(o.guard,o.dst,Nat.blt d n)=(none,some d,true)) (h:POpL o σ ρ fun p ρ'=>PWL n ops rest K (cE σ d p) ρ'):PWL n ops (o::rest) K σ ρ:=jE (Prod.mk.inj hg).1 (Prod.mk.inj (Prod.mk.inj hg).2).1 (Prod.mk.inj (Prod.mk.inj hg).2).2 h
theorem zz {α:Type} {t:Nat} {enc:α→PV} {σ:PEnv} {ρ:List PRes} {v:α} (r:α) (h:some v=some r) (e:σ t=enc v):gw [.tmp t] (fun pv ρ'=>pv=enc r∧ρ'=[]) .ret σ ρ:=by cases h;exact aN (eJ (aV e)) eR ⟨rfl,rfl⟩
theorem bF {x y1:Code} {K1:Exit→PPost} {ρ1:List PRes} {n1:Nat} {σ1:PEnv} (h1:PWC n1 x (fG n1 y1 K1) σ1 ρ1):fG n1 (.seq x y1) K1 .normal σ1 ρ1:=ai (ae h1)
theorem dV {K1:Exit→PPost} {ρ1:List PRes} {n1:Nat} {σ1:PEnv} (h1:K1 .ret σ1 ρ1):fG n1 .ret K1 .normal σ1 ρ1:=ai (cF h1)
def cd (p0:Int) (p1:Int):Option Int:=(nz p1).bind fun u1=>(nz p1).bind fun u2=>lb ((Int.tmod (IntKind.i64.wrap ((Int.tmod p0 p1)+p1)) p1)) (fun w3=>some w3)
theorem dW {p0:Int} {p1:Int} {r:Int}  (h:cd p0 p1=some r):PF 6 [pI p0,pI p1] (pI r):=by
 unfold cd at h
 refine bP ?_
 refine aP Tryd.func6 rfl Tryd.ntmps6 Tryd.results6 rfl (ae (bg [4] (by kernel_rfl) (bF (aa h fun u1 hu1 h=>aa h fun u2 hu2 h=>?_))))
 refine lJ h ?_;clear h;intro w3 hw3 h
 refine af (bc 7 [] (rg 5 6) [(11,pI (Int.tmod (IntKind.i64.wrap ((Int.tmod p0 p1)+p1)) p1))] (fonz 2 hu1 (fonz 6 hu2 bT)) (by kernel_rfl) (dr rfl rfl rfl (bN rfl (.p (congrArg (fun z=>PV.v (Value.int .i64 z)) hw3))) (aw (dV ?_))))
 exact zz r h rfl
def fh (p0:(List Int)) (p1:Int):Option (List Int):=cond (decide (p1<(p0.length:Int))) ((sub p0 0 p1).bind fun l2=>some l2) (some p0)
theorem m8 {p0:(List Int)} {p1:Int} {r:(List Int)}  (h:fh p0 p1=some r):PF 14 [pL eI p0,pI p1] (pL eI r):=by
 unfold fh at h
 refine bP ?_
 refine aP Tryd.func14 rfl Tryd.ntmps14 Tryd.results14 rfl (ae (bg [4] (by kernel_rfl) (bF (ae (an [5,6,7] [(8,pB (decide (p1<(p0.length:Int))))] (by kernel_rfl) (ai (d6 rfl h (fun hc1 h=>?_) fun hc1 h=>?_)))))))
 ·refine ae ?_
  refine aa h fun l2 hl2 h=>aG [] [9,10,11] [(4,pL eI l2)] (fosl 2 eI 1 (fun _=>rfl) hl2 bT) (by kernel_rfl) (dV (al ?_))
  exact zz r h rfl
 refine ak ?_
 refine bF (an [12] [(4,pL eI p0)] (by kernel_rfl) (dV ?_))
 exact zz r h rfl
def dg (p0:Zc):Option (Bool×Zc):=some ((decide (p0.I<(p0.L.length:Int))),p0)
theorem gp {p0:Zc} {b0:Nat} {r:(Bool×Zc)}  (h:dg p0=some r):PCall 15 [pP b0 0] [PRes.b b0 48 [pL eI p0.L,pI p0.I]] (fun pv ρ'=>pv=pB r.1∧ρ'=[PRes.b b0 48 [pL eI r.2.L,pI r.2.I]]):=by
 unfold dg at h
 refine aP Tryd.func15 rfl Tryd.ntmps15 Tryd.results15 rfl (ae (bg [2] (by kernel_rfl) (bF (cW (ρd:=[]) [(0,0),(1,0),(2,0),(3,0),(4,0),(5,0),(6,0),(7,0),(8,0),(9,0),(10,0)] _ (List.Perm.refl _) (by kernel_rfl) rfl (mZ 11 [0,0] (rg 3 10) [(2,pB (decide (p0.I<(p0.L.length:Int))))] (by kernel_rfl) (dQ (dV ?_)))))))
 obtain rfl:=osi h
 exact aN (eJ (aV rfl)) eo ⟨rfl,rfl⟩
def aq (p0:Zc) (p1:Int):Option (Int×Zc):=cond (decide ((p0.L.length:Int)≤p0.I)) (some ((0:Int),p0)) ((idx p0.L (IntKind.i64.wrap ((IntKind.i64.wrap (p0.I+1)) - 1))).bind fun m2=>(cd m2 p1).bind fun x3=>some (x3,(⟨p0.L,(IntKind.i64.wrap (p0.I+1))⟩:Zc)))
theorem az {p0:Zc} {p1:Int} {b0:Nat} {r:(Int×Zc)}  (h:aq p0 p1=some r):PCall 16 [pP b0 0,pI p1] [PRes.b b0 48 [pL eI p0.L,pI p0.I]] (fun pv ρ'=>pv=pI r.1∧ρ'=[PRes.b b0 48 [pL eI r.2.L,pI r.2.I]]):=by
 unfold aq at h
 refine aP Tryd.func16 rfl Tryd.ntmps16 Tryd.results16 rfl (ae (bg [4] (by kernel_rfl) (bF (ae (cW (ρd:=[]) [(0,0),(1,0),(2,0),(3,0),(4,0),(5,0),(6,0),(7,0),(8,0),(9,0)] _ (List.Perm.refl _) (by kernel_rfl) rfl (mZ 10 [0,0] (rg 5 9) [(14,pB (decide ((p0.L.length:Int)≤p0.I)))] (by kernel_rfl) (dQ (ai (d6 rfl h (fun hc1 h=>?_) fun hc1 h=>?_)))))))))
 ·refine ae ?_
  refine am [(4,pI 0)] (by kernel_rfl) (dV (al ?_))
  obtain rfl:=osi h
  exact aN (eJ (aV rfl)) eo ⟨rfl,rfl⟩
 refine ak ?_
 refine bF (af (dT 7 [0] [15,16,17,18,20] [(19,pI (IntKind.i64.wrap (p0.I+1))),(21,pP b0 1)] (by kernel_rfl) (aB rfl rfl (ag (vs:=[pI (IntKind.i64.wrap (p0.I+1))]) rfl rfl rfl rfl rfl cS (cC gH) (aw (bF (cW (ρd:=[]) [(0,0),(1,0),(2,0),(3,0),(4,0),(5,0),(6,0),(7,0),(8,0),(9,0),(10,0),(11,0),(12,1),(13,0)] _ (List.Perm.refl _) (by kernel_rfl) rfl (aa h fun m2 hm2 h=>aa h fun x3 hx3 h=>cV 14 [0,0] (rg 22 13) [(4,pI x3)] (ky 9 eI hm2 (bB 12 (dW hx3) bT)) (by kernel_rfl) (dQ (dV ?_))))))))))
 obtain rfl:=osi h
 exact aN (eJ (aV rfl)) eo ⟨rfl,rfl⟩
def cr  : Option (List ByteArray):=some [(⟨#[65,65]⟩:ByteArray),(⟨#[66,66]⟩:ByteArray),(⟨#[67,67]⟩:ByteArray),(⟨#[68,68]⟩:ByteArray),(⟨#[69,69]⟩:ByteArray),(⟨#[70,70]⟩:ByteArray)]
theorem eW  {r:(List ByteArray)}  (h:cr  = some r):PF 17 [] (pL eS r):=by
 unfold cr at h
 refine bP ?_
 refine aP Tryd.func17 rfl Tryd.ntmps17 Tryd.results17 rfl (ae (bg [0] (by kernel_rfl) (bF (af (ar rfl (gD rfl rfl rfl rfl rfl (pH rfl (pH rfl (pH rfl (pH rfl (pH rfl (pH rfl zin)))))) rfl rfl rfl rfl (fun b1=>aM [(0,pO (some ⟨b1,0,none⟩) 6 6)] (by kernel_rfl) (ai ?_))))))))
 refine mC (enc:=eS) (xs:=[(⟨#[65,65]⟩:ByteArray),(⟨#[66,66]⟩:ByteArray),(⟨#[67,67]⟩:ByteArray),(⟨#[68,68]⟩:ByteArray),(⟨#[69,69]⟩:ByteArray),(⟨#[70,70]⟩:ByteArray)]) 0 rfl (by exact cz) ?_
 refine cF ?_
 exact zz r h rfl
def eK (p0:Zc) (p1:Int) (p2:Int):Option (Int×Zc):=(aq p0 5).bind fun x1=>cond (x1.1 == 4) ((aq x1.2 p2).bind fun x3=>some (x3.1,x3.2)) ((aq x1.2 p1).bind fun x4=>some (x4.1,x4.2))
theorem kz {p0:Zc} {p1:Int} {p2:Int} {b0:Nat} {r:(Int×Zc)}  (h:eK p0 p1 p2=some r):PCall 18 [pP b0 0,pI p1,pI p2] [PRes.b b0 48 [pL eI p0.L,pI p0.I]] (fun pv ρ'=>pv=pI r.1∧ρ'=[PRes.b b0 48 [pL eI r.2.L,pI r.2.I]]):=by
 unfold eK at h
 refine aP Tryd.func18 rfl Tryd.ntmps18 Tryd.results18 rfl (ae (bg [6] (by kernel_rfl) (bF (ae (aa h fun x1 hx1 h=>af (aR 1 [(7,pP b0 0)] (by kernel_rfl) ?_))))))
 refine ar rfl (bf rfl rfl (ρ1:=[_]) (aX (by exact cz) (List.Perm.refl _)) (az hx1) ?_);rintro _ _ ⟨rfl,rfl⟩
 refine aM [(9,pB (x1.1 == 4))] (by kernel_rfl) (ai (d6 rfl h (fun hc2 h=>?_) fun hc2 h=>?_))
 ·refine ae ?_
  refine aa h fun x3 hx3 h=>af (aR 2 [(10,pP b0 0),(11,pI p2)] (by kernel_rfl) ?_)
  refine ar rfl (bf rfl rfl (ρ1:=[_]) (aX (by exact cz) (List.Perm.refl _)) (az hx3) ?_);rintro _ _ ⟨rfl,rfl⟩
  refine aM [(6,pI x3.1)] (by kernel_rfl) (dV (al ?_))
  obtain rfl:=osi h
  exact aN (eJ (aV rfl)) eo ⟨rfl,rfl⟩
 refine ak ?_
 refine bF (aa h fun x4 hx4 h=>af (aR 2 [(13,pP b0 0),(14,pI p1)] (by kernel_rfl) ?_))
 refine ar rfl (bf rfl rfl (ρ1:=[_]) (aX (by exact cz) (List.Perm.refl _)) (az hx4) ?_);rintro _ _ ⟨rfl,rfl⟩
 refine aM [(6,pI x4.1)] (by kernel_rfl) (dV ?_)
 obtain rfl:=osi h
 exact aN (eJ (aV rfl)) eo ⟨rfl,rfl⟩
def cu (p0:(List Int)):Option (List Za):=(fh p0 80).bind fun x1=>(bZ (S:=(List Za)×(List Int)×Int) (T:=((List Za))) (fun (l4,l7,v8)=>(dg (⟨l7,v8⟩:Zc)).bind fun x16=>cond (x16.1&&(decide (((l4.length:Nat):Int)<14))) ((aq x16.2 3).bind fun x18=>(aq x18.2 30).bind fun x19=>(aq x19.2 5).bind fun x20=>(aq x20.2 8).bind fun x22=>Option.bind (cond (x22.1 == 0) ((aq x22.2 2500).bind fun x29=>some (x29.2.L,x29.2.I,x29.1)) (some (x22.2.L,x22.2.I,x19.1))) (fun (l24,v25,v26)=>Option.bind (cond ((IntKind.i64.wrap (1+x20.1)) == 1) ((cr).bind fun x38=>(aq (⟨l24,v25⟩:Zc) 3).bind fun x39=>(idx x38 x39.1).bind fun m40=>(eK x39.2 5000 1000000000001).bind fun x41=>(aq x41.2 3).bind fun x42=>some (x42.2.L,x42.2.I,m40,x41.1,x42.1)) (cond ((IntKind.i64.wrap (1+x20.1)) == 3) ((aq (⟨l24,v25⟩:Zc) 6000).bind fun x44=>some (x44.2.L,x44.2.I,ByteArray.empty,x44.1,0)) (cond ((IntKind.i64.wrap (1+x20.1)) == 4) ((cr).bind fun x46=>(aq (⟨l24,v25⟩:Zc) 3).bind fun x47=>(idx x46 x47.1).bind fun m48=>some (x47.2.L,x47.2.I,m48,0,0)) (cond ((IntKind.i64.wrap (1+x20.1)) == 5) ((aq (⟨l24,v25⟩:Zc) 40).bind fun x50=>some (x50.2.L,x50.2.I,ByteArray.empty,x50.1,0)) (some (l24,v25,ByteArray.empty,0,0)))))) (fun (l31,v32,v33,v34,v35)=>(app 64 l4 [(⟨(IntKind.i64.wrap (x18.1*100)),(IntKind.i64.wrap ((Int.tmod (IntKind.i64.wrap ((IntKind.i64.wrap (((l4.length:Nat):Int)*5))+2)) 17)+1)),v26,(IntKind.i64.wrap (1+x20.1)),v33,v34,v35⟩:Za)]).bind fun l53=>some (.inl (l53,l31,v32))))) (some (.inr l4))) FUEL (([]:List Za),x1,0)).bind fun l12=>some l12
theorem hB {p0:(List Int)} {r:(List Za)}  (h:cu p0=some r):PF 7 [pL eI p0] (pL Za.enc r):=by
 unfold cu at h
 refine bP ?_
 refine aP Tryd.func7 rfl Tryd.ntmps7 Tryd.results7 rfl (ae (bg [2] (by kernel_rfl) (bF (aa h fun x1 hx1 h=>af (bc 3 [] [6,7] [(8,.agg [pL eI x1,pI 0])] (bB 1 (m8 hx1) bT) (by kernel_rfl) (ar rfl (cG (cs:=[pL eI x1,pI 0]) rfl rfl (fun b2=>aM [(3,pP b2 0)] (by kernel_rfl) (bF (am [(4,pN)] (by kernel_rfl) (bF (jI 28 7 (aa h fun q14 hq14 h=>?_)))))))))))))
 refine bx (Y:=(Option Addr×Nat)×((List Za))) (fun ((a10,c11),l12)=>[(4,pO a10 l12.length c11)]) (fun ((a10,c11),l12)=>[PRes.row a10 l12.length c11 28 7 (List.map Za.enc l12)]) (fun ((a10,c11),l12)=>q14=l12) ?_ ?_
 ·refine aH ?_
  refine ck (Y:=Option Addr×Nat) (S:=(List Za)×(List Int)×Int) _ hq14 (fun (a5,c6) (l4,l7,v8)=>[(3,pP b2 0),(4,pO a5 l4.length c6)]) (fun (a5,c6) (l4,l7,v8)=>[PRes.b b2 48 [pL eI l7,pI v8],PRes.row a5 l4.length c6 28 7 (List.map Za.enc l4)]) (none,0) (zh2 rfl) (er (cU cz) eo) ?_
  rintro ⟨a5,c6⟩ ⟨l4,l7,v8⟩ o τ hb13;(try dsimp only at hb13);dsimp only [bj]
  refine ae (ae (aa hb13 fun x16 hx16 hb13=>af (aR 1 [(10,pP b2 0)] (by kernel_rfl) ?_)))
  refine ar rfl (bf rfl rfl (ρ1:=[_]) (aX (by exact cz) (List.Perm.refl _)) (gp hx16) ?_);rintro _ _ ⟨rfl,rfl⟩
  refine m7 [12,13,14,15] [(16,pB (x16.1&&(decide (((l4.length:Nat):Int)<14))))] (by kernel_rfl) (ai (d6 rfl hb13 (fun hc17 hb13=>?_) fun hc17 hb13=>?_))
  ·refine ak ?_
   refine ai (aH (ae (aa hb13 fun x18 hx18 hb13=>af (aR 1 [(17,pP b2 0)] (by kernel_rfl) ?_))))
   refine ar rfl (bf rfl rfl (ρ1:=[_]) (aX (by exact cz) (List.Perm.refl _)) (az hx18) ?_);rintro _ _ ⟨rfl,rfl⟩
   refine aa hb13 fun x19 hx19 hb13=>dU 8 (rg 20 5) [(19,pI (IntKind.i64.wrap (x18.1*100))),(25,pI (IntKind.i64.wrap ((Int.tmod (IntKind.i64.wrap ((IntKind.i64.wrap (((l4.length:Nat):Int)*5))+2)) 17)+1))),(26,pP b2 0)] (by kernel_rfl) ?_
   refine ar rfl (bf rfl rfl (ρ1:=[_]) (aX (by exact cz) (List.Perm.refl _)) (az hx19) ?_);rintro _ _ ⟨rfl,rfl⟩
   refine aa hb13 fun x20 hx20 hb13=>aR 1 [(28,pP b2 0)] (by kernel_rfl) ?_
   refine ar rfl (bf rfl rfl (ρ1:=[_]) (aX (by exact cz) (List.Perm.refl _)) (az hx20) ?_);rintro _ _ ⟨rfl,rfl⟩
   refine dU 2 [30] [(31,.agg [pI (IntKind.i64.wrap (x18.1*100)),pI (IntKind.i64.wrap ((Int.tmod (IntKind.i64.wrap ((IntKind.i64.wrap (((l4.length:Nat):Int)*5))+2)) 17)+1)),pI x19.1,pI (IntKind.i64.wrap (1+x20.1)),pS ByteArray.empty,pI 0,pI 0])] (by kernel_rfl) (ar rfl (aT (cs:=[pI 0,pI 0,pI 0,pI 0,pS ByteArray.empty,pI 0,pI 0]) rfl rfl rfl rfl (fun b21=>aB rfl rfl (ag (vs:=[pI (IntKind.i64.wrap (x18.1*100)),pI (IntKind.i64.wrap ((Int.tmod (IntKind.i64.wrap ((IntKind.i64.wrap (((l4.length:Nat):Int)*5))+2)) 17)+1)),pI x19.1,pI (IntKind.i64.wrap (1+x20.1)),pS ByteArray.empty,pI 0,pI 0]) rfl rfl rfl rfl rfl cS zl7 (aw (bF (ae (aa hb13 fun x22 hx22 hb13=>af (aR 1 [(32,pP b2 0)] (by kernel_rfl) ?_)))))))))
   refine ar rfl (bf rfl rfl (ρ1:=[_]) (aX (by exact cU cz) (List.Perm.refl _)) (az hx22) ?_);rintro _ _ ⟨rfl,rfl⟩
   refine aM [(34,pB (x22.1 == 0))] (by kernel_rfl) (ai (aa hb13 fun q27 hq27 hb13=>?_))
   refine bx (Y:=Unit×((List Int)×Int×Int)) (fun (_,(l24,v25,v26))=>[(3,pP b2 0),(4,pO a5 l4.length c6),(5,pP b21 0)]) (fun (_,(l24,v25,v26))=>[PRes.b b2 48 [pL eI l24,pI v25],PRes.b b21 28 [pI (IntKind.i64.wrap (x18.1*100)),pI (IntKind.i64.wrap ((Int.tmod (IntKind.i64.wrap ((IntKind.i64.wrap (((l4.length:Nat):Int)*5))+2)) 17)+1)),pI v26,pI (IntKind.i64.wrap (1+x20.1)),pS ByteArray.empty,pI 0,pI 0],PRes.row a5 l4.length c6 28 7 (List.map Za.enc l4)]) (fun (_,(l24,v25,v26))=>q27=(l24,v25,v26)) ?_ ?_
   ·skip
    refine d6 rfl hq27 (fun hc28 hq27=>?_) fun hc28 hq27=>?_
    ·refine aa hq27 ?_;clear hq27;intro x29 hx29 hq27
     refine af (aR 1 [(35,pP b2 0)] (by kernel_rfl) ?_)
     refine ar rfl (bf rfl rfl (ρ1:=[_]) (aX (by exact cz) (List.Perm.refl _)) (az hx29) ?_);rintro _ _ ⟨rfl,rfl⟩
     refine aR 1 [(37,pP b21 2)] (by kernel_rfl) (aB rfl rfl (ag (vs:=[pI x29.1]) rfl rfl rfl rfl rfl (em cS) (cC (cC gH)) (aw ?_)))
     obtain rfl:=osi hq27
     exact aY ((),(x29.2.L,x29.2.I,x29.1)) (oF rfl) zs3 rfl
    refine ak ?_
    obtain rfl:=osi hq27
    exact aY ((),(x22.2.L,x22.2.I,x19.1)) (oF rfl) zs3 rfl
   rintro ⟨_,⟨l24,v25,v26⟩⟩ τ hz;(try dsimp only at hz);subst q27;(try dsimp only at hb13);dsimp only [bj]
   refine ae (ae (cq [1] [38] [(39,pI (IntKind.i64.wrap (1+x20.1)))] (by kernel_rfl) (ai (aa hb13 fun q36 hq36 hb13=>?_))))
   refine bx (Y:=Unit×((List Int)×Int×ByteArray×Int×Int)) (fun (_,(l31,v32,v33,v34,v35))=>[(3,pP b2 0),(4,pO a5 l4.length c6),(5,pP b21 0)]) (fun (_,(l31,v32,v33,v34,v35))=>[PRes.b b2 48 [pL eI l31,pI v32],PRes.b b21 28 [pI (IntKind.i64.wrap (x18.1*100)),pI (IntKind.i64.wrap ((Int.tmod (IntKind.i64.wrap ((IntKind.i64.wrap (((l4.length:Nat):Int)*5))+2)) 17)+1)),pI v26,pI (IntKind.i64.wrap (1+x20.1)),pS v33,pI v34,pI v35],PRes.row a5 l4.length c6 28 7 (List.map Za.enc l4)]) (fun (_,(l31,v32,v33,v34,v35))=>q36=(l31,v32,v33,v34,v35)) ?_ ?_
   ·skip
    refine aH (ae (an [41] [(40,pB ((IntKind.i64.wrap (1+x20.1)) == 1))] (by kernel_rfl) (ai (d6 rfl hq36 (fun hc37 hq36=>?_) fun hc37 hq36=>?_))))
    ·refine cW (ρd:=[PRes.b b2 _ _,PRes.b b21 _ _]) [(1,0),(5,0),(7,0),(0,1),(2,1),(3,0),(4,0),(9,0),(6,1),(8,1),(10,1),(11,0),(12,1),(13,0),(14,1)] _ (List.Perm.refl _) (by kernel_rfl) rfl ?_
     refine aa hq36 fun x38 hx38 hq36=>aa hq36 fun x39 hx39 hq36=>cV 4 [] [] [(43,pP b2 0),(47,pP b2 0),(49,pP b2 0),(42,pL eS x38)] (bB 3 (eW hx38) bT) (by kernel_rfl) ?_
     refine mH rfl rfl rfl (bf rfl rfl (ρ1:=[_]) (aX (by exact cz) (List.Perm.refl _)) (az hx39) ?_);rintro _ _ ⟨rfl,rfl⟩
     refine aa hq36 fun m40 hm40 hq36=>aa hq36 fun x41 hx41 hq36=>cV 3 [] [45] [(46,pS m40),(51,pP b21 4)] (ky 0 eS hm40 bT) (by kernel_rfl) ?_
     refine mH rfl rfl rfl (bf rfl rfl (ρ1:=[_]) (aX (by exact cz) (List.Perm.refl _)) (kz hx41) ?_);rintro _ _ ⟨rfl,rfl⟩
     refine aa hq36 fun x42 hx42 hq36=>?_
     refine mH rfl rfl rfl (bf rfl rfl (ρ1:=[_]) (aX (by exact cz) (List.Perm.refl _)) (az hx42) ?_);rintro _ _ ⟨rfl,rfl⟩
     refine nO rfl rfl (ag (vs:=[pS m40]) rfl rfl rfl rfl rfl (em cS) (cC (cC (cC (cC gH)))) (m6 1 [(52,pP b21 5)] (by kernel_rfl) (nO rfl rfl (ag (vs:=[pI x41.1]) rfl rfl rfl rfl rfl (em cS) (cC (cC (cC (cC (cC gH))))) (m6 1 [(53,pP b21 6)] (by kernel_rfl) (nO rfl rfl (ag (vs:=[pI x42.1]) rfl rfl rfl rfl rfl (em cS) (cC (cC (cC (cC (cC (cC gH)))))) (dQ (aC ?_)))))))))
     obtain rfl:=osi hq36
     exact aY ((),(x42.2.L,x42.2.I,m40,x41.1,x42.1)) (oF rfl) zs3 rfl
    refine ae ?_
    refine an [55] [(54,pB ((IntKind.i64.wrap (1+x20.1)) == 3))] (by kernel_rfl) (ai (d6 rfl hq36 (fun hc43 hq36=>?_) fun hc43 hq36=>?_))
    ·refine aa hq36 ?_;clear hq36;intro x44 hx44 hq36
     refine af (aR 1 [(56,pP b2 0)] (by kernel_rfl) ?_)
     refine ar rfl (bf rfl rfl (ρ1:=[_]) (aX (by exact cz) (List.Perm.refl _)) (az hx44) ?_);rintro _ _ ⟨rfl,rfl⟩
     refine aR 1 [(58,pP b21 5)] (by kernel_rfl) (aB rfl rfl (ag (vs:=[pI x44.1]) rfl rfl rfl rfl rfl (em cS) (cC (cC (cC (cC (cC gH))))) (aw (aC ?_))))
     obtain rfl:=osi hq36
     exact aY ((),(x44.2.L,x44.2.I,ByteArray.empty,x44.1,0)) (oF rfl) zs3 rfl
    refine ae ?_
    refine an [60] [(59,pB ((IntKind.i64.wrap (1+x20.1)) == 4))] (by kernel_rfl) (ai (d6 rfl hq36 (fun hc45 hq36=>?_) fun hc45 hq36=>?_))
    ·refine aa hq36 ?_;clear hq36;intro x46 hx46 hq36
     refine aa hq36 fun x47 hx47 hq36=>af (bc 2 [] [] [(61,pL eS x46),(62,pP b2 0)] (bB 0 (eW hx46) bT) (by kernel_rfl) ?_)
     refine ar rfl (bf rfl rfl (ρ1:=[_]) (aX (by exact cz) (List.Perm.refl _)) (az hx47) ?_);rintro _ _ ⟨rfl,rfl⟩
     refine aa hq36 fun m48 hm48 hq36=>bc 3 [] [64] [(65,pS m48),(66,pP b21 4)] (ky 0 eS hm48 bT) (by kernel_rfl) (aB rfl rfl (ag (vs:=[pS m48]) rfl rfl rfl rfl rfl (em cS) (cC (cC (cC (cC gH)))) (aw (aC ?_))))
     obtain rfl:=osi hq36
     exact aY ((),(x47.2.L,x47.2.I,m48,0,0)) (oF rfl) zs3 rfl
    refine ae ?_
    refine an [68] [(67,pB ((IntKind.i64.wrap (1+x20.1)) == 5))] (by kernel_rfl) (ai (d6 rfl hq36 (fun hc49 hq36=>?_) fun hc49 hq36=>?_))
    ·refine aa hq36 ?_;clear hq36;intro x50 hx50 hq36
     refine af (aR 1 [(69,pP b2 0)] (by kernel_rfl) ?_)
     refine ar rfl (bf rfl rfl (ρ1:=[_]) (aX (by exact cz) (List.Perm.refl _)) (az hx50) ?_);rintro _ _ ⟨rfl,rfl⟩
     refine aR 1 [(71,pP b21 5)] (by kernel_rfl) (aB rfl rfl (ag (vs:=[pI x50.1]) rfl rfl rfl rfl rfl (em cS) (cC (cC (cC (cC (cC gH))))) (aw (aC ?_))))
     obtain rfl:=osi hq36
     exact aY ((),(x50.2.L,x50.2.I,ByteArray.empty,x50.1,0)) (oF rfl) zs3 rfl
    refine ak ?_
    refine aC ?_
    obtain rfl:=osi hq36
    exact aY ((),(l24,v25,ByteArray.empty,0,0)) (oF rfl) zs3 rfl
   rintro ⟨_,⟨l31,v32,v33,v34,v35⟩⟩ τ hz;(try dsimp only at hz);subst q36;(try dsimp only at hb13);dsimp only [bj]
   refine af (fY 2 [1] [(72,pO a5 l4.length c6),(73,.agg [pI (IntKind.i64.wrap (x18.1*100)),pI (IntKind.i64.wrap ((Int.tmod (IntKind.i64.wrap ((IntKind.i64.wrap (((l4.length:Nat):Int)*5))+2)) 17)+1)),pI v26,pI (IntKind.i64.wrap (1+x20.1)),pS v33,pI v34,pI v35])] (by kernel_rfl) (ar rfl (gD rfl rfl rfl rfl rfl (pH rfl zin) rfl rfl rfl rfl (fun b51=>aa hb13 fun l53 hl53 hb13=>?_))))
   refine ar rfl (mF (enc:=Za.enc) rfl rfl rfl rfl rfl rfl rfl rfl rfl fU (by exact cU (cU (cU cz))) hl53 (fun a54 c55=>?_))
   refine aM [(4,pO a54 l53.length c55)] (by kernel_rfl) (aC ?_)
   exact dv hb13 (a54,c55) (zh2 rfl) (er (cU (cU cz)) eo)
  refine cj ?_
  refine bz (bp hb13 (fun ht=>bA rfl ?_))
  exact aY ((a5,c6),l4) (ql rfl) (er (cU cz) eR) ht.symm
 rintro ⟨⟨a10,c11⟩,l12⟩ τ hz;(try dsimp only at hz);subst q14;(try dsimp only at h);dsimp only [bj]
 refine ae (an [76] [(2,pO a10 l12.length c11)] (by kernel_rfl) (ai ?_))
 refine mC (enc:=Za.enc) (xs:=l12) 2 rfl (by exact cz) ?_
 refine cF ?_
 exact zz r h rfl
def bw (p0:ByteArray):Option Bool:=(gd ((p0.size:Int) == 2) (idx p0.data.toList 0)).bind fun c1=>(gd (((p0.size:Int) == 2)&&(decide (65≤(c1.toNat:Int)))) (idx p0.data.toList 0)).bind fun c2=>(gd ((((p0.size:Int) == 2)&&(decide (65≤(c1.toNat:Int))))&&(decide ((c2.toNat:Int)≤90))) (idx p0.data.toList 1)).bind fun c3=>(gd (((((p0.size:Int) == 2)&&(decide (65≤(c1.toNat:Int))))&&(decide ((c2.toNat:Int)≤90)))&&(decide (65≤(c3.toNat:Int)))) (idx p0.data.toList 1)).bind fun c4=>some ((((((p0.size:Int) == 2)&&(decide (65≤(c1.toNat:Int))))&&(decide ((c2.toNat:Int)≤90)))&&(decide (65≤(c3.toNat:Int))))&&(decide ((c4.toNat:Int)≤90)))
theorem fK {p0:ByteArray} {r:Bool}  (h:bw p0=some r):PF 39 [pS p0] (pB r):=by
 unfold bw at h
 refine bP ?_
 refine aP Tryd.func39 rfl Tryd.ntmps39 Tryd.results39 rfl (ae (bg [2] (by kernel_rfl) (bF (aa h fun c1 hc1 h=>aa h fun c2 hc2 h=>aa h fun c3 hc3 h=>aa h fun c4 hc4 h=>aG [] (rg 3 23) [(2,pB ((((((p0.size:Int) == 2)&&(decide (65≤(c1.toNat:Int))))&&(decide ((c2.toNat:Int)≤90)))&&(decide (65≤(c3.toNat:Int))))&&(decide ((c4.toNat:Int)≤90))))] (mR 5 (i7 hc1) (mR 10 (i7 hc2) (mR 15 (i7 hc3) (mR 20 (i7 hc4) bT)))) (by kernel_rfl) (dV ?_)))))
 exact zz r h rfl
def bU (p0:Za):Option Bool:=cond ((((((decide (p0.From<0))||(decide (999<p0.From)))||(decide (p0.Number<1)))||(decide (1000000000<p0.Number)))||(decide (p0.Day<0)))||(decide (36524<p0.Day))) (some false) (Option.bind (α:=(Int×Int×Bool)⊕_) (cond (p0.Kind == 1) (some (.inl (1000000000000,999,true))) (cond (p0.Kind == 2) (some (.inl (0,0,false))) (cond (p0.Kind == 3) (some (.inl (1000000000000,0,false))) (cond (p0.Kind == 4) (some (.inl (0,0,true))) (cond (p0.Kind == 5) (some (.inl (1000000000,0,false))) (some (.inr false))))))) (fun q=>match q with | .inl (v3,v4,v5)=>(gd v5 (bw p0.Country)).bind (fun x12=>cond ((v5&&(!x12))||((!v5)&&(!decide (p0.Country=(⟨#[]⟩:ByteArray))))) (some false) (some ((((decide (0≤p0.Amount))&&(decide (p0.Amount≤v3)))&&(decide (0≤p0.Company)))&&(decide (p0.Company≤v4))))) | .inr e=>some e))
theorem eM {p0:Za} {r:Bool}  (h:bU p0=some r):PF 26 [.agg (ah p0)] (pB r):=by
 unfold bU at h
 refine bP ?_
 refine aP Tryd.func26 rfl Tryd.ntmps26 Tryd.results26 rfl (ae (af (ar rfl (cG (cs:=(ah p0)) rfl rfl (fun b1=>cY [2] (by kernel_rfl) (bF (ae (cq [0,0,0,0,0,0] (rg 6 27) [(33,pB ((((((decide (p0.From<0))||(decide (999<p0.From)))||(decide (p0.Number<1)))||(decide (1000000000<p0.Number)))||(decide (p0.Day<0)))||(decide (36524<p0.Day))))] (by kernel_rfl) (ai (d6 rfl h (fun hc2 h=>?_) fun hc2 h=>?_))))))))))
 ·refine ae ?_
  refine am [(2,pB false)] (by kernel_rfl) (dV (al ?_))
  exact zz r h rfl
 refine ak ?_
 refine bF (am [(3,pI 0),(4,pI 0),(5,pB false)] (by kernel_rfl) (bF (ae (cq [0] [34] [(35,pI p0.Kind)] (by kernel_rfl) (ai (aa h fun q6 hq6 h=>?_))))))
 refine bx (Y:=Unit×(Int×Int×Bool)) (fun (_,(v3,v4,v5))=>[(1,pP b1 0),(3,pI v3),(4,pI v4),(5,pB v5)]) (fun (_,(v3,v4,v5))=>[PRes.b b1 28 (ah p0)]) (fun (_,(v3,v4,v5))=>q6=Sum.inl (v3,v4,v5)) ?_ ?_
 ·skip
  refine aH (ae (an [37] [(36,pB (p0.Kind == 1))] (by kernel_rfl) (ai (d6 rfl hq6 (fun hc7 hq6=>?_) fun hc7 hq6=>?_))))
  ·refine am [(3,pI 1000000000000),(4,pI 999),(5,pB true)] (by kernel_rfl) ?_
   refine aC ?_
   obtain rfl:=osi hq6
   exact aY ((),(1000000000000,999,true)) (nR rfl) eo rfl
  refine ae ?_
  refine an [39] [(38,pB (p0.Kind == 2))] (by kernel_rfl) (ai (d6 rfl hq6 (fun hc8 hq6=>?_) fun hc8 hq6=>?_))
  ·refine ak ?_
   refine aC ?_
   obtain rfl:=osi hq6
   exact aY ((),(0,0,false)) (nR rfl) eo rfl
  refine ae ?_
  refine an [41] [(40,pB (p0.Kind == 3))] (by kernel_rfl) (ai (d6 rfl hq6 (fun hc9 hq6=>?_) fun hc9 hq6=>?_))
  ·refine am [(3,pI 1000000000000)] (by kernel_rfl) ?_
   refine aC ?_
   obtain rfl:=osi hq6
   exact aY ((),(1000000000000,0,false)) (nR rfl) eo rfl
  refine ae ?_
  refine an [43] [(42,pB (p0.Kind == 4))] (by kernel_rfl) (ai (d6 rfl hq6 (fun hc10 hq6=>?_) fun hc10 hq6=>?_))
  ·refine am [(5,pB true)] (by kernel_rfl) ?_
   refine aC ?_
   obtain rfl:=osi hq6
   exact aY ((),(0,0,true)) (nR rfl) eo rfl
  refine ae ?_
  refine an [45] [(44,pB (p0.Kind == 5))] (by kernel_rfl) (ai (d6 rfl hq6 (fun hc11 hq6=>?_) fun hc11 hq6=>?_))
  ·refine am [(3,pI 1000000000)] (by kernel_rfl) ?_
   refine aC ?_
   obtain rfl:=osi hq6
   exact aY ((),(1000000000,0,false)) (nR rfl) eo rfl
  refine ae ?_
  refine am [(2,pB false)] (by kernel_rfl) (dV (aU (bO ?_)))
  obtain rfl:=osi hq6
  exact zz r h rfl
 rintro ⟨_,⟨v3,v4,v5⟩⟩ τ hz;(try dsimp only at hz);subst q6;(try dsimp only at h);dsimp only [bj]
 refine ae (ae (aa h fun x12 hx12 h=>aG [0,0] (rg 46 15) [(61,pB ((v5&&(!x12))||((!v5)&&(!decide (p0.Country=(⟨#[]⟩:ByteArray))))))] (oJ 4 (fun hc=>fK (i7 hx12 hc)) bT) (by kernel_rfl) (ai (d6 rfl h (fun hc13 h=>?_) fun hc13 h=>?_))))
 ·refine ae ?_
  refine am [(2,pB false)] (by kernel_rfl) (dV (al ?_))
  exact zz r h rfl
 refine ak ?_
 refine bF (cq [0,0,0,0] (rg 62 20) [(2,pB ((((decide (0≤p0.Amount))&&(decide (p0.Amount≤v3)))&&(decide (0≤p0.Company)))&&(decide (p0.Company≤v4))))] (by kernel_rfl) (dV ?_))
 exact zz r h rfl
def ea (p0:(List Int)):Option Int:=(bZ (S:=Int) (T:=(Unit)⊕(_)) (fun v1=>cond (decide (v1<(p0.length:Int))) ((idx p0 v1).bind fun m5=>cond (m5 != 0) (some (.inr (.inr m5))) (some (.inl (IntKind.i64.wrap (v1+1))))) (some (.inr (.inl ())))) FUEL 0).bind fun q=>match q with | .inl _=>some (0:Int) | .inr e=>some e
theorem gx {p0:(List Int)} {r:Int}  (h:ea p0=some r):PF 35 [pL eI p0] (pI r):=by
 unfold ea at h
 refine bP ?_
 refine aP Tryd.func35 rfl Tryd.ntmps35 Tryd.results35 rfl (ae (bg [2] (by kernel_rfl) (bF (am [(3,pI 0)] (by kernel_rfl) (bF (ae (am [(6,pL eI p0),(7,pI (p0.length:Int)),(8,pI 0)] (by kernel_rfl) (ai (aa h fun q3 hq3 h=>?_)))))))))
 refine bx (Y:=Unit×Unit) (fun (_,_)=>[(3,pI 0)]) (fun (_,_)=>[]) (fun (_,_)=>q3=Sum.inl ()) ?_ ?_
 ·refine aH ?_
  refine ck (Y:=Unit) (S:=Int) _ hq3 (fun _ v1=>[(3,pI 0),(6,pL eI p0),(7,pI (p0.length:Int)),(8,pI v1)]) (fun _ v1=>[]) () (nR rfl) eR ?_
  rintro _ v1 o τ hb2;(try dsimp only at hb2);dsimp only [bj]
  refine ae (am [(9,pB (decide (v1<(p0.length:Int))))] (by kernel_rfl) (bF (d6 rfl hb2 (fun hc4 hb2=>?_) fun hc4 hb2=>?_)))
  ·refine ak ?_
   refine bF (aH (ae (aa hb2 fun m5 hm5 hb2=>aG [] [10,11] [(5,pI m5)] (ky 0 eI hm5 bT) (by kernel_rfl) (bF (an [12,13] [(14,pB (m5 != 0))] (by kernel_rfl) (ai (d6 rfl hb2 (fun hc6 hb2=>?_) fun hc6 hb2=>?_)))))))
   ·refine ae ?_
    refine an [15] [(2,pI m5)] (by kernel_rfl) (dV (aU (al ?_)))
    refine eU hb2 (fun ht=>?_);subst ht
    refine aU (bO ?_)
    exact zz r h rfl
   refine ak ?_
   refine aC (ai (an [16] [(8,pI (IntKind.i64.wrap (v1+1)))] (by kernel_rfl) ?_))
   exact dv hb2 () (nR rfl) eR
  refine cj ?_
  refine bz (bp hb2 (fun ht=>bA rfl ?_))
  exact aY ((),()) (ql rfl) eR ht.symm
 rintro ⟨_,_⟩ τ hz;(try dsimp only at hz);subst q3;(try dsimp only at h);dsimp only [bj]
 refine ae (an [17] [(2,pI 0)] (by kernel_rfl) (dV ?_))
 exact zz r h rfl
def dt (p0:Int):Option Bool:=some (p0 != p0)
theorem fi {p0:Int} {r:Bool}  (h:dt p0=some r):PF 45 [pI p0] (pB r):=by
 unfold dt at h
 refine bP ?_
 refine aP Tryd.func45 rfl Tryd.ntmps45 Tryd.results45 rfl (ae (bg [2] (by kernel_rfl) (bF (an [3,4,5] [(2,pB (p0 != p0))] (by kernel_rfl) (dV ?_)))))
 exact zz r h rfl
def bJ (p0:Int) (p1:Int):Option Int:=(dt p0).bind fun x1=>(dt p1).bind fun x2=>cond x1 (cond x2 (some (0:Int)) (some (-1))) (cond x2 (some (1:Int)) (cond (decide (p0<p1)) (some (-1)) (cond (decide (p1<p0)) (some (1:Int)) (some (0:Int)))))
theorem dC {p0:Int} {p1:Int} {r:Int}  (h:bJ p0 p1=some r):PF 36 [pI p0,pI p1] (pI r):=by
 unfold bJ at h
 refine bP ?_
 refine aP Tryd.func36 rfl Tryd.ntmps36 Tryd.results36 rfl (ae (bg [4] (by kernel_rfl) (bF (aa h fun x1 hx1 h=>aG [] [7,8] [(5,pB x1)] (bB 1 (fi hx1) bT) (by kernel_rfl) (bF (aa h fun x2 hx2 h=>aG [] [9,10] [(6,pB x2)] (bB 1 (fi hx2) bT) (by kernel_rfl) (bF (ae (am [(11,pB x1)] (by kernel_rfl) (ai (d6 rfl h (fun hc3 h=>?_) fun hc3 h=>?_)))))))))))
 ·refine ae ?_
  refine ae (am [(12,pB x2)] (by kernel_rfl) (ai (d6 rfl h (fun hc4 h=>?_) fun hc4 h=>?_)))
  ·refine ae ?_
   refine am [(4,pI 0)] (by kernel_rfl) (dV (al (al ?_)))
   exact zz r h rfl
  refine ak ?_
  refine bF (am [(4,pI (-1))] (by kernel_rfl) (dV (al ?_)))
  exact zz r h rfl
 refine ak ?_
 refine bF (ae (am [(13,pB x2)] (by kernel_rfl) (ai (d6 rfl h (fun hc5 h=>?_) fun hc5 h=>?_))))
 ·refine ae ?_
  refine am [(4,pI 1)] (by kernel_rfl) (dV (al ?_))
  exact zz r h rfl
 refine ak ?_
 refine bF (ae (an [14,15] [(16,pB (decide (p0<p1)))] (by kernel_rfl) (ai (d6 rfl h (fun hc6 h=>?_) fun hc6 h=>?_))))
 ·refine ae ?_
  refine am [(4,pI (-1))] (by kernel_rfl) (dV (al ?_))
  exact zz r h rfl
 refine ak ?_
 refine bF (ae (an [17,18] [(19,pB (decide (p1<p0)))] (by kernel_rfl) (ai (d6 rfl h (fun hc7 h=>?_) fun hc7 h=>?_))))
 ·refine ae ?_
  refine am [(4,pI 1)] (by kernel_rfl) (dV (al ?_))
  exact zz r h rfl
 refine ak ?_
 refine bF (am [(4,pI 0)] (by kernel_rfl) (dV ?_))
 exact zz r h rfl
def br (p0:Za) (p1:Za):Option Int:=(bJ p0.From p1.From).bind fun x3=>(bJ p0.Number p1.Number).bind fun x4=>(ea [x3,x4]).bind fun x6=>some x6
theorem dX {p0:Za} {p1:Za} {r:Int}  (h:br p0 p1=some r):PF 28 [.agg (ah p0),.agg (ah p1)] (pI r):=by
 unfold br at h
 refine bP ?_
 refine aP Tryd.func28 rfl Tryd.ntmps28 Tryd.results28 rfl (ae (af (ar rfl (cG (cs:=(ah p0)) rfl rfl (fun b1=>ar rfl (cG (cs:=(ah p1)) rfl rfl (fun b2=>cY [4] (by kernel_rfl) (bF (cW (ρd:=[]) [(0,0),(1,0),(2,0),(3,0),(5,0),(6,0),(7,0),(8,0),(4,1),(9,1),(10,1),(11,1),(12,0)] _ (List.Perm.refl _) (by kernel_rfl) rfl (aa h fun x3 hx3 h=>aa h fun x4 hx4 h=>cV 10 [1,0,1,0] [5,6,7,8,10,11,12,13] [(9,pI x3),(14,pI x4)] (bB 8 (dC hx3) (bB 9 (dC hx4) bT)) (by kernel_rfl) ?_))))))))))
 refine mH rfl rfl rfl (pl_fz (gD rfl rfl rfl rfl rfl (pH rfl (pH rfl zin)) rfl rfl rfl rfl (fun b5=>⟨_,_,_,_,_,_,_,rfl,by (repeat (first | exact cz | apply cU)),?_⟩)))
 refine aa h fun x6 hx6 h=>cV 2 [] [16] [(4,pI x6)] (bB 0 (gx hx6) bT) (by kernel_rfl) (dQ (dV ?_))
 exact zz r h rfl
def bV (p0:Int) (p1:ByteArray) (p2:Int):Option Bool:=cond (((((decide (p0<1))||(decide (1000000<p0)))||(decide (p2<1)))||(decide (1000000000<p2)))||((p1.size:Int) != 8)) (some false) ((bZ (S:=Int) (T:=(Unit)⊕(_)) (fun v2=>cond (decide (v2<(p1.size:Int))) ((idx p1.data.toList v2).bind fun c6=>(gd (!(decide ((c6.toNat:Int)<48))) (idx p1.data.toList v2)).bind fun c7=>cond ((decide ((c6.toNat:Int)<48))||(decide (57<(c7.toNat:Int)))) (some (.inr (.inr false))) (some (.inl (IntKind.i64.wrap (v2+1))))) (some (.inr (.inl ())))) FUEL 0).bind fun q=>match q with | .inl _=>some true | .inr e=>some e)
theorem eN {p0:Int} {p1:ByteArray} {p2:Int} {r:Bool}  (h:bV p0 p1 p2=some r):PF 31 [pI p0,pS p1,pI p2] (pB r):=by
 unfold bV at h
 refine bP ?_
 refine aP Tryd.func31 rfl Tryd.ntmps31 Tryd.results31 rfl (ae (bg [6] (by kernel_rfl) (bF (ae (an (rg 8 18) [(26,pB (((((decide (p0<1))||(decide (1000000<p0)))||(decide (p2<1)))||(decide (1000000000<p2)))||((p1.size:Int) != 8)))] (by kernel_rfl) (ai (d6 rfl h (fun hc1 h=>?_) fun hc1 h=>?_)))))))
 ·refine ae ?_
  refine am [(6,pB false)] (by kernel_rfl) (dV (al ?_))
  exact zz r h rfl
 refine ak ?_
 refine bF (ae (an [27] [(28,pI (p1.size:Int)),(29,pI 0)] (by kernel_rfl) (ai (aa h fun q4 hq4 h=>?_))))
 refine bx (Y:=Unit×Unit) (fun (_,_)=>[]) (fun (_,_)=>[]) (fun (_,_)=>q4=Sum.inl ()) ?_ ?_
 ·refine aH ?_
  refine ck (Y:=Unit) (S:=Int) _ hq4 (fun _ v2=>[(1,pS p1),(28,pI (p1.size:Int)),(29,pI v2)]) (fun _ v2=>[]) () (oF rfl) eR ?_
  rintro _ v2 o τ hb3;(try dsimp only at hb3);dsimp only [bj]
  refine ae (am [(30,pB (decide (v2<(p1.size:Int))))] (by kernel_rfl) (bF (d6 rfl hb3 (fun hc5 hb3=>?_) fun hc5 hb3=>?_)))
  ·refine ak ?_
   refine bF (aH (ae (an [31] [(7,pI v2)] (by kernel_rfl) (bF (aa hb3 fun c6 hc6 hb3=>aa hb3 fun c7 hc7 hb3=>aG [] (rg 32 9) [(41,pB ((decide ((c6.toNat:Int)<48))||(decide (57<(c7.toNat:Int)))))] (fosx 2 hc6 (mR 7 (i7 hc7) bT)) (by kernel_rfl) (ai (d6 rfl hb3 (fun hc8 hb3=>?_) fun hc8 hb3=>?_)))))))
   ·refine ae ?_
    refine am [(6,pB false)] (by kernel_rfl) (dV (aU (al ?_)))
    refine eU hb3 (fun ht=>?_);subst ht
    refine aU (bO ?_)
    exact zz r h rfl
   refine ak ?_
   refine aC (ai (an [42] [(29,pI (IntKind.i64.wrap (v2+1)))] (by kernel_rfl) ?_))
   exact dv hb3 () (oF rfl) eR
  refine cj ?_
  refine bz (bp hb3 (fun ht=>bA rfl ?_))
  exact aY ((),()) pz eR ht.symm
 rintro ⟨_,_⟩ τ hz;(try dsimp only at hz);subst q4;(try dsimp only at h);dsimp only [bj]
 refine ae (am [(6,pB true)] (by kernel_rfl) (dV ?_))
 exact zz r h rfl
def cw (p0:Zd):Option Int:=(bV p0.Source p0.Code p0.Units).bind fun x2=>cond (!x2) (some (2:Int)) (cond (decide (200<(p0.Facts.length:Int))) (some (8:Int)) ((bZ (S:=Int) (T:=(Unit)⊕(_)) (fun v5=>cond (decide (v5<(p0.Facts.length:Int))) ((idx p0.Facts v5).bind fun m9=>(bU m9).bind fun x11=>cond (!x11) (some (.inr (.inr (2:Int)))) (some (.inl (IntKind.i64.wrap (v5+1))))) (some (.inr (.inl ())))) FUEL 0).bind fun q=>match q with | .inl _=>(bZ (S:=Int) (T:=(Unit)⊕(_)) (fun v13=>cond (decide (v13<(p0.Facts.length:Int))) ((idx p0.Facts (IntKind.i64.wrap (v13 - 1))).bind fun m17=>(idx p0.Facts v13).bind fun m18=>(br m17 m18).bind fun x19=>cond (decide (0≤x19)) (some (.inr (.inr (9:Int)))) (some (.inl (IntKind.i64.wrap (v13+1))))) (some (.inr (.inl ())))) FUEL 1).bind (fun q=>match q with | .inl _=>some (0:Int) | .inr e=>some e) | .inr e=>some e))
theorem eX {p0:Zd} {r:Int}  (h:cw p0=some r):PF 20 [.agg (aJ p0)] (pI r):=by
 unfold cw at h
 refine bP ?_
 refine aP Tryd.func20 rfl Tryd.ntmps20 Tryd.results20 rfl (ae (af (ar rfl (cG (cs:=(aJ p0)) rfl rfl (fun b1=>cY [2] (by kernel_rfl) (bF (ae (aa h fun x2 hx2 h=>aG [0,0,0] (rg 6 7) [(13,pB (!x2))] (bB 6 (eN hx2) bT) (by kernel_rfl) (ai (d6 rfl h (fun hc3 h=>?_) fun hc3 h=>?_))))))))))
 ·refine ae ?_
  refine am [(2,pI 2)] (by kernel_rfl) (dV (al ?_))
  exact zz r h rfl
 refine ak ?_
 refine bF (ae (cq [0] [14,15,16] [(17,pB (decide (200<(p0.Facts.length:Int))))] (by kernel_rfl) (ai (d6 rfl h (fun hc4 h=>?_) fun hc4 h=>?_))))
 ·refine ae ?_
  refine am [(2,pI 8)] (by kernel_rfl) (dV (al ?_))
  exact zz r h rfl
 refine ak ?_
 refine bF (ae (cq [0] [18] [(19,pL Za.enc p0.Facts),(20,pI (p0.Facts.length:Int)),(21,pI 0)] (by kernel_rfl) (ai (aa h fun q7 hq7 h=>?_))))
 refine bx (Y:=Unit×Unit) (fun (_,_)=>[(1,pP b1 0)]) (fun (_,_)=>[PRes.b b1 30 (aJ p0)]) (fun (_,_)=>q7=Sum.inl ()) ?_ ?_
 ·refine aH ?_
  refine ck (Y:=Unit) (S:=Int) _ hq7 (fun _ v5=>[(1,pP b1 0),(19,pL Za.enc p0.Facts),(20,pI (p0.Facts.length:Int)),(21,pI v5)]) (fun _ v5=>[PRes.b b1 30 (aJ p0)]) () (nR rfl) eo ?_
  rintro _ v5 o τ hb6;(try dsimp only at hb6);dsimp only [bj]
  refine ae (am [(22,pB (decide (v5<(p0.Facts.length:Int))))] (by kernel_rfl) (bF (d6 rfl hb6 (fun hc8 hb6=>?_) fun hc8 hb6=>?_)))
  ·refine ak ?_
   refine bF (aH (ae (aa hb6 fun m9 hm9 hb6=>af (bc 2 [] [23] [(24,.agg (ah m9))] (ky 0 Za.enc hm9 bT) (by kernel_rfl) (ar rfl (aT (cs:=[pI 0,pI 0,pI 0,pI 0,pS ByteArray.empty,pI 0,pI 0]) rfl rfl rfl rfl (fun b10=>aB rfl rfl (ag (vs:=(ah m9)) rfl rfl rfl rfl rfl cS zl7 (aw (bF (aa hb6 fun x11 hx11 hb6=>aG [0] [25,26] [(27,pB (!x11))] (bB 1 (eM hx11) bT) (by kernel_rfl) (ai (d6 rfl hb6 (fun hc12 hb6=>?_) fun hc12 hb6=>?_)))))))))))))
   ·refine ae ?_
    refine am [(2,pI 2)] (by kernel_rfl) (dV (aU (al ?_)))
    refine eU hb6 (fun ht=>?_);subst ht
    refine aU (bO ?_)
    exact zz r h rfl
   refine ak ?_
   refine aC (ai (an [28] [(21,pI (IntKind.i64.wrap (v5+1)))] (by kernel_rfl) ?_))
   exact dv hb6 () (nR rfl) (er (cU cz) eR)
  refine cj ?_
  refine bz (bp hb6 (fun ht=>bA rfl ?_))
  exact aY ((),()) (ql rfl) eo ht.symm
 rintro ⟨_,_⟩ τ hz;(try dsimp only at hz);subst q7;(try dsimp only at h);dsimp only [bj]
 refine ae (ae (am [(5,pI 1)] (by kernel_rfl) (ai (aa h fun q15 hq15 h=>?_))))
 refine bx (Y:=Unit×Unit) (fun (_,_)=>[]) (fun (_,_)=>[]) (fun (_,_)=>q15=Sum.inl ()) ?_ ?_
 ·refine aH ?_
  refine ck (Y:=Unit) (S:=Int) _ hq15 (fun _ v13=>[(1,pP b1 0),(5,pI v13)]) (fun _ v13=>[PRes.b b1 30 (aJ p0)]) () (zh2 rfl) eo ?_
  rintro _ v13 o τ hb14;(try dsimp only at hb14);dsimp only [bj]
  refine ae (ae (cq [0] [29,30,31,32] [(33,pB (decide (v13<(p0.Facts.length:Int))))] (by kernel_rfl) (ai (d6 rfl hb14 (fun hc16 hb14=>?_) fun hc16 hb14=>?_))))
  ·refine ak ?_
   refine bF (aH (ae (cW (ρd:=[]) [(0,0),(1,0),(2,0),(3,0),(4,0),(5,0),(6,0),(7,0),(8,0),(9,0),(10,0),(11,1),(12,0)] _ (List.Perm.refl _) (by kernel_rfl) rfl (aa hb14 fun m17 hm17 hb14=>aa hb14 fun m18 hm18 hb14=>aa hb14 fun x19 hx19 hb14=>cV 13 [0,0] (rg 36 12) [(48,pB (decide (0≤x19)))] (ky 4 Za.enc hm17 (ky 9 Za.enc hm18 (bB 11 (dX hx19) bT))) (by kernel_rfl) (dQ (ai (d6 rfl hb14 (fun hc20 hb14=>?_) fun hc20 hb14=>?_)))))))
   ·refine ae ?_
    refine am [(2,pI 9)] (by kernel_rfl) (dV (aU (al ?_)))
    refine eU hb14 (fun ht=>?_);subst ht
    refine aU (bO ?_)
    exact zz r h rfl
   refine ak ?_
   refine aC (ai (an [34,35] [(5,pI (IntKind.i64.wrap (v13+1)))] (by kernel_rfl) ?_))
   exact dv hb14 () (zh2 rfl) eo
  refine cj ?_
  refine bz (bp hb14 (fun ht=>bA rfl ?_))
  exact aY ((),()) pz eR ht.symm
 rintro ⟨_,_⟩ τ hz;(try dsimp only at hz);subst q15;(try dsimp only at h);dsimp only [bj]
 refine ae (am [(2,pI 0)] (by kernel_rfl) (dV ?_))
 exact zz r h rfl
def aj (p0:(List Za)) (p1:Za) (p2:(Za→Za→Option Int)):Option (Int×Bool):=(bZ (S:=Int×Int) (T:=(Int)) (fun (v2,v3)=>cond (decide (v2<v3)) (lb ((IntKind.i64.wrap (i5 .u64 (IntKind.u64.wrap (IntKind.i64.wrap (v2+v3))) 1))) (fun w8=>(idx p0 w8).bind fun m9=>(p2 m9 p1).bind fun x10=>cond (decide (x10<0)) (some (.inl ((IntKind.i64.wrap (w8+1)),v3))) (some (.inl (v2,w8))))) (some (.inr v2))) FUEL (0,(p0.length:Int))).bind fun v4=>(gd (decide (v4<(p0.length:Int))) (idx p0 v4)).bind fun m12=>(gd (decide (v4<(p0.length:Int))) (p2 m12 p1)).bind fun x13=>some (v4,((decide (v4<(p0.length:Int)))&&(x13 == 0)))
theorem bk {p0:(List Za)} {p1:Za} {p2:(Za→Za→Option Int)} {r:(Int×Bool)} {g2:PV} (hg2:∀ {y0:Za} {y1:Za} {w:Int},p2 y0 y1=some w→PFV g2 [.agg (ah y0),.agg (ah y1)] (pI w)) (h:aj p0 p1 p2=some r):PF 27 [pL Za.enc p0,.agg (ah p1),g2] (.tup [pI r.1,pB r.2]):=by
 unfold aj at h
 refine bP ?_
 refine aP Tryd.func27 rfl Tryd.ntmps27 Tryd.results27 rfl (ae (af (ar rfl (cG (cs:=(ah p1)) rfl rfl (fun b1=>cY [6,7] (by kernel_rfl) (bF (an [12,13] [(8,pI (p0.length:Int))] (by kernel_rfl) (bF (an [14] [(9,pI 0),(10,pI (p0.length:Int))] (by kernel_rfl) (bF (aa h fun q6 hq6 h=>?_)))))))))))
 refine bx (Y:=Unit×Int) (fun (_,v4)=>[(0,pL Za.enc p0),(2,g2),(4,pP b1 0),(8,pI (p0.length:Int)),(9,pI v4)]) (fun (_,v4)=>[PRes.b b1 28 (ah p1)]) (fun (_,v4)=>q6=v4) ?_ ?_
 ·refine aH ?_
  refine ck (Y:=Unit) (S:=Int×Int) _ hq6 (fun _ (v2,v3)=>[(0,pL Za.enc p0),(2,g2),(4,pP b1 0),(8,pI (p0.length:Int)),(9,pI v2),(10,pI v3)]) (fun _ (v2,v3)=>[PRes.b b1 28 (ah p1)]) () (zh6 rfl) eo ?_
  rintro _ ⟨v2,v3⟩ o τ hb5;(try dsimp only at hb5);dsimp only [bj]
  refine ae (ae (an [15,16] [(17,pB (decide (v2<v3)))] (by kernel_rfl) (ai (d6 rfl hb5 (fun hc7 hb5=>?_) fun hc7 hb5=>?_))))
  ·refine ak ?_
   refine ai (aH (ae ?_))
   refine lJ hb5 ?_;clear hb5;intro w8 hw8 hb5
   refine af (dU 6 (rg 18 5) [(23,pI (IntKind.i64.wrap (i5 .u64 (IntKind.u64.wrap (IntKind.i64.wrap (v2+v3))) 1)))] (by kernel_rfl) (dr rfl rfl rfl (bN rfl (.p (congrArg (fun z=>PV.v (Value.int .i64 z)) hw8))) (aw (bF (cW (ρd:=[]) [(0,0),(1,0),(2,0),(3,0),(4,0),(5,0),(6,1),(7,0)] _ (List.Perm.refl _) (by kernel_rfl) rfl (aa hb5 fun m9 hm9 hb5=>aa hb5 fun x10 hx10 hb5=>cV 8 [0] (rg 24 7) [(31,pB (decide (x10<0)))] (ky 3 Za.enc hm9 (focv 6 (hg2 hx10) bT)) (by kernel_rfl) (dQ (ai (d6 rfl hb5 (fun hc11 hb5=>?_) fun hc11 hb5=>?_)))))))))
   ·refine an [32,33] [(9,pI (IntKind.i64.wrap (w8+1)))] (by kernel_rfl) ?_
    refine aC ?_
    exact dv hb5 () (zh6 rfl) eo
   refine an [34] [(10,pI w8)] (by kernel_rfl) ?_
   refine aC ?_
   exact dv hb5 () (zh6 rfl) eo
  refine cj ?_
  refine bz (bp hb5 (fun ht=>bA rfl ?_))
  exact aY ((),v2) (zh5 rfl) eo ht.symm
 rintro ⟨_,v4⟩ τ hz;(try dsimp only at hz);subst q6;(try dsimp only at h);dsimp only [bj]
 refine ae (cW (ρd:=[]) [(0,0),(1,0),(2,0),(3,0),(4,0),(5,0),(6,0),(7,0),(8,0),(9,0),(10,0),(11,1),(12,0),(13,0),(14,0),(15,0)] _ (List.Perm.refl _) (by kernel_rfl) rfl (aa h fun m12 hm12 h=>aa h fun x13 hx13 h=>cV 16 [0] (rg 35 14) [(6,pI v4),(7,pB ((decide (v4<(p0.length:Int)))&&(x13 == 0)))] (rC 8 Za.enc (i7 hm12) (focvg 11 (fun hc=>hg2 (i7 hx13 hc)) bT)) (by kernel_rfl) (dQ (dV ?_))))
 obtain rfl:=osi h
 exact aN (dG (aV rfl) (aV rfl)) eR ⟨rfl,rfl⟩
def aI (p0:(List Za)):Option (List Za):=app 64 ([]:List Za) p0
theorem cN {p0:(List Za)} {r:(List Za)} (h:aI p0=some r):PCall 29 [pL Za.enc p0] [] (fun pv ρ'=>∃ a c,pv=.v (.slice a r.length c)∧ρ'=[PRes.row a r.length c 28 7 (List.map Za.enc r)]):=by
 unfold aI at h
 refine aP Tryd.func29 rfl Tryd.ntmps29 Tryd.results29 rfl ?_
 (repeat refine ae ?_)
 refine af (dr rfl rfl rfl (bN (p:=.v (.slice none 0 0)) rfl (.p rfl)) (aw (ai ?_)))
 (repeat refine ae ?_)
 refine af (dr rfl rfl rfl (fy (p:=pL Za.enc p0) rfl (.p rfl)) (pQ rfl rfl rfl rfl rfl rfl (fun b hb=>aw (ai ?_))))
 refine mA rfl (fun hc=>?_) (fun hc=>?_)
 ·have e0:p0=[]:=List.map_eq_nil_iff.1 (hb hc)
  subst e0;obtain ⟨rfl,_⟩:=jM h
  (repeat refine ae ?_)
  refine af (dr rfl rfl rfl (bN (p:=.v (.slice none 0 0)) rfl (.p rfl)) (aw (ai (jI 28 7 (cF (al ?_))))))
  exact aN (eJ (aV rfl)) eo ⟨_,_,rfl,rfl⟩
 refine ak ?_
 refine ai ?_
 (repeat refine ae ?_)
 refine af (ar rfl (gD rfl rfl rfl rfl rfl zin rfl rfl rfl rfl (fun b1=>dr rfl rfl rfl (fy (p:=pL Za.enc p0) rfl (.p rfl)) ?_)))
 refine ar rfl (rq (enc:=Za.enc) (xs:=([]:List Za)) rfl rfl rfl rfl rfl (fun _=>rfl) rfl rfl rfl (by exact cz) h (fun a c=>?_))
 refine dr rfl rfl rfl (bN (p:=.v (.slice a r.length c)) rfl (.p rfl)) (aw (dV ?_))
 exact aN (eJ (aV rfl)) eo ⟨_,_,rfl,rfl⟩
def cQ (p0:Int):Option Bool:=some (((Int.tmod p0 4) == 0)&&(((Int.tmod p0 100) != 0)||((Int.tmod p0 400) == 0)))
theorem fj {p0:Int} {r:Bool}  (h:cQ p0=some r):PF 62 [pI p0] (pB r):=by
 unfold cQ at h
 refine bP ?_
 refine aP Tryd.func62 rfl Tryd.ntmps62 Tryd.results62 rfl (ae (bg [2] (by kernel_rfl) (bF (an (rg 3 13) [(2,pB (((Int.tmod p0 4) == 0)&&(((Int.tmod p0 100) != 0)||((Int.tmod p0 400) == 0))))] (by kernel_rfl) (dV ?_)))))
 exact zz r h rfl
def aL (p0:Int) (p1:Int):Option Int:=(gd (p1 == 2) (cQ p0)).bind fun x1=>cond ((p1 == 2)&&x1) (some (29:Int)) ((idx d9 (IntKind.i64.wrap (p1 - 1))).bind fun m3=>some m3)
theorem ap {p0:Int} {p1:Int} {r:Int}  (h:aL p0 p1=some r):PF 47 [pI p0,pI p1] (pI r):=by
 unfold aL at h
 refine bP ?_
 refine aP Tryd.func47 rfl Tryd.ntmps47 Tryd.results47 rfl (ae (bg [4] (by kernel_rfl) (bF (ae (aa h fun x1 hx1 h=>aG [] (rg 5 5) [(10,pB ((p1 == 2)&&x1))] (oJ 4 (fun hc=>fj (i7 hx1 hc)) bT) (by kernel_rfl) (ai (d6 rfl h (fun hc2 h=>?_) fun hc2 h=>?_)))))))
 ·refine ae ?_
  refine am [(4,pI 29)] (by kernel_rfl) (dV (al ?_))
  exact zz r h rfl
 refine ak ?_
 refine bF (aa h fun m3 hm3 h=>af (dU 2 [11] [(12,pI (IntKind.i64.wrap (p1 - 1)))] (by kernel_rfl) (dr rfl rfl rfl (pY (tbl:=d9) rfl rfl rfl rfl rfl (fun _ h=>gok_ml h) rfl hm3) (m7 [14] [(4,pI m3)] (by kernel_rfl) (dV ?_)))))
 exact zz r h rfl
def dY (p0:Int):Option Bool:=some ((decide (0≤p0))&&(decide (p0≤36524)))
theorem hU {p0:Int} {r:Bool}  (h:dY p0=some r):PF 60 [pI p0] (pB r):=by
 unfold dY at h
 refine bP ?_
 refine aP Tryd.func60 rfl Tryd.ntmps60 Tryd.results60 rfl (ae (bg [2] (by kernel_rfl) (bF (an (rg 3 6) [(2,pB ((decide (0≤p0))&&(decide (p0≤36524))))] (by kernel_rfl) (dV ?_)))))
 exact zz r h rfl
def aW (p0:Int):Option Int:=(cQ p0).bind fun x1=>cond x1 (some (366:Int)) (some (365:Int))
theorem cI {p0:Int} {r:Int}  (h:aW p0=some r):PF 61 [pI p0] (pI r):=by
 unfold aW at h
 refine bP ?_
 refine aP Tryd.func61 rfl Tryd.ntmps61 Tryd.results61 rfl (ae (bg [2] (by kernel_rfl) (bF (ae (aa h fun x1 hx1 h=>aG [] [3] [(4,pB x1)] (bB 1 (fj hx1) bT) (by kernel_rfl) (ai (d6 rfl h (fun hc2 h=>?_) fun hc2 h=>?_)))))))
 ·refine ae ?_
  refine am [(2,pI 366)] (by kernel_rfl) (dV (al ?_))
  exact zz r h rfl
 refine ak ?_
 refine bF (am [(2,pI 365)] (by kernel_rfl) (dV ?_))
 exact zz r h rfl
def ep (p0:Int):Option (Zf×Int):=(dY p0).bind fun x2=>cond (!x2) (some ((⟨0,0,0⟩:Zf),(2:Int))) ((bZ (S:=Int×Int) (T:=(Int×Int)) (fun (v4,v5)=>(aW v5).bind fun x10=>cond (decide (x10≤v4)) ((aW v5).bind fun x12=>some (.inl ((IntKind.i64.wrap (v4 - x12)),(IntKind.i64.wrap (v5+1))))) (some (.inr (v4,v5)))) FUEL (p0,2000)).bind fun (v6,v7)=>(bZ (S:=Int×Int) (T:=(Int×Int)) (fun (v13,v14)=>(aL v7 v14).bind fun x19=>cond (decide (x19≤v13)) ((aL v7 v14).bind fun x21=>some (.inl ((IntKind.i64.wrap (v13 - x21)),(IntKind.i64.wrap (v14+1))))) (some (.inr (v13,v14)))) FUEL (v6,1)).bind fun (v15,v16)=>some ((⟨v7,v16,(IntKind.i64.wrap (v15+1))⟩:Zf),(0:Int)))
theorem j0 {p0:Int} {r:(Zf×Int)}  (h:ep p0=some r):PF 46 [pI p0] (.tup [.agg [pI r.1.Year,pI r.1.Month,pI r.1.Dom],pI r.2]):=by
 unfold ep at h
 refine bP ?_
 refine aP Tryd.func46 rfl Tryd.ntmps46 Tryd.results46 rfl (ae (af (ar rfl (aT (cs:=[pI 0,pI 0,pI 0]) rfl rfl rfl rfl (fun b1=>cY [3] (by kernel_rfl) (bF (ae (aa h fun x2 hx2 h=>aG [] [6,7] [(8,pB (!x2))] (bB 1 (hU hx2) bT) (by kernel_rfl) (ai (d6 rfl h (fun hc3 h=>?_) fun hc3 h=>?_))))))))))
 ·refine ae ?_
  refine af (aR 1 [(9,.agg [pI 0,pI 0,pI 0])] (by kernel_rfl) (aB rfl rfl (ag (vs:=[pI 0,pI 0,pI 0]) rfl rfl rfl rfl rfl cS zl3 (aM [(3,pI 2)] (by kernel_rfl) (dV (al ?_))))))
  obtain rfl:=osi h
  exact aN (dG (cX rfl fU rfl) (aV rfl)) eR ⟨rfl,rfl⟩
 refine ak ?_
 refine bF (am [(4,pI 2000),(5,pI 1)] (by kernel_rfl) (bF (aa h fun q9 hq9 h=>?_)))
 refine bx (Y:=Unit×(Int×Int)) (fun (_,(v6,v7))=>[(0,pI v6),(2,pP b1 0),(4,pI v7),(5,pI 1)]) (fun (_,(v6,v7))=>[PRes.b b1 82 [pI 0,pI 0,pI 0]]) (fun (_,(v6,v7))=>q9=(v6,v7)) ?_ ?_
 ·refine aH ?_
  refine ck (Y:=Unit) (S:=Int×Int) _ hq9 (fun _ (v4,v5)=>[(0,pI v4),(2,pP b1 0),(4,pI v5),(5,pI 1)]) (fun _ (v4,v5)=>[PRes.b b1 82 [pI 0,pI 0,pI 0]]) () (nR rfl) eo ?_
  rintro _ ⟨v4,v5⟩ o τ hb8;(try dsimp only at hb8);dsimp only [bj]
  refine ae (ae (aa hb8 fun x10 hx10 hb8=>aG [] [10,11,12] [(13,pB (decide (x10≤v4)))] (bB 2 (cI hx10) bT) (by kernel_rfl) (ai (d6 rfl hb8 (fun hc11 hb8=>?_) fun hc11 hb8=>?_))))
  ·refine ak ?_
   refine ai (aH (ae (aa hb8 fun x12 hx12 hb8=>aG [] [14,15,16,17] [(0,pI (IntKind.i64.wrap (v4 - x12)))] (bB 2 (cI hx12) bT) (by kernel_rfl) (ai (an [18,19] [(4,pI (IntKind.i64.wrap (v5+1)))] (by kernel_rfl) (aC ?_))))))
   exact dv hb8 () (nR rfl) eo
  refine cj ?_
  refine bz (bp hb8 (fun ht=>bA rfl ?_))
  exact aY ((),(v4,v5)) (nR rfl) eo ht.symm
 rintro ⟨_,⟨v6,v7⟩⟩ τ hz;(try dsimp only at hz);subst q9;(try dsimp only at h);dsimp only [bj]
 refine ae (aa h fun q18 hq18 h=>?_)
 refine bx (Y:=Unit×(Int×Int)) (fun (_,(v15,v16))=>[(0,pI v15),(2,pP b1 0),(4,pI v7),(5,pI v16)]) (fun (_,(v15,v16))=>[PRes.b b1 82 [pI 0,pI 0,pI 0]]) (fun (_,(v15,v16))=>q18=(v15,v16)) ?_ ?_
 ·refine aH ?_
  refine ck (Y:=Unit) (S:=Int×Int) _ hq18 (fun _ (v13,v14)=>[(0,pI v13),(2,pP b1 0),(4,pI v7),(5,pI v14)]) (fun _ (v13,v14)=>[PRes.b b1 82 [pI 0,pI 0,pI 0]]) () (nR rfl) eo ?_
  rintro _ ⟨v13,v14⟩ o τ hb17;(try dsimp only at hb17);dsimp only [bj]
  refine ae (ae (aa hb17 fun x19 hx19 hb17=>aG [] [20,21,22,23] [(24,pB (decide (x19≤v13)))] (bB 3 (ap hx19) bT) (by kernel_rfl) (ai (d6 rfl hb17 (fun hc20 hb17=>?_) fun hc20 hb17=>?_))))
  ·refine ak ?_
   refine ai (aH (ae (aa hb17 fun x21 hx21 hb17=>aG [] (rg 25 5) [(0,pI (IntKind.i64.wrap (v13 - x21)))] (bB 3 (ap hx21) bT) (by kernel_rfl) (ai (an [30,31] [(5,pI (IntKind.i64.wrap (v14+1)))] (by kernel_rfl) (aC ?_))))))
   exact dv hb17 () (nR rfl) eo
  refine cj ?_
  refine bz (bp hb17 (fun ht=>bA rfl ?_))
  exact aY ((),(v13,v14)) (nR rfl) eo ht.symm
 rintro ⟨_,⟨v15,v16⟩⟩ τ hz;(try dsimp only at hz);subst q18;(try dsimp only at h);dsimp only [bj]
 refine ae (af (dU 5 [32,33,34,35] [(36,.agg [pI v7,pI v16,pI (IntKind.i64.wrap (v15+1))])] (by kernel_rfl) (aB rfl rfl (ag (vs:=[pI v7,pI v16,pI (IntKind.i64.wrap (v15+1))]) rfl rfl rfl rfl rfl cS zl3 (aM [(3,pI 0)] (by kernel_rfl) (dV ?_))))))
 obtain rfl:=osi h
 exact aN (dG (cX rfl fU rfl) (aV rfl)) eR ⟨rfl,rfl⟩
def cO (p0:Zf):Option (Int×Int):=cond ((((decide (p0.Year<2000))||(decide (2100≤p0.Year)))||(decide (p0.Month<1)))||(decide (12<p0.Month))) (some ((0:Int),(2:Int))) ((gd (!(decide (p0.Dom<1))) (aL p0.Year p0.Month)).bind fun x3=>cond ((decide (p0.Dom<1))||(decide (x3<p0.Dom))) (some ((0:Int),(2:Int))) ((bZ (S:=Int×Int) (T:=(Int)) (fun (v5,v6)=>cond (decide (v6<p0.Year)) ((aW v6).bind fun x11=>some (.inl ((IntKind.i64.wrap (v5+x11)),(IntKind.i64.wrap (v6+1))))) (some (.inr v5))) FUEL ((IntKind.i64.wrap (p0.Dom - 1)),2000)).bind fun v7=>(bZ (S:=Int×Int) (T:=(Int)) (fun (v12,v13)=>cond (decide (v13<p0.Month)) ((aL p0.Year v13).bind fun x18=>some (.inl ((IntKind.i64.wrap (v12+x18)),(IntKind.i64.wrap (v13+1))))) (some (.inr v12))) FUEL (v7,1)).bind fun v14=>some (v14,(0:Int))))
theorem gE {p0:Zf} {r:(Int×Int)}  (h:cO p0=some r):PF 48 [.agg [pI p0.Year,pI p0.Month,pI p0.Dom]] (.tup [pI r.1,pI r.2]):=by
 unfold cO at h
 refine bP ?_
 refine aP Tryd.func48 rfl Tryd.ntmps48 Tryd.results48 rfl (ae (af (ar rfl (cG (cs:=[pI p0.Year,pI p0.Month,pI p0.Dom]) rfl rfl (fun b1=>cY [2,3] (by kernel_rfl) (bF (ae (cq [0,0,0,0] (rg 7 17) [(24,pB ((((decide (p0.Year<2000))||(decide (2100≤p0.Year)))||(decide (p0.Month<1)))||(decide (12<p0.Month))))] (by kernel_rfl) (ai (d6 rfl h (fun hc2 h=>?_) fun hc2 h=>?_))))))))))
 ·refine ae ?_
  refine am [(2,pI 0),(3,pI 2)] (by kernel_rfl) (dV (al ?_))
  obtain rfl:=osi h
  exact aN (dG (aV rfl) (aV rfl)) eR ⟨rfl,rfl⟩
 refine ak ?_
 refine bF (ae (cW (ρd:=[]) [(0,0),(1,0),(2,0),(3,0),(4,0),(5,0),(6,0),(7,0),(8,0),(9,0),(10,1),(11,0),(12,0)] _ (List.Perm.refl _) (by kernel_rfl) rfl (aa h fun x3 hx3 h=>cV 13 [0,0,0,0] (rg 25 12) [(37,pB ((decide (p0.Dom<1))||(decide (x3<p0.Dom))))] (oJ 10 (fun hc=>ap (i7 hx3 hc)) bT) (by kernel_rfl) (dQ (ai (d6 rfl h (fun hc4 h=>?_) fun hc4 h=>?_))))))
 ·refine ae ?_
  refine am [(2,pI 0),(3,pI 2)] (by kernel_rfl) (dV (al ?_))
  obtain rfl:=osi h
  exact aN (dG (aV rfl) (aV rfl)) eR ⟨rfl,rfl⟩
 refine ak ?_
 refine bF (cq [0] [38,39,40] [(4,pI (IntKind.i64.wrap (p0.Dom - 1)))] (by kernel_rfl) (bF (ae (am [(5,pI 2000)] (by kernel_rfl) (ai (aa h fun q9 hq9 h=>?_))))))
 refine bx (Y:=Unit×Int) (fun (_,v7)=>[(1,pP b1 0),(4,pI v7)]) (fun (_,v7)=>[PRes.b b1 82 [pI p0.Year,pI p0.Month,pI p0.Dom]]) (fun (_,v7)=>q9=v7) ?_ ?_
 ·refine aH ?_
  refine ck (Y:=Unit) (S:=Int×Int) _ hq9 (fun _ (v5,v6)=>[(1,pP b1 0),(4,pI v5),(5,pI v6)]) (fun _ (v5,v6)=>[PRes.b b1 82 [pI p0.Year,pI p0.Month,pI p0.Dom]]) () (oF rfl) eo ?_
  rintro _ ⟨v5,v6⟩ o τ hb8;(try dsimp only at hb8);dsimp only [bj]
  refine ae (ae (cq [0] [41,42,43] [(44,pB (decide (v6<p0.Year)))] (by kernel_rfl) (ai (d6 rfl hb8 (fun hc10 hb8=>?_) fun hc10 hb8=>?_))))
  ·refine ak ?_
   refine bF (aH (aa hb8 fun x11 hx11 hb8=>aG [] [47,48,49,50] [(4,pI (IntKind.i64.wrap (v5+x11)))] (bB 2 (cI hx11) bT) (by kernel_rfl) (aC (ai (an [45,46] [(5,pI (IntKind.i64.wrap (v6+1)))] (by kernel_rfl) ?_)))))
   exact dv hb8 () (oF rfl) eo
  refine cj ?_
  refine bz (bp hb8 (fun ht=>bA rfl ?_))
  exact aY ((),v5) (zh2 rfl) eo ht.symm
 rintro ⟨_,v7⟩ τ hz;(try dsimp only at hz);subst q9;(try dsimp only at h);dsimp only [bj]
 refine ae (ae (am [(6,pI 1)] (by kernel_rfl) (ai (aa h fun q16 hq16 h=>?_))))
 refine bx (Y:=Unit×Int) (fun (_,v14)=>[(4,pI v14)]) (fun (_,v14)=>[]) (fun (_,v14)=>q16=v14) ?_ ?_
 ·refine aH ?_
  refine ck (Y:=Unit) (S:=Int×Int) _ hq16 (fun _ (v12,v13)=>[(1,pP b1 0),(4,pI v12),(6,pI v13)]) (fun _ (v12,v13)=>[PRes.b b1 82 [pI p0.Year,pI p0.Month,pI p0.Dom]]) () (oF rfl) eo ?_
  rintro _ ⟨v12,v13⟩ o τ hb15;(try dsimp only at hb15);dsimp only [bj]
  refine ae (ae (cq [0] [51,52,53] [(54,pB (decide (v13<p0.Month)))] (by kernel_rfl) (ai (d6 rfl hb15 (fun hc17 hb15=>?_) fun hc17 hb15=>?_))))
  ·refine ak ?_
   refine bF (aH (aa hb15 fun x18 hx18 hb15=>aG [0] (rg 57 6) [(4,pI (IntKind.i64.wrap (v12+x18)))] (bB 4 (ap hx18) bT) (by kernel_rfl) (aC (ai (an [55,56] [(6,pI (IntKind.i64.wrap (v13+1)))] (by kernel_rfl) ?_)))))
   exact dv hb15 () (oF rfl) eo
  refine cj ?_
  refine bz (bp hb15 (fun ht=>bA rfl ?_))
  exact aY ((),v12) (ql rfl) eR ht.symm
 rintro ⟨_,v14⟩ τ hz;(try dsimp only at hz);subst q16;(try dsimp only at h);dsimp only [bj]
 refine ae (an [63] [(2,pI v14),(3,pI 0)] (by kernel_rfl) (dV ?_))
 obtain rfl:=osi h
 exact aN (dG (aV rfl) (aV rfl)) eR ⟨rfl,rfl⟩
def bi (p0:Int) (p1:Int):Option (Int×Int):=(ep p0).bind fun x1=>cond (((x1.2 != 0)||(decide (p1<(-1200))))||(decide (1200<p1))) (some ((0:Int),(2:Int))) (lb ((IntKind.i64.wrap ((IntKind.i64.wrap ((IntKind.i64.wrap ((IntKind.i64.wrap ((IntKind.i64.wrap (x1.1.Year - 2000))*12))+x1.1.Month)) - 1))+p1))) (fun w4=>cond ((decide (w4<0))||(decide (1200≤w4))) (some ((0:Int),(3:Int))) ((aL (IntKind.i64.wrap (2000+(IntKind.i64.wrap (Int.tdiv w4 12)))) (IntKind.i64.wrap ((Int.tmod w4 12)+1))).bind fun x6=>(cO (⟨(IntKind.i64.wrap (2000+(IntKind.i64.wrap (Int.tdiv w4 12)))),(IntKind.i64.wrap ((Int.tmod w4 12)+1)),(de x1.1.Dom x6)⟩:Zf)).bind fun x7=>some (x7.1,x7.2))))
theorem fL {p0:Int} {p1:Int} {r:(Int×Int)}  (h:bi p0 p1=some r):PF 38 [pI p0,pI p1] (.tup [pI r.1,pI r.2]):=by
 unfold bi at h
 refine bP ?_
 refine aP Tryd.func38 rfl Tryd.ntmps38 Tryd.results38 rfl (ae (bg [4,5] (by kernel_rfl) (bF (aa h fun x1 hx1 h=>af (bc 5 [] [10,11,9] [(12,.agg [pI x1.1.Year,pI x1.1.Month,pI x1.1.Dom]),(13,pI x1.2)] (bB 1 (j0 hx1) bT) (by kernel_rfl) (ar rfl (aT (cs:=[pI 0,pI 0,pI 0]) rfl rfl rfl rfl (fun b2=>aB rfl rfl (ag (vs:=[pI x1.1.Year,pI x1.1.Month,pI x1.1.Dom]) rfl rfl rfl rfl rfl cS zl3 (aM [(7,pI x1.2)] (by kernel_rfl) (bF (ae (an (rg 14 9) [(23,pB (((x1.2 != 0)||(decide (p1<(-1200))))||(decide (1200<p1))))] (by kernel_rfl) (ai (d6 rfl h (fun hc3 h=>?_) fun hc3 h=>?_)))))))))))))))
 ·refine ae ?_
  refine am [(4,pI 0),(5,pI 2)] (by kernel_rfl) (dV (al ?_))
  obtain rfl:=osi h
  exact aN (dG (aV rfl) (aV rfl)) eR ⟨rfl,rfl⟩
 refine ak ?_
 refine bF ?_
 refine lJ h ?_;clear h;intro w4 hw4 h
 refine af (dT 10 [0,0] (rg 24 9) [(33,pI (IntKind.i64.wrap ((IntKind.i64.wrap ((IntKind.i64.wrap ((IntKind.i64.wrap ((IntKind.i64.wrap (x1.1.Year - 2000))*12))+x1.1.Month)) - 1))+p1)))] (by kernel_rfl) (dr rfl rfl rfl (bN rfl (.p (congrArg (fun z=>PV.v (Value.int .i64 z)) hw4))) (aw (bF (ae (an (rg 34 5) [(39,pB ((decide (w4<0))||(decide (1200≤w4))))] (by kernel_rfl) (ai (d6 rfl h (fun hc5 h=>?_) fun hc5 h=>?_))))))))
 ·refine ae ?_
  refine am [(4,pI 0),(5,pI 3)] (by kernel_rfl) (dV (al ?_))
  obtain rfl:=osi h
  exact aN (dG (aV rfl) (aV rfl)) eR ⟨rfl,rfl⟩
 refine ak ?_
 refine bF (af (dU 4 [40,41] [(42,pI (IntKind.i64.wrap (2000+(IntKind.i64.wrap (Int.tdiv w4 12))))),(43,pP b2 0)] (by kernel_rfl) (aB rfl rfl (ag (vs:=[pI (IntKind.i64.wrap (2000+(IntKind.i64.wrap (Int.tdiv w4 12))))]) rfl rfl rfl rfl rfl cS gH (aw (bF (af (dU 4 [44,45] [(46,pI (IntKind.i64.wrap ((Int.tmod w4 12)+1))),(47,pP b2 1)] (by kernel_rfl) (aB rfl rfl (ag (vs:=[pI (IntKind.i64.wrap ((Int.tmod w4 12)+1))]) rfl rfl rfl rfl rfl cS (cC gH) (aw (bF (aa h fun x6 hx6 h=>?_)))))))))))))
 refine bx (Y:=Unit) (fun _=>[(6,pP b2 0)]) (fun _=>[PRes.b b2 82 [pI (IntKind.i64.wrap (2000+(IntKind.i64.wrap (Int.tdiv w4 12)))),pI (IntKind.i64.wrap ((Int.tmod w4 12)+1)),pI (de x1.1.Dom x6)]]) (fun _=>True) ?_ ?_
 ·refine kR (ρd:=[PRes.b b2 _ _]) _ (List.Perm.refl _) ?_
  refine cm 0 (by kernel_rfl) rfl rfl rfl rfl (bh rfl rfl rfl rfl rfl (.p rfl)) (cm 2 (by kernel_rfl) rfl rfl rfl rfl (bh rfl rfl rfl rfl rfl (.p rfl)) (cm 4 (by kernel_rfl) rfl rfl rfl rfl (bh rfl rfl rfl rfl rfl (.p rfl)) ?_))
  refine pK 1 3 5 (by kernel_rfl) ?_ ?_ ?_
  ·skip
   refine bL rfl rfl rfl rfl (fI (aZ (p:=pI x1.1.Dom) rfl (.p rfl) fU rfl) ?_)
   refine gU 3 5 (by kernel_rfl) ?_ ?_
   ·skip
    refine bL rfl rfl rfl rfl (fI (aZ (p:=pI (IntKind.i64.wrap (2000+(IntKind.i64.wrap (Int.tdiv w4 12))))) rfl (.p rfl) fU rfl) (bq 5 (by kernel_rfl) (bL rfl rfl rfl rfl (fI (aZ (p:=pI (IntKind.i64.wrap ((Int.tmod w4 12)+1))) rfl (.p rfl) fU rfl) (bq 6 (by kernel_rfl) (cH rfl rfl rfl rfl rfl rfl (ap hx6) (cm 7 (by kernel_rfl) rfl rfl rfl rfl (fA rfl (.p rfl) (.p rfl)) (cm 8 (by kernel_rfl) rfl rfl rfl rfl (bh rfl rfl rfl rfl rfl (.p rfl)) (bq 9 (by kernel_rfl) (dS rfl rfl rfl (ag (vs:=[pI (de x1.1.Dom x6)]) rfl rfl rfl rfl rfl cS (cC (cC gH)) (dR (by kernel_rfl) ?_))))))))))))
    exact aY () (ql rfl) eo trivial
   skip
   refine bL rfl rfl rfl rfl (fI (aZ (p:=pI (IntKind.i64.wrap ((Int.tmod w4 12)+1))) rfl (.p rfl) fU rfl) (bq 3 (by kernel_rfl) (bL rfl rfl rfl rfl (fI (aZ (p:=pI (IntKind.i64.wrap (2000+(IntKind.i64.wrap (Int.tdiv w4 12))))) rfl (.p rfl) fU rfl) (bq 6 (by kernel_rfl) (cH rfl rfl rfl rfl rfl rfl (ap hx6) (cm 7 (by kernel_rfl) rfl rfl rfl rfl (fA rfl (.p rfl) (.p rfl)) (cm 8 (by kernel_rfl) rfl rfl rfl rfl (bh rfl rfl rfl rfl rfl (.p rfl)) (bq 9 (by kernel_rfl) (dS rfl rfl rfl (ag (vs:=[pI (de x1.1.Dom x6)]) rfl rfl rfl rfl rfl cS (cC (cC gH)) (dR (by kernel_rfl) ?_))))))))))))
   exact aY () (ql rfl) eo trivial
  ·skip
   refine bL rfl rfl rfl rfl (fI (aZ (p:=pI (IntKind.i64.wrap (2000+(IntKind.i64.wrap (Int.tdiv w4 12))))) rfl (.p rfl) fU rfl) ?_)
   refine gU 1 5 (by kernel_rfl) ?_ ?_
   ·skip
    refine bL rfl rfl rfl rfl (fI (aZ (p:=pI x1.1.Dom) rfl (.p rfl) fU rfl) (bq 5 (by kernel_rfl) (bL rfl rfl rfl rfl (fI (aZ (p:=pI (IntKind.i64.wrap ((Int.tmod w4 12)+1))) rfl (.p rfl) fU rfl) (bq 6 (by kernel_rfl) (cH rfl rfl rfl rfl rfl rfl (ap hx6) (cm 7 (by kernel_rfl) rfl rfl rfl rfl (fA rfl (.p rfl) (.p rfl)) (cm 8 (by kernel_rfl) rfl rfl rfl rfl (bh rfl rfl rfl rfl rfl (.p rfl)) (bq 9 (by kernel_rfl) (dS rfl rfl rfl (ag (vs:=[pI (de x1.1.Dom x6)]) rfl rfl rfl rfl rfl cS (cC (cC gH)) (dR (by kernel_rfl) ?_))))))))))))
    exact aY () (ql rfl) eo trivial
   skip
   refine bL rfl rfl rfl rfl (fI (aZ (p:=pI (IntKind.i64.wrap ((Int.tmod w4 12)+1))) rfl (.p rfl) fU rfl) ?_)
   refine gU 1 6 (by kernel_rfl) ?_ ?_
   ·skip
    refine bL rfl rfl rfl rfl (fI (aZ (p:=pI x1.1.Dom) rfl (.p rfl) fU rfl) (bq 6 (by kernel_rfl) (cH rfl rfl rfl rfl rfl rfl (ap hx6) (cm 7 (by kernel_rfl) rfl rfl rfl rfl (fA rfl (.p rfl) (.p rfl)) (cm 8 (by kernel_rfl) rfl rfl rfl rfl (bh rfl rfl rfl rfl rfl (.p rfl)) (bq 9 (by kernel_rfl) (dS rfl rfl rfl (ag (vs:=[pI (de x1.1.Dom x6)]) rfl rfl rfl rfl rfl cS (cC (cC gH)) (dR (by kernel_rfl) ?_)))))))))
    exact aY () (ql rfl) eo trivial
   skip
   refine cH rfl rfl rfl rfl rfl rfl (ap hx6) (bq 1 (by kernel_rfl) (bL rfl rfl rfl rfl (fI (aZ (p:=pI x1.1.Dom) rfl (.p rfl) fU rfl) (cm 7 (by kernel_rfl) rfl rfl rfl rfl (fA rfl (.p rfl) (.p rfl)) (cm 8 (by kernel_rfl) rfl rfl rfl rfl (bh rfl rfl rfl rfl rfl (.p rfl)) (bq 9 (by kernel_rfl) (dS rfl rfl rfl (ag (vs:=[pI (de x1.1.Dom x6)]) rfl rfl rfl rfl rfl cS (cC (cC gH)) (dR (by kernel_rfl) ?_)))))))))
   exact aY () (ql rfl) eo trivial
  skip
  refine bL rfl rfl rfl rfl (fI (aZ (p:=pI (IntKind.i64.wrap ((Int.tmod w4 12)+1))) rfl (.p rfl) fU rfl) ?_)
  refine gU 1 3 (by kernel_rfl) ?_ ?_
  ·skip
   refine bL rfl rfl rfl rfl (fI (aZ (p:=pI x1.1.Dom) rfl (.p rfl) fU rfl) (bq 3 (by kernel_rfl) (bL rfl rfl rfl rfl (fI (aZ (p:=pI (IntKind.i64.wrap (2000+(IntKind.i64.wrap (Int.tdiv w4 12))))) rfl (.p rfl) fU rfl) (bq 6 (by kernel_rfl) (cH rfl rfl rfl rfl rfl rfl (ap hx6) (cm 7 (by kernel_rfl) rfl rfl rfl rfl (fA rfl (.p rfl) (.p rfl)) (cm 8 (by kernel_rfl) rfl rfl rfl rfl (bh rfl rfl rfl rfl rfl (.p rfl)) (bq 9 (by kernel_rfl) (dS rfl rfl rfl (ag (vs:=[pI (de x1.1.Dom x6)]) rfl rfl rfl rfl rfl cS (cC (cC gH)) (dR (by kernel_rfl) ?_))))))))))))
   exact aY () (ql rfl) eo trivial
  skip
  refine bL rfl rfl rfl rfl (fI (aZ (p:=pI (IntKind.i64.wrap (2000+(IntKind.i64.wrap (Int.tdiv w4 12))))) rfl (.p rfl) fU rfl) ?_)
  refine gU 1 6 (by kernel_rfl) ?_ ?_
  ·skip
   refine bL rfl rfl rfl rfl (fI (aZ (p:=pI x1.1.Dom) rfl (.p rfl) fU rfl) (bq 6 (by kernel_rfl) (cH rfl rfl rfl rfl rfl rfl (ap hx6) (cm 7 (by kernel_rfl) rfl rfl rfl rfl (fA rfl (.p rfl) (.p rfl)) (cm 8 (by kernel_rfl) rfl rfl rfl rfl (bh rfl rfl rfl rfl rfl (.p rfl)) (bq 9 (by kernel_rfl) (dS rfl rfl rfl (ag (vs:=[pI (de x1.1.Dom x6)]) rfl rfl rfl rfl rfl cS (cC (cC gH)) (dR (by kernel_rfl) ?_)))))))))
   exact aY () (ql rfl) eo trivial
  skip
  refine cH rfl rfl rfl rfl rfl rfl (ap hx6) (bq 1 (by kernel_rfl) (bL rfl rfl rfl rfl (fI (aZ (p:=pI x1.1.Dom) rfl (.p rfl) fU rfl) (cm 7 (by kernel_rfl) rfl rfl rfl rfl (fA rfl (.p rfl) (.p rfl)) (cm 8 (by kernel_rfl) rfl rfl rfl rfl (bh rfl rfl rfl rfl rfl (.p rfl)) (bq 9 (by kernel_rfl) (dS rfl rfl rfl (ag (vs:=[pI (de x1.1.Dom x6)]) rfl rfl rfl rfl rfl cS (cC (cC gH)) (dR (by kernel_rfl) ?_)))))))))
  exact aY () (ql rfl) eo trivial
 rintro _ τ _;dsimp only [bj]
 refine ae (aa h fun x7 hx7 h=>aG [0] [57,58,59,60] [(4,pI x7.1),(5,pI x7.2)] (bB 1 (gE hx7) bT) (by kernel_rfl) (dV ?_))
 obtain rfl:=osi h
 exact aN (dG (aV rfl) (aV rfl)) eR ⟨rfl,rfl⟩
def fk (p0:Int) (p1:ByteArray) (p2:Int):Option (Zd×Int):=(bV p0 p1 p2).bind fun x2=>cond (!x2) (some ((⟨0,ByteArray.empty,0,[]⟩:Zd),(2:Int))) (some ((⟨p0,p1,p2,[]⟩:Zd),(0:Int)))
theorem hX {p0:Int} {p1:ByteArray} {p2:Int} {r:(Zd×Int)}  (h:fk p0 p1 p2=some r):PF 19 [pI p0,pS p1,pI p2] (.tup [.agg (aJ r.1),pI r.2]):=by
 unfold fk at h
 refine bP ?_
 refine aP Tryd.func19 rfl Tryd.ntmps19 Tryd.results19 rfl (ae (af (ar rfl (aT (cs:=[pI 0,pS ByteArray.empty,pI 0,pN]) rfl rfl rfl rfl (fun b1=>cY [7] (by kernel_rfl) (bF (ae (aa h fun x2 hx2 h=>aG [] [8,9,10,11] [(12,pB (!x2))] (bB 3 (eN hx2) bT) (by kernel_rfl) (ai (d6 rfl h (fun hc3 h=>?_) fun hc3 h=>?_))))))))))
 ·refine ae ?_
  refine af (aR 1 [(13,.agg [pI 0,pS ByteArray.empty,pI 0,pN])] (by kernel_rfl) (aB rfl rfl (ag (vs:=[pI 0,pS ByteArray.empty,pI 0,pN]) rfl rfl rfl rfl rfl cS mM (aM [(7,pI 2)] (by kernel_rfl) (ai (ff (k:=3) (b:=b1) rfl cS (cF (al ?_))))))))
  obtain rfl:=osi h
  exact aN (dG (cX rfl fU rfl) (aV rfl)) eR ⟨rfl,rfl⟩
 refine ak ?_
 refine bF (af (dU 4 [14,15,16] [(17,.agg [pI p0,pS p1,pI p2,pN])] (by kernel_rfl) (aB rfl rfl (ag (vs:=[pI p0,pS p1,pI p2,pN]) rfl rfl rfl rfl rfl cS mM (aM [(7,pI 0)] (by kernel_rfl) (ai (ff (k:=3) (b:=b1) rfl cS (cF ?_))))))))
 obtain rfl:=osi h
 exact aN (dG (cX rfl fU rfl) (aV rfl)) eR ⟨rfl,rfl⟩
def eY (p0:Za) (p1:Za):Option Int:=(bJ p0.Day p1.Day).bind fun x3=>(br p0 p1).bind fun x4=>(ea [x3,x4]).bind fun x6=>some x6
theorem j5 {p0:Za} {p1:Za} {r:Int}  (h:eY p0 p1=some r):PF 23 [.agg (ah p0),.agg (ah p1)] (pI r):=by
 unfold eY at h
 refine bP ?_
 refine aP Tryd.func23 rfl Tryd.ntmps23 Tryd.results23 rfl (ae (af (ar rfl (cG (cs:=(ah p0)) rfl rfl (fun b1=>ar rfl (cG (cs:=(ah p1)) rfl rfl (fun b2=>cY [4] (by kernel_rfl) (bF (cW (ρd:=[]) [(0,0),(1,0),(2,0),(3,0),(5,0),(6,0),(4,1),(7,1),(8,1),(9,1),(10,0)] _ (List.Perm.refl _) (by kernel_rfl) rfl (aa h fun x3 hx3 h=>aa h fun x4 hx4 h=>cV 8 [1,0,1,0] [5,6,7,8,10,11] [(9,pI x3),(12,pI x4)] (bB 6 (dC hx3) (bB 7 (dX hx4) bT)) (by kernel_rfl) ?_))))))))))
 refine mH rfl rfl rfl (pl_fz (gD rfl rfl rfl rfl rfl (pH rfl (pH rfl zin)) rfl rfl rfl rfl (fun b5=>⟨_,_,_,_,_,_,_,rfl,by (repeat (first | exact cz | apply cU)),?_⟩)))
 refine aa h fun x6 hx6 h=>cV 2 [] [14] [(4,pI x6)] (bB 0 (gx hx6) bT) (by kernel_rfl) (dQ (dV ?_))
 exact zz r h rfl
end SX
namespace SX
open Go
theorem pZ {S T:Type} {body:S→Option (S⊕T)} (P:S→Prop) (μ:S→Nat) (Q:T→Prop) (step:∀ s,P s→(∃ s',body s=some (.inl s')∧P s'∧μ s'<μ s)∨∃ t,body s=some (.inr t)∧Q t):∀ (N:Nat) (s:S),P s→μ s<N→∃ t,bZ body N s=some t∧Q t:=by
 intro N
 induction N with
 | zero=>intro s _ h;exact absurd h (Nat.not_lt_zero _)
 | succ N ih =>
  intro s hp hm
  rw [dB]
  rcases step s hp with ⟨s',h1,h2,h3⟩ | ⟨t,h1,h2⟩
  ·rw [h1];exact ih s' h2 (by omega)
  rw [h1];exact ⟨t,rfl,h2⟩
def Y {α:Type} (x:Option α) (P:α→Prop):Prop:=∃ a,x=some a∧P a
section
variable {α β S T:Type} {x y:Option α} {P P':α→Prop} {Q:β→Prop} {f:α→Option β} {a:α} {c:Bool}
theorem Y.bind (h:Y x P) (k:∀ a,P a→Y (f a) Q):Y (x.bind f) Q:=by
 obtain ⟨a,h1,h2⟩:=h;rw [h1];exact k a h2
theorem Y.ret (h:P a):Y (some a) P:=⟨a,rfl,h⟩
theorem Y.mono (h:Y x P) (k:∀ a,P a→P' a):Y x P':=by obtain ⟨a,h1,h2⟩:=h;exact ⟨a,h1,k a h2⟩
theorem Y.cond (h:c=true→Y x P) (k:c=false→Y y P):Y (cond c x y) P:=by cases c;exact k rfl;exact h rfl
theorem Y.eq {r:α} (h:x=some r) (k:Y (f r) Q):Y (x.bind f) Q:=by rw [h];exact k
theorem Y.loop {body:S→Option (S⊕T)} {R:T→Prop} {s:S} (I:S→Prop) (μ:S→Nat) (h0:I s) (hm:μ s≤1267650600228229401496703205000) (step:∀ s,I s→Y (body s) (fun o=>match o with | .inl s'=>I s'∧μ s'<μ s | .inr t=>R t)):Y (bZ body FUEL s) R:=by
 obtain ⟨t,h1,h2⟩:=pZ (body:=body) I μ R (fun s hs=>by
  obtain ⟨o,k1,k2⟩:=step s hs
  cases o with
  | inl s'=>exact .inl ⟨s',k1,k2⟩
  | inr t=>exact .inr ⟨t,k1,k2⟩) FUEL s h0 (jY hm)
 exact ⟨t,h1,h2⟩
theorem Y.idx {xs:List α} {i:Int} {n:Nat} (h:i=(n:Int)) (hn:n<xs.length) (k:Y (f xs[n]) Q):Y ((idx xs i).bind f) Q:=by subst h;rw [ei hn];exact k
theorem Y.is {v:α} (h:Y x (fun a=>a=v)):x=some v:=by obtain ⟨a,h1,rfl⟩:=h;exact h1
end
theorem gg (a n:Int) (h1:1≤n) (h2:n≤4611686018427387904):∃ r,cd a n=some r∧0≤r∧r<n:=by
 have hl:=Int.tmod_lt_of_pos a (show 0<n by omega)
 have hl2:=Int.tmod_lt_of_pos (-a) (show 0<n by omega)
 rw [Int.neg_tmod] at hl2
 unfold cd nz lb
 rw [if_neg (by omega),co (by omega) (by omega)]
 exact ⟨_,rfl,Int.tmod_nonneg _ (by omega),Int.tmod_lt_of_pos _ (by omega)⟩
def SOK (p:Zc):Prop:=0≤p.I∧p.I≤p.L.length∧p.L.length≤1000000000000000
theorem next_ok {p:Zc} (hp:SOK p) (n:Int) (h1:1≤n) (h2:n≤4611686018427387904):∃ r q,aq p n=some (r,q)∧0≤r∧r<n∧SOK q:=by
 obtain ⟨a1,a2,a3⟩:=hp
 unfold aq
 by_cases h:(p.L.length:Int)≤p.I
 ·rw [det h];exact ⟨_,_,rfl,by omega,by omega,a1,a2,a3⟩
 rw [dy h,co (r:=p.I+1) (by omega) (by omega),co (by omega) (by omega)]
 simp only [eT]
 have e:idx p.L (p.I+1 - 1)=some (p.L[p.I.toNat]'(by omega)):=by
  unfold idx;rw [if_pos (by omega)]
  have:(p.I+1 - 1).toNat=p.I.toNat:=by omega
  rw [this];exact List.getElem?_eq_getElem _
 rw [kv e]
 obtain ⟨r,h3,h4,h5⟩:=gg (p.L[p.I.toNat]'(by omega)) n h1 h2
 rw [kv h3]
 exact ⟨_,_,rfl,h4,h5,by simp only;omega,by simp only;omega,a3⟩
theorem cut_ok (l:List Int) (n:Int) (h:0≤n) (h2:n≤1000):∃ m,fh l n=some m∧(m.length:Int)≤n:=by
 unfold fh
 by_cases h1:n<(l.length:Int)
 ·rw [det h1]
  have e:sub l 0 n=some ((l.take n.toNat).drop 0):=by unfold sub;rw [if_pos (by omega)];rfl
  simp only [dM];rw [kv e];exact ⟨_,rfl,by simp;omega⟩
 rw [dy h1];exact ⟨_,rfl,by omega⟩
theorem eb {p:Zc} (hp:SOK p) (n:Int) (h1:1≤n) (h2:n≤4611686018427387904):Y (aq p n) (fun r=>0≤r.1∧r.1<n∧SOK r.2):=by
 obtain ⟨r,q,h3,h4,h5,h6⟩:=next_ok hp n h1 h2;exact ⟨(r,q),h3,h4,h5,h6⟩
theorem cut_Y (l:List Int) (n:Int) (h:0≤n) (h2:n≤1000):Y (fh l n) (fun m=>SOK ⟨m,0⟩):=by
 obtain ⟨m,h3,h4⟩:=cut_ok l n h h2
 exact ⟨m,h3,by dsimp only;omega,by dsimp only;omega,by dsimp only;omega⟩
def j6 (y:Int):Bool:=(Int.tmod y 4 == 0)&&((Int.tmod y 100 != 0)||(Int.tmod y 400 == 0))
def kA (y:Int):Int:=cond (j6 y) 366 365
def fZ (y:Int) (m:Nat):Int:=cond (m == 1&&j6 y) 29 (d9.getD m 0)
def yb:Nat→Int
 | 0=>0
 | n+1=>yb n+kA (2000+n)
def mb (y:Int):Nat→Int
 | 0=>0
 | m+1=>mb y m+fZ y m
theorem gh (y:Int):365≤kA y∧kA y≤366:=by unfold kA;cases j6 y <;> simp
theorem fE (y:Int) (m:Nat) (h:m≤11):28≤fZ y m∧fZ y m≤31:=by
 unfold fZ
 cases j6 y <;> (rcases (by omega:m=0∨m=1∨m=2∨m=3∨m=4∨m=5∨m=6∨m=7∨m=8∨m=9∨m=10∨m=11) with h | h | h | h | h | h | h | h | h | h | h | h <;> subst h <;> decide)
theorem lU (y:Int):mb y 12=kA y:=by
 unfold kA
 simp only [mb,fZ]
 cases j6 y <;> decide
theorem jj (y:Int):∀ {m k:Nat},m≤k→k≤12→mb y m≤mb y k:=by
 intro m k h hk
 induction k with
 | zero =>
  have:m=0:=by omega
  subst this;exact Int.le_refl _
 | succ k ih =>
  rcases Nat.lt_or_ge m (k+1) with h1 | h1
  ·have:=ih (by omega) (by omega);have:=fE y k (by omega);simp only [mb];omega
  have:m=k+1:=by omega
  subst this;exact Int.le_refl _
theorem oO (y:Int) {m:Nat} (h:m≤12):0≤mb y m:=by have:=jj y (Nat.zero_le m) h;simpa [mb] using this
theorem mb_le (y:Int) {m:Nat} (h:m≤12):mb y m≤366:=by have:=jj y h (Nat.le_refl _);have:=gh y;rw [lU] at *;omega
theorem jk {m k:Nat} (h:m≤k):yb m≤yb k:=by
 induction k with
 | zero =>
  have:m=0:=by omega
  subst this;exact Int.le_refl _
 | succ k ih =>
  rcases Nat.lt_or_ge m (k+1) with h1 | h1
  ·have:=ih (by omega);have:=gh (2000+k);simp only [yb];omega
  have:m=k+1:=by omega
  subst this;exact Int.le_refl _
theorem rR:yb 100=36525:=by kernel_rfl
theorem yb_3:yb 3=1096:=by kernel_rfl
theorem rS (n:Nat):0≤yb n:=by have:=jk (Nat.zero_le n);simpa [yb] using this
theorem yb_le {n:Nat} (h:n≤100):yb n≤36525:=by have:=jk h;rw [rR] at this;exact this
structure Dec (day:Int) (n m:Nat) (d:Int):Prop where
 n99:n≤99
 m11:m≤11
 d0:0≤d
 dl:d<fZ (2000+n) m
 sum:day=yb n+mb (2000+n) m+d
theorem Dec.uniq {day:Int} {n m n' m':Nat} {d d':Int} (h:Dec day n m d) (g:Dec day n' m' d'):n=n'∧m=m'∧d=d':=by
 have key:∀ {n m n' m':Nat} {d d':Int},Dec day n m d→Dec day n' m' d'→¬ n<n':=fun {n m n' m' d d'} h g hlt=>by
  have h1:=jk (show n+1≤n' from hlt)
  have h2:=jj (2000+(n:Int)) (show m+1≤12 by have:=h.m11;omega) (Nat.le_refl _)
  rw [lU] at h2
  have h3:=oO (2000+(n':Int)) (show m'≤12 by have:=g.m11;omega)
  have:=h.dl;have:=h.sum;have:=g.sum;have:=g.d0
  simp only [yb,mb] at h1 h2;omega
 have hn:n=n':=by have:=key h g;have:=key g h;omega
 subst hn
 have key2:∀ {m m':Nat} {d d':Int},Dec day n m d→Dec day n m' d'→¬ m<m':=fun {m m' d d'} h g hlt=>by
  have h1:=jj (2000+(n:Int)) (show m+1≤m' from hlt) (by have:=g.m11;omega)
  have:=h.dl;have:=h.sum;have:=g.sum;have:=g.d0
  simp only [mb] at h1;omega
 have hm:m=m':=by have:=key2 h g;have:=key2 g h;omega
 subst hm
 have:=h.sum;have:=g.sum
 exact ⟨rfl,rfl,by omega⟩
theorem oP (y:Int):aW y=some (kA y):=by
 unfold aW cQ kA j6
 simp only [d7]
 cases ((Int.tmod y 4 == 0)&&((Int.tmod y 100 != 0)||(Int.tmod y 400 == 0))) <;> rfl
theorem hZ (y:Int) (m:Nat) (h:m≤11):aL y ((m:Int)+1)=some (fZ y m):=by
 unfold aL cQ fZ j6
 have e1:(((m:Int)+1) == 2)=(m == 1):=by rw [Bool.eq_iff_iff];simp;omega
 have e2:idx d9 (IntKind.i64.wrap ((m:Int)+1 - 1))=some (d9.getD m 0):=by
  rw [co (by omega) (by omega),show (m:Int)+1 - 1=(m:Int) by omega,ei (show m<d9.length by unfold d9;simp;omega),getD_in]
 rw [e1,e2]
 cases (m == 1) <;> cases ((Int.tmod y 4 == 0)&&((Int.tmod y 100 != 0)||(Int.tmod y 400 == 0))) <;> rfl
theorem of_Y {day:Int} (h0:0≤day) (h1:day≤36524):Y (ep day) (fun r=>∃ (n m:Nat) (d:Int),r=(⟨2000+(n:Int),(m:Int)+1,d+1⟩,0)∧Dec day n m d):=by
 unfold ep dY
 rw [det h0,det h1]
 simp only [d7,Bool.and_self,Bool.not_true,eT]
 refine Y.bind (P:=fun s=>∃ n:Nat,n≤99∧s.2=2000+(n:Int)∧s.1+yb n=day∧0≤s.1∧s.1<kA (2000+n)) ?_ ?_
 ·refine Y.loop (fun s:Int×Int=>∃ n:Nat,n≤99∧s.2=2000+(n:Int)∧s.1+yb n=day∧0≤s.1) (fun s=>(s.1).toNat) ⟨0,by omega,rfl,by simp [yb],h0⟩ (by dsimp only;omega) ?_
  rintro ⟨a,b⟩ ⟨n,hn,hb,hs,ha⟩
  dsimp only at hb hs ha ⊢
  subst hb
  simp only [oP,d7]
  have hy:=gh (2000+(n:Int))
  refine Y.cond (fun hc=>?_) (fun hc=>Y.ret ⟨n,hn,rfl,hs,ha,by have:=of_decide_eq_false hc;omega⟩)
  have hc:=of_decide_eq_true hc
  have hn2:n+1≤99:=by
   rcases Nat.lt_or_ge n 99 with h | h
   ·exact h
   have:n=99:=by omega
   subst this
   have e:yb 100=yb 99+kA (2000+(99:Nat)):=rfl
   rw [rR] at e;omega
  have:=rS n
  refine Y.ret ⟨⟨n+1,hn2,?_,?_,?_⟩,?_⟩
  ·show IntKind.i64.wrap _=_;rw [co (by omega) (by omega)];omega
  ·show IntKind.i64.wrap _+_=_;rw [co (by omega) (by omega)];simp only [yb];omega
  ·show 0≤IntKind.i64.wrap _;rw [co (by omega) (by omega)];omega
  show (IntKind.i64.wrap _).toNat<_;rw [co (by omega) (by omega)];omega
 rintro ⟨a,b⟩ ⟨n,hn,hb,hs,ha,hl⟩
 dsimp only at hb hs ha hl ⊢
 subst hb
 refine Y.bind (P:=fun s=>∃ m:Nat,m≤11∧s.2=(m:Int)+1∧s.1+mb (2000+n) m=a∧0≤s.1∧s.1<fZ (2000+n) m) ?_ ?_
 ·refine Y.loop (fun s:Int×Int=>∃ m:Nat,m≤11∧s.2=(m:Int)+1∧s.1+mb (2000+n) m=a∧0≤s.1) (fun s=>(s.1).toNat) ⟨0,by omega,rfl,by simp [mb],ha⟩ (by dsimp only;have:=gh (2000+(n:Int));omega) ?_
  rintro ⟨u,v⟩ ⟨m,hm,hv,hu,h2⟩
  dsimp only at hv hu h2 ⊢
  subst hv
  simp only [hZ _ m hm,d7]
  have hy:=fE (2000+(n:Int)) m hm
  have:=gh (2000+(n:Int))
  refine Y.cond (fun hc=>?_) (fun hc=>Y.ret ⟨m,hm,rfl,hu,h2,by have:=of_decide_eq_false hc;omega⟩)
  have hc:=of_decide_eq_true hc
  have hm2:m+1≤11:=by
   rcases Nat.lt_or_ge m 11 with h | h
   ·exact h
   have:m=11:=by omega
   subst this
   have e:mb (2000+(n:Int)) 12=mb (2000+(n:Int)) 11+fZ (2000+(n:Int)) 11:=rfl
   rw [lU] at e;omega
  have:=oO (2000+(n:Int)) (show m≤12 by omega)
  refine Y.ret ⟨⟨m+1,hm2,?_,?_,?_⟩,?_⟩
  ·show IntKind.i64.wrap _=_;rw [co (by omega) (by omega)];omega
  ·show IntKind.i64.wrap _+_=_;rw [co (by omega) (by omega)];simp only [mb];omega
  ·show 0≤IntKind.i64.wrap _;rw [co (by omega) (by omega)];omega
  show (IntKind.i64.wrap _).toNat<_;rw [co (by omega) (by omega)];omega
 rintro ⟨u,v⟩ ⟨m,hm,hv,hu,h2,h3⟩
 dsimp only at hv hu h2 h3 ⊢
 subst hv
 have:=fE (2000+(n:Int)) m hm
 exact Y.ret ⟨n,m,u,by rw [co (by omega) (by omega)],hn,hm,h2,h3,by omega⟩
theorem p4 {n m:Nat} {dom:Int} (hn:n≤99) (hm:m≤11) (h1:1≤dom) (h2:dom≤fZ (2000+n) m):cO ⟨2000+(n:Int),(m:Int)+1,dom⟩=some (dom - 1+yb n+mb (2000+n) m,0):=by
 have hl:=fE (2000+(n:Int)) m hm
 unfold cO
 dsimp only
 rw [dy (by omega:¬ 2000+(n:Int)<2000),dy (by omega:¬ (2100:Int)≤2000+(n:Int)),dy (by omega:¬ (m:Int)+1<1),dy (by omega:¬ (12:Int)<(m:Int)+1),dy (by omega:¬ dom<1)]
 simp only [Bool.or_self,eT,Bool.not_false,Bool.false_or,gY,hZ _ m hm,d7]
 rw [dy (by omega:¬ fZ (2000+(n:Int)) m<dom),eT,co (r:=dom - 1) (by omega) (by omega)]
 have hyb:=yb_le (show n≤100 by omega)
 have e1:=Y.is (Y.loop (body:=fun (v5,v6)=>cond (decide (v6<2000+(n:Int))) (Option.bind (aW v6) (fun x11=>some (.inl ((IntKind.i64.wrap (v5+x11)),(IntKind.i64.wrap (v6+1)))))) (some (.inr v5))) (R:=fun t=>t=dom - 1+yb n) (s:=(dom - 1,2000)) (fun s:Int×Int=>∃ k:Nat,k≤n∧s=(dom - 1+yb k,2000+(k:Int))) (fun s=>(2000+(n:Int) - s.2).toNat) ⟨0,by omega,by simp [yb]⟩ (by dsimp only;omega) (by
  rintro s ⟨k,hk,rfl⟩
  dsimp only
  simp only [oP,d7]
  have:=yb_le (show k≤100 by omega);have:=rS k;have:=gh (2000+(k:Int))
  refine Y.cond (fun hc=>?_) (fun hc=>Y.ret ?_)
  ·have hc:=of_decide_eq_true hc
   refine Y.ret ⟨⟨k+1,by omega,?_⟩,?_⟩
   ·rw [co (by omega) (by omega),co (by omega) (by omega)];simp only [yb];congr 1 <;> omega
   show (2000+(n:Int) - IntKind.i64.wrap _).toNat<_;rw [co (by omega) (by omega)];omega
  have hc:=of_decide_eq_false hc
  have:k=n:=by omega
  subst this;rfl))
 rw [kv e1]
 have hmb:=mb_le (2000+(n:Int)) (show m≤12 by omega)
 have e2:=Y.is (Y.loop (body:=fun (v12,v13)=>cond (decide (v13<(m:Int)+1)) (Option.bind (aL (2000+(n:Int)) v13) (fun x18=>some (.inl ((IntKind.i64.wrap (v12+x18)),(IntKind.i64.wrap (v13+1)))))) (some (.inr v12))) (R:=fun t=>t=dom - 1+yb n+mb (2000+n) m) (s:=(dom - 1+yb n,1)) (fun s:Int×Int=>∃ k:Nat,k≤m∧s=(dom - 1+yb n+mb (2000+n) k,(k:Int)+1)) (fun s=>((m:Int)+1 - s.2).toNat) ⟨0,by omega,by simp [mb]⟩ (by dsimp only;omega) (by
  rintro s ⟨k,hk,rfl⟩
  dsimp only
  have:=rS n;have:=oO (2000+(n:Int)) (show k≤12 by omega);have:=mb_le (2000+(n:Int)) (show k≤12 by omega)
  refine Y.cond (fun hc=>?_) (fun hc=>Y.ret ?_)
  ·have hc:=of_decide_eq_true hc
   have:=fE (2000+(n:Int)) k (by omega)
   rw [hZ _ k (by omega),d7]
   refine Y.ret ⟨⟨k+1,by omega,?_⟩,?_⟩
   ·rw [co (by omega) (by omega),co (by omega) (by omega)];simp only [mb];congr 1 <;> omega
   show ((m:Int)+1 - IntKind.i64.wrap _).toNat<_;rw [co (by omega) (by omega)];omega
  have hc:=of_decide_eq_false hc
  have:k=m:=by omega
  subst this;rfl))
 rw [kv e2]
def na (n m:Nat) (d:Int):Int×Int:=cond (Nat.ble 97 n) (0,3) (de (d+1) (fZ (2000+(n+3:Nat)) m) - 1+yb (n+3)+mb (2000+(n+3:Nat)) m,0)
theorem add_eq {day:Int} {n m:Nat} {d:Int} (h0:0≤day) (h1:day≤36524) (hd:Dec day n m d):bi day 36=some (na n m d):=by
 obtain ⟨r,e,n',m',d',rfl,hd'⟩:=of_Y h0 h1
 obtain ⟨u1,u2,u3⟩:=hd.uniq hd'
 subst u1 u2 u3
 have hn:=hd.n99;have hm:=hd.m11;have hd0:=hd.d0;have hdl:=hd.dl
 unfold bi na
 rw [kv e]
 dsimp only
 have w:IntKind.i64.wrap (IntKind.i64.wrap (IntKind.i64.wrap (IntKind.i64.wrap (IntKind.i64.wrap (2000+(n:Int) - 2000)*12)+((m:Int)+1)) - 1)+36)=12*(n:Int)+(m:Int)+36:=by
  rw [co (r:=2000+(n:Int) - 2000) (by omega) (by omega),co (r:=(2000+(n:Int) - 2000)*12) (by omega) (by omega),co (r:=(2000+(n:Int) - 2000)*12+((m:Int)+1)) (by omega) (by omega),co (r:=(2000+(n:Int) - 2000)*12+((m:Int)+1) - 1) (by omega) (by omega),co (by omega) (by omega)];omega
 unfold lb
 rw [w]
 have c0:((0:Int) != 0||decide ((36:Int) < -1200)||decide ((1200:Int)<36))=false:=by decide
 dsimp only
 rw [c0,eT,dy (by omega:¬ 12*(n:Int)+(m:Int)+36<0),Bool.false_or]
 rcases Nat.lt_or_ge n 97 with hlt | hge
 ·rw [dy (by omega:¬ (1200:Int)≤12*(n:Int)+(m:Int)+36),eT]
  rw [Int.tdiv_eq_ediv_of_nonneg (by omega),Int.tmod_eq_emod_of_nonneg (by omega)]
  rw [co (r:=(12*(n:Int)+(m:Int)+36) / 12) (by omega) (by omega),co (r:=2000+(12*(n:Int)+(m:Int)+36) / 12) (by omega) (by omega),co (r:=(12*(n:Int)+(m:Int)+36) % 12+1) (by omega) (by omega)]
  have e1:2000+(12*(n:Int)+(m:Int)+36) / 12=2000+((n+3:Nat):Int):=by omega
  have e2:(12*(n:Int)+(m:Int)+36) % 12+1=(m:Int)+1:=by omega
  rw [e1,e2,hZ _ m hm,d7]
  have hl:=fE (2000+((n+3:Nat):Int)) m hm
  have hle:1≤de (d+1) (fZ (2000+((n+3:Nat):Int)) m)∧de (d+1) (fZ (2000+((n+3:Nat):Int)) m)≤fZ (2000+((n+3:Nat):Int)) m:=by unfold de;split <;> omega
  rw [kv (p4 (n:=n+3) (by omega) hm hle.1 hle.2)]
  rw [show Nat.ble 97 n=false by rw [Bool.eq_false_iff];intro h;have:=Nat.le_of_ble_eq_true h;omega]
  rfl
 rw [det (by omega:(1200:Int)≤12*(n:Int)+(m:Int)+36),dM,Nat.ble_eq_true_of_le hge];rfl
theorem addS_ge {n m:Nat} {d:Int} (hm:m≤11) (hd:0≤d):(na n m d).2=0→30≤(na n m d).1:=by
 unfold na
 cases Nat.ble 97 n
 ·intro _
  simp only [eT]
  have h1:=jk (show 3≤n+3 by omega)
  rw [yb_3] at h1
  have h2:=oO (2000+((n+3:Nat):Int)) (show m≤12 by omega)
  have h3:=fE (2000+((n+3:Nat):Int)) m hm
  have h4:1≤de (d+1) (fZ (2000+((n+3:Nat):Int)) m):=by unfold de;split <;> omega
  omega
 intro h;simp at h
section
variable {γ:Type} [Inhabited γ]
theorem kB (e:γ→Value) (D:Array γ) (cur:Array Value) (h:D.size≤cur.size):(Sort.putCells e 0 D cur).toList.take D.size=D.toList.map e:=by
 apply List.ext_getElem
 ·simp [Sort.putCells];omega
 intro i h1 h2
 have h3:i<D.size:=by simpa using h2
 simp [Sort.putCells,h3]
theorem nc {e:γ→Value} {w:World} {b:Nat} {D:Array γ} {cur:Array Value} {T:Nat} {fr:Nat×Nat} (h:w.heap[b]?=some (.cells cur T fr)):(Sort.putRow e w b 0 D).heap[b]?=some (.cells (Sort.putCells e 0 D cur) T fr):=by
 simp [Sort.putRow,Sort.mapBlock,Array.getElem?_modify,h,Sort.onCells]
theorem j7 {e:γ→Value} {w:World} {b i:Nat} {D:Array γ} (h:i≠b):(Sort.putRow e w b 0 D).heap[i]?=w.heap[i]?:=by
 simp only [Sort.putRow,Sort.mapBlock,Array.getElem?_modify]
 rw [if_neg (fun e=>h e.symm)]
theorem j8 {β:Base} {l:List Res} {κ:Kr} {b n c T sz m:Nat} {css css':List (List Value)} {os:Array Obj} {e:γ→Value} {D:Array γ} (hi:Zb β (Res.row (some ⟨b,0,none⟩) n c T sz css::l) κ) (hF:D.toList.map e=css'.flatten) (hl:css'.length=n) (hw:∀ cs∈css',cs.length=sz) :
    Zb β (Res.row (some ⟨b,0,none⟩) n c T sz css'::l) ⟨Sort.grow (Sort.putRow e (Sort.ahead κ.w m) b 0 D) os,κ.S⟩∧Kle κ ⟨Sort.grow (Sort.putRow e (Sort.ahead κ.w m) b 0 D) os,κ.S⟩:=by
  have ho:=hi.own _ (List.mem_cons_self)
  obtain ⟨h1,h2,h3,h4,h5,cur,h6,h7,h8⟩:=ho
  have hD:D.size=n*sz:=by
    have:=congrArg List.length hF
    rw [List.length_map,bY hw,hl] at this
    simpa using this
  have hle:D.size≤cur.size:=by rw [hD,h7];exact Nat.mul_le_mul_right _ h4
  have t1:=hi.turn (r':=Res.row (some ⟨b,0,none⟩) n c T sz css') (l1:=[]) (b:=b) (w':=Sort.putRow e (Sort.ahead κ.w m) b 0 D) rfl rfl rfl (fun i hne=>j7 hne) (by simp [Sort.putRow,Sort.mapBlock,Sort.ahead])
    ⟨h1,hl,hw,h4,h5,_,nc (w:=Sort.ahead κ.w m) h6,by simpa [Sort.putCells] using h7,by rw [← hD,kB e D cur hle,hF]⟩ rfl rfl rfl (by simp [Sort.putRow,Sort.mapBlock,Sort.ahead])
  have hh:=t1.1.own _ (List.mem_cons_self)
  have hb2:b<(Sort.putRow e (Sort.ahead κ.w m) b 0 D).heap.size:=by
    have:=(t1.1.blk _ (List.mem_cons_self) b rfl).1;exact this
  have hold:∀ i,i<(Sort.putRow e (Sort.ahead κ.w m) b 0 D).heap.size→(Sort.grow (Sort.putRow e (Sort.ahead κ.w m) b 0 D) os).heap[i]?=(Sort.putRow e (Sort.ahead κ.w m) b 0 D).heap[i]?:=fun i h=>by
    simp only [Sort.grow];rw [Array.getElem?_append_left h]
  have hh2:(Res.row (some ⟨b,0,none⟩) n c T sz css').holds (Sort.grow (Sort.putRow e (Sort.ahead κ.w m) b 0 D) os):=by
    have:(Sort.grow (Sort.putRow e (Sort.ahead κ.w m) b 0 D) os).heap[b]?=(Sort.putRow e (Sort.ahead κ.w m) b 0 D).heap[b]?:=hold b hb2
    unfold Res.holds at hh ⊢
    show (Res.row (some ⟨b,0,none⟩) n c T sz css').says (Sort.grow (Sort.putRow e (Sort.ahead κ.w m) b 0 D) os).heap[b]?
    rw [this];exact hh
  obtain ⟨i3,k3⟩:=t1.1.grow (r':=Res.row (some ⟨b,0,none⟩) n c T sz css') (w':=Sort.grow (Sort.putRow e (Sort.ahead κ.w m) b 0 D) os) ⟨rfl,rfl,rfl,by simp [Sort.grow],fun i h _=>hold i h⟩ (.inr (.inl rfl)) hh2 (qQ hh2) (Nat.le_refl _)
  exact ⟨i3,t1.2.trans k3⟩
end
theorem kW {α:Type} {lt:α→α→Bool} (l:List α):(bK lt l).length=l.length:=fC.length_eq
theorem le_grow {κ κ':Kr} (h:Le [] κ κ'):∃ q os',κ'.w=Sort.grow (κ.w.drewN q) os':=by
 refine ⟨κ'.w.drawn - κ.w.drawn,κ'.w.heap.extract κ.w.heap.size κ'.w.heap.size,?_⟩
 have hz:=h.kle.size
 have hd:=h.drawn rfl
 have e1:κ'.w.heap=κ.w.heap++κ'.w.heap.extract κ.w.heap.size κ'.w.heap.size:=by
  apply Array.ext_getElem?
  intro i
  rcases Nat.lt_or_ge i κ.w.heap.size with hi | hi
  ·rw [Array.getElem?_append_left hi];exact h.same i hi (by simp)
  rw [Array.getElem?_append_right hi,Array.getElem?_extract]
  split
  ·congr 1;omega
  rw [Array.getElem?_eq_none (by omega)]
 cases hw:κ'.w with
 | mk heap tape drawn os output =>
  have h2:=h.tape;have h3:=h.os;have h4:=h.output
  rw [hw] at e1 h2 h3 h4 hd
  simp only at e1 h2 h3 h4 hd
  simp only [Sort.grow,World.drewN]
  subst h2 h3 h4
  rw [← e1]
  congr 1;omega
theorem kX {γ:Type} [Inhabited γ] (enc:γ→List Value) (k:Nat) (hk:∀ x,(enc x).length=k):∀ L:List γ,(List.range (L.length*k)).map (fun t=>(enc L[t / k]!)[t % k]!)=(L.map enc).flatten
 | []=>by simp
 | x::xs=>by
  have ih:=kX enc k hk xs
  rcases Nat.eq_zero_or_pos k with h0 | h0
  ·subst h0
   have:∀ M:List γ,(M.map enc).flatten=[]:=fun M=>by
    rw [List.flatten_eq_nil_iff];intro l hl;obtain ⟨y,_,rfl⟩:=List.mem_map.1 hl;exact List.eq_nil_of_length_eq_zero (hk y)
   rw [this];simp
  rw [List.length_cons,Nat.add_mul,Nat.one_mul,Nat.add_comm,List.range_add,List.map_append,List.map_cons,List.flatten_cons,← ih,List.map_map]
  congr 1
  ·apply List.ext_getElem
   ·simp [hk]
   intro i h1 h2
   have hi:i<k:=by simpa using h1
   simp [Nat.div_eq_of_lt hi,Nat.mod_eq_of_lt hi,getElem!_pos,h2]
  apply List.map_congr_left
  intro t _
  simp only [Function.comp,Nat.add_div_left _ h0,Nat.add_mod_left]
  rfl
theorem j9 {γ:Type} [Inhabited γ] (enc:γ→List Value) (k:Nat) (hk:∀ x,(enc x).length=k) (d:Array γ):(Sort.flatK enc k d).toList.map id=(d.toList.map enc).flatten:=by
 rw [List.map_id,← kX enc k hk]
 simp only [Sort.flatK,Array.toList_map,Array.toList_range,Array.length_toList]
 apply List.map_congr_left
 intro t _
 congr 2
 simp [getElem!_def]
section
variable {α:Type} {enc:α→List PV} {encV:α→List Value}
theorem ne {κ:Kr} (hinv:∀ x ds,Rps κ (enc x) ds→ds=encV x):∀ {xs:List α} {dss:List (List Value)},Rpss κ (xs.map enc) dss→dss=xs.map encV
 | [],_,h=>h.nil_inv
 | x::xs,_,h=>by
  obtain ⟨d,ds,rfl,h1,h2⟩:=h.cons_inv
  rw [ne hinv h2,hinv _ _ h1];rfl
theorem iU {κ:Kr} (hmk:∀ x,Rps κ (enc x) (encV x)):∀ {xs:List α},Rpss κ (xs.map enc) (xs.map encV)
 | []=>.nil
 | x::xs=>.cons (hmk x) (iU hmk)
theorem callSF [Inhabited α] {f g T k:Nat} {ρs:Shelf.Ren} (L:SlLaysF0.n6 Tryd.prog ρs) (hf:ρs.f 6=f) (fOk:FnOk f) (gOk:FnOk g) (aE:∀ w,(isAgg (ρs.t 24)).run Tryd.prog w=.ok true w) (zE:∀ w,(Go.sizeOf (ρs.t 24)).run Tryd.prog w=.ok k w)
    (hk:∀ x,(encV x).length=k) (h1:∀ x,∀ v∈encV x,v.oneCell'=true) (hinv:∀ κ x ds,Rps κ (enc x) ds→ds=encV x) (hmk:∀ κ x,Rps κ (enc x) (encV x)) (cf:α→α→Int) (hO:Sort.SWO (ltOf cf)) (hT:∀ x y,ltOf cf x y=false→ltOf cf y x=false→x=y)
    (hcmp:∀ x y,PF g [.agg (enc x),.agg (enc y)] (pI (cf x y))) {p0:List α} {a:Option Addr} {n c:Nat}:PCall f [.v (.slice a n c),.fn g []] [PRes.row a n c T k (List.map enc p0)] (fun pv ρ'=>pv=.tup []∧ρ'=[PRes.row a n c T k (List.map enc (bK (ltOf cf) p0))]):=fun κ args ρ gk ha hr=>by
  subst hf
  obtain ⟨v,ws,rfl,ha1,ha2⟩:=ha.cons_inv
  obtain ⟨v2,ws2,rfl,ha3,ha4⟩:=ha2.cons_inv
  rw [ha4.nil_inv,ha1.val]
  have hv2:v2=.func (.func g) #[] #[]:=by
    cases ha3 with
    | fn h=>rw [h.nil_inv]
  subst hv2
  obtain ⟨r0,l',rfl,hr1,hr2⟩:=hr.cons_inv
  have:=hr2.nil_inv;subst this
  refine ⟨fOk,fun hi=>?_⟩
  have hn1:∀ l:List α,∀ cs∈l.map encV,cs.length=k:=fun l cs hcs=>by obtain ⟨q,_,rfl⟩:=List.mem_map.1 hcs;exact hk q
  cases hr1 with
  | row hb ho hc =>
    have hd:=ne (hinv κ) hc;subst hd
    have how:=hi.own _ (List.mem_cons_self)
    cases a with
    | none =>
      obtain ⟨rfl,rfl,h3⟩:=how
      have hp:p0=[]:=List.map_eq_nil_iff.1 h3
      subst hp
      refine (AnyF.slices_SortFunc_none L none 0 _ κ.w).mono fun e w' ⟨h1,h2⟩=>?_
      subst h1 h2
      exact ⟨_,_,κ,rfl,rfl,hi,.tup [],_,.tup .nil,.cons (.row hb ho (by exact .nil)) .nil,rfl,rfl⟩
    | some ad =>
      obtain ⟨q1,h2,h3,h4,h5,cur,h6,h7,h8⟩:=how
      obtain ⟨b,off,sp⟩:=ad
      injection q1 with h1a h1b h1c
      subst h1b h1c
      have hblk:b<κ.w.heap.size:=(hi.blk _ (List.mem_cons_self) b rfl).1
      have hn:n=p0.toArray.size:=by rw [← h2];simp
      have hz:(Sort.flatK encV k p0.toArray).size=n*k:=by rw [Sort.size_flatK,← hn]
      have hft:(Sort.flatK encV k p0.toArray).toList=cur.toList.take (n*k):=by
        rw [h8,← j9 encV k hk,List.map_id]
      have hH:Sort.HoldsK encV k κ.w b 0 p0.toArray:=by
        intro j hj
        have hj2:j<n*k:=by rw [← hz];exact hj
        have hj3:(Sort.flatK encV k p0.toArray)[j]?=cur[j]?:=by
          rw [← Array.getElem?_toList,hft,List.getElem?_take,if_pos hj2,Array.getElem?_toList]
        constructor
        · simp only [World.cell?,h6,Option.isSome_none,Bool.false_eq_true,if_false,Nat.zero_add]
          rw [← hj3,Array.getElem?_eq_getElem hj,getElem!_pos _ j hj];rfl
        simp [World.frozen?,h6]
      have hcl:CmpLays Tryd.prog g #[] encV k cf b 0 p0.toArray.size κ.w:=fun m os dk hs x y=>by
        obtain ⟨i1,k1⟩:=j8 (m:=m) (os:=os) (e:=id) (D:=Sort.flatK encV k dk) (css':=dk.toList.map encV) hi (j9 encV k hk dk) (by rw [List.length_map,Array.length_toList,hs,hn]) (hn1 _)
        have hc2:=hcmp x y ⟨_,κ.S⟩ [.agg (encV x).toArray,.agg (encV y).toArray] (gk.mono k1) (.cons (.agg (h1 x) (hmk _ x)) (.cons (.agg (h1 y) (hmk _ y)) .nil))
        refine (hc2.2 ⟨Le.refl _ _,i1.fin,by simp,by simp,List.Pairwise.nil⟩).mono fun e w' ⟨v,ρ',κ',g1,g2,g3,g4⟩=>?_
        obtain ⟨q,os',hq⟩:=le_grow g3.le
        subst g1 g2
        exact ⟨by rw [g4.2.val],q,os',hq⟩
      rw [hn]
      refine (AnyQ.slices_SortFunc_total L k aE zE encV hk h1 cf hO g #[] b 0 c p0.toArray κ.w (fun args w=>dO gOk args w) hcl hH hblk (by rw [← hn];unfold maxLen at h5;omega) hT).mono fun e w' ⟨k1,m,os,k2⟩=>?_
      have hso:(p0.toArray.toList.mergeSort fun x y => !(ltOf cf) y x)=bK (ltOf cf) p0:=by
        refine iT (lt:=ltOf cf) hT ?_ (fD hO.trans hO.ntrans hO.irrefl p0) ((List.mergeSort_perm _ _).trans fC.symm)
        have h:=List.pairwise_mergeSort (le:=fun x y:α => !(ltOf cf) y x) (fun a b c h1 h2=>by
          simp only [Bool.not_eq_true'] at h1 h2 ⊢;exact hO.ntrans _ _ _ h2 h1) (fun a b=>by
          cases e1:ltOf cf b a
          · simp
          cases e2:ltOf cf a b
          · simp
          have:=hO.trans _ _ _ e1 e2;rw [hO.irrefl] at this;cases this) p0
        exact h.imp fun {a b} hab=>by simpa using hab
      rw [hso] at k2
      subst k1 k2
      obtain ⟨i1,i2⟩:=j8 (m:=m) (os:=os) (e:=id) (css':=(bK (ltOf cf) p0).map encV) (D:=Sort.flatK encV k (bK (ltOf cf) p0).toArray) hi (j9 encV k hk _) (by rw [List.length_map,kW];rw [← h2];simp) (hn1 _)
      exact ⟨_,_,⟨_,κ.S⟩,rfl,rfl,i1,.tup [],_,.tup .nil,.cons (.row hb (by intro cs hcs;obtain ⟨q,_,rfl⟩:=List.mem_map.1 hcs;exact h1 q) (iU (hmk _))) .nil,rfl,by rw [← hn]⟩
end
end SX
end Go.Proofs.YtmgcadfnkchnfaaDoor
namespace Go.Proofs
open Go.Shelf
def Tryd.lSD_ren:Go.Shelf.Ren:=⟨fun | 6=>33 | 15=>44 | 14=>43 | 28=>58 | 29=>59 | 20=>50 | 21=>51 | 22=>52 | 23=>53 | 24=>54 | 25=>55 | 26=>56 | 27=>57 | 46=>64 | 47=>65 | 48=>66 | 49=>67 | 50=>68 | 57=>69 | n=>n,fun | 22=>24 | 24=>28 | 25=>59 | 3=>3 | 39=>74 | 0=>0 | 53=>94 | 55=>96 | 4=>4 | 46=>88 | 45=>87 | 50=>63 | 5=>5 | 9=>9 | 66=>99 | 70=>103 | 76=>105 | 77=>106 | n=>n,fun | n=>n⟩
theorem Tryd.lSD:Go.Proofs.SlLaysF0.n6 Tryd.prog Tryd.lSD_ren:={
 mixed:=by kernel_rfl
 f6:=⟨Tryd.f33.name,by decide,Tryd.func33.trans (congrArg some (by kernel_rfl))⟩
 f14:=⟨Tryd.f43.name,by decide,Tryd.func43.trans (congrArg some (by kernel_rfl))⟩
 f15:=Tryd.func44.trans (congrArg some (by kernel_rfl))
 f20:=⟨Tryd.f50.name,by decide,Tryd.func50.trans (congrArg some (by kernel_rfl))⟩
 f21:=⟨Tryd.f51.name,by decide,Tryd.func51.trans (congrArg some (by kernel_rfl))⟩
 f22:=⟨Tryd.f52.name,by decide,Tryd.func52.trans (congrArg some (by kernel_rfl))⟩
 f23:=⟨Tryd.f53.name,by decide,Tryd.func53.trans (congrArg some (by kernel_rfl))⟩
 f24:=⟨Tryd.f54.name,by decide,Tryd.func54.trans (congrArg some (by kernel_rfl))⟩
 f25:=⟨Tryd.f55.name,by decide,Tryd.func55.trans (congrArg some (by kernel_rfl))⟩
 f26:=⟨Tryd.f56.name,by decide,Tryd.func56.trans (congrArg some (by kernel_rfl))⟩
 f27:=⟨Tryd.f57.name,by decide,Tryd.func57.trans (congrArg some (by kernel_rfl))⟩
 f28:=Tryd.func58.trans (congrArg some (by kernel_rfl))
 f29:=Tryd.func59.trans (congrArg some (by kernel_rfl))
 f46:=⟨Tryd.f64.name,by decide,Tryd.func64.trans (congrArg some (by kernel_rfl))⟩
 f47:=Tryd.func65.trans (congrArg some (by kernel_rfl))
 f48:=Tryd.func66.trans (congrArg some (by kernel_rfl))
 f49:=⟨Tryd.f67.name,by decide,Tryd.func67.trans (congrArg some (by kernel_rfl))⟩
 f50:=⟨Tryd.f68.name,by decide,Tryd.func68.trans (congrArg some (by kernel_rfl))⟩
 f57:=⟨Tryd.f69.name,by decide,Tryd.func69.trans (congrArg some (by kernel_rfl))⟩
 t0:=Tryd.underlying0
 a0:=Tryd.isAgg0
 z0:=Tryd.sizeOf0
 v0:=Tryd.zeroValue0
 t3:=Tryd.underlying3
 a3:=Tryd.isAgg3
 z3:=Tryd.sizeOf3
 v3:=Tryd.zeroValue3
 t4:=Tryd.underlying4
 a4:=Tryd.isAgg4
 z4:=Tryd.sizeOf4
 v4:=Tryd.zeroValue4
 t5:=Tryd.underlying5
 a5:=Tryd.isAgg5
 z5:=Tryd.sizeOf5
 v5:=Tryd.zeroValue5
 t9:=Tryd.underlying9
 a9:=Tryd.isAgg9
 z9:=Tryd.sizeOf9
 v9:=Tryd.zeroValue9
 t22:=Tryd.underlying24
 a22:=Tryd.isAgg24
 z22:=Tryd.sizeOf24
 v22:=Tryd.zeroValue24
 t25:=Tryd.underlying59
 a25:=Tryd.isAgg59
 z25:=Tryd.sizeOf59
 v25:=Tryd.zeroValue59
 t39:=Tryd.underlying74
 a39:=Tryd.isAgg74
 z39:=Tryd.sizeOf74
 v39:=Tryd.zeroValue74
 t45:=Tryd.underlying87
 a45:=Tryd.isAgg87
 z45:=Tryd.sizeOf87
 v45:=Tryd.zeroValue87
 t46:=Tryd.underlying88
 a46:=Tryd.isAgg88
 z46:=Tryd.sizeOf88
 v46:=Tryd.zeroValue88
 t50:=Tryd.underlying63
 a50:=Tryd.isAgg63
 z50:=Tryd.sizeOf63
 v50:=Tryd.zeroValue63
 t53:=Tryd.underlying94
 a53:=Tryd.isAgg94
 z53:=Tryd.sizeOf94
 v53:=Tryd.zeroValue94
 t55:=Tryd.underlying96
 a55:=Tryd.isAgg96
 z55:=Tryd.sizeOf96
 v55:=Tryd.zeroValue96
 t66:=Tryd.underlying99
 a66:=Tryd.isAgg99
 z66:=Tryd.sizeOf99
 v66:=Tryd.zeroValue99
 t70:=Tryd.underlying103
 a70:=Tryd.isAgg103
 z70:=Tryd.sizeOf103
 v70:=Tryd.zeroValue103
 t76:=Tryd.underlying105
 a76:=Tryd.isAgg105
 z76:=Tryd.sizeOf105
 v76:=Tryd.zeroValue105
 t77:=Tryd.underlying106
 a77:=Tryd.isAgg106
 z77:=Tryd.sizeOf106
 v77:=Tryd.zeroValue106 }
end Go.Proofs
set_option maxRecDepth 100000
namespace Go.Proofs.YtmgcadfnkchnfaaDoor
namespace SX
open Go Go.RowKit
structure Keep (S:Nat→Prop) (A B:World):Prop where
 size:A.heap.size≤B.heap.size
 os:B.os=A.os
 tape:B.tape=A.tape
 output:B.output=A.output
 drawn:DrGo A.drawn B.drawn
 blk:∀ b,S b→B.heap[b]?=A.heap[b]?
theorem Keep.refl (S:Nat→Prop) (A:World):Keep S A A:=⟨Nat.le_refl _,rfl,rfl,rfl,.refl _,fun _ _=>rfl⟩
theorem Keep.trans {S:Nat→Prop} {A B C:World} (h:Keep S A B) (k:Keep S B C):Keep S A C :=
 ⟨Nat.le_trans h.size k.size,k.os.trans h.os,k.tape.trans h.tape,k.output.trans h.output,h.drawn.trans k.drawn,fun b hb=>(k.blk b hb).trans (h.blk b hb)⟩
theorem Keep.mono {S T:Nat→Prop} {A B:World} (h:Keep S A B) (k:∀ b,T b→S b):Keep T A B:=⟨h.size,h.os,h.tape,h.output,h.drawn,fun b hb=>h.blk b (k b hb)⟩
theorem Keep.put {S:Nat→Prop} {A:World} {l:Nat} (o:Obj) (h:¬ S l):Keep S A (A.putObj l o) :=
 ⟨by simp [World.putObj],rfl,rfl,rfl,.refl _,fun b hb=>World.putObj_heap_other fun e=>h (e ▸ hb)⟩
theorem Keep.alloc {S:Nat→Prop} {A:World} (o:Obj) (h:∀ b,S b→b<A.heap.size):Keep S A (A.alloc o) :=
 ⟨by rw [World.size_alloc];omega,rfl,rfl,rfl,.refl _,fun b hb=>Below.heap_alloc _ _ _ (h b hb)⟩
def Gr (A B:World):Prop:=Keep (fun b=>b<A.heap.size) A B
def TT (T:Nat→Prop) (A B:World):Nat→Prop:=fun b=>T b∨(A.heap.size≤b∧b<B.heap.size)
def StN {α:Type} (J:α→World→Prop):Prop:=∀ s A B,J s A→Gr A B→J s B
def SeqS {α:Type} (gf:Nat) (lb:Array Value) (encs:α→Array Value) (S:Nat→Prop) (xs:List α) (w0:World):Prop :=
 ∀ (l:Nat) (J:(Nat→Prop)→List α→World→Prop) (Jx:List α→World→Prop) (W:World),Keep S w0 W→(∀ T,StN (J T))→StN Jx →
  (∀ (T:Nat→Prop) (pre:List α) (x:α) (suf:List α) (A W1:World),xs=pre++x::suf→J T pre A→Gr A W1→YieldAt Fence.wide 0 Tryd.prog l (encs x) W1 fun e W' =>
   (e=.returned (.bool true)∧J (TT T A W1) (pre++[x]) W'∧Keep (fun b=>S b∨TT T A W1 b) W1 W')∨(e=.returned (.bool false)∧Jx (pre++[x]) W'∧Keep (fun b=>S b∨TT T A W1 b) W1 W')) →
  J (fun _=>False) [] W→Calls Tryd.prog gf (#[.func (.yield l) #[] #[]]++lb) W fun e W'=>(∃ v,e=.returned v)∧((∃ T,J T xs W')∨∃ pre suf,xs=pre++suf∧Jx pre W')
def rT (D:Nat):Deferred:={ target:=.collected D,args:=#[] }
def roundK {α:Type} (T:Nat→Prop) (I:List α→World→Prop) (Ix:Code→List α→World→Prop) (xs:List α) (W:World):Exit→Act→World→Prop:=fun e _ W'=>Keep T W W'∧match e with
 | .normal=>I xs W'
 | .ret=>Ix .ret xs W'
 | .exit id=>Ix (.exit id) xs W'
 | .goto t=>Ix (.goto t) xs W'
 | .panic _=>False
 | .outgrown=>False
theorem rU {α:Type} {g:Operand} {ps:Array Tmp} {assign body:Code} {Q:Exit→Act→World→Prop} {a:Act} {w:World} {gf:Nat} {lb:Array Value} (hg:a.eval g=.func (.func gf) #[] lb) (hok:FnOk gf)
    {encs:α→Array Value} {S:Nat→Prop} {xs:List α} (hseq:SeqS gf lb encs S xs w) (hS:∀ b,S b→b<w.heap.size) (hps:∀ x,(encs x).size=ps.size)
    (I:(Nat→Prop)→List α→World→Prop) (Ix:Code→List α→World→Prop) (A:(Nat→Prop)→List α→α→Act→World→Prop) (hI:∀ T,StN (I T)) (hIe:∀ T pre B W,I T pre B→Gr B W→I (TT T B W) pre W) (hIx:∀ c,StN (Ix c))
    (hIl:∀ T pre W o,I T pre W→I T pre (W.putObj (w.heap.size+1) o)) (hIxl:∀ c pre W o,Ix c pre W→Ix c pre (W.putObj (w.heap.size+1) o)) (hAl:∀ T pre x a' W o,A T pre x a' W→A T pre x a' (W.putObj (w.heap.size+1) o)) (h0:I (fun _=>False) [] w)
    (hassign:∀ (T:Nat→Prop) (pre:List α) (x:α) (suf:List α) (W:World),xs=pre++x::suf→I T pre W→(∀ b,T b→b<W.heap.size)→w.heap.size+1<W.heap.size→∀ K:Act→World→Prop,(∀ a' W',Keep (fun b=>(S b∨T b)∨b=w.heap.size∨b=w.heap.size+1) W W'→A T pre x a' W'→K a' W') →
      assign.wpIn (Fence.wide.inRound (w.heap.size+1)) 0 Tryd.prog (Exit.then K fun _ _ _=>False) { tmps:=(ps.zip (encs x)).foldl (fun t (p,v)=>t.setIfInBounds p v) a.tmps,defers:=[] } W)
    (hbody:∀ (T:Nat→Prop) (pre:List α) (x:α) (suf:List α) (a':Act) (W:World),xs=pre++x::suf→A T pre x a' W→(∀ b,T b→b<W.heap.size)→w.heap.size+1<W.heap.size →
      body.wpIn (Fence.wide.inRound (w.heap.size+1)) 0 Tryd.prog (roundK (fun b=>(S b∨T b)∨b=w.heap.size∨b=w.heap.size+1) (I T) Ix (pre++[x]) W) a' W)
    (hdone:∀ T W,I T xs W→w.heap.size<W.heap.size→W.heap[w.heap.size]?=some (.deferred (some []))→Q .normal { a with defers:=rT w.heap.size::a.defers } W)
    (hstop:∀ c pre suf W,xs=pre++suf→Ix c pre W→w.heap.size<W.heap.size→W.heap[w.heap.size]?=some (.deferred (some []))→c.wp Tryd.prog Q { a with defers:=rT w.heap.size::a.defers } W) :
    (Code.rangeFunc g ps assign body).wp Tryd.prog Q a w:=by
  refine wpIn_wide (n:=0).1 (wpIn_rangeFunc ?_)
  intro fn hfn
  obtain ⟨rec,hrec⟩:∃ rec:LoopState→Option Code→Loop,rec=fun st pe=>{ state:=st,pending:=pe,fn,tmps:=a.tmps,params:=ps,assign,body,defers:=w.heap.size }:=⟨_,rfl⟩
  obtain ⟨W1,hW1⟩:∃ W1,(w.alloc (.deferred (some []))).alloc (.loop (rec .ready none))=W1:=⟨_,rfl⟩
  have hL1:W1.heap[w.heap.size+1]?=some (.loop (rec .ready none)):=by
    rw [← hW1];have:=World.alloc_heap_new (w.alloc (.deferred (some []))) (.loop (rec .ready none));rwa [World.size_alloc] at this
  have hK1:W1.heap[w.heap.size]?=some (.deferred (some [])):=by
    rw [← hW1];exact (Below.heap_alloc _ _ _ (by simp)).trans (World.alloc_heap_new w _)
  have hG:Gr w W1:=by
    rw [← hW1]
    exact (Keep.alloc _ fun b hb=>hb).trans (Keep.alloc _ fun b hb=>by rw [World.size_alloc];omega)
  have hnS:¬ S (w.heap.size+1):=fun h=>by have:=hS _ h;omega
  refine ⟨w.heap.size+1,[rT w.heap.size],W1,{ target:=.fn (.func gf) lb,args:=#[.func (.yield (w.heap.size+1)) #[] #[]] },W1,gf,
    #[.func (.yield (w.heap.size+1)) #[] #[]]++lb,W1,?_,?_,fun _ _=>trivial,?_,fun h=>(by cases h),?_⟩
  · rw [← hW1,hrec];exact run_enterLoop_outer _ _ _ _ _
  · simp only [resolve,hg]
    simp [go_sem]
  · simp [invoke,go_sem,dO hok]
  refine callsIn_wide.2 ((hseq (w.heap.size+1)
      (fun T pre W=>I T pre W∧W.heap[w.heap.size+1]?=some (.loop (rec .ready none))∧W.heap[w.heap.size]?=some (.deferred (some []))∧∀ b,T b→w.heap.size+1<b∧b<W.heap.size)
      (fun pre W=>∃ c,Ix c pre W∧W.heap[w.heap.size+1]?=some (.loop (rec .done (some c)))∧W.heap[w.heap.size]?=some (.deferred (some [])))
      W1 (hG.mono fun b hb=>hS b hb) ?_ ?_ ?_ ⟨hI _ _ _ _ h0 hG,hL1,hK1,fun _ h=>h.elim⟩).mono ?_)
  · rintro T s A B ⟨h1,h2,h3,h4⟩ hg
    exact ⟨hI _ _ _ _ h1 hg,(hg.blk _ (Array.getElem?_eq_some_iff.1 h2).1).trans h2,(hg.blk _ (Array.getElem?_eq_some_iff.1 h3).1).trans h3,fun b hb=>⟨(h4 b hb).1,Nat.lt_of_lt_of_le (h4 b hb).2 hg.size⟩⟩
  · rintro s A B ⟨c,h1,h2,h3⟩ hg
    exact ⟨c,hIx c _ _ _ h1 hg,(hg.blk _ (Array.getElem?_eq_some_iff.1 h2).1).trans h2,(hg.blk _ (Array.getElem?_eq_some_iff.1 h3).1).trans h3⟩
  · rintro T pre x suf B W hxs ⟨hi0,hl0,hk0,hT0⟩ hBW
    have hltB:w.heap.size+1<B.heap.size:=(Array.getElem?_eq_some_iff.1 hl0).1
    have hi:=hIe _ _ _ _ hi0 hBW
    have hl:=(hBW.blk _ hltB).trans hl0
    have hk:=(hBW.blk _ (show w.heap.size<B.heap.size by omega)).trans hk0
    have hT:∀ b,TT T B W b→w.heap.size+1<b∧b<W.heap.size:=fun b hb=>by
      rcases hb with hb | hb
      · exact ⟨(hT0 b hb).1,Nat.lt_of_lt_of_le (hT0 b hb).2 hBW.size⟩
      exact ⟨by omega,hb.2⟩
    generalize TT T B W=T' at *
    have hlt:w.heap.size+1<W.heap.size:=(Array.getElem?_eq_some_iff.1 hl).1
    have hy:=run_yield (P:=Tryd.prog) (args:=encs x) hl (by rw [hrec];exact hps x)
    rw [hrec] at hy
    refine ⟨fn,_,assign,body,hy,roundIn_of_wpIn trivial (hassign T' pre x suf W hxs hi (fun b hb=>(hT b hb).2) hlt _ fun a' W2 hk2 hA=>?_)⟩
    have hl2:W2.heap[w.heap.size+1]?=some (.loop (rec .ready none)):=(hk2.blk _ (.inr (.inr rfl))).trans hl
    have hd2:W2.heap[w.heap.size]?=some (.deferred (some [])):=(hk2.blk _ (.inr (.inl rfl))).trans hk
    have hlt2:=(Array.getElem?_eq_some_iff.1 hl2).1
    refine ⟨_,run_beginRound hl2 (by rw [hrec]),?_⟩
    have hl3:(W2.putObj (w.heap.size+1) (.loop { rec .ready none with state:=.busy })).heap[w.heap.size+1]?=some (.loop { rec .ready none with state:=.busy }):=World.putObj_heap_same hlt2
    have hd3:(W2.putObj (w.heap.size+1) (.loop { rec .ready none with state:=.busy })).heap[w.heap.size]?=some (.deferred (some [])):=(World.putObj_heap_other (by omega)).trans hd2
    refine wpIn_mono (hbody T' pre x suf a' _ hxs (hAl _ _ _ _ _ _ hA) (fun b hb=>by have:=Nat.lt_of_lt_of_le (hT b hb).2 hk2.size;simpa [World.putObj] using this) (by simpa [World.putObj] using hlt2)) ?_
    have hnT:¬ (S (w.heap.size+1)∨T' (w.heap.size+1)):=fun h=>h.elim hnS fun h=>by have:=(hT _ h).1;omega
    have hkS:Keep (fun b=>S b∨T' b) W (W2.putObj (w.heap.size+1) (.loop { rec .ready none with state:=.busy })):=(hk2.mono fun b hb=>.inl hb).trans (.put _ hnT)
    have fin:∀ (jump:Option Code) (W3:World),Keep (fun b=>(S b∨T' b)∨b=w.heap.size∨b=w.heap.size+1) (W2.putObj (w.heap.size+1) (.loop { rec .ready none with state:=.busy })) W3 →
        (Instr.endRound (w.heap.size+1) jump).run Tryd.prog W3=.ok (.bool jump.isNone) (W3.putObj (w.heap.size+1) (.loop (rec (if jump.isNone then .ready else .done) jump))) ∧
        (W3.putObj (w.heap.size+1) (.loop (rec (if jump.isNone then .ready else .done) jump))).heap[w.heap.size+1]?=some (.loop (rec (if jump.isNone then .ready else .done) jump)) ∧
        (W3.putObj (w.heap.size+1) (.loop (rec (if jump.isNone then .ready else .done) jump))).heap[w.heap.size]?=some (.deferred (some [])):=fun jump W3 hk3=>by
      have hl4:=(hk3.blk _ (.inr (.inr rfl))).trans hl3
      have:=run_endRound (P:=Tryd.prog) jump hl4
      rw [hrec] at this ⊢
      exact ⟨this,World.putObj_heap_same (Array.getElem?_eq_some_iff.1 hl4).1,(World.putObj_heap_other (by omega)).trans ((hk3.blk _ (.inr (.inl rfl))).trans hd3)⟩
    rintro e a3 W3 ⟨hk3,hp⟩
    cases e with
    | normal =>
      obtain ⟨hr,hl4,hd4⟩:=fin none W3 hk3
      refine ⟨_,_,hr,.inl ⟨rfl,⟨hIl _ _ _ _ hp,hl4,hd4,fun b hb=>⟨(hT b hb).1,?_⟩⟩,hkS.trans ((hk3.mono fun b hb=>.inl hb).trans (.put _ hnT))⟩⟩
      have:=Nat.lt_of_lt_of_le (hT b hb).2 (hkS.trans (hk3.mono fun b hb=>.inl hb)).size
      simpa [World.putObj] using this
    | ret =>
      obtain ⟨hr,hl4,hd4⟩:=fin (some .ret) W3 hk3
      exact ⟨_,_,hr,.inr ⟨rfl,⟨.ret,hIxl _ _ _ _ hp,hl4,hd4⟩,hkS.trans ((hk3.mono fun b hb=>.inl hb).trans (.put _ hnT))⟩⟩
    | exit id =>
      obtain ⟨hr,hl4,hd4⟩:=fin (some (.exit id)) W3 hk3
      exact ⟨_,_,hr,.inr ⟨rfl,⟨.exit id,hIxl _ _ _ _ hp,hl4,hd4⟩,hkS.trans ((hk3.mono fun b hb=>.inl hb).trans (.put _ hnT))⟩⟩
    | goto t =>
      obtain ⟨hr,hl4,hd4⟩:=fin (some (.goto t)) W3 hk3
      exact ⟨_,_,hr,.inr ⟨rfl,⟨.goto t,hIxl _ _ _ _ hp,hl4,hd4⟩,hkS.trans ((hk3.mono fun b hb=>.inl hb).trans (.put _ hnT))⟩⟩
    | panic ch=>exact hp.elim
    | outgrown=>exact hp.elim
  rintro e W2 ⟨⟨v,rfl⟩,(⟨T,hi,hl,hk,_⟩ | ⟨pre,suf,hxs,c,hi,hl,hk⟩)⟩
  · exact ⟨none,_,by have:=run_endLoop (P:=Tryd.prog) hl (by rw [hrec];simp);rw [hrec] at this;exact this,hdone T _ (hIl _ _ _ _ hi) (by have:=(Array.getElem?_eq_some_iff.1 hk).1;simpa [World.putObj] using this) ((World.putObj_heap_other (by omega)).trans hk)⟩
  exact ⟨some c,_,by have:=run_endLoop (P:=Tryd.prog) hl (by rw [hrec];simp);rw [hrec] at this;exact this,wpIn_wide.2 (hstop c pre suf _ hxs (hIxl _ _ _ _ hi) (by have:=(Array.getElem?_eq_some_iff.1 hk).1;simpa [World.putObj] using this) ((World.putObj_heap_other (by omega)).trans hk))⟩
end SX
end Go.Proofs.YtmgcadfnkchnfaaDoor
set_option maxRecDepth 100000
namespace Go.Proofs.YtmgcadfnkchnfaaDoor
namespace SX
open Go Go.RowKit
def p5 (D:Nat):Res:=⟨some D,fun o=>o=some (.deferred (some []))⟩
def oQ (Ds:List Nat):List Res:=Ds.map p5
def cls (Ds:List Nat):List Deferred:=Ds.map rT
theorem rV {k:Kr} {M:List Nat} {ro ro':Option Nat} {ρ:List Res} {κ:Kr} (h:Zb ⟨k,M,ro⟩ ρ κ):Zb ⟨k,M,ro'⟩ ρ κ:=⟨⟨h.le.kle,h.le.same,h.le.shNew,h.le.os,h.le.tape,h.le.output,h.le.drawn⟩,h.fin,h.own,h.blk,h.nd⟩
theorem ka {β:Base} {ρ:List Res} {W W':World} {S T:Nat→Prop} (h:Zb β ρ ⟨W,S⟩) (k:Keep T W W') (hS:∀ b,S b→T b) (hρ:∀ r∈ρ,∀ b,r.blk=some b→T b) (hM:∀ b,b<β.k0.w.heap.size→b ∉ β.M→T b):Zb β ρ ⟨W',S⟩∧Kle ⟨W,S⟩ ⟨W',S⟩:=by
 have hk:Kle ⟨W,S⟩ ⟨W',S⟩:=⟨k.size,fun _ h=>h,fun b hb=>k.blk b (hS b hb)⟩
 refine ⟨⟨⟨h.le.kle.trans hk,fun b hb hm=>(k.blk b (hM b hb hm)).trans (h.le.same b hb hm),h.le.shNew,k.os.trans h.le.os,k.tape.trans h.le.tape,k.output.trans h.le.output,h.le.drawn.trans k.drawn⟩,fun b hb=>Nat.lt_of_lt_of_le (h.fin b hb) k.size,fun r hr=>Res.holds_of (h.own r hr) fun b hb=>k.blk b (hρ r hr b hb),fun r hr b hb=>?_,h.nd⟩,hk⟩
 obtain ⟨h1,h2,h3⟩:=h.blk r hr b hb
 exact ⟨Nat.lt_of_lt_of_le h1 k.size,h2,h3⟩
theorem rW {β:Base} {ρ:List Res} {W W':World} {S:Nat→Prop} (h:Zb β ρ ⟨W,S⟩) (k:Gr W W'):Zb β ρ ⟨W',S⟩∧Kle ⟨W,S⟩ ⟨W',S⟩ :=
 ka h k h.fin (fun r hr b hb=>(h.blk r hr b hb).1) fun b hb _=>Nat.lt_of_lt_of_le hb h.le.kle.size
theorem oR {β:Base} {ρ:List Res} {W:World} {S:Nat→Prop} {l:Nat} (o:Obj) (h:Zb β ρ ⟨W,S⟩) (hS:∀ b,S b→b≠l) (hρ:∀ r∈ρ,∀ b,r.blk=some b→b≠l) (hl:β.k0.w.heap.size≤l):Zb β ρ ⟨W.putObj l o,S⟩∧Kle ⟨W,S⟩ ⟨W.putObj l o,S⟩ :=
 ka (T:=fun b=>b≠l) h (.put o fun h=>h rfl) hS hρ fun b hb _ e=>by omega
def Rst (β:Base) (κ0:Kr) (Ds:List Nat) (T:Nat→Prop) (ρp:List PRes) (W:World):Prop :=
 ∃ S' ρ',Zb β (ρ'++oQ Ds) ⟨W,S'⟩∧RRels ⟨W,S'⟩ ρp ρ'∧Kle κ0 ⟨W,S'⟩∧(∀ b,S' b→b≠κ0.w.heap.size∧b≠κ0.w.heap.size+1)∧∀ r∈ρ',∀ b,r.blk=some b→(b≠κ0.w.heap.size∧b≠κ0.w.heap.size+1)∧¬ T b
def Ast (β:Base) (κ0:Kr) (Ds:List Nat) (T:Nat→Prop) (n:Nat) (σp:PEnv) (ρp:List PRes) (a:Act) (W:World):Prop :=
 ∃ S' ρ' σ',Zb β (ρ'++oQ Ds) ⟨W,S'⟩∧RRels ⟨W,S'⟩ ρp ρ'∧Kle κ0 ⟨W,S'⟩∧(∀ b,S' b→b≠κ0.w.heap.size∧b≠κ0.w.heap.size+1)∧(∀ r∈ρ',∀ b,r.blk=some b→(b≠κ0.w.heap.size∧b≠κ0.w.heap.size+1)∧¬ T b)∧Sim ⟨W,S'⟩ σp σ'∧Rel [] n a σ'
section
variable {β:Base} {κ0:Kr} {Ds:List Nat} {T:Nat→Prop} {ρp:List PRes} {W W':World} {n:Nat} {σp:PEnv} {a:Act}
theorem oS {r:Res} (h:r∈oQ Ds):∃ D∈Ds,r=p5 D:=by obtain ⟨D,h1,rfl⟩:=List.mem_map.1 h;exact ⟨D,h1,rfl⟩
theorem Rst.gr (h:Rst β κ0 Ds T ρp W) (k:Gr W W'):Rst β κ0 Ds T ρp W':=by
 obtain ⟨S',ρ',h1,h2,h3,h4,h5⟩:=h
 obtain ⟨g1,g2⟩:=rW h1 k
 exact ⟨S',ρ',g1,h2.mono g2,h3.trans g2,h4,h5⟩
theorem Rst.ext (h:Rst β κ0 Ds T ρp W) (k:Gr W W'):Rst β κ0 Ds (TT T W W') ρp W':=by
 obtain ⟨S',ρ',h1,h2,h3,h4,h5⟩:=h
 obtain ⟨g1,g2⟩:=rW h1 k
 refine ⟨S',ρ',g1,h2.mono g2,h3.trans g2,h4,fun r hr b hb=>⟨(h5 r hr b hb).1,fun hT=>?_⟩⟩
 have hlt:b<W.heap.size:=(h1.blk r (List.mem_append.2 (.inl hr)) b hb).1
 rcases hT with hT | hT
 ·exact (h5 r hr b hb).2 hT
 omega
theorem kY {ρ':List Res} (hDs:∀ D∈Ds,D<κ0.w.heap.size) (h5:∀ r∈ρ',∀ b,r.blk=some b→(b≠κ0.w.heap.size∧b≠κ0.w.heap.size+1)∧¬ T b):∀ r∈ρ'++oQ Ds,∀ b,r.blk=some b→b≠κ0.w.heap.size+1:=fun r hr b hb=>by
 rcases List.mem_append.1 hr with hr | hr
 ·exact (h5 r hr b hb).1.2
 obtain ⟨D,hD,rfl⟩:=oS hr
 have:=hDs D hD
 injection hb with hb;omega
theorem Rst.put (o:Obj) (hDs:∀ D∈Ds,D<κ0.w.heap.size) (hl:β.k0.w.heap.size≤κ0.w.heap.size) (h:Rst β κ0 Ds T ρp W):Rst β κ0 Ds T ρp (W.putObj (κ0.w.heap.size+1) o):=by
 obtain ⟨S',ρ',h1,h2,h3,h4,h5⟩:=h
 obtain ⟨g1,g2⟩:=oR o h1 (fun b hb=>(h4 b hb).2) (kY hDs h5) (by omega)
 exact ⟨S',ρ',g1,h2.mono g2,h3.trans g2,h4,h5⟩
theorem Ast.put (o:Obj) (hDs:∀ D∈Ds,D<κ0.w.heap.size) (hl:β.k0.w.heap.size≤κ0.w.heap.size) (h:Ast β κ0 Ds T n σp ρp a W):Ast β κ0 Ds T n σp ρp a (W.putObj (κ0.w.heap.size+1) o):=by
 obtain ⟨S',ρ',σ',h1,h2,h3,h4,h5,h6,h7⟩:=h
 obtain ⟨g1,g2⟩:=oR o h1 (fun b hb=>(h4 b hb).2) (kY hDs h5) (by omega)
 exact ⟨S',ρ',σ',g1,h2.mono g2,h3.trans g2,h4,h5,h6.mono g2,h7⟩
theorem Ast.rst (h:Ast β κ0 Ds T n σp ρp a W):Rst β κ0 Ds T ρp W:=by
 obtain ⟨S',ρ',σ',h1,h2,h3,h4,h5,_⟩:=h
 exact ⟨S',ρ',h1,h2,h3,h4,h5⟩
theorem Rst.sub {ρq:List PRes} (h:Rst β κ0 Ds T ρp W) (hs:PSub ρq ρp):Rst β κ0 Ds T ρq W:=by
 obtain ⟨S',ρ',h1,h2,h3,h4,h5⟩:=h
 obtain ⟨ρ'',k1,k2⟩:=h2.sub hs
 obtain ⟨l,hl⟩:=k1
 refine ⟨S',ρ'',(h1.perm (?_:(ρ'++oQ Ds).Perm ((ρ''++oQ Ds)++l))).sub (List.sublist_append_left _ _),k2,h3,h4,fun r hr=>h5 r (hl.mem_iff.2 (List.mem_append.2 (.inl hr)))⟩
 rw [List.append_assoc]
 exact (List.Perm.append_right _ hl).trans (by rw [List.append_assoc];exact List.Perm.append_left _ List.perm_append_comm)
theorem kb {c:Code} {Kx:Exit→PPost} {S0:Nat→Prop} {Q:Exit→Act→World→Prop} (hn:eD c=true) (hc:PWC n c Kx σp ρp) (g:GOK κ0) (hS0:∀ b,S0 b→κ0.S b) (hT:∀ b,T b→b<W.heap.size) (hW:κ0.w.heap.size+1<W.heap.size) (h:Ast β κ0 Ds T n σp ρp a W)
    (hQ:∀ e a' W' σp' ρp',Kx e σp' ρp'→Ast β κ0 Ds T n σp' ρp' a' W'→Keep (fun b=>(S0 b∨T b)∨b=κ0.w.heap.size∨b=κ0.w.heap.size+1) W W'→Q e a' W'):c.wpIn (Fence.wide.inRound (κ0.w.heap.size+1)) 0 Tryd.prog Q a W:=by
  obtain ⟨S',ρ',σ',h1,h2,h3,h4,h5,h6,h7⟩:=h
  refine hc ⟨⟨W,S'⟩,ej ρ',some (κ0.w.heap.size+1)⟩ ⟨W,S'⟩ σ' ρ' (g.mono h3) h6 h2 (rV h1.split) a h7 Q (fun e a' σ'' ρ'' κ'' g1 g2 g3 ⟨σp',ρp',k1,k2,k3⟩=>?_) hn
  refine hQ e a' κ''.w σp' ρp' k3 ⟨κ''.S,ρ'',σ'',h1.join (rV g2),k2,h3.trans g3,fun b hb=>?_,fun r hr b hb=>?_,k1,g1⟩ ⟨g3.size,g2.le.os,g2.le.tape,g2.le.output,g2.le.drawn,fun b hb=>?_⟩
  · rcases g2.le.shNew b hb with hS | hge | hm
    · exact h4 b hS
    · have:W.heap.size≤b:=hge
      omega
    obtain ⟨r,hr,hrb⟩:=el hm;exact (h5 r hr b hrb).1
  · rcases (g2.blk r hr b hb).2.2 with hge | hm
    · have hge:W.heap.size≤b:=hge
      exact ⟨by omega,fun h=>by have:=hT b h;omega⟩
    obtain ⟨r,hr,hrb⟩:=el hm;exact h5 r hr b hrb
  have nin:∀ b,T b∨b=κ0.w.heap.size∨b=κ0.w.heap.size+1→b ∉ ej ρ':=fun b hb hm=>by
    obtain ⟨r,hr,hrb⟩:=el hm
    have:=h5 r hr b hrb
    rcases hb with hb | hb
    · exact this.2 hb
    omega
  rcases hb with (hb | hb) | hb
  · exact g3.keep b (h3.sh b (hS0 b hb))
  · exact g2.le.same b (hT b hb) (nin b (.inl hb))
  exact g2.le.same b (show b<W.heap.size by omega) (nin b (.inr hb))
end
def eO {X S T:Type} (f:S→X→Option (S⊕T)):S→List X→Option (S⊕T)
 | s,[]=>some (.inl s)
 | s,x::xs=>match f s x with | none=>none | some (.inl s')=>eO f s' xs | some (.inr t)=>some (.inr t)
def xvs {X:Type} (xv:X→Value) (x:X):Array Value:=#[xv x]
def PSeq {X:Type} (gf:Nat) (caps:List PV) (xp:X→PV) (xs:List X):Prop :=
 FnOk gf∧∀ κ lb,GOK κ→(∀ b,κ.S b→b<κ.w.heap.size)→Rps κ caps lb→∃ xv:X→Value,(∀ x∈xs,∀ κ',Rp κ' (xp x) (xv x))∧SeqS gf lb.toArray (xvs xv) κ.S xs κ.w
abbrev QPost:=Exit→PEnv→List PRes→List Nat→Prop
def PWQ (n:Nat) (c:Code) (K:QPost) (σp:PEnv) (ρp:List PRes) (Ds:List Nat):Prop :=
 ∀ κ0 ρ0 κ σ ρ,GOK κ→Sim κ σp σ→RRels κ ρp ρ→Zb ⟨κ0,ej ρ0,none⟩ (ρ++oQ Ds) κ→∀ a,Rel (cls Ds) n a σ→∀ Q:Exit→Act→World→Prop,
  (∀ e a' σ' ρ' κ' σq ρq Es,GOK κ'→Rel (cls Es) n a' σ'→Zb ⟨κ0,ej ρ0,none⟩ (ρ'++oQ Es) κ'→Sim κ' σq σ'→RRels κ' ρq ρ'→K e σq ρq Es→Q e a' κ'.w)→c.wp Tryd.prog Q a κ.w
section
variable {n:Nat} {x y:Code} {K:QPost} {σ:PEnv} {ρ:List PRes} {Ds:List Nat}
theorem cZ (h:PWC n x (fun e σ ρ=>K e σ ρ Ds) σ ρ):PWQ n x K σ ρ Ds:=fun κ0 ρ0 κ σ' ρ' g hs hr hi a ha Q hq =>
 h ⟨κ,ej ρ',none⟩ κ σ' ρ' g hs hr hi.split a ha _ fun e a' σ'' ρ'' κ'' g1 g2 g3 ⟨σp,ρp,k1,k2,k3⟩=>hq e a' σ'' ρ'' κ'' σp ρp Ds (g.mono g3) g1 (hi.join g2) k1 k2 k3
def oT (n:Nat) (y:Code) (K:QPost):QPost:=fun e σ ρ Ds=>match e with
 | .normal=>PWQ n y K σ ρ Ds
 | e=>K e σ ρ Ds
theorem bG (h:PWQ n x (oT n y K) σ ρ Ds):PWQ n (.seq x y) K σ ρ Ds:=fun κ0 ρ0 κ σ' ρ' g hs hr hi a ha Q hq =>
 wp_seq (h κ0 ρ0 κ σ' ρ' g hs hr hi a ha _ fun e a' σ'' ρ'' κ'' σp ρp Es g1 g2 g3 k1 k2 k3=>by
  cases e with
  | normal=>exact k3 κ0 ρ0 κ'' σ'' ρ'' g1 k1 k2 g3 a' g2 Q hq
  | _=>exact hq _ a' σ'' ρ'' κ'' σp ρp Es g1 g2 g3 k1 k2 k3)
theorem bH (h:PWQ n y K σ ρ Ds):oT n y K .normal σ ρ Ds:=h
theorem dH (h:K .ret σ ρ Ds):oT n y K .ret σ ρ Ds:=h
def fin (w:World) (Ds:List Nat):World:=Ds.foldl (fun w D=>w.putObj D (.deferred none)) w
theorem nf:∀ (Ds:List Nat) (w:World),Keep (fun b=>b ∉ Ds) w (fin w Ds)
 | [],w=>.refl _ _
 | D::Ds,w=>(Keep.put (S:=fun b=>b ∉ D::Ds) _ fun h=>h (by simp)).trans ((nf Ds _).mono fun b hb=>fun h=>hb (by simp [h]))
theorem kZ {fn:Func} {tmps:Array Value} {R:Ending→World→Prop}:∀ (Ds:List Nat) (w:World),Ds.Nodup→(∀ D∈Ds,w.heap[D]?=some (.deferred (some [])))→(∃ v,(results fn tmps).run Tryd.prog (fin w Ds)=.ok v (fin w Ds)∧R (.returned v) (fin w Ds))→LeavesInM Fence.wide 0 Tryd.prog fn tmps R (cls Ds) .returning w
 | [],w,_,_,h=>h
 | D::Ds,w,hnd,hD,h=>by
  have hnd:=List.nodup_cons.1 hnd
  refine ⟨by simp,.inl ⟨D,_,rfl,run_takeDeferred (hD D (by simp)),kZ Ds _ hnd.2 (fun E hE=>?_) h⟩⟩
  exact (World.putObj_heap_other (by intro e;subst e;exact hnd.1 hE)).trans (hD E (by simp [hE]))
theorem lV {f n:Nat} {fn:Func} {c:Code} {pargs:List PV} {rs:List ResultVar} {ρp:List PRes} {R:PV→List PRes→Prop} (hf:Tryd.prog.funcs[f]?=some fn) (hok:FnOk f) (hb:fn.body=some c) (hn:fn.ntmps=n) (hres:fn.results=rs.toArray) (hsz:Nat.ble pargs.length n=true)
    (h:PWQ n c (fun e σ ρ _=>gw rs R e σ ρ) (kM pargs) ρp []):PCall f pargs ρp R:=fun κ args ρ g ha hr =>
  ⟨hok,fun hi=>callsIn_wide.1 (callsIn_of_wp_marks (F:=Fence.wide) (n:=0) hf hb trivial (wpIn_wide.2 (by
    have hrel:=jr args.toArray n (by simpa [ha.len] using Nat.le_of_ble_eq_true hsz)
    rw [hn]
    refine h κ ρ κ _ ρ g (sim0 ha) hr (by simpa [oQ] using hi) _ hrel _ ?_
    intro e a' σ' ρ' κ' σp ρq Ds _ h1 h2 k1 k2 k3
    have key:(∃ p ρ',PRV rs σp ρq p∧PSub ρ' ρq∧R p ρ')→LeavesInM Fence.wide 0 Tryd.prog fn a'.tmps (fun e w'=>∃ v ρ' κ',e=Ending.returned v∧w'=κ'.w∧Zb ⟨κ,ej ρ,none⟩ ρ' κ'∧∃ pv ρp',Rp κ' pv v∧RRels κ' ρp' ρ'∧R pv ρp') a'.defers .returning κ'.w:=fun ⟨p,ρ3,j1,j2,j3⟩=>by
      obtain ⟨v,i1,i2⟩:=prv k1 k2 j1
      obtain ⟨r',i3,i4⟩:=k2.sub j2
      have hnd:=List.pairwise_append.1 h2.nd
      have hDs:Ds.Nodup:=by
        have:=hnd.2.1
        unfold oQ at this
        rw [List.pairwise_map] at this
        exact this.imp fun h e=>h _ rfl (by rw [e];rfl)
      have hDb:∀ D∈Ds,p5 D∈ρ'++oQ Ds:=fun D hD=>List.mem_append.2 (.inr (List.mem_map.2 ⟨D,hD,rfl⟩))
      have hav:∀ r∈ρ',∀ b,r.blk=some b→b ∉ Ds:=fun r hr b hb hm=>hnd.2.2 r hr (p5 b) (List.mem_map.2 ⟨b,hm,rfl⟩) b hb rfl
      have hi':Zb ⟨κ,ej ρ,none⟩ ρ' κ':=h2.sub (List.sublist_append_left _ _)
      obtain ⟨q1,q2⟩:=ka (W':=fin κ'.w Ds) (S:=κ'.S) hi' (nf Ds κ'.w) (fun b hb hm=>(h2.blk _ (hDb b hm) b rfl).2.1 hb) hav fun b hb hm hD=>by
        rcases (h2.blk _ (hDb b hD) b rfl).2.2 with q | q
        · exact absurd hb (Nat.not_lt.2 q)
        exact hm q
      rw [h1.2.1]
      refine kZ Ds κ'.w hDs (fun D hD=>h2.own _ (hDb D hD)) ⟨v,nF hres ⟨h1.1,rfl,h1.2.2⟩ q1 i1,v,r',⟨fin κ'.w Ds,κ'.S⟩,rfl,rfl,q1.subm i3,p,ρ3,i2.mono q2,i4.mono q2,j3⟩
    cases e with
    | ret=>exact key k3
    | normal=>exact key k3
    | _=>exact k3.elim)))⟩
end
end SX
end Go.Proofs.YtmgcadfnkchnfaaDoor
set_option maxRecDepth 100000
namespace Go.Proofs.YtmgcadfnkchnfaaDoor
namespace SX
open Go Go.RowKit
def rX {X Y S T:Type} (step:S→X→Option (S⊕T)) (R:Y→S→List PRes) (R':T→List PRes) (r:S⊕T) (suf:List X):Exit→PPost:=fun e _ ρ=>match e with
 | .normal=>∃ y s,eO step s suf=some r∧PSub (R y s) ρ
 | .ret=>∃ t,r=.inr t∧PSub (R' t) ρ
 | _=>False
def asgK (n:Nat) (body:Code) (K:Exit→PPost):Exit→PPost:=fun e σ ρ=>match e with
 | .normal=>PWC n body K σ ρ
 | _=>False
theorem rY {β:Base} {ρ:List Res} {κ:Kr} {D:Nat} (h:Zb β ρ κ) (hD:κ.w.heap[D]?=some (.deferred (some []))) (hS:¬ κ.S D) (hρ:∀ r∈ρ,r.blk≠some D) (hM:β.k0.w.heap.size≤D):Zb β (p5 D::ρ) κ :=
 ⟨h.le,h.fin,fun r hr=>by
  rcases List.mem_cons.1 hr with rfl | hr
  ·exact hD
  ·exact h.own r hr,fun r hr b hb=>by
  rcases List.mem_cons.1 hr with rfl | hr
  ·injection hb with hb;subst hb;exact ⟨(Array.getElem?_eq_some_iff.1 hD).1,hS,.inl hM⟩
  exact h.blk r hr b hb,List.Pairwise.cons (fun r hr b hb e=>by injection hb with hb;subst hb;exact hρ r hr e) h.nd⟩
section
variable {X Y S T:Type} {n p:Nat} {g:Operand} {assign body:Code} {K:QPost} {σ:PEnv} {ρ:List PRes} {Ds:List Nat} {gf:Nat} {caps:List PV} {xp:X→PV} {xs:List X} {step:S→X→Option (S⊕T)} {s0:S} {r:S⊕T} {R:Y→S→List PRes} {R':T→List PRes} {y0:Y}
theorem eA (hr:eO step s0 xs=some r) (hg:aA σ g=.fn gf caps) (hseq:PSeq gf caps xp xs) (hp:Nat.blt p n=true) (hna:eD assign=true) (hnb:eD body=true) (h0:PSub (R y0 s0) ρ)
    (round:∀ y s x suf,eO step s (x::suf)=some r→PWC n assign (asgK n body (rX step R R' r suf)) (cE σ p (xp x)) (R y s))
    (done:∀ y s D,r=.inl s→K .normal σ (R y s) (D::Ds)) (stop:∀ t D,r=.inr t→K .ret σ (R' t) (D::Ds)):PWQ n (.rangeFunc g #[p] assign body) K σ ρ Ds:=fun κ0 ρ0 κ σ' ρ' gk hs hrr hi a ha Q hq=>by
  obtain ⟨lb,hlb,hcap⟩:∃ lb:List Value,ev σ' g=.func (.func gf) #[] lb.toArray∧Rps κ caps lb:=by
    have:=hs.ev g
    rw [hg] at this
    generalize ev σ' g=v at *
    cases this with
    | fn hc=>exact ⟨_,rfl,hc⟩
  obtain ⟨hok,hsq⟩:=hseq
  obtain ⟨xv,hxv,hS⟩:=hsq κ lb gk hi.fin hcap
  have hDs:∀ D∈Ds,D<κ.w.heap.size:=fun D hD=>(hi.blk (p5 D) (List.mem_append.2 (.inr (List.mem_map.2 ⟨D,hD,rfl⟩))) D rfl).1
  have hl:κ0.w.heap.size≤κ.w.heap.size:=hi.le.kle.size
  have hst:Rst ⟨κ0,ej ρ0,none⟩ κ Ds (fun _=>False) ρ κ.w:=⟨κ.S,ρ',hi,hrr,.refl _,fun b hb=>by
    have:=hi.fin b hb
    omega,fun r hr b hb=>by
    have:=(hi.blk r (List.mem_append.2 (.inl hr)) b hb).1
    exact ⟨by omega,fun h=>h⟩⟩
  have goOn:∀ (T:Nat→Prop) (ρq:List PRes) (W:World),Rst ⟨κ0,ej ρ0,none⟩ κ Ds T ρq W→W.heap[κ.w.heap.size]?=some (.deferred (some []))→∃ ρ'' κ'',κ''.w=W∧GOK κ''∧Sim κ'' σ σ'∧RRels κ'' ρq ρ''∧Zb ⟨κ0,ej ρ0,none⟩ (ρ''++oQ (κ.w.heap.size::Ds)) κ'':=fun T ρq W ⟨S',ρ'',h1,h2,h3,h4,h5⟩ hD=>by
    refine ⟨ρ'',⟨W,S'⟩,rfl,gk.mono h3,hs.mono h3,h2,(rY h1 hD (fun h=>(h4 _ h).1 rfl) (fun r hr e=>?_) hl).perm ?_⟩
    · rcases List.mem_append.1 hr with hr | hr
      · exact (h5 r hr _ e).1.1 rfl
      obtain ⟨D,hD,rfl⟩:=oS hr
      have:=hDs D hD
      injection e with e;omega
    exact List.perm_middle.symm
  have hrel:Rel (cls (κ.w.heap.size::Ds)) n { a with defers:=rT κ.w.heap.size::a.defers } σ':=⟨ha.1,by rw [ha.2.1];rfl,ha.2.2⟩
  refine rU (S:=κ.S) (xs:=xs) (encs:=xvs xv) (by rw [ha.eval,hlb]) hok hS hi.fin (fun _=>rfl)
    (fun T pre W=>∃ suf y s,xs=pre++suf∧eO step s suf=some r∧Rst ⟨κ0,ej ρ0,none⟩ κ Ds T (R y s) W)
    (fun c _ W=>c=.ret∧∃ t T,r=.inr t∧Rst ⟨κ0,ej ρ0,none⟩ κ Ds T (R' t) W)
    (fun T pre x a' W=>∃ suf σp ρp,xs=pre++x::suf∧PWC n body (rX step R R' r suf) σp ρp∧Ast ⟨κ0,ej ρ0,none⟩ κ Ds T n σp ρp a' W)
    (fun T pre A B ⟨suf,y,s,h1,h2,h3⟩ hg=>⟨suf,y,s,h1,h2,h3.gr hg⟩) (fun T pre A B ⟨suf,y,s,h1,h2,h3⟩ hg=>⟨suf,y,s,h1,h2,h3.ext hg⟩) (fun c pre A B ⟨h1,t,T,h2,h3⟩ hg=>⟨h1,t,T,h2,h3.gr hg⟩)
    (fun T pre W o ⟨suf,y,s,h1,h2,h3⟩=>⟨suf,y,s,h1,h2,h3.put o hDs hl⟩) (fun c pre W o ⟨h1,t,T,h2,h3⟩=>⟨h1,t,T,h2,h3.put o hDs hl⟩)
    (fun T pre x a' W o ⟨suf,σp,ρp,h1,h2,h3⟩=>⟨suf,σp,ρp,h1,h2,h3.put o hDs hl⟩) ⟨xs,y0,s0,rfl,hr,hst.sub h0⟩ ?_ ?_ ?_ ?_
  · rintro T pre x suf W hxs ⟨suf',y,s,e1,e2,S',ρ'',h1,h2,h3,h4,h5⟩ hT hW Kx hK
    have e3:suf'=x::suf:=List.append_cancel_left (e1.symm.trans hxs)
    subst e3
    have hx:x∈xs:=by rw [hxs];simp
    refine kb hna (round y s x suf e2) gk (fun b h=>h) hT hW (a:=_) ⟨S',ρ'',upd σ' p (xv x),h1,h2,h3,h4,h5,(hs.mono h3).upd (hxv x hx _),?_⟩ fun e a' W' σp' ρp' hk hA hkeep=>?_
    · have hr0:Rel [] n { tmps:=a.tmps,defers:=[] } σ':=⟨ha.1,rfl,ha.2.2⟩
      have h1:=hr0.put (d:=some p) hp (xv x)
      simpa [xvs,Act.put,fH] using h1
    cases e with
    | normal=>exact hK a' W' hkeep ⟨suf,σp',ρp',hxs,hk,hA⟩
    | _=>exact hk.elim
  · rintro T pre x suf a' W hxs ⟨suf',σp,ρp,e1,e2,e3⟩ hT hW
    have e4:x::suf'=x::suf:=List.append_cancel_left (e1.symm.trans hxs)
    injection e4 with _ e4
    subst e4
    refine kb hnb e2 gk (fun b h=>h) hT hW e3 fun e a'' W' σp' ρp' hk hA hkeep=>⟨hkeep,?_⟩
    cases e with
    | normal=>obtain ⟨y,s,k1,k2⟩:=hk;exact ⟨_,y,s,by rw [hxs];simp,k1,hA.rst.sub k2⟩
    | ret=>obtain ⟨t,k1,k2⟩:=hk;exact ⟨rfl,t,T,k1,hA.rst.sub k2⟩
    | _=>exact hk.elim
  · rintro T W ⟨suf,y,s,e1,e2,e3⟩ _ hD
    have e4:suf=[]:=by have:=congrArg List.length e1;rw [List.length_append] at this;exact List.eq_nil_of_length_eq_zero (by omega)
    subst e4
    obtain ⟨ρ'',κ'',rfl,k1,k2,k3,k4⟩:=goOn _ _ W e3 hD
    exact hq _ _ σ' ρ'' κ'' σ (R y s) _ k1 hrel k4 k2 k3 (done y s _ (Option.some.inj e2).symm)
  rintro c pre suf W _ ⟨rfl,t,T,e2,e3⟩ _ hD
  obtain ⟨ρ'',κ'',rfl,k1,k2,k3,k4⟩:=goOn _ _ W e3 hD
  exact wp_ret (hq _ _ σ' ρ'' κ'' σ (R' t) _ k1 hrel k4 k2 k3 (stop t _ e2))
def ia (id:Nat) (K:QPost):QPost:=fun e σ ρ Ds=>match e with
 | .exit id'=>cond (Nat.beq id' id) (K .normal σ ρ Ds) (K (.exit id') σ ρ Ds)
 | e=>K e σ ρ Ds
theorem eB {x:Code} {id:Nat} (h:PWQ n x (ia id K) σ ρ Ds):PWQ n (.block id x) K σ ρ Ds:=fun κ0 ρ0 κ σ' ρ' g hs hr hi a ha Q hq =>
 wp_block (h κ0 ρ0 κ σ' ρ' g hs hr hi a ha _ fun e a' σ'' ρ'' κ'' σp ρp Es g1 g2 g3 k1 k2 k3=>by
  cases e with
  | exit id' =>
   simp only [ia] at k3
   simp only [Exit.inBlock]
   cases hb:Nat.beq id' id
   ·have hne:id'≠id:=fun h=>by rw [h] at hb;simp at hb
    rw [hb] at k3;rw [if_neg hne];exact hq _ a' σ'' ρ'' κ'' σp ρp Es g1 g2 g3 k1 k2 k3
   ·have he:=Nat.eq_of_beq_eq_true hb
    rw [hb] at k3;rw [if_pos he];exact hq _ a' σ'' ρ'' κ'' σp ρp Es g1 g2 g3 k1 k2 k3
  | _=>exact hq _ a' σ'' ρ'' κ'' σp ρp Es g1 g2 g3 k1 k2 k3)
theorem eC {id:Nat} (h:K .normal σ ρ Ds):ia id K .normal σ ρ Ds:=h
theorem cR {id:Nat} (h:K .ret σ ρ Ds):ia id K .ret σ ρ Ds:=h
theorem iC {n:Nat} {Kb:Exit→PPost} (h:PWC n body Kb σ ρ):asgK n body Kb .normal σ ρ:=h
theorem p6 {s:S} {x:X} {suf:List X} (h:eO step s (x::suf)=some r):∃ o,step s x=some o∧((∃ s',o=.inl s'∧eO step s' suf=some r)∨∃ t,o=.inr t∧r=.inr t):=by
 unfold eO at h
 cases ho:step s x with
 | none=>rw [ho] at h;cases h
 | some o =>
  rw [ho] at h
  cases o with
  | inl s'=>exact ⟨_,rfl,.inl ⟨s',rfl,h⟩⟩
  | inr t=>exact ⟨_,rfl,.inr ⟨t,rfl,(Option.some.inj h).symm⟩⟩
def rndK (step:S→X→Option (S⊕T)) (r o:S⊕T) (suf:List X):Prop:=(∃ s',o=.inl s'∧eO step s' suf=some r)∨∃ t,o=.inr t∧r=.inr t
theorem iD {s:S} {x:X} {suf:List X} (h:eO step s (x::suf)=some r):∃ o,step s x=some o∧rndK step r o suf:=p6 h
theorem ib {suf:List X} {o:S⊕T} {s:S} (h:some (Sum.inl s)=some o) (hk:rndK step r o suf) (y:Y) (hs:PSub (R y s) ρ):rX step R R' r suf .normal σ ρ:=by
 obtain rfl:=Option.some.inj h
 rcases hk with ⟨s',h1,h2⟩ | ⟨t,h1,_⟩
 ·injection h1 with h1;subst h1;exact ⟨y,s,h2,hs⟩
 cases h1
theorem pk_rngR {suf:List X} {o:S⊕T} {t:T} (h:some (Sum.inr t)=some o) (hk:rndK step r o suf) (hs:PSub (R' t) ρ):rX step R R' r suf .ret σ ρ:=by
 obtain rfl:=Option.some.inj h
 rcases hk with ⟨s',h1,h2⟩ | ⟨t',h1,h2⟩
 ·cases h1
 injection h1 with h1;subst h1;exact ⟨t,h2,hs⟩
theorem pwq_sub {c:Code} {ρ':List PRes} (hs:PSub ρ' ρ) (h:PWQ n c K σ ρ' Ds):PWQ n c K σ ρ Ds:=fun κ0 ρ0 κ σ' ρ1 g hm hr hi=>by
 obtain ⟨ρ2,⟨l,hl⟩,k2⟩:=hr.sub hs
 refine h κ0 ρ0 κ σ' ρ2 g hm k2 ((hi.perm (?_:(ρ1++oQ Ds).Perm ((ρ2++oQ Ds)++l))).sub (List.sublist_append_left _ _))
 rw [List.append_assoc]
 exact (List.Perm.append_right _ hl).trans (by rw [List.append_assoc];exact List.Perm.append_left _ List.perm_append_comm)
end
theorem ng {n:Nat} {K:QPost} {σ:PEnv} {ρ:List PRes} {Ds:List Nat} {α:Type} {enc:α→List PV} {xs:List α} {c:Code} {a:Option Addr} {m cp T' sz:Nat} (hm:PRes.row a m cp T' sz (xs.map enc)∈ρ) (h:xs.length=m→(0<m→a=some ⟨ablk a,0,none⟩)→PWQ n c K σ ρ Ds):PWQ n c K σ ρ Ds:=fun κ0 ρ0 κ σ' ρ' g hs hr hi=>by
 obtain ⟨r,hr1,hr2⟩:=hr.mem hm
 cases hr2 with
 | row hb ho hc =>
  have h1:=hi.own _ (List.mem_append.2 (.inl hr1))
  have e1:=(gS h1).2.1;have e2:=hc.len;rw [List.length_map] at e2
  exact h (by omega) (fun h0=>mG h1 h0) κ0 ρ0 κ σ' ρ' g hs hr hi
end SX
end Go.Proofs.YtmgcadfnkchnfaaDoor
set_option maxRecDepth 100000
namespace Go.Proofs.YtmgcadfnkchnfaaDoor
namespace SX
open Go Go.RowKit
theorem op_inW {o:Oper} {K K':Act→World→Prop} {Q1:Act→World→Prop} {Q:Exit→Act→World→Prop} {a:Act} {w:World} (hk:∀ a w,K a w→K' a w) (h:o.wp Tryd.prog a w K (NP Q1)):o.wpIn Fence.wide 0 Tryd.prog a w K' Q:=by
  refine ⟨fun _ _=>trivial,?_⟩
  rw [show Fence.wide.round=none from rfl,Oper.semAt_none]
  unfold Oper.wp at h
  generalize (execOp a.eval o).run Tryd.prog w=r at *
  cases r with
  | ok v w' =>
    cases v <;> simp only [Oper.upon,Oper.uponIn] at h ⊢ <;> first
      | exact hk _ _ h
      | exact ⟨fun h=>(by cases h),CallsIn.mono (callsIn_wide.2 h) fun e w'' he=>by
          cases e with
          | returned v=>exact hk _ _ he
          | panicked c=>exact absurd he.1 (by simp)
          | outgrown=>exact absurd he ft⟩
      | exact ⟨fun h=>(by cases h),fun c cs _=>let ⟨v,w',r,s⟩:=h c cs;⟨v,w',hk _ _ r,stepsIn_wide.2 s⟩⟩
      | exact h.elim
  | halt v w'=>cases v <;> simp only [Oper.upon,Oper.uponIn] at h ⊢ <;> first
      | exact h.elim
      | exact absurd h.1 (by simp)
theorem ic {ops:Array Oper} {Q1:Act→World→Prop} {Q:Exit→Act→World→Prop} {rest:List Oper} (hk:∀ a w,Q1 a w→wpListIn Fence.wide 0 Tryd.prog ops Q rest a w):∀ (l:List Oper) (a:Act) (w:World),wpList Tryd.prog ops (NP Q1) l a w→wpListIn Fence.wide 0 Tryd.prog ops Q (l++rest) a w
 | [],a,w,h=>hk a w h.2
 | o::l,a,w,h=>by
  unfold wpList at h
  rw [List.cons_append]
  unfold wpListIn
  split
  ·rename_i hw
   rw [if_pos hw] at h
   rcases h with h | h
   ·exact op_inW (fun a w=>ic hk l a w) h
   exact absurd h.2 ft
  rename_i hw
  rw [if_neg hw] at h
  exact ⟨fun _ _=>trivial,ic hk l _ w h⟩
theorem kC {o:Oper} {a:Act} {w:World} {t arg:Operand} {ts:Array Nat} {l:Nat} {v:Value} {fn:FuncId} {tmps:Array Value} {assign body:Code} (ho:o.op=.call { callee:=.value t,args:=#[arg],argTypes:=ts }) (ht:a.eval t=.func (.yield l) #[] #[]) (hv:a.eval arg=v)
    (hy:(Instr.yield l #[v]).run Tryd.prog w=.ok (.round l fn tmps assign body) w):(execOp a.eval o).run Tryd.prog w=.ok (.round l fn tmps assign body) w:=by
  subst hv
  unfold execOp
  simp only [ho,ht,resolve,Deferred.ofValue,Sem.run_bind,Sem.run_pure,Result.andThen_ok,invoke]
  simpa using hy
structure Yld {X:Type} (l:Nat) (J:(Nat→Prop)→List X→World→Prop) (Jx:List X→World→Prop) (S0:Nat→Prop) (xs:List X) (xp:X→PV) (xv:X→Value):Prop where
  st:∀ T,StN (J T)
  stx:StN Jx
  yl:∀ (T:Nat→Prop) (pre:List X) (x:X) (suf:List X) (A W1:World),xs=pre++x::suf→J T pre A→Gr A W1→YieldAt Fence.wide 0 Tryd.prog l (xvs xv x) W1 fun e W' =>
      (e=.returned (.bool true)∧J (TT T A W1) (pre++[x]) W'∧Keep (fun b=>S0 b∨TT T A W1 b) W1 W')∨(e=.returned (.bool false)∧Jx (pre++[x]) W'∧Keep (fun b=>S0 b∨TT T A W1 b) W1 W')
  un:∀ x κ v,Rp κ (xp x) v→v=xv x
section
variable {X:Type} (l:Nat) (J:(Nat→Prop)→List X→World→Prop) (Jx:List X→World→Prop) (S0:Nat→Prop) (xs:List X)
def JJ:List X⊕List X→(Nat→Prop)→World→Prop
 | .inl pre,T,W=>J T pre W
 | .inr pre,_,W=>Jx pre W∧∃ suf,xs=pre++suf
abbrev IPost (X:Type):=Exit→PEnv→List PRes→List X⊕List X→Prop
def PWI (n:Nat) (c:Code) (K:IPost X) (σp:PEnv) (ρp:List PRes) (P:List X⊕List X):Prop :=
 ∀ κA (T:Nat→Prop) κ σ ρ,GOK κ→Sim κ σp σ→RRels κ ρp ρ→Zb ⟨κA,[],none⟩ ρ κ→(∀ b,κA.S b→S0 b∨T b)→JJ J Jx xs P T κA.w→∀ a,Rel [] n a σ→∀ Q:Exit→Act→World→Prop,
  (∀ e a' κB (T':Nat→Prop) σ' ρ' κ' σq ρq P',GOK κ'→Rel [] n a' σ'→Zb ⟨κB,[],none⟩ ρ' κ'→(∀ b,κB.S b→S0 b∨T' b)→Sim κ' σq σ'→RRels κ' ρq ρ'→JJ J Jx xs P' T' κB.w→K e σq ρq P'→Q e a' κ'.w)→c.wp Tryd.prog Q a κ.w
end
section
variable {X:Type} {l:Nat} {J:(Nat→Prop)→List X→World→Prop} {Jx:List X→World→Prop} {S0:Nat→Prop} {xs:List X} {xp:X→PV} {xv:X→Value} {n:Nat} {x y:Code} {K:IPost X} {σ:PEnv} {ρ:List PRes} {P:List X⊕List X}
theorem cT (h:PWC n x (fun e σ ρ=>K e σ ρ P) σ ρ):PWI J Jx S0 xs n x K σ ρ P:=fun κA T κ σ' ρ' g hs hr hi hA hJ a ha Q hq =>
 h ⟨κA,[],none⟩ κ σ' ρ' g hs hr hi a ha _ fun e a' σ'' ρ'' κ'' g1 g2 g3 ⟨σp,ρp,k1,k2,k3⟩=>hq e a' κA T σ'' ρ'' κ'' σp ρp P (g.mono g3) g1 g2 hA k1 k2 hJ k3
def rZ (J:(Nat→Prop)→List X→World→Prop) (Jx:List X→World→Prop) (S0:Nat→Prop) (xs:List X) (n:Nat) (y:Code) (K:IPost X):IPost X:=fun e σ ρ P=>match e with
 | .normal=>PWI J Jx S0 xs n y K σ ρ P
 | e=>K e σ ρ P
theorem dx (h:PWI J Jx S0 xs n x (rZ J Jx S0 xs n y K) σ ρ P):PWI J Jx S0 xs n (.seq x y) K σ ρ P:=fun κA T κ σ' ρ' g hs hr hi hA hJ a ha Q hq =>
 wp_seq (h κA T κ σ' ρ' g hs hr hi hA hJ a ha _ fun e a' κB T' σ'' ρ'' κ'' σp ρp P' g1 g2 g3 g4 k1 k2 k3 k4=>by
  cases e with
  | normal=>exact k4 κB T' κ'' σ'' ρ'' g1 k1 k2 g3 g4 k3 a' g2 Q hq
  | _=>exact hq _ a' κB T' σ'' ρ'' κ'' σp ρp P' g1 g2 g3 g4 k1 k2 k3 k4)
def ie (id:Nat) (K:IPost X):IPost X:=fun e σ ρ P=>match e with
 | .exit id'=>cond (Nat.beq id' id) (K .normal σ ρ P) (K (.exit id') σ ρ P)
 | e=>K e σ ρ P
theorem gi {id:Nat} (h:PWI J Jx S0 xs n x (ie id K) σ ρ P):PWI J Jx S0 xs n (.block id x) K σ ρ P:=fun κA T κ σ' ρ' g hs hr hi hA hJ a ha Q hq =>
 wp_block (h κA T κ σ' ρ' g hs hr hi hA hJ a ha _ fun e a' κB T' σ'' ρ'' κ'' σp ρp P' g1 g2 g3 g4 k1 k2 k3 k4=>by
  cases e with
  | exit id' =>
   simp only [ie] at k4
   simp only [Exit.inBlock]
   cases hb:Nat.beq id' id
   ·have hne:id'≠id:=fun h=>by rw [h] at hb;simp at hb
    rw [hb] at k4;rw [if_neg hne];exact hq _ a' κB T' σ'' ρ'' κ'' σp ρp P' g1 g2 g3 g4 k1 k2 k3 k4
   ·have he:=Nat.eq_of_beq_eq_true hb
    rw [hb] at k4;rw [if_pos he];exact hq _ a' κB T' σ'' ρ'' κ'' σp ρp P' g1 g2 g3 g4 k1 k2 k3 k4
  | _=>exact hq _ a' κB T' σ'' ρ'' κ'' σp ρp P' g1 g2 g3 g4 k1 k2 k3 k4)
theorem eP {c:Operand} {p:Bool} (hc:aA σ c=.v (.bool p)) (ht:p=true→PWI J Jx S0 xs n x K σ ρ P) (hf:p=false→PWI J Jx S0 xs n y K σ ρ P):PWI J Jx S0 xs n (.cond c x y) K σ ρ P:=fun κA T κ σ' ρ' g hs hr hi hA hJ a ha Q hq=>by
 have hv:=hs.ev c
 rw [hc] at hv
 exact wp_cond_split (t:=p) (by rw [ha.eval];exact hv.val) (fun h=>ht h κA T κ σ' ρ' g hs hr hi hA hJ a ha Q hq) (fun h=>hf h κA T κ σ' ρ' g hs hr hi hA hJ a ha Q hq)
theorem nh {Z:Type} (L:Z→List (Nat×PV)) (R:Z→List X⊕List X) (μ:Z→Nat) (z0:Z) (h0:PHolds σ (L z0)) (hP:P=R z0)
    (round:∀ z τ,PWI J Jx S0 xs n x (fun e σ ρ P=>match e with | .normal=>∃ z',PHolds σ (L z')∧P=R z'∧μ z'<μ z | e=>K e σ ρ P) (bj τ (L z)) [] (R z)):PWI J Jx S0 xs n (.loop x) K σ ρ P:=fun κA T κ σ' ρ' g hs hr hi hA hJ a ha Q hq=>by
  subst hP
  refine mg (ro:=none) (fun z a w=>∃ κA T κ σp σ',w=κ.w∧GOK κ∧Sim κ σp σ'∧PHolds σp (L z)∧Zb ⟨κA,[],none⟩ [] κ∧(∀ b,κA.S b→S0 b∨T b)∧JJ J Jx xs (R z) T κA.w∧Rel [] n a σ') μ z0 ⟨κA,T,κ,σ,σ',rfl,g,hs,h0,hi.sub (List.nil_sublist _),hA,hJ,ha⟩ fun z a w ⟨κA,T,κ,σp,σ',hw,g,hs,hL,hi,hA,hJ,ha⟩=>?_
  subst hw
  refine round z σp κA T κ σ' [] g (by rw [eH hL];exact hs) .nil hi hA hJ a ha _ fun e a' κB T' σ'' ρ'' κ'' σq ρq P' g1 g2 g3 g4 k1 k2 k3 k4=>?_
  cases e with
  | normal =>
    obtain ⟨z',h1,h2,h3⟩:=k4
    subst h2
    exact ⟨z',⟨κB,T',κ'',σq,σ'',rfl,g1,k1,h1,g3.sub (List.nil_sublist _),g4,k3,g2⟩,h3⟩
  | _=>exact hq _ a' κB T' σ'' ρ'' κ'' σq ρq P' g1 g2 g3 g4 k1 k2 k3 k4
def YK (l:Nat) (J:(Nat→Prop)→List X→World→Prop) (Jx:List X→World→Prop) (S0:Nat→Prop) (xs:List X) (xp:X→PV) (n:Nat) (ops:Array Oper) (y:Oper) (l2:List Oper) (K:IPost X) (pre:List X):PPost:=fun σ ρ =>
 ∃ c d,∃ pval:Bool→PV,PGuardIs ops σ y c∧y.dst=some d∧Nat.blt d n=true∧(∀ b,c=true→pval b=pB b)∧(∀ b,c=false→pval b=.v undef) ∧
  (c=true→∃ t arg ts x suf,y.op=.call { callee:=.value t,args:=#[arg],argTypes:=ts }∧aA σ t=.v (.func (.yield l) #[] #[])∧aA σ arg=xp x∧xs=pre++x::suf ∧
   PWL n ops l2 (fun σ ρ=>K .normal σ ρ (.inl (pre++[x]))) (cE σ d (pval true)) []∧PWL n ops l2 (fun σ ρ=>K .normal σ ρ (.inr (pre++[x]))) (cE σ d (pval false)) []) ∧
  (c=false→PWL n ops l2 (fun σ ρ=>K .normal σ ρ (.inl pre)) (cE σ d (pval true)) ρ)
theorem r4 {id:Nat} {l1 l2:List Oper} {o:Oper} {pre:List X} (hY:Yld l J Jx S0 xs xp xv) (h:PWL n (l1++o::l2).toArray l1 (YK l J Jx S0 xs xp n (l1++o::l2).toArray o l2 K pre) σ ρ):PWI J Jx S0 xs n (.region id (l1++o::l2).toArray false) K σ ρ (.inl pre):=fun κA T κ σ' ρ' g hs hr hi hA hJ a ha Q hq=>by
 refine wpIn_wide (n:=0).1 (wpIn_region_lit (ic (fun a w hQ=>hQ) l1 a κ.w (h ⟨κA,[],none⟩ κ σ' ρ' g hs hr hi a ha (NP fun a w=>wpListIn Fence.wide 0 Tryd.prog (l1++o::l2).toArray Q (o::l2) a w) fun a' σ1 ρ1 κ1 g1 g2 g3 ⟨σp,ρp,k1,k2,k3⟩=>⟨rfl,?_⟩)))
 obtain ⟨c,d,pval,hg,hd,hlt,hpt,hpf,hT,hF⟩:=k3
 have gk:=g.mono g3
 have rest:∀ (P':List X⊕List X) (κB:Kr) (T':Nat→Prop) (σq:PEnv) (ρq:List PRes) (σ2:Env) (ρ2:List Res) (κ2:Kr) (a2:Act),PWL n (l1++o::l2).toArray l2 (fun σ ρ=>K .normal σ ρ P') σq ρq→GOK κ2→Sim κ2 σq σ2→RRels κ2 ρq ρ2→Zb ⟨κB,[],none⟩ ρ2 κ2→(∀ b,κB.S b→S0 b∨T' b)→JJ J Jx xs P' T' κB.w→Rel [] n a2 σ2→wpListIn Fence.wide 0 Tryd.prog (l1++o::l2).toArray Q l2 a2 κ2.w:=fun P' κB T' σq ρq σ2 ρ2 κ2 a2 hl q1 q2 q3 q4 q5 q6 q7=>by
  have:=ic (Q:=Q) (rest:=[]) (fun a w hQ=>hQ) l2 a2 κ2.w (hl ⟨κB,[],none⟩ κ2 σ2 ρ2 q1 q2 q3 q4 a2 q7 (NP fun a w=>Q .normal a w) fun a' σ3 ρ3 κ3 j1 j2 j3 ⟨σr,ρr,i1,i2,i3⟩=>⟨rfl,hq .normal a' κB T' σ3 ρ3 κ3 σr ρr P' (q1.mono j3) j1 j2 q5 i1 i2 q6 i3⟩)
  rwa [List.append_nil] at this
 have hwant:=hg κ1 σ1 k1
 unfold GuardIs at hwant
 unfold wpListIn
 rw [dz g1,hwant]
 cases c with
 | false =>
  rw [if_neg (by simp)]
  have hundef:Rp κ1 (pval true) undef:=by rw [hpf _ rfl];exact Rp.v (x:=undef) rfl
  refine ⟨fun _ _=>trivial,rest (.inl pre) κA T _ ρp _ ρ1 κ1 _ (hF rfl) gk (k1.upd (d:=d) hundef) k2 g2 hA hJ ?_⟩
  have:=g1.put (d:=o.dst) (bW hd hlt) undef
  rwa [bE hd] at this
 | true =>
  rw [if_pos rfl]
  obtain ⟨t,arg,ts,x,suf,ho,ht,harg,hxs,hA1,hA2⟩:=hT rfl
  have hev:a'.eval=ev σ1:=g1.eval
  have htv:a'.eval t=.func (.yield l) #[] #[]:=by rw [hev];have:=k1.ev t;rw [ht] at this;exact this.val
  have hav:a'.eval arg=xv x:=by rw [hev];exact hY.un x κ1 _ (by have:=k1.ev arg;rwa [harg] at this)
  have hGr:Gr κA.w κ1.w:=⟨g2.le.kle.size,g2.le.os,g2.le.tape,g2.le.output,g2.le.drawn,fun b hb=>g2.le.same b hb (by simp)⟩
  obtain ⟨fn,tmps,assign,body,hy,hR⟩:=hY.yl T pre x suf κA.w κ1.w hxs hJ hGr
  refine ⟨fun _ _=>trivial,?_⟩
  rw [show Fence.wide.round=none from rfl,Oper.semAt_none,kC ho htv hav hy,Oper.uponIn_round]
  refine ⟨fun h=>(by cases h),RoundIn.mono hR ?_⟩
  have hS:∀ b,κ1.S b→S0 b∨TT T κA.w κ1.w b:=fun b hb=>by
   rcases g2.le.shNew b hb with h | h | h
   ·rcases hA b h with h | h
    ·exact .inl h
    exact .inr (.inl h)
   ·exact .inr (.inr ⟨h,g2.fin b hb⟩)
   exact absurd h (by simp)
  have fin2:∀ (bv:Bool) (W':World) (P':List X⊕List X),Keep (fun b=>S0 b∨TT T κA.w κ1.w b) κ1.w W'→JJ J Jx xs P' (TT T κA.w κ1.w) W'→PWL n (l1++o::l2).toArray l2 (fun σ ρ=>K .normal σ ρ P') (cE σp d (pval bv)) []→wpListIn Fence.wide 0 Tryd.prog (l1++o::l2).toArray Q l2 (a'.put o.dst (.bool bv)) W':=fun bv W' P' hK' hJ' hl=>by
   have hk:Kle κ1 ⟨W',κ1.S⟩:=⟨hK'.size,fun _ h=>h,fun b hb=>hK'.blk b (hS b hb)⟩
   have hb:Rp ⟨W',κ1.S⟩ (pval bv) (.bool bv):=by rw [hpt _ rfl];exact Rp.v (x:=.bool bv) rfl
   have h2:=g1.put (d:=o.dst) (bW hd hlt) (.bool bv)
   rw [bE hd] at h2
   exact rest P' ⟨W',κ1.S⟩ (TT T κA.w κ1.w) _ [] (upd σ1 d (.bool bv)) [] ⟨W',κ1.S⟩ (a'.put o.dst (.bool bv)) hl (gk.mono hk) ((k1.mono hk).upd (d:=d) hb) .nil ⟨.refl _ _,fun b hb=>Nat.lt_of_lt_of_le (g2.fin b hb) hK'.size,fun r hr=>(by cases hr),fun r hr=>(by cases hr),.nil⟩ hS hJ' h2
  rintro e W' (⟨rfl,hJ',hK'⟩ | ⟨rfl,hJ',hK'⟩)
  ·exact fin2 true W' (.inl (pre++[x])) hK' hJ' hA1
  exact fin2 false W' (.inr (pre++[x])) hK' ⟨hJ',suf,by rw [hxs];simp⟩ hA2
theorem k7 {id:Nat} {L:List Oper} (k:Nat) {l2:List Oper} {o:Oper} {pre:List X} (hk:L.drop k=o::l2) (hY:Yld l J Jx S0 xs xp xv) (h:PWL n L.toArray (L.take k) (YK l J Jx S0 xs xp n L.toArray o l2 K pre) σ ρ):PWI J Jx S0 xs n (.region id L.toArray false) K σ ρ (.inl pre):=by
 have e:L=L.take k++o::l2:=by rw [← hk,List.take_append_drop]
 generalize L.take k=l1 at *
 subst e
 exact r4 hY h
theorem cg (h:PWI J Jx S0 xs n y K σ ρ P):rZ J Jx S0 xs n y K .normal σ ρ P:=h
theorem ig {id:Nat} (h:K (.exit id) σ ρ P):rZ J Jx S0 xs n y K (.exit id) σ ρ P:=h
theorem iE {id:Nat} (h:K .normal σ ρ P):ie id K .normal σ ρ P:=h
theorem ii {id:Nat} (h:K .normal σ ρ P):ie id K (.exit id) σ ρ P:=by
 unfold ie;simp only [show Nat.beq id id=true by simp,dM];exact h
def itK (xs:List X):IPost X:=fun e _ _ P=>(e=.ret∨e=.normal)∧(P=.inl xs∨∃ pre,P=.inr pre)
end
theorem oU {X:Type} {gf n:Nat} {fn:Func} {c:Code} {caps:List PV} {xp:X→PV} {xs:List X} (xv:X→Value) (hf:Tryd.prog.funcs[gf]?=some fn) (hok:FnOk gf) (hb:fn.body=some c) (hn:fn.ntmps=n) (hres:fn.results=([]:List ResultVar).toArray) (hsz:Nat.ble (caps.length+1) n=true)
    (hx:∀ κ lb,Rps κ caps lb→∀ x∈xs,∀ κ',Rp κ' (xp x) (xv x)) (hun:∀ x κ v,Rp κ (xp x) v→v=xv x)
    (h:∀ l J Jx S0,Yld l J Jx S0 xs xp xv→PWI J Jx S0 xs n c (itK xs) (kM (.v (.func (.yield l) #[] #[])::caps)) [] (.inl [])):PSeq gf caps xp xs :=
  ⟨hok,fun κ lb g hfin hcap=>⟨xv,hx κ lb hcap,fun l J Jx W hkeep hst hstx hyl h0=>by
    have hk:Kle κ ⟨W,κ.S⟩:=⟨hkeep.size,fun _ h=>h,fun b hb=>hkeep.blk b hb⟩
    have hargs:Rps ⟨W,κ.S⟩ (.v (.func (.yield l) #[] #[])::caps) (.func (.yield l) #[] #[]::lb):=.cons (.v (x:=.func (.yield l) #[] #[]) rfl) (hcap.mono hk)
    have e:(#[.func (.yield l) #[] #[]]++lb.toArray:Array Value)=(Value.func (.yield l) #[] #[]::lb).toArray:=by simp
    rw [e]
    have hrel:=jr (Value.func (.yield l) #[] #[]::lb).toArray n (by have:=Nat.le_of_ble_eq_true hsz;have h2:=hcap.len;simp;omega)
    refine calls_of_wp hf hb ?_
    rw [hn]
    refine h l J Jx κ.S ⟨hst,hstx,hyl,hun⟩ ⟨W,κ.S⟩ (fun _=>False) ⟨W,κ.S⟩ _ [] (g.mono hk) (sim0 hargs) .nil ⟨.refl _ _,fun b hb=>Nat.lt_of_lt_of_le (hfin b hb) hkeep.size,fun r hr=>(by cases hr),fun r hr=>(by cases hr),.nil⟩ (fun b hb=>.inl hb) h0 _ hrel _ ?_
    intro e a' κB T' σ' ρ' κ' σq ρq P' g1 g2 g3 g4 k1 k2 k3 ⟨ke,kP⟩
    have hGr:Gr κB.w κ'.w:=⟨g3.le.kle.size,g3.le.os,g3.le.tape,g3.le.output,g3.le.drawn,fun b hb=>g3.le.same b hb (by simp)⟩
    have key:(∃ T,J T xs κ'.w)∨∃ pre suf,xs=pre++suf∧Jx pre κ'.w:=by
      rcases kP with rfl | ⟨pre,rfl⟩
      · exact .inl ⟨T',hst T' _ _ _ k3 hGr⟩
      obtain ⟨h1,suf,h2⟩:=k3;exact .inr ⟨pre,suf,h2,hstx _ _ _ h1 hGr⟩
    have fin:a'.defers=[]∧∃ v,(results fn a'.tmps).run Tryd.prog κ'.w=.ok v κ'.w∧((∃ v',Ending.returned v=.returned v')∧((∃ T,J T xs κ'.w)∨∃ pre suf,xs=pre++suf∧Jx pre κ'.w)) :=
      ⟨g2.2.1,.tuple #[],nF hres g2 g3 rfl,⟨_,rfl⟩,key⟩
    rcases ke with rfl | rfl
    · exact fin
    exact fin⟩⟩
end SX
end Go.Proofs.YtmgcadfnkchnfaaDoor
set_option maxRecDepth 100000
namespace Go.Proofs.YtmgcadfnkchnfaaDoor
namespace SX
open Go Go.RowKit
attribute [local irreducible] PWL PWC PWD POpL POpQ PEv PGuardIs PSub PPick PUpd PSplice PFill PLit PF PFV PCall FOk fG eg jF jG fR gw Cov PHolds bZ idx app mk gd lb nz ge0 cat sub kx pD ior pE nN i5 de pF IntKind.wrap Int.tmod Int.tdiv Op.bytesLess strOfNums
def DFp (x:Za):PV:=.agg (ah x)
def DFv (x:Za):Value:=.agg [.int .i64 x.From,.int .i64 x.Number,.int .i64 x.Day,.int .i64 x.Kind,.string x.Country,.int .i64 x.Amount,.int .i64 x.Company].toArray
theorem jl {x:Za} {κ:Kr} {ds:List Value} (h:Rps κ (Za.enc x) ds):ds=[.int .i64 x.From,.int .i64 x.Number,.int .i64 x.Day,.int .i64 x.Kind,.string x.Country,.int .i64 x.Amount,.int .i64 x.Company]∧je (.string x.Country)=true:=by
 unfold Za.enc at h
 cases h with | cons h1 h=>cases h with | cons h2 h=>cases h with | cons h3 h=>cases h with | cons h4 h=>cases h with | cons h5 h=>cases h with | cons h6 h=>cases h with | cons h7 h=>cases h with | nil =>
  rw [h1.val,h2.val,h3.val,h4.val,h5.val,h6.val,h7.val]
  exact ⟨rfl,by have:=h5.val;subst this;exact h5.ok⟩
theorem df_un (x:Za) (κ:Kr) (v:Value) (h:Rp κ (DFp x) v):v=DFv x:=by
 unfold DFp at h
 cases h with
 | agg h1 h=>rw [(jl (x:=x) h).1];rfl
theorem df_rp {x:Za} {κ κ':Kr} {ds:List Value} (h:Rps κ (Za.enc x) ds) (h1:One ds):Rp κ' (DFp x) (DFv x):=by
 obtain ⟨e,hok⟩:=jl h
 subst e
 refine .agg h1 ?_
 exact .cons (.v (x:=.int .i64 _) rfl) (.cons (.v (x:=.int .i64 _) rfl) (.cons (.v (x:=.int .i64 _) rfl) (.cons (.v (x:=.int .i64 _) rfl) (.cons (.v hok) (.cons (.v (x:=.int .i64 _) rfl) (.cons (.v (x:=.int .i64 _) rfl) .nil))))))
theorem oV {κ:Kr}:∀ {xs:List Za} {css:List (List Value)},Rpss κ (xs.map Za.enc) css→Ones css→∀ x∈xs,∀ κ',Rp κ' (DFp x) (DFv x)
 | [],_,_,_,_,hx,_=>by cases hx
 | y::xs,_,.cons h hs,h1,x,hx,κ'=>by
  rcases List.mem_cons.1 hx with rfl | hx
  ·exact df_rp h (h1 _ (by simp))
  exact oV hs (fun d hd=>h1 d (by simp [hd])) x hx κ'
theorem r5 {κ:Kr} {xs:List Za} {caps:List PV} {lb:List Value} (h:Rps κ (.ref [pL Za.enc xs] 0::caps) lb):∀ x∈xs,∀ κ',Rp κ' (DFp x) (DFv x):=by
 cases h with | cons h _=>cases h with | ref _ _ hs=>cases hs with | cons h _=>cases h with | slc _ _ h1 hs=>exact oV hs h1
theorem ni {ops:Array Oper} {σ:PEnv} {o:Oper} (h:o.guard=none):PGuardIs ops σ o true:=by unfold PGuardIs;exact fun κ σ' hm=>ju h
theorem p7 {σ:PEnv} {c:Bool} {x:Operand} {p:PV} (h:aA σ x=p):PEv σ c x p:=by unfold PEv;exact fun _=>h
theorem k8 {σ:PEnv} {c:Bool} {x:Operand} {p:PV} (h:aA σ x=pgv c p):PEv σ c x p:=by unfold PEv;intro hc;rw [h,hc];exact dq _
theorem r6 {α:Type} {xs:List α} {k:Nat} (h:k<xs.length):idx xs (k:Int)=some xs[k]:=by
 unfold idx;rw [if_pos (by omega)];simp [h]
theorem i64n {k n:Nat} (hk:k<n) (hn:n≤140737488355328):IntKind.i64.wrap ((k:Int)+1)=((k+1:Nat):Int):=by
 rw [gN (by omega)];omega
theorem ob {p1:List Za} (hb:p1.length≤140737488355328):PSeq 34 [.ref [pL Za.enc p1] 0] DFp p1:=by
 refine oU DFv Tryd.func34 (fnk Tryd.func34 rfl) rfl Tryd.ntmps34 Tryd.results34 rfl (fun κ lb h=>r5 h) df_un fun l J Jx S0 hY=>?_
 refine dx (cT ?_)
 refine aG [] [] [(5,pL Za.enc p1),(6,pI (p1.length:Int)),(7,pI 0)] bT (by kernel_rfl) (cg ?_)
 refine gi ?_
 refine nh (Z:={ i:Nat // i≤p1.length }) (fun i=>[(0,.v (.func (.yield l) #[] #[])),(5,pL Za.enc p1),(6,pI (p1.length:Int)),(7,pI (i.1:Int))]) (fun i=>.inl (p1.take i.1)) (fun i=>p1.length - i.1) ⟨0,Nat.zero_le _⟩ (by (repeat (first | exact pz | apply iS rfl))) rfl ?_
 rintro ⟨i,hi⟩ τ;dsimp only [bj]
 refine dx (cT ?_)
 refine aG [] [] [(8,pB (decide ((i:Int)<(p1.length:Int))))] bT (by kernel_rfl) (cg ?_)
 refine dx (eP rfl (fun hc=>cT ?_) fun hc=>cT ?_)
 ·have hlt:i<p1.length:=by have:=of_decide_eq_true hc;omega
  refine ak (cg ?_)
  refine dx (gi (dx (cT ?_)))
  have hm5:=r6 hlt
  have hxs:p1=p1.take i++p1[i]::p1.drop (i+1):=by rw [List.getElem_cons_drop];simp
  have htk:p1.take (i+1)=p1.take i++[p1[i]]:=by rw [List.take_add_one,List.getElem?_eq_getElem hlt];rfl
  generalize p1[i]=m5 at *
  refine af ?_
  refine bc 2 [] [9] [(10,.agg (ah m5))] (ky 0 Za.enc hm5 bT) (by kernel_rfl) ?_
  refine jE rfl rfl rfl (aT (cs:=[pI 0,pI 0,pI 0,pI 0,pS ByteArray.empty,pI 0,pI 0]) rfl rfl rfl rfl (fun b6=>?_))
  refine aB rfl rfl (ag (vs:=(ah m5)) rfl rfl rfl rfl rfl (by (repeat (first | exact cS | apply em))) (by (repeat (first | exact zln | apply i6 | apply cC))) ?_)
  refine aw (cg ?_)
  refine dx (k7 2 rfl hY ?_)
  refine eV [0] [] [(11,.v (.func (.yield l) #[] #[])),(12,.agg (ah m5))] bT (by kernel_rfl) ?_
  refine ⟨true,13,pB,ni rfl,rfl,rfl,fun _ _=>rfl,fun _ h=>(by cases h),fun _=>⟨.tmp 11,.tmp 12,_,m5,_,rfl,rfl,rfl,hxs,?_,?_⟩,fun h=>(by cases h)⟩
  ·refine eV [] [13] [(14,pB (!true))] bT (by kernel_rfl) (cg ?_)
   refine eP rfl (fun hc=>(by cases hc)) fun _=>cT (ak (iE (cg (cT ?_))))
   refine aG [] [15] [(7,pI (IntKind.i64.wrap ((i:Int)+1)))] bT (by kernel_rfl) ?_
   rw [i64n hlt hb]
   refine ⟨⟨i+1,hlt⟩,(by (repeat (first | exact pz | apply iS rfl))),?_,(by show p1.length - (i+1)<p1.length - i;omega)⟩
   show Sum.inl _=Sum.inl (p1.take (i+1))
   rw [htk]
  refine eV [] [13] [(14,pB (!false))] bT (by kernel_rfl) (cg ?_)
  refine eP rfl (fun hc=>cT (cF ?_)) fun hc=>(by cases hc)
  exact ⟨.inl rfl,.inr ⟨_,rfl⟩⟩
 have hge:i=p1.length:=by have:=of_decide_eq_false hc;omega
 subst hge
 refine cj (ig ?_)
 refine ii ?_
 rw [List.take_length]
 exact ⟨.inr rfl,.inl rfl⟩
def gF (p1:List Za) (p2 p3:Int):List Za:=p1.filter fun x=>(x.Kind == p2)&&(decide (x.Day≤p3))
theorem od {p1:List Za} {p2 p3:Int} (hb:p1.length≤140737488355328):PSeq 37 [.ref [pL Za.enc p1] 0,.ref [pI p2] 0,.ref [pI p3] 0] DFp (gF p1 p2 p3):=by
 refine oU DFv Tryd.func37 (fnk Tryd.func37 rfl) rfl Tryd.ntmps37 Tryd.results37 rfl (fun κ lb h x hx=>r5 h x (List.mem_filter.1 hx).1) df_un fun l J Jx S0 hY=>?_
 refine dx (cT ?_)
 refine aG [] [] [(7,pL Za.enc p1),(8,pI (p1.length:Int)),(9,pI 0)] bT (by kernel_rfl) (cg ?_)
 refine gi ?_
 refine nh (Z:={ i:Nat // i≤p1.length }) (fun i=>[(0,.v (.func (.yield l) #[] #[])),(2,.ref [pI p2] 0),(3,.ref [pI p3] 0),(7,pL Za.enc p1),(8,pI (p1.length:Int)),(9,pI (i.1:Int))]) (fun i=>.inl (gF (p1.take i.1) p2 p3)) (fun i=>p1.length - i.1) ⟨0,Nat.zero_le _⟩ (by (repeat (first | exact pz | apply iS rfl))) rfl ?_
 rintro ⟨i,hi⟩ τ;dsimp only [bj]
 refine dx (cT ?_)
 refine aG [] [] [(10,pB (decide ((i:Int)<(p1.length:Int))))] bT (by kernel_rfl) (cg ?_)
 refine dx (eP rfl (fun hc=>cT ?_) fun hc=>cT ?_)
 ·have hlt:i<p1.length:=by have:=of_decide_eq_true hc;omega
  refine ak (cg ?_)
  refine dx (gi (dx (cT ?_)))
  have hm5:=r6 hlt
  have hxs:p1=p1.take i++p1[i]::p1.drop (i+1):=by rw [List.getElem_cons_drop];simp
  have htk:p1.take (i+1)=p1.take i++[p1[i]]:=by rw [List.take_add_one,List.getElem?_eq_getElem hlt];rfl
  generalize p1[i]=m5 at *
  have htk2:gF (p1.take (i+1)) p2 p3=cond ((m5.Kind == p2)&&(decide (m5.Day≤p3))) (gF (p1.take i) p2 p3++[m5]) (gF (p1.take i) p2 p3):=by
   rw [htk];unfold gF;rw [List.filter_append,List.filter_cons];cases ((m5.Kind == p2)&&(decide (m5.Day≤p3))) <;> simp
  refine af ?_
  refine bc 2 [] [11] [(12,.agg (ah m5))] (ky 0 Za.enc hm5 bT) (by kernel_rfl) ?_
  refine jE rfl rfl rfl (aT (cs:=[pI 0,pI 0,pI 0,pI 0,pS ByteArray.empty,pI 0,pI 0]) rfl rfl rfl rfl (fun b6=>?_))
  refine aB rfl rfl (ag (vs:=(ah m5)) rfl rfl rfl rfl rfl (by (repeat (first | exact cS | apply em))) (by (repeat (first | exact zln | apply i6 | apply cC))) ?_)
  refine aw (cg ?_)
  refine dx (k7 13 rfl hY ?_)
  refine eV [0,0,0] [13,14,15,16,17,18,19,20,21,22] [(23,pB ((m5.Kind == p2)&&(decide (m5.Day≤p3)))),(24,pgv ((m5.Kind == p2)&&(decide (m5.Day≤p3))) (.v (.func (.yield l) #[] #[]))),(25,pgv ((m5.Kind == p2)&&(decide (m5.Day≤p3))) (.agg (ah m5)))] bT (by kernel_rfl) ?_
  refine ⟨(m5.Kind == p2)&&(decide (m5.Day≤p3)),26,fun b=>pgv ((m5.Kind == p2)&&(decide (m5.Day≤p3))) (pB b),fQ rfl rfl rfl,rfl,rfl,fun b h=>by rw [h];exact dq _,fun b h=>by rw [h];exact iv _,fun hC=>⟨.tmp 24,.tmp 25,_,m5,gF (p1.drop (i+1)) p2 p3,rfl,?_,?_,?_,?_,?_⟩,fun hC=>?_⟩
  ·show pgv _ _=_;rw [hC];exact dq _
  ·show pgv _ _=_;rw [hC];exact dq _
  ·conv=>lhs;rw [hxs]
   unfold gF;rw [List.filter_append,List.filter_cons,hC];rfl
  ·refine lF (c:=(m5.Kind == p2)&&(decide (m5.Day≤p3))) (fQ rfl rfl rfl) rfl rfl (lH (p:=true) rfl (k8 rfl)) ?_
   refine dr rfl rfl rfl (lG (p:=(m5.Kind == p2)&&(decide (m5.Day≤p3))) (q := !true) rfl (p7 rfl) (p7 rfl) (k8 rfl)) (aw (cg ?_))
   refine eP rfl (fun hc=>absurd hc (by simp)) fun _=>cT (ak (iE (cg (cT ?_))))
   refine aG [] [29] [(9,pI (IntKind.i64.wrap ((i:Int)+1)))] bT (by kernel_rfl) ?_
   rw [i64n hlt hb]
   refine ⟨⟨i+1,hlt⟩,(by (repeat (first | exact pz | apply iS rfl))),?_,(by show p1.length - (i+1)<p1.length - i;omega)⟩
   show Sum.inl _=Sum.inl (gF (p1.take (i+1)) p2 p3)
   rw [htk2,hC];rfl
  ·refine lF (c:=(m5.Kind == p2)&&(decide (m5.Day≤p3))) (fQ rfl rfl rfl) rfl rfl (lH (p:=false) rfl (k8 rfl)) ?_
   refine dr rfl rfl rfl (lG (p:=(m5.Kind == p2)&&(decide (m5.Day≤p3))) (q := !false) rfl (p7 rfl) (p7 rfl) (k8 rfl)) (aw (cg ?_))
   refine eP rfl (fun hc=>cT (cF ?_)) fun hc=>absurd hc (by rw [hC];simp)
   exact ⟨.inl rfl,.inr ⟨_,rfl⟩⟩
  refine lF (c:=(m5.Kind == p2)&&(decide (m5.Day≤p3))) (fQ rfl rfl rfl) rfl rfl (lH (p:=true) rfl (k8 rfl)) ?_
  refine dr rfl rfl rfl (lG (p:=(m5.Kind == p2)&&(decide (m5.Day≤p3))) (q := !true) rfl (p7 rfl) (p7 rfl) (k8 rfl)) (aw (cg ?_))
  refine eP rfl (fun hc=>absurd hc (by simp)) fun _=>cT (ak (iE (cg (cT ?_))))
  refine aG [] [29] [(9,pI (IntKind.i64.wrap ((i:Int)+1)))] bT (by kernel_rfl) ?_
  rw [i64n hlt hb]
  refine ⟨⟨i+1,hlt⟩,(by (repeat (first | exact pz | apply iS rfl))),?_,(by show p1.length - (i+1)<p1.length - i;omega)⟩
  show Sum.inl _=Sum.inl (gF (p1.take (i+1)) p2 p3)
  rw [htk2,hC];rfl
 have hge:i=p1.length:=by have:=of_decide_eq_false hc;omega
 subst hge
 refine cj (ig ?_)
 refine ii ?_
 rw [List.take_length]
 exact ⟨.inr rfl,.inl rfl⟩
end SX
end Go.Proofs.YtmgcadfnkchnfaaDoor
namespace Go.Proofs.YtmgcadfnkchnfaaDoor
namespace SX
open Go
def iH (a b:Int):Int:=if a<b then -1 else if b<a then 1 else 0
theorem cmpI (a b:Int):bJ a b=some (iH a b):=by
 unfold bJ dt iH
 simp only [bne_self_eq_false,d7,eT]
 by_cases h:a<b
 ·rw [det h,if_pos h];rfl
 rw [dy h,if_neg h]
 by_cases h2:b<a
 ·rw [det h2,if_pos h2];rfl
 rw [dy h2,if_neg h2];rfl
theorem r7 (a b:Int):ea [a,b]=some (if a=0 then b else a):=by
 unfold ea
 refine (iA (l:=[a,b]) (by simp) (fun _ x=>cond (x != 0) (some (.inr x)) none) (.inl ()) (fun k hk=>?_) (by rw [dnlt];rfl)).trans ?_
 ·rw [dlt hk,dM,kv (ei hk),oN hk (by simp)]
  cases ([a,b][k] != 0) <;> rfl
 rw [jZ (fun x:Int=>x != 0) (fun x=>(Sum.inr x:Unit⊕Int))]
 by_cases ha:a=0
 ·subst ha
  by_cases hb:b=0
  ·subst hb;rfl
  simp [hb]
 simp [ha]
def dI (x y:Za):Int:=if iH x.From y.From=0 then iH x.Number y.Number else iH x.From y.From
def k9 (x y:Za):Int:=if iH x.Day y.Day=0 then dI x y else iH x.Day y.Day
theorem ij (x y:Za):br x y=some (dI x y):=by
 unfold br dI
 rw [cmpI,cmpI]
 simp only [d7,r7]
theorem r8 (x y:Za):eY x y=some (k9 x y):=by
 unfold eY k9
 rw [cmpI,ij]
 simp only [d7,r7]
def aQ (x y:Za):Bool:=decide (x.From<y.From)||(decide (x.From=y.From)&&decide (x.Number<y.Number))
def bC (x y:Za):Bool:=decide (x.Day<y.Day)||(decide (x.Day=y.Day)&&aQ x y)
theorem kf (a b:Int):iH a b<0↔a<b:=by unfold iH;split <;> (try split) <;> omega
theorem dJ (a b:Int):iH a b=0↔a=b:=by unfold iH;split <;> (try split) <;> omega
theorem iI (x y:Za):decide (dI x y<0)=aQ x y:=by
 unfold dI aQ
 by_cases h:x.From=y.From
 ·rw [if_pos ((dJ _ _).2 h),decide_eq_decide.2 (kf _ _),det h,dy (by omega:¬ x.From<y.From)];rfl
 rw [if_neg (fun e=>h ((dJ _ _).1 e)),dy h,show decide (iH x.From y.From<0)=decide (x.From<y.From) from decide_eq_decide.2 (kf _ _)];simp
theorem r9:ltOf k9=bC:=by
 funext x y
 unfold ltOf k9 bC
 by_cases h:x.Day=y.Day
 ·rw [if_pos ((dJ _ _).2 h),iI,det h,dy (by omega:¬ x.Day<y.Day)];rfl
 rw [if_neg (fun e=>h ((dJ _ _).1 e)),dy h,show decide (iH x.Day y.Day<0)=decide (x.Day<y.Day) from decide_eq_decide.2 (kf _ _)];simp
theorem gj (x y:Za):bC x y=true↔x.Day<y.Day∨(x.Day=y.Day∧(x.From<y.From∨(x.From=y.From∧x.Number<y.Number))):=by simp [bC,aQ]
theorem lc (x y:Za):bC x y=false↔¬ (x.Day<y.Day∨(x.Day=y.Day∧(x.From<y.From∨(x.From=y.From∧x.Number<y.Number)))):=by rw [← gj];simp
theorem ld (x:Za):bC x x=false:=by rw [lc];omega
theorem nj (x y z:Za):bC x y=true→bC y z=true→bC x z=true:=by simp only [gj];omega
theorem lf (x y z:Za):bC x y=false→bC y z=false→bC x z=false:=by simp only [lc];omega
def dif:List Za→Bool
 | []=>true
 | x::l=>l.all (fun y=>bC x y||bC y x)&&dif l
theorem oW:∀ {l:List Za},dif l=true→∀ x∈l,∀ y∈l,bC x y=false→bC y x=false→x=y
 | [],_,_,hx,_,_,_,_=>by cases hx
 | z::l,h,x,hx0,y,hy0,h1,h2=>by
  simp only [dif,Bool.and_eq_true,List.all_eq_true,Bool.or_eq_true] at h
  rcases List.mem_cons.1 hx0 with rfl | hx
  ·rcases List.mem_cons.1 hy0 with hy | hy
   ·exact hy.symm
   rcases h.1 y hy with e | e
   ·rw [e] at h1;cases h1
   rw [e] at h2;cases h2
  rcases List.mem_cons.1 hy0 with e0 | hy
  ·subst e0
   rcases h.1 x hx with e | e
   ·rw [e] at h2;cases h2
   rw [e] at h1;cases h1
  exact oW h.2 x hx y hy h1 h2
theorem oX {α β:Type} {lt:α→α→Bool} {lt':β→β→Bool} {f:β→α} (h:∀ a b,lt (f a) (f b)=lt' a b) (x:β):∀ l:List β,(ez lt' x l).map f=ez lt (f x) (l.map f)
 | []=>rfl
 | y::l=>by
  rw [List.map_cons,ez,ez,h]
  cases lt' y x
  ·rfl
  simp only [dM,List.map_cons,oX h x l]
theorem lg {α β:Type} {lt:α→α→Bool} {lt':β→β→Bool} {f:β→α} (h:∀ a b,lt (f a) (f b)=lt' a b):∀ l:List β,(bK lt' l).map f=bK lt (l.map f)
 | []=>rfl
 | x::l=>by rw [bK,oX h,lg h l,List.map_cons,bK]
def av (l:List Za):Option (List Za):=cond (dif l) (some (bK bC l)) none
def sb (x:Za):List Value:=[.int .i64 x.From,.int .i64 x.Number,.int .i64 x.Day,.int .i64 x.Kind,.string x.Country,.int .i64 x.Amount,.int .i64 x.Company]
theorem sd {κ:Kr}:∀ {xs:List Za} {css:List (List Value)},Rpss κ (xs.map Za.enc) css→∀ x∈xs,je (.string x.Country)=true
 | [],_,_,_,hx=>by cases hx
 | y::xs,_,.cons h hs,x,hx=>by
  rcases List.mem_cons.1 hx with rfl | hx
  ·exact (jl h).2
  exact sd hs x hx
theorem bD {p0 r:List Za} (h:av p0=some r) {a:Option Addr} {n c:Nat}:PCall 33 [.v (.slice a n c),.fn 23 []] [PRes.row a n c 28 7 (List.map Za.enc p0)] (fun pv ρ'=>pv=.tup []∧ρ'=[PRes.row a n c 28 7 (List.map Za.enc r)]):=fun κ args ρ gk ha hr=>by
 unfold av at h
 cases hd:dif p0 with
 | false=>rw [hd] at h;cases h
 | true =>
 rw [hd] at h
 obtain rfl:=Option.some.inj h
 have hok:∀ x∈p0,je (.string x.Country)=true:=by
  cases hr with | cons hr1 _=>cases hr1 with | row _ _ hc=>exact sd hc
 obtain ⟨q,hq,hp,z,hz,hzo⟩:∃ q:List Za,dif q=true∧(∀ x∈p0,x∈q)∧∃ z∈q,je (.string z.Country)=true:=by
  cases p0 with
  | nil=>exact ⟨[⟨0,0,0,0,ByteArray.empty,0,0⟩],rfl,(fun x hx=>nomatch hx),_,List.mem_singleton.2 rfl,rfl⟩
  | cons y l=>exact ⟨y::l,hd,(fun x hx=>hx),y,by simp,hok y (by simp)⟩
 have hsub:∀ x∈p0,x∈q∧je (.string x.Country)=true:=fun x hx=>⟨hp x hx,hok x hx⟩
 letI:Inhabited { x:Za // x∈q∧je (.string x.Country)=true }:=⟨⟨z,hz,hzo⟩⟩
 have hlt:(ltOf fun x y:{ x:Za // x∈q∧je (.string x.Country)=true }=>k9 x.1 y.1)=fun x y=>bC x.1 y.1:=by
  funext x y;rw [← r9];rfl
 have e1:(p0.pmap Subtype.mk hsub).map (fun x=>x.1)=p0:=by rw [List.map_pmap];simp
 have e2:(bK (fun x y:{ x:Za // x∈q∧je (.string x.Country)=true }=>bC x.1 y.1) (p0.pmap Subtype.mk hsub)).map (fun x=>x.1)=bK bC p0:=by
  rw [lg (lt:=bC) (fun _ _=>rfl),e1]
 have key:=callSF (α:={ x:Za // x∈q∧je (.string x.Country)=true }) (T:=28) (enc:=fun x=>Za.enc x.1) (encV:=fun x=>sb x.1) Tryd.lSD rfl (fnk Tryd.func33 rfl) (fnk Tryd.func23 rfl) Tryd.isAgg28 Tryd.sizeOf28 (fun _=>rfl)
  (fun x v hv=>by unfold sb at hv;simp only [List.mem_cons,List.not_mem_nil,or_false] at hv;rcases hv with rfl | rfl | rfl | rfl | rfl | rfl | rfl <;> rfl) (fun κ x ds h=>(jl h).1) (fun κ x=>.cons (.v rfl) (.cons (.v rfl) (.cons (.v rfl) (.cons (.v rfl) (.cons (.v x.2.2) (.cons (.v rfl) (.cons (.v rfl) .nil)))))))
  (fun x y=>k9 x.1 y.1) (by rw [hlt];exact ⟨fun x=>ld _,fun x y z=>nj _ _ _,fun x y z=>lf _ _ _⟩) (by rw [hlt];exact fun x y h1 h2=>Subtype.ext (oW hq _ x.2.1 _ y.2.1 h1 h2)) (fun x y=>j5 (r8 x.1 y.1)) (p0:=p0.pmap Subtype.mk hsub) (a:=a) (n:=n) (c:=c)
 rw [hlt] at key
 have m1:∀ l:List { x:Za // x∈q∧je (.string x.Country)=true },List.map (fun x=>Za.enc x.1) l=List.map Za.enc (l.map fun x=>x.1):=fun l=>by rw [List.map_map];rfl
 rw [m1,m1,e1,e2] at key
 exact key κ args ρ gk ha hr
end SX
end Go.Proofs.YtmgcadfnkchnfaaDoor
set_option maxRecDepth 100000
namespace Go.Proofs.YtmgcadfnkchnfaaDoor
namespace SX
open Go Go.RowKit
attribute [local irreducible] PWL PWC PWD POpL POpQ PEv PGuardIs PSub PPick PUpd PSplice PFill PLit PF PFV PCall FOk fG eg jF jG fR gw Cov PHolds bZ idx app mk gd lb nz ge0 cat sub kx pD ior pE nN i5 de pF IntKind.wrap Int.tmod Int.tdiv Op.bytesLess strOfNums
def iJ (l:List Za):Bool:=Nat.ble l.length 140737488355328
def aD (p0:List Za):Option (List Za):=cond (iJ p0) (some p0) none
def bM (p0:List Za) (p1 p2:Int):Option (List Za):=cond (iJ p0) (some (gF p0 p1 p2)) none
theorem nl {l:List Za} {x r:List Za} (h:cond (iJ l) (some x) none=some r):l.length≤140737488355328∧x=r:=by
 cases hc:iJ l with
 | false=>rw [hc] at h;cases h
 | true=>rw [hc] at h;exact ⟨Nat.le_of_ble_eq_true hc,Option.some.inj h⟩
theorem cA {p0 r:List Za} (h:aD p0=some r):PSeq 34 [.ref [pL Za.enc p0] 0] DFp r:=by
 obtain ⟨hb,rfl⟩:=nl h;exact ob hb
theorem cx {p0 r:List Za} {p1 p2:Int} (h:bM p0 p1 p2=some r):PSeq 37 [.ref [pL Za.enc p0] 0,.ref [pI p1] 0,.ref [pI p2] 0] DFp r:=by
 obtain ⟨hb,rfl⟩:=nl h;exact od hb
theorem cJ {p0 r:List Za} (h:aD p0=some r):PF 22 [pL Za.enc p0] (.fn 34 [.ref [pL Za.enc p0] 0]):=by
 refine bP ?_
 refine aP Tryd.func22 rfl Tryd.ntmps22 Tryd.results22 rfl ?_
 refine ae ?_
 refine af ?_
 refine jE rfl rfl rfl (cG (cs:=[pL Za.enc p0]) rfl rfl (fun b1=>?_))
 refine dr rfl rfl rfl (bN (p:=.v .nilFunc) rfl (.p rfl)) ?_
 refine aw ?_
 refine ai ?_
 refine ae ?_
 refine af ?_
 refine jf 1 rfl (by (repeat (first | exact cz | apply cU))) ?_
 refine dr rfl rfl rfl (fT rfl) ?_
 refine dr rfl rfl rfl (bN (p:=.fn 34 [.ref [pL Za.enc p0] 0]) rfl (.p rfl)) ?_
 refine aw ?_
 refine ai ?_
 refine cF ?_
 exact aN (eJ (aV rfl)) eR ⟨rfl,rfl⟩
theorem cP {p0 r:List Za} {p1 p2:Int} (h:bM p0 p1 p2=some r):PF 24 [pL Za.enc p0,pI p1,pI p2] (.fn 37 [.ref [pL Za.enc p0] 0,.ref [pI p1] 0,.ref [pI p2] 0]):=by
 refine bP ?_
 refine aP Tryd.func24 rfl Tryd.ntmps24 Tryd.results24 rfl ?_
 refine ae ?_
 refine af ?_
 refine jE rfl rfl rfl (cG (cs:=[pL Za.enc p0]) rfl rfl (fun b1=>?_))
 refine jE rfl rfl rfl (cG (cs:=[pI p1]) rfl rfl (fun b2=>?_))
 refine jE rfl rfl rfl (cG (cs:=[pI p2]) rfl rfl (fun b3=>?_))
 refine dr rfl rfl rfl (bN (p:=.v .nilFunc) rfl (.p rfl)) ?_
 refine aw ?_
 refine ai ?_
 refine ae ?_
 refine af ?_
 refine jf 3 rfl (by (repeat (first | exact cz | apply cU))) ?_
 refine jf 4 rfl (by (repeat (first | exact cz | apply cU))) ?_
 refine jf 5 rfl (by (repeat (first | exact cz | apply cU))) ?_
 refine dr rfl rfl rfl (fT rfl) ?_
 refine dr rfl rfl rfl (bN (p:=.fn 37 [.ref [pL Za.enc p0] 0,.ref [pI p1] 0,.ref [pI p2] 0]) rfl (.p rfl)) ?_
 refine aw ?_
 refine ai ?_
 refine cF ?_
 exact aN (eJ (aV rfl)) eR ⟨rfl,rfl⟩
end SX
end Go.Proofs.YtmgcadfnkchnfaaDoor
set_option maxRecDepth 100000
namespace Go.Proofs.YtmgcadfnkchnfaaDoor
namespace SX
open Go Go.RowKit
section
variable {β:Base} {o:Oper} {σ:Env} {ρ:List Res} {κ:Kr} {c:Bool} {x y:Operand}
theorem oq_cap {t n cp E:Nat} {a:Option Addr} (ho:o.op=.call { callee:=.builtin .cap,args:=#[x],argTypes:=#[t] }) (hu:cL t=some (.slice E)) (hx:Ev σ c x (.slice a n cp)):OpQ c o σ ρ κ (.int .i64 (cp:Int)):=fun hc w _=>by
 simp [execOp,ho,resolve,invoke,builtin,Builtin.cap_,hx hc,run_underlying (aO hu),goInt]
theorem kg {r r':Res} {l:List Res} (h:Zb β (r::l) κ) (hb:r'.blk=r.blk) (hs:r'.holds κ.w):Zb β (r'::l) κ :=
 ⟨h.le,h.fin,fun s hs'=>by
  rcases List.mem_cons.1 hs' with rfl | hs'
  ·exact hs
  ·exact h.own s (by simp [hs']),fun s hs' b hbs=>by
  rcases List.mem_cons.1 hs' with rfl | hs'
  ·exact h.blk r (by simp) b (hb ▸ hbs)
  exact h.blk s (by simp [hs']) b hbs,List.Pairwise.cons (fun s hs' b hbs=>(List.pairwise_cons.1 h.nd).1 s hs' b (hb ▸ hbs)) (List.pairwise_cons.1 h.nd).2⟩
theorem oY {m b n cp T sz:Nat} {css:List (List Value)} {l:List Res} {X:Code} {K:Exit→Post} (hp:Pick ρ (Res.row (some ⟨b,0,none⟩) n cp T sz css) l)
    (h:∀ junk,n≤cp→cp≤maxLen→css.length=n→(∀ cs∈css,cs.length=sz)→(css.flatten++junk).length=cp*sz→WC β m X K σ (Res.b b T (css.flatten++junk)::l) κ):WC β m X K σ ρ κ:=fun hi=>by
  have hi2:=hi.perm hp
  obtain ⟨_,h2,h3,h4,h5,cur,h6,h7,h8⟩:=hi2.own _ (List.mem_cons_self)
  have e:css.flatten++cur.toList.drop (n*sz)=cur.toList:=by rw [← h8,List.take_append_drop]
  refine h (cur.toList.drop (n*sz)) h4 h5 h2 h3 (by rw [e];simpa using h7) (kg hi2 rfl ?_)
  show _=some _
  rw [h6,e]
theorem lh {b n cp T sz:Nat} {cs:List Value} {css:List (List Value)} {l:List Res} (hp:Pick ρ (Res.b b T cs) l) (h2:css.length=n) (h3:∀ cs∈css,cs.length=sz) (h4:n≤cp) (h5:cp≤maxLen) (h7:cs.length=cp*sz) (h8:cs.take (n*sz)=css.flatten) :
    Shift ρ κ [Res.row (some ⟨b,0,none⟩) n cp T sz css] κ:=⟨rfl,fun β hi=>⟨by
  have hi2:=hi.perm hp
  have hb:κ.w.heap[b]?=some (.cells cs.toArray T (0,0)):=hi2.own _ (List.mem_cons_self)
  have:=kg (r':=Res.row (some ⟨b,0,none⟩) n cp T sz css) hi2 rfl ⟨rfl,h2,h3,h4,h5,cs.toArray,hb,by simpa using h7,by simpa using h8⟩
  exact this.sub (List.singleton_sublist.2 (by simp)),.refl _⟩⟩
theorem lW {w:World} {b off T dl dc sl sc m t ty E sz by':Nat} {cs vs:List Value} {sa:Option Addr} {z:Value} (hu:cL t=some (.slice E)) (hi:dj E=some (z,sz,by')) (hb:w.heap[b]?=some (.cells cs.toArray T (0,0))) (hm:Nat.min sl dl=m) (hv:vs.length=m*sz)
    (hsrc:∃ ad,sa=some ad∧∀ j u,vs[j]?=some u→w.cell? (ad.add j)=some u) (h1:vs.all Value.oneCell'=true) (hl:off+vs.length≤cs.length) :
    ∃ w',(Builtin.copy_ #[t,t] ty #[.slice (some ⟨b,off,none⟩) dl dc,.slice sa sl sc]).run Tryd.prog w=.ok (.int .i64 (m:Int)) w'∧(∀ i,i≠b→w'.heap[i]?=w.heap[i]?)∧w'.heap.size=w.heap.size∧w'.heap[b]?=some (.cells (cs.take off++vs++cs.drop (off+vs.length)).toArray T (0,0))∧w'.os=w.os∧w'.tape=w.tape∧w'.output=w.output:=by
  obtain ⟨w',hrun,g⟩:=gu hb hl h1
  obtain ⟨ad,rfl,hcell⟩:=hsrc
  refine ⟨w',?_,g⟩
  have hf:=run_firstCells_some (P:=Tryd.prog) w sz m ad sl sc vs hv hcell
  simp only [Builtin.copy_,Sem.run_bind,run_underlying (aO hu),Result.andThen_ok,Builtin.lenOf,Sem.run_pure,hm,ba hi,hf]
  simp [hm,hf,hrun,goInt,Builtin.lenOf,run_underlying (aO hu),ba hi]
theorem ik {K:Value→List Res→Kr→Prop} {d s:Operand} {b off T dl dc sl sc m t E sz by':Nat} {cs vs:List Value} {sa:Option Addr} {z:Value} {ρ':List Res} (ho:o.op=.call { callee:=.builtin .copy,args:=#[d,s],argTypes:=#[t,t] }) (hu:cL t=some (.slice E)) (hi:dj E=some (z,sz,by'))
    (hd:ev σ d=.slice (some ⟨b,off,none⟩) dl dc) (hs:ev σ s=.slice sa sl sc) (hm:Nat.min sl dl=m) (hv:vs.length=m*sz) (hsrc:∀ w,Stab ρ κ w→∃ ad,sa=some ad∧∀ j u,vs[j]?=some u→w.cell? (ad.add j)=some u) (h1:vs.all Value.oneCell'=true) (hl:off+vs.length≤cs.length)
    (hup:Upd ρ (Res.b b T cs) (Res.b b T (cs.take off++vs++cs.drop (off+vs.length))) ρ') (h:∀ κ',Kle κ κ'→K (.int .i64 (m:Int)) ρ' κ'):OpL o σ ρ κ K:=fun β hinv Nx hk=>by
  obtain ⟨l1,l2,hρ,hρ'⟩:=hup
  have hb:κ.w.heap[b]?=some (.cells cs.toArray T (0,0)):=hinv.own (Res.b b T cs) (by rw [hρ];simp)
  obtain ⟨w',hrun,g1,g2,g3,g4,g5,g6⟩:=lW (ty:=o.type) hu hi hb hm hv (hsrc _ hinv.stab) h1 hl
  unfold execOp
  simp only [ho,resolve,invoke,builtin,Sem.run_bind,Sem.run_pure,Result.andThen_ok,List.map_toArray,List.map_cons,List.map_nil,hd,hs]
  rw [hrun]
  simp only [Result.andThen_ok,OutV]
  obtain ⟨hi',hk'⟩:=hinv.turn (r:=Res.b b T cs) (r':=Res.b b T (cs.take off++vs++cs.drop (off+vs.length))) hρ rfl rfl g1 g2 g3 g4 g5 g6 (iq _ _ _ _ _ hrun)
  rw [← hρ'] at hi'
  exact hk _ _ _ hi' hk' (h _ hk')
theorem gy (z:Array Value) (n:Nat):(Builtin.zeroCells z n).size=n*z.size:=by simp [Builtin.zeroCells]
theorem f0 {w:World} {t tn ty E sz by' n c k:Nat} {z:Value} {a:Addr} {vs:List Value} (hu:cL t=some (.slice E)) (hx:cL tn=some (.int .i64)) (hi:dj E=some (z,sz,by')) (hz:0<sz) (hby:by'≤1000) (hk:0<k) (hc:c<n+k) (hn:n+k≤201)
    (hv:vs.length=n*sz) (hsrc:∀ j u,vs[j]?=some u→w.cell? (a.add j)=some u) :
    (Builtin.append_ #[t,tn] ty #[.slice (some a) n c,.int .i64 (k:Int)]).run Tryd.prog w =
      .ok (.slice (some ⟨w.heap.size,0,none⟩) (n+k) (grownCap w (n+k) c E)) (w.drew.alloc (.cells (vs.toArray++Builtin.zeroCells z.cells k++Builtin.zeroCells z.cells (grownCap w (n+k) c E - (n+k))) E)):=by
  obtain ⟨i,hinf,hz0,hsz,hbyt⟩:=gM hi
  have hw:IntKind.i64.wrap (k:Int)=k:=gN (by omega)
  have hf:=run_firstCells_some (P:=Tryd.prog) w.drew sz n a n c vs hv hsrc
  have hb1:¬ (281474976710656<(k:Int)*(i.bytes:Int)):=by
    rw [hbyt]
    have:k*by'≤201*1000:=Nat.mul_le_mul (by omega) hby
    have e:(k:Int)*(by':Int)=((k*by':Nat):Int):=by simp
    omega
  have hnc:¬ (n+k≤c):=by omega
  have hb2:¬ (281474976710656<Builtin.nextslicecap (n+k) c*i.bytes):=by
    rw [hbyt]
    have hle:Builtin.nextslicecap (n+k) c≤402:=by
      unfold Builtin.nextslicecap
      split
      · omega
      rw [if_pos (by omega)];omega
    have:Builtin.nextslicecap (n+k) c*by'≤402*1000:=Nat.mul_le_mul hle hby
    omega
  have h63:¬ (9223372036854775807<((n:Int)+(k:Int))):=by omega
  have hks:¬ (k=0∨sz=0):=by omega
  have hk0:¬ ((k:Int)<0):=by omega
  simp [Builtin.append_,run_underlying (aO hu),run_underlying (aO hx),ba hi,typeInfo,zeroValue,hinf,hz0,asInt,asIntOf,hw,hk0,hb1,hb2,hnc,h63,hks,Question.forced,newRow,grownCap,hf]
  intro h;exact absurd (Nat.mul_eq_zero.1 h) hks
theorem ol_appZ {K:Value→List Res→Kr→Prop} {s:Operand} {t tn E sz by' n cp k:Nat} {z:Value} {a:Addr} {vs:List Value} (ho:o.op=.call { callee:=.builtin .append,args:=#[s,x],argTypes:=#[t,tn] }) (hu:cL t=some (.slice E)) (hx:cL tn=some (.int .i64)) (hi:dj E=some (z,sz,by')) (hz:0<sz) (hzs:z.cells.size=sz) (hby:by'≤1000) (hk:0<k) (hc:cp<n+k) (hn:n+k≤201)
    (hs:ev σ s=.slice (some a) n cp) (hxv:ev σ x=.int .i64 (k:Int)) (hv:vs.length=n*sz) (hsrc:∀ w,Stab ρ κ w→∀ j u,vs[j]?=some u→w.cell? (a.add j)=some u)
    (h:∀ b c' zs κ',Kle κ κ'→n+k≤c'→c'≤maxLen→(vs++zs).length=c'*sz→K (.slice (some ⟨b,0,none⟩) (n+k) c') (Res.b b E (vs++zs)::ρ) κ'):OpL o σ ρ κ K:=fun β hinv Nx hK=>by
  have hrun:=f0 (ty:=o.type) hu hx hi hz hby hk hc hn hv (hsrc _ hinv.stab)
  unfold execOp
  simp only [ho,resolve,invoke,builtin,Sem.run_bind,Sem.run_pure,Result.andThen_ok,List.map_toArray,List.map_cons,List.map_nil,hs,hxv]
  rw [hrun]
  simp only [Result.andThen_ok,OutV]
  have hge:=grownCap_ge κ.w (n+k) cp E
  have hle:=grownCap_le_maxLen κ.w (n+k) cp E (by unfold maxLen;omega)
  generalize grownCap κ.w (n+k) cp E=g at *
  have e:(vs.toArray++Builtin.zeroCells z.cells k++Builtin.zeroCells z.cells (g - (n+k)))=(vs++((Builtin.zeroCells z.cells k).toList++(Builtin.zeroCells z.cells (g - (n+k))).toList)).toArray:=by
    rw [← List.append_assoc];simp
  rw [e]
  have hk1:Kle κ ⟨κ.w.drew,κ.S⟩:=⟨Nat.le_refl _,fun _ h=>h,fun _ _=>rfl⟩
  have hi2:Zb β ρ ⟨κ.w.drew,κ.S⟩:=hinv.drew
  have hlen:(vs++((Builtin.zeroCells z.cells k).toList++(Builtin.zeroCells z.cells (g - (n+k))).toList)).length=g*sz:=by
    have l1:(Builtin.zeroCells z.cells k).toList.length=k*sz:=by rw [Array.length_toList,gy,hzs]
    have l2:(Builtin.zeroCells z.cells (g - (n+k))).toList.length=(g - (n+k))*sz:=by rw [Array.length_toList,gy,hzs]
    rw [List.length_append,List.length_append,l1,l2,hv,← Nat.add_mul,← Nat.add_mul]
    congr 1;omega
  have hi3:=hi2.alloc (.cells (vs++((Builtin.zeroCells z.cells k).toList++(Builtin.zeroCells z.cells (g - (n+k))).toList)).toArray E) (Res.b κ.w.heap.size E (vs++((Builtin.zeroCells z.cells k).toList++(Builtin.zeroCells z.cells (g - (n+k))).toList))) rfl rfl
  have hk2:=hk1.trans (db hi2.fin (.cells (vs++((Builtin.zeroCells z.cells k).toList++(Builtin.zeroCells z.cells (g - (n+k))).toList)).toArray E))
  exact hK _ _ _ hi3 hk2 (h κ.w.heap.size g _ _ hk2 hge hle hlen)
theorem nm {f t r E sz by' vb b off la ca lb' cb Tv T:Nat} {ts:Array Nat} {fn:Func} {z:Value} {cv cs:List Value} (ho:o.op=.call { callee:=.value (.func f),args:=#[x,y],argTypes:=ts }) (hf:Tryd.prog.funcs[f]?=some fn) (hname:(fn.name == "runtime.NumGoroutine")=false) (hb:fn.body.isNone=true) (hn:Extern.findNext fn=none) (he:Extern.find fn=some (Extern.SlicesOverlaps.overlaps #[t,t] #[r]))
    (hu:cL t=some (.slice E)) (hi:dj E=some (z,sz,by')) (hx:ev σ x=.slice (some ⟨vb,0,none⟩) la ca) (hy:ev σ y=.slice (some ⟨b,off,none⟩) lb' cb) (hne:vb≠b) (hm1:Res.b vb Tv cv∈ρ) (hm2:Res.b b T cs∈ρ) (hcs:cs.length≠0):OpQ true o σ ρ κ (.bool false):=fun _ w hs=>by
  have h1:w.heap[vb]?=some (.cells cv.toArray Tv (0,0)):=hs.own _ hm1
  have h2:w.heap[b]?=some (.cells cs.toArray T (0,0)):=hs.own _ hm2
  have hrun:=Lib.run_overlaps_apart (P:=Tryd.prog) w t r E (aO hu) sz (ba hi) ⟨vb,0,none⟩ ⟨b,off,none⟩ la ca lb' cb hne Tv T cv.length cs.length (by simp [World.shape?,h1]) (by simp [World.shape?,h2]) hcs (by simp [World.frozen?,h1]) (by simp [World.frozen?,h1])
  unfold execOp
  have hfv:ev σ (.func f)=.func (.func f) #[] #[]:=rfl
  simp only [ho,hfv,resolve,Deferred.ofValue,Sem.run_bind,Sem.run_pure,Result.andThen_ok,invoke,List.map_toArray,List.map_cons,List.map_nil,hx,hy]
  simp [run_callFunc_extern hf hname hb hn he,hrun,Result.andThen]
theorem kh {m n cp T sz:Nat} {a:Option Addr} {css:List (List Value)} {l:List Res} {X:Code} {K:Exit→Post} (hp:Pick ρ (Res.row a n cp T sz css) l) (h1:a=none→n=0→cp=0→css=[]→WC β m X K σ ρ κ) (h2:∀ b,a=some ⟨b,0,none⟩→css.length=n→WC β m X K σ ρ κ):WC β m X K σ ρ κ:=fun hi=>by
 have hr:=(hi.perm hp).own _ (List.mem_cons_self)
 cases a with
 | none=>obtain ⟨e1,e2,e3⟩:=hr;exact h1 rfl e1 e2 e3 hi
 | some ad=>obtain ⟨e1,e2,_⟩:=hr;exact h2 ad.block (by rw [← e1]) e2 hi
end
end SX
end Go.Proofs.YtmgcadfnkchnfaaDoor
set_option maxRecDepth 100000
namespace Go.Proofs.YtmgcadfnkchnfaaDoor
namespace SX
open Go Go.RowKit
attribute [local irreducible] WL WD OpL OpQ IntKind.wrap
theorem add_off (b k:Nat):(⟨b,0,none⟩:Addr).add k=⟨b,k,none⟩:=by rw [bX,Nat.zero_add]
theorem slo {b n cp k sz:Nat} (h:k<cp):(Value.slice (if cp=k then some ⟨b,0,none⟩ else (some (⟨b,0,none⟩:Addr)).map (·.add (k*sz))) (n - k) (cp - k))=.slice (some ⟨b,k*sz,none⟩) (n - k) (cp - k):=by
 rw [if_neg (by omega)];simp only [Option.map_some,add_off]
theorem ki {w:World} {b off T j:Nat} {cs:List Value} {u:Value} (h:w.heap[b]?=some (.cells cs.toArray T (0,0))) (hu:cs[off+j]?=some u):w.cell? ((⟨b,off,none⟩:Addr).add j)=some u:=by
 rw [bX,dp h];exact hu
def i9 (css:List (List Value)) (i:Nat) (vs:List Value):List (List Value):=css.take i++[vs]++css.drop i
theorem np {css:List (List Value)} {i:Nat} {vs:List Value} (hi:i≤css.length):(i9 css i vs).length=css.length+1:=by unfold i9;simp;omega
theorem nq {sz:Nat} {css:List (List Value)} {i:Nat} {vs:List Value} (h:∀ c∈css,c.length=sz) (hv:vs.length=sz):∀ c∈i9 css i vs,c.length=sz:=fun c hc=>by
 unfold i9 at hc
 rcases List.mem_append.1 hc with hc | hc
 ·rcases List.mem_append.1 hc with hc | hc
  ·exact h c (List.mem_of_mem_take hc)
  rw [List.mem_singleton.1 hc];exact hv
 exact h c (List.mem_of_mem_drop hc)
theorem li {sz:Nat} {css:List (List Value)} {i:Nat} {vs:List Value} (h:∀ c∈css,c.length=sz) (hi:i≤css.length):(i9 css i vs).flatten=css.flatten.take (i*sz)++vs++css.flatten.drop (i*sz):=by
 unfold i9;rw [List.flatten_append,List.flatten_append,← kK h hi,← kL h hi];simp
theorem copies1 {A V D cs:List Value} {p q:Nat} (hA:cs.take p=A) (hp:A.length=p) (hV:V.length=q) (hl:p+q+D.length≤cs.length) :
    (cs.take p++V++cs.drop (p+V.length)).take (p+q)++D++(cs.take p++V++cs.drop (p+V.length)).drop (p+q+D.length)=A++V++D++cs.drop (p+q+D.length):=by
  have h1:(A++V).length=p+q:=by rw [List.length_append,hp,hV]
  rw [hA,hV,List.take_append_of_le_length (by omega),List.take_of_length_le (by omega),List.drop_append,List.drop_eq_nil_of_le (by omega),List.nil_append,List.drop_drop,h1]
  congr 2;omega
theorem copies2 {A V D cs:List Value} {p q:Nat} (hA:cs.take p=A) (hp:A.length=p) (hV:V.length=q) (hl:p+q+D.length≤cs.length) :
    (cs.take (p+q)++D++cs.drop (p+q+D.length)).take p++V++(cs.take (p+q)++D++cs.drop (p+q+D.length)).drop (p+V.length)=A++V++D++cs.drop (p+q+D.length):=by
  have h1:(cs.take (p+q)).length=p+q:=by rw [List.length_take];omega
  rw [List.append_assoc (cs.take (p+q)),List.take_append_of_le_length (by omega),List.take_take,Nat.min_eq_left (by omega),hA,hV,List.drop_append,List.drop_eq_nil_of_le (by omega),List.nil_append,h1,Nat.sub_self,List.drop_zero]
  simp
theorem p8 {β:Base} {m n cp T sz:Nat} {a:Option Addr} {css:List (List Value)} {l ρ:List Res} {X:Code} {K:Exit→Post} {σ:Env} {κ:Kr} (hp:Pick ρ (Res.row a n cp T sz css) l) (h:css.length=n→WC β m X K σ ρ κ):WC β m X K σ ρ κ :=
 kh hp (fun _ h0 _ he=>h (by rw [he,h0];rfl)) fun _ _ hl=>h hl
theorem wc_ne {β:Base} {m b b':Nat} {r r':Res} {l ρ:List Res} {X:Code} {K:Exit→Post} {σ:Env} {κ:Kr} (hp:ρ.Perm (r::r'::l)) (hb:r.blk=some b) (hb':r'.blk=some b') (h:b≠b'→WC β m X K σ ρ κ):WC β m X K σ ρ κ:=by
 unfold WC
 exact fun hi=>h (fun e=>(List.pairwise_cons.1 (hi.perm hp).nd).1 r' (by simp) b hb (e ▸ hb')) hi
theorem nr {l:List Value} (k:Nat) (h:l.all Value.oneCell'=true):(l.drop k).all Value.oneCell'=true:=List.all_eq_true.2 fun x hx=>List.all_eq_true.1 h x (List.mem_of_mem_drop hx)
theorem ns {css:List (List Value)} (h:∀ d∈css,d.all Value.oneCell'=true):css.flatten.all Value.oneCell'=true:=List.all_eq_true.2 fun x hx=>by
 obtain ⟨d,hd,hx⟩:=List.mem_flatten.1 hx
 exact List.all_eq_true.1 (h d hd) x hx
theorem nt {κ:Kr} {a:Option Addr} {n c i vb:Nat} {css:List (List Value)} {vs:List Value} (hin:i≤n) (hn:n≤200) (hvs:vs.length=7) (hv1:vs.all Value.oneCell'=true) (hc1:∀ d∈css,d.all Value.oneCell'=true) :
    Call 30 [.slice a n c,.int .i64 (i:Int),.slice (some ⟨vb,0,none⟩) 1 1] [Res.row a n c 28 7 css,Res.b vb 28 vs] κ fun v ρ' _=>∃ a' c',v=.slice a' (n+1) c'∧ρ'=[Res.row a' (n+1) c' 28 7 (i9 css i vs)]:=by
  refine ou Tryd.func30 (fnk Tryd.func30 rfl) rfl Tryd.ntmps30 Tryd.results30 rfl ?_
  refine p8 Pick.h fun hcl=>?_
  refine bQ ?_
  refine bs ?_
  refine bo rfl rfl rfl (da rfl (.p rfl)) ?_
  refine dm ?_
  refine bQ ?_
  refine bs ?_
  refine bo rfl rfl rfl (aF rfl (.p rfl)) ?_
  refine bo rfl rfl rfl (aF rfl (.p rfl)) ?_
  refine bo rfl rfl rfl (cD (k:=i) rfl rfl rfl (.p rfl) (.p rfl) (fun _=>rfl) (fun _=>hin)) ?_
  refine dm ?_
  refine bQ ?_
  refine bs ?_
  refine bo rfl rfl rfl (aF rfl (.p rfl)) ?_
  refine bo rfl rfl rfl (lu rfl rfl (.p rfl)) ?_
  refine bo rfl rfl rfl (da rfl (.p rfl)) ?_
  refine dm ?_
  refine bQ ?_
  refine bQ ?_
  refine bs ?_
  refine bo rfl rfl rfl (aF rfl (.p rfl)) ?_
  refine bo rfl rfl rfl (ls (r:=false) rfl (.p rfl) (.p rfl) rfl) ?_
  refine dm ?_
  refine qy rfl (jb ?_)
  refine bQ ?_
  refine bs ?_
  refine bo rfl rfl rfl (aF rfl (.p rfl)) ?_
  refine bo rfl rfl rfl (lu rfl rfl (.p rfl)) ?_
  refine bo rfl rfl rfl (da rfl (.p rfl)) ?_
  refine dm ?_
  refine bQ ?_
  refine bQ ?_
  refine bs ?_
  refine bo rfl rfl rfl (aF rfl (.p rfl)) ?_
  refine bo rfl rfl rfl (aF rfl (.p rfl)) ?_
  refine bo rfl rfl rfl (ls (r:=((i:Int) == (n:Int))) rfl (.p rfl) (.p rfl) rfl) ?_
  refine dm ?_
  refine gK rfl (fun heq=>?_) (fun hne=>?_)
  · have heq:i=n:=by have:=of_decide_eq_true (p:=(i:Int)=(n:Int)) (by simpa using heq);omega
    subst heq
    refine bQ ?_
    refine bs ?_
    refine bo rfl rfl rfl (aF rfl (.p rfl)) ?_
    refine bo rfl rfl rfl (aF rfl (.p rfl)) ?_
    refine qu rfl rfl rfl (kJ (css2:=[vs]) rfl rfl rfl rfl rfl rfl rfl Pick.h (rd_b (b:=vb) (T:=28) (cs:=vs) (by simp) rfl (by simpa using hvs) (by simp)) (by simpa using hv1) ⟨by omega,by omega⟩ fun a' c' κ' hk=>?_)
    refine bo rfl rfl rfl (da rfl (.p rfl)) ?_
    refine dm ?_
    refine lr ?_
    refine nJ rfl (Shift.drop (ρ':=[Res.row a' (i+1) c' 28 7 (css++[vs])]) (List.singleton_sublist.2 (by simp))) ⟨a',c',rfl,?_⟩
    unfold i9;rw [List.take_of_length_le (by omega),List.drop_eq_nil_of_le (by omega),List.append_nil]
  refine jb ?_
  have hlt:i<n:=by have:=of_decide_eq_false (p:=(i:Int)=(n:Int)) (by simpa using hne);omega
  refine kh Pick.h (fun _ h0 _ _=>absurd h0 (by omega)) fun b ha _=>?_
  subst ha
  refine bQ ?_
  refine bQ ?_
  refine bs ?_
  refine bo rfl rfl rfl (aF rfl (.p rfl)) ?_
  refine bo rfl rfl rfl (aF rfl (.p rfl)) ?_
  refine bo rfl rfl rfl (dA rfl (.p rfl) (.p rfl) rfl (fun _=>⟨by omega,by omega⟩)) ?_
  refine bo rfl rfl rfl (aF rfl (.p rfl)) ?_
  refine bo rfl rfl rfl (oq_cap rfl rfl (.p rfl)) ?_
  refine bo rfl rfl rfl (ls (r:=decide ((c:Int)<(n:Int)+1)) rfl (.p rfl) (.p rfl) rfl) ?_
  refine dm ?_
  refine gK rfl (fun hgt=>?_) (fun hle=>?_)
  · have hgt:c<n+1:=by have:=of_decide_eq_true hgt;omega
    refine oY Pick.h fun junk hnc hcm hcl2 hw hjl=>?_
    have hfl:css.flatten.length=n*7:=by rw [bY hw,hcl]
    refine bQ ?_
    refine bs ?_
    refine bo rfl rfl rfl (aF rfl (.p rfl)) ?_
    refine bo rfl rfl rfl (aF rfl (.p rfl)) ?_
    refine bo rfl rfl rfl (gC (k:=i) rfl rfl rfl (.p rfl) (.p rfl) (fun _=>rfl) (fun _=>by omega)) ?_
    refine bo rfl rfl rfl (aF rfl (.p rfl)) ?_
    refine bo rfl rfl rfl (aF rfl (.p rfl)) ?_
    refine bo rfl rfl rfl (dA rfl (.p rfl) (.p rfl) rfl (fun _=>⟨by omega,by omega⟩)) ?_
    refine bo rfl rfl rfl (aF rfl (.p rfl)) ?_
    refine bo rfl rfl rfl (dA rfl (.p rfl) (.p rfl) rfl (fun _=>⟨by omega,by omega⟩)) ?_
    refine qu rfl rfl rfl (ol_appZ (n:=i) (k:=n+1 - i) (vs:=css.flatten.take (i*7)) rfl rfl rfl rfl (by omega) rfl (by omega) (by omega) (by omega) (by omega) rfl (by show Value.int .i64 _=_;congr 1;omega) (by rw [List.length_take,hfl];omega) (fun w hs j u hu=>ki (hs.own (Res.b b 28 (css.flatten++junk)) (by simp)) (by have hj:j<i*7:=(by have:=(List.getElem?_eq_some_iff.1 hu).1;rw [List.length_take] at this;omega);rw [Nat.zero_add,List.getElem?_append_left (by omega)];rwa [List.getElem?_take_of_lt hj] at hu)) fun b2 c' zs κ' hk' hge hle' hzl=>?_)
    refine bo rfl rfl rfl (da rfl (.p rfl)) ?_
    refine dm ?_
    refine bQ ?_
    refine bs ?_
    refine bo rfl rfl rfl (aF rfl (.p rfl)) ?_
    refine bo rfl rfl rfl (aF rfl (.p rfl)) ?_
    refine bo rfl rfl rfl (cD (k:=i) rfl rfl rfl (.p rfl) (.p rfl) (fun _=>rfl) (fun _=>by omega)) ?_
    refine bo rfl rfl rfl (aF rfl (.p rfl)) ?_
    refine qu rfl rfl rfl (ik (m:=1) (vs:=vs) (b:=b2) (off:=i*7) rfl rfl rfl (slo (by omega)) rfl (by simp [Nat.min_def];omega) (by rw [hvs]) (fun w hs=>⟨_,rfl,fun j u hu=>ki (hs.own (Res.b vb 28 vs) (by simp)) (by rw [Nat.zero_add];exact hu)⟩) hv1 (by rw [hzl,hvs];omega) Upd.h fun κ2 hk2=>?_)
    refine dm ?_
    have hdl:(css.flatten.drop (i*7)).length=(n - i)*7:=by rw [List.length_drop,hfl];omega
    have hall:css.flatten.all Value.oneCell'=true:=ns hc1
    refine bQ ?_
    refine lC (ρs:=[]) [(0,0),(1,0),(2,0),(3,0),(4,0),(5,0),(6,0),(7,0),(8,1)] (by rw [List.append_nil]) (by kernel_rfl) rfl fun κ3 hk3=>?_
    refine gn rfl rfl rfl (aF rfl (.p rfl)) ?_
    refine gn rfl rfl rfl (aF rfl (.p rfl)) ?_
    refine gn rfl rfl rfl (aF rfl (.p rfl)) ?_
    refine gn rfl rfl rfl (dA rfl (.p rfl) (.p rfl) rfl (fun _=>⟨by omega,by omega⟩)) ?_
    refine gn rfl rfl rfl (cD (k:=i+1) rfl rfl rfl (.p rfl) (.p rfl) (fun _=>by omega) (fun _=>by omega)) ?_
    refine gn rfl rfl rfl (aF rfl (.p rfl)) ?_
    refine gn rfl rfl rfl (aF rfl (.p rfl)) ?_
    refine gn rfl rfl rfl (cD (k:=i) rfl rfl rfl (.p rfl) (.p rfl) (fun _=>rfl) (fun _=>by omega)) ?_
    refine wd_l rfl rfl rfl fun κ4 hk4=>ik (m:=n - i) (vs:=css.flatten.drop (i*7)) (b:=b2) (off:=(i+1)*7) rfl rfl rfl (slo (by omega)) (slo (by omega)) (by simp [Nat.min_def];omega) hdl (fun w hs=>⟨_,rfl,fun j u hu=>ki (hs.own (Res.b b 28 (css.flatten++junk)) (by simp)) (by have hj:j<(n - i)*7:=(by have:=(List.getElem?_eq_some_iff.1 hu).1;rw [hdl] at this;exact this);rw [List.getElem?_append_left (by omega)];rwa [List.getElem?_drop] at hu)⟩) (nr _ hall) (by rw [hdl];simp only [List.length_append,List.length_take,List.length_drop,hvs] at hzl ⊢;omega) Upd.h fun κ5 hk5=>?_
    refine ⟨_,(List.append_nil _).symm,nI fun κ6 hk6=>?_⟩
    refine bQ ?_
    refine bs ?_
    refine bo rfl rfl rfl (aF rfl (.p rfl)) ?_
    refine bo rfl rfl rfl (da rfl (.p rfl)) ?_
    refine dm ?_
    refine lr ?_
    have hA:(css.flatten.take (i*7)++zs).take (i*7)=css.flatten.take (i*7):=by rw [List.take_append_of_le_length (by rw [List.length_take,hfl];omega),List.take_of_length_le (by rw [List.length_take];omega)]
    have hAl:(css.flatten.take (i*7)).length=i*7:=by rw [List.length_take,hfl];omega
    have hcs:=copies1 (D:=css.flatten.drop (i*7)) hA hAl hvs (by rw [hdl,hzl];omega)
    rw [show i*7+7=(i+1)*7 by omega] at hcs
    have hen:i+(n+1 - i)=n+1:=by omega
    refine nJ (v:=.slice (some ⟨b2,0,none⟩) (n+1) c') (by show Value.slice _ _ _=_;rw [hen]) (lh (n:=n+1) (cp:=c') (sz:=7) (css:=i9 css i vs) Pick.h (by rw [np (by omega),hcl]) (nq hw hvs) (by omega) hle' ?_ ?_) ⟨_,_,rfl,rfl⟩
    · rw [hcs];simp only [List.length_append,List.length_drop,hAl,hvs,hdl,hzl];omega
    rw [hcs,li hw (by omega),List.take_append_of_le_length (by simp only [List.length_append,hAl,hvs,hdl];omega),List.take_of_length_le (by simp only [List.length_append,hAl,hvs,hdl];omega)]
  refine jb ?_
  have hle:n+1≤c:=by have:=of_decide_eq_false hle;omega
  refine oY Pick.h fun junk hnc hcm hcl2 hw hjl=>?_
  refine wc_ne (b:=b) (b':=vb) (List.Perm.refl _) rfl rfl fun hbv=>?_
  have hfl:css.flatten.length=n*7:=by rw [bY hw,hcl]
  have hdl:(css.flatten.drop (i*7)).length=(n - i)*7:=by rw [List.length_drop,hfl];omega
  have hall:css.flatten.all Value.oneCell'=true:=ns hc1
  refine bQ ?_
  refine bs ?_
  refine bo rfl rfl rfl (aF rfl (.p rfl)) ?_
  refine bo rfl rfl rfl (aF rfl (.p rfl)) ?_
  refine bo rfl rfl rfl (aF rfl (.p rfl)) ?_
  refine bo rfl rfl rfl (dA rfl (.p rfl) (.p rfl) rfl (fun _=>⟨by omega,by omega⟩)) ?_
  refine bo rfl rfl rfl (gC (k:=n+1) rfl rfl rfl (.p rfl) (.p rfl) (fun _=>by omega) (fun _=>by omega)) ?_
  refine bo rfl rfl rfl (da rfl (.p rfl)) ?_
  refine dm ?_
  refine bQ ?_
  refine bQ ?_
  refine bs ?_
  refine bo rfl rfl rfl (aF rfl (.p rfl)) ?_
  refine bo rfl rfl rfl (aF rfl (.p rfl)) ?_
  refine bo rfl rfl rfl (aF rfl (.p rfl)) ?_
  refine bo rfl rfl rfl (aF rfl (.p rfl)) ?_
  refine bo rfl rfl rfl (dA rfl (.p rfl) (.p rfl) rfl (fun _=>⟨by omega,by omega⟩)) ?_
  refine bo rfl rfl rfl (cD (k:=i+1) rfl rfl rfl (.p rfl) (.p rfl) (fun _=>by omega) (fun _=>by omega)) ?_
  refine bo rfl rfl rfl (nm (t:=24) (r:=4) (E:=28) (Tv:=28) (T:=28) (cv:=vs) (cs:=css.flatten++junk) rfl Tryd.func40 (by kernel_rfl) (by kernel_rfl) (by kernel_rfl) (by kernel_rfl) rfl rfl rfl (slo (by omega)) (fun e=>hbv e.symm) (by simp) (by simp) (by rw [hjl];omega)) ?_
  refine bo rfl rfl rfl (qA rfl (.p rfl)) ?_
  refine dm ?_
  refine qw rfl ?_
  refine bQ ?_
  refine lC (ρs:=[]) [(0,0),(1,0),(2,0),(3,0),(4,0),(5,0),(6,0),(7,0),(8,1)] (by rw [List.append_nil]) (by kernel_rfl) rfl fun κ3 hk3=>?_
  refine gn rfl rfl rfl (aF rfl (.p rfl)) ?_
  refine gn rfl rfl rfl (aF rfl (.p rfl)) ?_
  refine gn rfl rfl rfl (aF rfl (.p rfl)) ?_
  refine gn rfl rfl rfl (dA rfl (.p rfl) (.p rfl) rfl (fun _=>⟨by omega,by omega⟩)) ?_
  refine gn rfl rfl rfl (cD (k:=i+1) rfl rfl rfl (.p rfl) (.p rfl) (fun _=>by omega) (fun _=>by omega)) ?_
  refine gn rfl rfl rfl (aF rfl (.p rfl)) ?_
  refine gn rfl rfl rfl (aF rfl (.p rfl)) ?_
  refine gn rfl rfl rfl (cD (k:=i) rfl rfl rfl (.p rfl) (.p rfl) (fun _=>rfl) (fun _=>by omega)) ?_
  refine wd_l rfl rfl rfl fun κ4 hk4=>ik (m:=n - i) (vs:=css.flatten.drop (i*7)) (b:=b) (off:=(i+1)*7) rfl rfl rfl (slo (by omega)) (slo (by omega)) (by simp [Nat.min_def];omega) hdl (fun w hs=>⟨_,rfl,fun j u hu=>ki (hs.own (Res.b b 28 (css.flatten++junk)) (by simp)) (by have hj:j<(n - i)*7:=(by have:=(List.getElem?_eq_some_iff.1 hu).1;rw [hdl] at this;exact this);rw [List.getElem?_append_left (by omega)];rwa [List.getElem?_drop] at hu)⟩) (nr _ hall) (by rw [hdl,hjl];omega) Upd.h fun κ5 hk5=>?_
  refine ⟨_,(List.append_nil _).symm,nI fun κ6 hk6=>?_⟩
  refine bQ ?_
  refine bs ?_
  refine bo rfl rfl rfl (aF rfl (.p rfl)) ?_
  refine bo rfl rfl rfl (aF rfl (.p rfl)) ?_
  refine bo rfl rfl rfl (cD (k:=i) rfl rfl rfl (.p rfl) (.p rfl) (fun _=>rfl) (fun _=>by omega)) ?_
  refine bo rfl rfl rfl (aF rfl (.p rfl)) ?_
  refine qu rfl rfl rfl (ik (m:=1) (vs:=vs) (b:=b) (off:=i*7) rfl rfl rfl (slo (by omega)) rfl (by simp [Nat.min_def];omega) (by rw [hvs]) (fun w hs=>⟨_,rfl,fun j u hu=>ki (hs.own (Res.b vb 28 vs) (by simp)) (by rw [Nat.zero_add];exact hu)⟩) hv1 (by simp only [List.length_append,List.length_take,List.length_drop,hdl,hvs] at hjl ⊢;omega) Upd.h fun κ2 hk2=>?_)
  refine dm ?_
  refine bQ ?_
  refine bs ?_
  refine bo rfl rfl rfl (aF rfl (.p rfl)) ?_
  refine bo rfl rfl rfl (da rfl (.p rfl)) ?_
  refine dm ?_
  refine lr ?_
  have hA:(css.flatten++junk).take (i*7)=css.flatten.take (i*7):=by rw [List.take_append_of_le_length (by omega)]
  have hAl:(css.flatten.take (i*7)).length=i*7:=by rw [List.length_take,hfl];omega
  have hcs:=copies2 (D:=css.flatten.drop (i*7)) hA hAl hvs (by rw [hdl,hjl];omega)
  rw [show i*7+7=(i+1)*7 by omega] at hcs
  refine nJ (v:=.slice (some ⟨b,0,none⟩) (n+1) c) rfl (lh (n:=n+1) (cp:=c) (sz:=7) (css:=i9 css i vs) Pick.h (by rw [np (by omega),hcl]) (nq hw hvs) (by omega) hcm ?_ ?_) ⟨_,_,rfl,rfl⟩
  · rw [hcs];simp only [List.length_append,List.length_drop,hAl,hvs,hdl] at hjl ⊢;omega
  rw [hcs,li hw (by omega),List.take_append_of_le_length (by simp only [List.length_append,hAl,hvs,hdl];omega),List.take_of_length_le (by simp only [List.length_append,hAl,hvs,hdl];omega)]
end SX
end Go.Proofs.YtmgcadfnkchnfaaDoor
set_option maxRecDepth 100000
namespace Go.Proofs.YtmgcadfnkchnfaaDoor
namespace SX
open Go Go.RowKit
theorem p9 {f:Nat} {args:List Value} {ρ ρ':List Res} {κ:Kr} {R:Value→List Res→Kr→Prop} (hb:ej ρ=ej ρ') (h:∀ β,Zb β ρ κ→Zb β ρ' κ) (hc:Call f args ρ' κ R):Call f args ρ κ R:=⟨hc.1,fun hi=>by
 rw [hb] at hi ⊢;exact hc.2 (h _ hi)⟩
theorem inv_lit {β:Base} {κ:Kr} {r:Res} {vb T sz:Nat} {vs:List Value} (hv:vs.length=sz) (hi:Zb β [r,Res.row (some ⟨vb,0,none⟩) 1 1 T sz [vs]] κ):Zb β [r,Res.b vb T vs] κ:=by
 have hi2:=hi.perm (List.Perm.swap _ _ _)
 obtain ⟨_,_,_,_,_,cur,h6,h7,h8⟩:=hi2.own _ (List.mem_cons_self)
 have e:cur.toList=vs:=by
  have h8:cur.toList.take (1*sz)=[vs].flatten:=h8
  rw [List.take_of_length_le (by simp [h7])] at h8
  simpa using h8
 refine (kg hi2 (r':=Res.b vb T vs) rfl ?_).perm (List.Perm.swap _ _ _)
 show _=some _
 rw [h6,← e]
theorem kj {κ:Kr}:∀ {p q:List (List PV)} {v w:List (List Value)},Rpss κ p v→Rpss κ q w→Rpss κ (p++q) (v++w)
 | _,_,_,_,.nil,h=>h
 | _,_,_,_,.cons h hs,g=>.cons h (kj hs g)
theorem lj {κ:Kr}:∀ {p:List (List PV)} {v:List (List Value)} (i:Nat),Rpss κ p v→Rpss κ (p.take i) (v.take i)
 | _,_,0,_=>.nil
 | _,_,_+1,.nil=>.nil
 | _,_,i+1,.cons h hs=>.cons h (lj i hs)
theorem ll {κ:Kr}:∀ {p:List (List PV)} {v:List (List Value)} (i:Nat),Rpss κ p v→Rpss κ (p.drop i) (v.drop i)
 | _,_,0,h=>h
 | _,_,_+1,.nil=>.nil
 | _,_,i+1,.cons h hs=>ll i hs
def au (p0:List Za) (p1:Int) (p2:List Za):Option (List Za):=match p2 with
 | [x]=>if 0≤p1∧p1.toNat≤p0.length∧p0.length≤200 then some (p0.take p1.toNat++[x]++p0.drop p1.toNat) else none
 | _=>none
theorem cB {p0:List Za} {p1:Int} {x:Za} {r:List Za} (h:au p0 p1 [x]=some r) {a:Option Addr} {c vb:Nat} :
    PCall 30 [pO a p0.length c,pI p1,pO (some ⟨vb,0,none⟩) 1 1] [.row a p0.length c 28 7 (List.map Za.enc p0),.row (some ⟨vb,0,none⟩) 1 1 28 7 [Za.enc x]] (fun pv ρ'=>∃ a' c',pv=pO a' r.length c'∧ρ'=[PRes.row a' r.length c' 28 7 (List.map Za.enc r)]):=fun κ args ρ g ha hr=>by
  unfold au at h
  dsimp only at h
  split at h
  rotate_left
  · cases h
  rename_i hc
  obtain ⟨h0,h1,h2⟩:=hc
  obtain rfl:=Option.some.inj h
  obtain ⟨i,rfl⟩:∃ i:Nat,p1=(i:Int):=⟨p1.toNat,by omega⟩
  rw [Int.toNat_natCast] at *
  cases ha with | cons ha1 ha=>cases ha with | cons ha2 ha=>cases ha with | cons ha3 ha=>cases ha with | nil =>
  have e1:=ha1.val;have e2:=ha2.val;have e3:=ha3.val
  subst e1;subst e2;subst e3
  cases hr with | cons hr1 hr=>cases hr with | cons hr2 hr=>cases hr with | nil =>
  cases hr1 with | @row _ _ _ _ _ _ dss hb1 ho1 hp1 =>
  cases hr2 with | @row _ _ _ _ _ _ dss2 hb2 ho2 hp2 =>
  cases hp2 with | cons hp2 hn=>cases hn with | nil =>
  rename_i vs
  have hvl:vs.length=7:=by have:=hp2.len;exact this.symm
  refine p9 (ρ':=[Res.row a p0.length c 28 7 dss,Res.b vb 28 vs]) rfl (fun β hi=>inv_lit hvl hi) ?_
  refine (nt h1 h2 hvl (List.all_eq_true.2 fun u hu=>ho2 vs (by simp) u hu) (fun d hd=>List.all_eq_true.2 fun u hu=>ho1 d hd u hu)).mono fun v ρ' κ' hk ⟨a',c',e4,e5⟩=>?_
  subst e4;subst e5
  have hlen:(p0.take i++[x]++p0.drop i).length=p0.length+1:=by simp;omega
  refine ⟨pO a' (p0.length+1) c',[PRes.row a' (p0.length+1) c' 28 7 (List.map Za.enc (p0.take i++[x]++p0.drop i))],.v rfl,.cons (.row (by omega) ?_ ?_) .nil,a',c',by rw [hlen],by rw [hlen]⟩
  · intro d hd u hu
    unfold i9 at hd
    rcases List.mem_append.1 hd with hd | hd
    · rcases List.mem_append.1 hd with hd | hd
      · exact ho1 d (List.mem_of_mem_take hd) u hu
      rw [List.mem_singleton.1 hd] at hu;exact ho2 vs (by simp) u hu
    exact ho1 d (List.mem_of_mem_drop hd) u hu
  unfold i9
  rw [List.map_append,List.map_append,List.map_take,List.map_drop]
  exact kj (kj (lj i (hp1.mono hk)) (.cons (hp2.mono hk) .nil)) (ll i (hp1.mono hk))
theorem cK {p0:List Za} {p1:Int} {p2:List Za} {r:List Za} (h:au p0 p1 p2=some r) {a:Option Addr} {c vb:Nat} :
    PCall 30 [.v (.slice a p0.length c),pI p1,.v (.slice (some ⟨vb,0,none⟩) 1 1)] [.row a p0.length c 28 7 (List.map Za.enc p0),.row (some ⟨vb,0,none⟩) 1 1 28 7 (List.map Za.enc p2)] (fun pv ρ'=>∃ a c,pv=.v (.slice a r.length c)∧ρ'=[PRes.row a r.length c 28 7 (List.map Za.enc r)]):=by
  match p2,h with
  | [x],h=>exact cB h
end SX
end Go.Proofs.YtmgcadfnkchnfaaDoor
