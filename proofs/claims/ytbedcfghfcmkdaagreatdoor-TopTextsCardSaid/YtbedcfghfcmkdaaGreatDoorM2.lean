/- A part of the proof. No condition. -/
import Derived.Test.YtbedcfghfcmkdaaGreatDoorM1
open Bool (and_eq_true)
open Nat (add_mul eq_of_beq_eq_true le_refl)
open List (append_inj length_map length_take map_append map_cons map_nil map_take map_toArray mem_of_getElem? mem_of_mem_take take_append_drop)
open Go.IntKind (i64 u64 u8 u32 i32)
set_option linter.unusedVariables false
set_option linter.unusedSimpArgs false
set_option maxHeartbeats 4000000
set_option maxRecDepth 100000
namespace Go.Proofs.YtbedcfghfcmkdaaGreatDoor
namespace SX
open Go
section
variable {Z:Xa} {ρ l:List Qa} {a:Option Addr} {m c T sz:Nat} {css:List (List PV)} {α:Type} {enc:α->List PV} {xs:List α}
theorem Bq (t:Nat) (ht:Z t=.v (.slice a m c)) (hp:Ub ρ (.row a m c T sz (xs.map enc)) l):Yd Z ρ (ig Z t (.slc xs.length (xs.map enc))) (.frz a m c (xs.map enc)::l):=fun _ _ _ h=>fj t ht hp h
theorem kq (T sz:Nat):Yd Z ρ Z (.row none 0 0 T sz []::ρ):=fun _ _ _ h=>bC T sz h
theorem eW {n:Nat} {x:Code} {K:Exit->Ua} {b k:Nat} {cs:List PV} {ρ':List Qa} (hk:cs[k]?=some (.v (.slice none 0 0))) (hu:Nc ρ (.b b T cs) (.b b T (cs.set k (.slc 0 []))) ρ') (h:Ka n x K Z ρ'):Ka n x K Z ρ:=fun β O Z' r g hs hr=>by
 obtain ⟨r0,l1,l2,rfl,h3,h4⟩:=hr.upd hu
 cases h3 with
 | b ho hc =>
  obtain ⟨v,hv,hp⟩:=hc.get hk
  have e:=hp.val
  have hset:=hc.set (k:=k) (p:=.slc 0 []) (v:=v) (by rw [e];exact uZ)
  have:∀ (l:List Value) (k:Nat) (v:Value),l[k]?=some v->l.set k v=l:=fun l k v h=>by
   apply List.ext_getElem?;intro i;rw [List.getElem?_set];split
   ·rename_i hik;subst hik;rw [h];have:=(List.getElem?_eq_some_iff.1 h).1;simp [this]
   rfl
  rw [this _ _ _ hv] at hset
  exact h β O Z' _ g hs (h4 O _ (.refl _) (.b ho hset))
theorem xn {b k:Nat} {cs:List PV} {ρ':List Qa} (hk:cs[k]?=some (.v (.slice none 0 0))) (hu:Nc ρ (.b b T cs) (.b b T (cs.set k (.slc 0 []))) ρ'):Yd Z ρ Z ρ':=fun _ _ _ h=>eW hk hu h
end
section
variable {o:Oper} {Z:Xa} {ρ l:List Qa} {a:Option Addr} {m c T sz:Nat} {css:List (List PV)} {K:PV->List Qa->Prop} {α:Type} {enc:α->List PV} {xs:List α}
theorem DQ (h:Qb o Z ρ fun p ρ'=>∃ a m c T sz css l,p=.v (.slice a m c)/\Ub ρ' (.row a m c T sz css) l/\K (.slc m css) l):Qb o Z ρ K:=fun O Z' ρ' g hs hr β hi Nx hn =>
 h O Z' ρ' g hs hr β hi Nx fun v ρ1 κ1 h1 h2 ⟨p,ρp,k1,k2,a,m,c,T,sz,css,l,e,hp,hk⟩=>by
  subst e
  obtain ⟨r,l',j1,j2,j3⟩:=k2.pick hp
  cases j2 with
  | row hb ho hc =>
   obtain ⟨i1,i2,i3⟩:=wo (h1.perm j1)
   have hv:=k1.val
   subst hv
   have:=hn _ l' (CK κ1 a) i1 (h2.trans i2) ⟨.slc m css,l,.slc i3 hb ho (hc.mono i2),j3.mono i2,hk⟩
   rwa [zU] at this
end
section
variable {n:Nat} {ops:Array Oper} {o:Oper} {rest:List Oper} {K:Ua} {Z:Xa} {ρ ρd ρs:List Qa} {d:Nat} {c:Bool} {l:List Operand} {ts:Array Nat} {pargs:List PV} {r pf:PV} {x:Operand} {lo:List (Nat×Oper)}
theorem og_pfv {O:Kr} {Z':Ma} {ρ':List Ja} {KK:Value->Kr->Prop} (g:Xe O) (hs:Xc O Z Z') (ho:o.op=.call { callee:=.value x,args:=l.toArray,argTypes:=ts }) (hx:Ra Z c x pf) (ha:c=true->l.map (bt Z)=pargs) (hc:c=true->Yc pf pargs r) (h:∀ v O',Sa O O'->(c=true->Rp O' r v)->KK v O'):OpG c o Z' ρ' O KK:=by
 refine ⟨fun hct=>?_,fun hcf=>h undef O (.refl _) fun h=>by rw [hcf] at h;cases h⟩
 obtain ⟨f,first,cap,h1,h2⟩:=hc hct O _ _ g (hs.pe hx hct) (by rw [<- ha hct];exact lm hs l)
 exact yW ho h1 rfl h2 fun v O' hk hv=>⟨rfl,h v O' hk fun _=>hv⟩
theorem xo (hg:Pa ops Z o c) (hd:o.dst=some d) (hlt:Nat.blt d n=true) (ho:o.op=.call { callee:=.value x,args:=l.toArray,argTypes:=ts }) (hx:Ra Z c x pf) (ha:c=true->l.map (bt Z)=pargs) (hc:c=true->Yc pf pargs r) (h:Vc n ops K lo (ig Z d (pgv c r)) ρd ρs):Vc n ops K ((1,o)::lo) Z ρd ρs:=fun β O Z' rd rs g hs h1 h2 =>
 wd_g (hg O Z' hs) hd hlt fun κ1 hk=>og_pfv (g.mono hk) (hs.mono hk) ho hx ha hc fun v O' hk' hv=>h β O' _ rd rs ((g.mono hk).mono hk') (((hs.mono hk).mono hk').upd (y9 hv)) ((h1.mono hk).mono hk') ((h2.mono hk).mono hk')
end
def Br:List Field->Nat->List Nat->Bool
 | [],_,[]=>true
 | f::fs,k,q::ks=>(f.name != "_")&&Nat.beq f.offset k&&(match fQ f.type,q with | some (.int _),0 | some .bool,1 | some .string,2=>true | _,_=>false)&&Br fs (k+1) ks
 | _,_,_=>false
def Bs:List Nat->List Value->List Value->Option Bool
 | [],[],[]=>some true
 | 0::ks,.int k a::xs,.int k' b::ys=>match Bs ks xs ys with | some r=>cond (decide (k=k')) (some ((a == b)&&r)) none | none=>none
 | 1::ks,.bool a::xs,.bool b::ys=>match Bs ks xs ys with | some r=>some ((a == b)&&r) | none=>none
 | 2::ks,.string a::xs,.string b::ys=>match Bs ks xs ys with | some r=>some (decide (a=b)&&r) | none=>none
 | _,_,_=>none
theorem xp (d:Nat) (w:World):∀ (fs:List Field) (k:Nat) (ks:List Nat) (xs ys ax ay:List Value) (r:Bool),Br fs k ks=true->ax.drop k=xs->ay.drop k=ys->Bs ks xs ys=some r->(Op.eqFields (d+1) ax.toArray ay.toArray fs).run Tryz.prog w=.ok r w
 | [],k,ks,xs,ys,ax,ay,r,hf,_,_,he=>by
  cases ks with
  | nil =>
   cases xs <;> cases ys <;> simp only [Bs,reduceCtorEq,gn] at he
   subst he;simp [Op.eqFields]
  | cons q ks=>cases hf
 | f::fs,k,ks,xs,ys,ax,ay,r,hf,h1,h2,he=>by
  cases ks with
  | nil=>cases hf
  | cons q ks =>
   simp only [Br,and_eq_true,bne_iff_ne,ne_eq] at hf
   obtain ⟨⟨⟨hn,hoff⟩,hty⟩,hrest⟩:=hf
   have hoff:=eq_of_beq_eq_true hoff
   cases xs with
   | nil=>unfold Bs at he;split at he <;> simp_all
   | cons x xs =>
    cases ys with
    | nil=>unfold Bs at he;split at he <;> simp_all
    | cons y ys =>
     have g1:ax[k]?=some x:=by have:=congrArg (·[0]?) h1;simpa [List.getElem?_drop] using this
     have g2:ay[k]?=some y:=by have:=congrArg (·[0]?) h2;simpa [List.getElem?_drop] using this
     have d1:ax.drop (k+1)=xs:=by have:=congrArg (List.drop 1) h1;simpa [List.drop_drop] using this
     have d2:ay.drop (k+1)=ys:=by have:=congrArg (List.drop 1) h2;simpa [List.drop_drop] using this
     cases hd:fQ f.type with
     | none=>rw [hd] at hty;cases hty
     | some D =>
      rw [hd] at hty
      have hag:oF D=false:=by
       cases D <;> first | rfl | (exfalso;split at hty <;> simp_all)
      have p1:(part f.type ax.toArray f.offset).run Tryz.prog w=.ok x w:=by simp [part,oB hd,hag,hoff,g1]
      have p2:(part f.type ay.toArray f.offset).run Tryz.prog w=.ok y w:=by simp [part,oB hd,hag,hoff,g2]
      have fin:∀ (q r':Bool),(Op.equalIn (d+1) f.type x y).run Tryz.prog w=.ok q w->Bs ks xs ys=some r'->(q&&r')=r->(Op.eqFields (d+1) ax.toArray ay.toArray (f::fs)).run Tryz.prog w=.ok r w:=fun q r' hq1 hq2 hq3=>by
       have ih:=xp d w fs (k+1) ks xs ys ax ay r' hrest d1 d2 hq2
       simp only [Op.eqFields,if_pos hn,Sem.run_bind,p1,p2,Result.andThen_ok,hq1]
       cases q
       ·simp at hq3;subst hq3;simp
       simp at hq3;subst hq3;simp [ih]
      cases D with
      | int kk =>
       have hq0:q=0:=by rcases q with _ | _ | _ | q <;> first | rfl | (simp at hty)
       subst hq0
       cases x <;> cases y <;> simp only [Bs,reduceCtorEq] at he
       rename_i k1 a1 k2 b1
       cases hq:Bs ks xs ys with
       | none=>rw [hq] at he;cases he
       | some r' =>
        rw [hq] at he
        cases hk:decide (k1=k2) with
        | false=>simp only [hk,dq,reduceCtorEq] at he
        | true =>
         simp only [hk,cQ,gn] at he
         have hk:=of_decide_eq_true hk;subst hk
         exact fin (a1 == b1) r' (run_equalIn_int w d f.type k1 kk a1 b1 (bD hd)) hq he
      | bool =>
       have hq0:q=1:=by rcases q with _ | _ | _ | q <;> first | rfl | (simp at hty)
       subst hq0
       cases x <;> cases y <;> simp only [Bs,reduceCtorEq] at he
       rename_i a1 b1
       cases hq:Bs ks xs ys with
       | none=>rw [hq] at he;cases he
       | some r'=>rw [hq] at he;simp only [gn] at he;exact fin (a1 == b1) r' (run_equalIn_bool' w d f.type a1 b1 (bD hd)) hq he
      | string =>
       have hq0:q=2:=by rcases q with _ | _ | _ | q <;> first | rfl | (simp at hty)
       subst hq0
       cases x <;> cases y <;> simp only [Bs,reduceCtorEq] at he
       rename_i a1 b1
       cases hq:Bs ks xs ys with
       | none=>rw [hq] at he;cases he
       | some r'=>rw [hq] at he;simp only [gn] at he;exact fin (decide (a1=b1)) r' (by rw [run_equalIn_string w d f.type a1 b1 (bD hd),zI]) hq he
      | _=>exfalso;revert hty;simp
def GR:List PV->Option (List Value)
 | []=>some []
 | .v x::r=>match GR r with | some l=>some (x::l) | none=>none
 | _=>none
theorem Ad {O:Kr}:∀ {cs:List PV} {xs ds:List Value},GR cs=some xs->Xb O cs ds->ds=xs
 | [],xs,ds,h,hr=>by simp only [GR,gn] at h;subst h;exact hr.nil_inv
 | c::cs,xs,ds,h,hr=>by
  obtain ⟨v,ws,rfl,h1,h2⟩:=hr.cons_inv
  cases c with
  | v x =>
   simp only [GR] at h
   cases hu:GR cs with
   | none=>rw [hu] at h;cases h
   | some l=>rw [hu] at h;simp only [gn] at h;subst h;rw [h1.val,Ad hu h2]
  | _=>cases h
theorem DR {o:Oper} {Z:Xa} {ρ:List Qa} {c:Bool} {x y:Operand} {op:BinOp} {t t':Nat} {cs ds:List PV} {xs ys:List Value} {r r':Bool} (ks:List Nat) (ho:o.op=.binOp op t x y t') (h1:Tryz.prog.underlying t=some (.struct (Tryz.prog.fieldsOf t))) (h2:Tryz.prog.stoodInHeld t=false) (h3:Tryz.prog.eqGuardType Tryz.prog.depth t=false) (h4:Br (Tryz.prog.fieldsOf t).toList 0 ks=true)
    (hx:Ra Z c x (.agg cs)) (hy:Ra Z c y (.agg ds)) (hxs:GR cs=some xs) (hys:GR ds=some ys) (he:Bs ks xs ys=some r) (hr:(match op with | .eql=>some r | .neq=>some (!r) | _=>none)=some r'):Na c o Z ρ (.v (.bool r')):=fun O Z' ρ' g hs hrr=>by
  cases c with
  | false=>exact Cx
  | true =>
    refine ⟨.bool r',fun _=>.v rfl,fun _ w _=>?_⟩
    have e1:ev Z' x=.agg xs.toArray:=by
      have:=hs.pe hx rfl;generalize ev Z' x=w1 at this;cases this with
      | agg ho hc=>rw [Ad hxs hc]
    have e2:ev Z' y=.agg ys.toArray:=by
      have:=hs.pe hy rfl;generalize ev Z' y=w1 at this;cases this with
      | agg ho hc=>rw [Ad hys hc]
    have hrun:(Op.equalIn 10000 t (.agg xs.toArray) (.agg ys.toArray)).run Tryz.prog w=.ok r w:=by
      rw [run_equalIn_struct w 9999 t _ _ h1 h2]
      exact xp 9998 w _ 0 ks xs ys xs ys r h4 rfl rfl he
    simp only [execOp,ho,e1,e2,Sem.run_bind]
    rw [run_eqGuard_agg w op t x y _ _ h3]
    simp only [Result.andThen_ok]
    cases op <;> simp only [reduceCtorEq,gn] at hr
    · subst hr;rw [run_eql_struct,hrun];simp
    subst hr;rw [run_neq_struct,hrun];simp
theorem Bt {o:Oper} {Z:Xa} {ρ:List Qa} {x:Operand} {s d e n cp T:Nat} {a:Option Addr} {xs:List Int} (ho:o.op=.convert s d x) (h1:fQ s=some (.slice e)) (he:fQ e=some (.int .u8)) (hd:fQ d=some .string) (hx:bt Z x=.v (.slice a n cp)) (hm:Qa.row a n cp T 1 (xs.map eB)∈ρ) (hn:n=xs.length) {K:PV->List Qa->Prop} (h:K (.v (.string (strOfNums xs))) ρ):Qb o Z ρ K:=fun O Z' ρ' g hs hrr β hinv=>by
 obtain ⟨r,hr1,hr2⟩:=hrr.mem hm
 cases hr2 with
 | row hb ho1 hss =>
  rename_i dss
  have hrow:=Bg hr1 β hinv
  have hown:=im (hinv.own _ hr1)
  have hd2:dss=xs.map fun b=>[.int .u8 b]:=by
   clear hrow hown hr1 ho1 hm hx h
   subst hn
   clear hb
   induction xs generalizing dss with
   | nil=>rw [map_nil] at hss;rw [hss.nil_inv];rfl
   | cons z zs ih =>
    rw [map_cons] at hss
    obtain ⟨v,ws,rfl,k1,k2⟩:=hss.cons_inv
    obtain ⟨v1,w1,rfl,k3,k4⟩:=k1.cons_inv
    rw [ih k2,k3.val,k4.nil_inv];rfl
  subst hd2
  have hq:=Gu (c:=true) (ρ:=ρ') (O:=O) ho h1 he hd (.p (hs.v1 hx)) (fun _=>Gv hr1 (fun h=>by obtain ⟨b,e⟩:=hrow.2 h;rw [e];simp) hrow.1.1 hown.2.2)
  refine ol_q hq ⟨_,ρ,.v ?_,hrr,h⟩ β hinv
  have:(strOfNums xs).size=xs.length:=by simp [strOfNums,ByteArray.size]
  simp only [sM,this];exact Nat.ble_eq_true_of_le (by omega)
def Ye (n:Nat) (ops:Array Oper) (K:Ua) (m:Nat) (L:Array Bool) (Z:Xa) (ρd ρs:List Qa):Prop :=
 ∀ β O Z' rd rs,Xe O->Xc O Z Z'->Ta O ρd rd->Ta O ρs rs->WS β n ops (lft K) m L Z' rd rs O
def Td (n:Nat) (ops:Array Oper) (K:Ua) (m:Nat) (L:Array Bool) (Z:Xa) (ρd ρs:List Qa) (i:Nat):Prop :=
 ∀ β O Z' rd rs,Xe O->Xc O Z Z'->Ta O ρd rd->Ta O ρs rs->Me β n ops (lft K) m L Z' rd rs O i
section
variable {n m:Nat} {ops:Array Oper} {K:Ua} {L:Array Bool} {Z:Xa} {ρ ρd ρs:List Qa} {o:Oper} {i d:Nat} {p:PV} {c:Bool}
theorem gf {K:Exit->Ua} {id:Nat} {l:List Oper} (ρs:List Qa) (hp:ρ.Perm (ρd++ρs)) (h:Ye n l.toArray (K .normal) l.length (Array.replicate l.length false) Z ρd ρs):Ka n (.region id l.toArray true) K Z ρ:=fun β O Z' ρ' g hs hr=>by
 obtain ⟨rs',h1,h2⟩:=hr.perm hp
 obtain ⟨r1,r2,rfl,h3,h4⟩:=h2.split
 exact Gx h1 fun κ1 hk=>h β κ1 Z' r1 r2 (g.mono hk) (hs.mono hk) (h3.mono hk) (h4.mono hk)
theorem gQ (hr:(Region.ready .any ops L).isEmpty=true) (h:K Z (ρd++ρs)):Ye n ops K m L Z ρd ρs:=fun β O Z' rd rs g hs h1 h2=>ws_done hr ⟨Z,ρd++ρs,hs,h1.app h2,h⟩
theorem bu (i:Nat) (hok:okQ ops L i=true) (ho:ops[i]?=some o) (hg:o.guard=none) (hd:o.dst=some d) (hlt:Nat.blt d n=true) (h:Na true o Z ρs p) (hw:Ye n ops K m (L.setIfInBounds i true) (ig Z d p) ρd ρs):Ye n ops K (m+1) L Z ρd ρs:=fun β O Z' rd rs g hs h1 h2=>by
 obtain ⟨v,k1,k2⟩:=h O Z' rs g hs h2
 exact ws_q i hok ho hg hd hlt k2 (hw β O _ rd rs g (hs.upd (k1 rfl)) h1 h2)
theorem bh (i:Nat) (hr:(Region.ready .any ops L == [i])=true) (h:Td n ops K m L Z ρd ρs i):Ye n ops K (m+1) L Z ρd ρs:=fun β O Z' rd rs g hs h1 h2=>ws_one i hr (h β O Z' rd rs g hs h1 h2)
theorem dr (i j:Nat) (hr:(Region.ready .any ops L == [i,j])=true) (h:Td n ops K m L Z ρd ρs i) (h':Td n ops K m L Z ρd ρs j):Ye n ops K (m+1) L Z ρd ρs:=fun β O Z' rd rs g hs h1 h2=>ws_two i j hr (h β O Z' rd rs g hs h1 h2) (h' β O Z' rd rs g hs h1 h2)
theorem sA (i j k:Nat) (hr:(Region.ready .any ops L == [i,j,k])=true) (h:Td n ops K m L Z ρd ρs i) (h':Td n ops K m L Z ρd ρs j) (h'':Td n ops K m L Z ρd ρs k):Ye n ops K (m+1) L Z ρd ρs:=fun β O Z' rd rs g hs h1 h2=>Gy i j k hr (h β O Z' rd rs g hs h1 h2) (h' β O Z' rd rs g hs h1 h2) (h'' β O Z' rd rs g hs h1 h2)
theorem bj (ho:ops[i]?=some o) (hg:o.guard=none) (hd:o.dst=some d) (hlt:Nat.blt d n=true) (h:Qb o Z ρd fun p ρ'=>Ye n ops K m (L.setIfInBounds i true) (ig Z d p) ρ' ρs):Td n ops K m L Z ρd ρs i:=fun β O Z' rd rs g hs h1 h2 =>
 step_l ho hg hd hlt (((h O Z' rd g hs h1).framed (ρf:=rs)).mono fun v ρ' O' hk ⟨ρ1,e,pv,ρp,k1,k2,k3⟩=>⟨ρ1,e,k3 β O' _ ρ1 rs (g.mono hk) ((hs.mono hk).upd k1) k2 (h2.mono hk)⟩)
theorem eF (ho:ops[i]?=some o) (hg:o.guard=none) (hd:o.dst=none) (h:Qb o Z ρd fun _ ρ'=>Ye n ops K m (L.setIfInBounds i true) Z ρ' ρs):Td n ops K m L Z ρd ρs i:=fun β O Z' rd rs g hs h1 h2 =>
 step_l0 ho hg hd (((h O Z' rd g hs h1).framed (ρf:=rs)).mono fun v ρ' O' hk ⟨ρ1,e,pv,ρp,k1,k2,k3⟩=>⟨ρ1,e,k3 β O' _ ρ1 rs (g.mono hk) (hs.mono hk) k2 (h2.mono hk)⟩)
theorem nf {f:Nat} {l:List Operand} {ts:Array Nat} {pargs:List PV} {v:PV} (ho:ops[i]?=some o) (hg:o.guard=none) (hd:o.dst=some d) (hlt:Nat.blt d n=true) (hop:o.op=.call { callee:=.value (.func f),args:=l.toArray,argTypes:=ts }) (ha:l.map (bt Z)=pargs) (hc:PF f pargs v) (h:Ye n ops K m (L.setIfInBounds i true) (ig Z d v) ρd ρs):Td n ops K m L Z ρd ρs i :=
 bj ho hg hd hlt (DO hop ha hc h)
end
section
variable {n:Nat} {x:Code} {K:Exit->Ua} {Z:Xa} {ρ:List Qa} {a:Option Addr} {m c T sz:Nat} {α:Type} {enc:α->List PV} {xs:List α}
theorem dR (hm:Qa.row a m c T sz (xs.map enc)∈ρ) (h:xs.length=m->(0<m->a=some ⟨uf a,0,none⟩)->Ka n x K Z ρ):Ka n x K Z ρ:=fun β O Z' ρ' g hs hr hi=>by
 obtain ⟨r,hr1,hr2⟩:=hr.mem hm
 cases hr2 with
 | row hb ho hc =>
  have h1:=hi.own _ hr1
  have e1:=(im h1).2.1;have e2:=hc.len;rw [length_map] at e2
  exact h (by omega) (fun h0=>nD h1 h0) β O Z' ρ' g hs hr hi
theorem j7 {cc:Bool} {o:Oper} {y z0:Operand} {t by':Nat} {k:IntKind} {i:Int} {z:Value} {e:α} (hl:xs.length=m) (ha:0<m->a=some ⟨uf a,0,none⟩) (ho:o.op=.indexAddr t y z0) (hu:fQ t=some (.slice T)) (hi:iE T=some (z,sz,by')) (hx:Ra Z cc y (.v (.slice a m c))) (hy:Ra Z cc z0 (.v (.int k i))) (hm:cc=true->bx xs i=some e):Na cc o Z ρ (.v (.pointer (some ⟨uf a,i.toNat * sz,none⟩))):=fun O Z' ρ' g hs hrr=>by
 refine ⟨_,fun _=>.v rfl,fun hc w hst=>?_⟩
 obtain ⟨h0,hmm⟩:=mA (hm hc)
 have hlt:=(List.getElem?_eq_some_iff.1 hmm).1
 have h:=rC (c:=true) (ρ:=ρ') (O:=O) (j:=i.toNat) ho hu hi (fun _=>by rw [hs.ve hx hc,ha (by omega)]) (fun _=>hs.ve hy hc) (fun _=>by omega) (fun _=>by omega) rfl w hst
 rwa [Nat.zero_add] at h
end
theorem lr {n:Nat} {ops:Array Oper} {K:Ua} {m:Nat} {L:Array Bool} {Z:Xa} {ρd ρs:List Qa} (i:Nat) (h:Td n ops K m L Z ρd ρs i):Td n ops K m L Z ρd ρs i:=h
theorem EX {t E:Nat} (hu:fQ t=some (.slice E)) (a:Option Addr) (n c:Nat) (x y:Operand) (w:World):((eqGuard .eql t x y (.slice a n c) (.slice none 0 0)).run Tryz.prog w=.ok () w)/\(binOp .eql t (.slice a n c) (.slice none 0 0)).run Tryz.prog w=.ok (.bool a.isNone) w:=by
 constructor
 ·cases a <;> simp [eqGuard]
 simp only [binOp,Sem.run_bind,run_equal_slice_nil w t E a n c (bD hu),Result.andThen_ok,Sem.run_pure]
theorem zb {n:Nat} {ops:Array Oper} {o:Oper} {rest:List Oper} {K:Ua} {Z:Xa} {ρ:List Qa} {d t t' E mm:Nat} {x:Operand} {xs:List (List PV)} (hg:o.guard=none) (hd:o.dst=some d) (hlt:Nat.blt d n=true) (ho:o.op=.binOp .eql t x (.const (.slice none 0 0)) t') (hu:fQ t=some (.slice E)) (hx:bt Z x=.slc mm xs) (h:∀ b:Bool,(b=true->xs=[])->Wa n ops rest K (ig Z d (.v (.bool b))) ρ):Wa n ops (o::rest) K Z ρ:=fun β O Z' ρ' g hs hr=>by
 have he:=hs.ev x
 rw [hx] at he
 generalize hw':ev Z' x=w at he
 cases he with
 | slc hsl hb h1 hss =>
  rename_i a c sz css
  have hq:Rb true o Z' ρ' O (.bool a.isNone):=fun _ w _=>by
   obtain ⟨g1,g2⟩:=EX hu a mm c x (.const (.slice none 0 0)) w
   have e2:ev Z' (.const (.slice none 0 0))=.slice none 0 0:=rfl
   simp only [execOp,ho,hw',e2,Sem.run_bind,g1,Result.andThen_ok,g2,Sem.run_pure]
  refine gp hg hd hlt hq (h a.isNone (fun hn=>?_) β O _ ρ' g (hs.upd (.v rfl)) hr)
  cases a with
  | some ad=>cases hn
  | none =>
   have:mm=0:=by
    rcases Nat.eq_zero_or_pos mm with h | h
    ·exact h
    obtain ⟨b,off,e,_⟩:=hsl.at_ h;cases e
   subst this
   have e1:=hss.len;have e2:=hsl.len
   exact List.eq_nil_of_length_eq_zero (by omega)
theorem GS {α:Type} (l:List α) (k:Nat) (v:α) (h:l[k]?=some v):l.set k v=l:=by
 apply List.ext_getElem?;intro i;rw [List.getElem?_set];split
 ·rename_i hik;subst hik;rw [h];have:=(List.getElem?_eq_some_iff.1 h).1;simp [this]
 rfl
section
variable {n:Nat} {x:Code} {K:Exit->Ua} {KL:Ua} {Z:Xa} {ρ:List Qa} {ops:Array Oper} {lo:List Oper} {cs:List PV} {a:Option Addr} {m c:Nat} {css:List (List PV)} {α:Type} {enc:α->List PV} {xs:List α}
theorem agg_nil {O:Kr} {w:Value} {k:Nat} (h:Rp O (.agg cs) w) (hk:cs[k]?=some (.v (.slice none 0 0))):Rp O (.agg (cs.set k (.slc 0 []))) w:=by
 cases h with
 | agg ho hc =>
  obtain ⟨v,hv,hp⟩:=hc.get hk
  have hset:=hc.set (k:=k) (p:=.slc 0 []) (v:=v) (by rw [hp.val];exact uZ)
  rw [GS _ _ _ hv] at hset
  exact .agg ho hset
theorem oL (t k:Nat) (ht:Z t=.agg cs) (hk:cs[k]?=some (.v (.slice none 0 0))) (h:Wa n ops lo KL (ig Z t (.agg (cs.set k (.slc 0 [])))) ρ):Wa n ops lo KL Z ρ:=fun β O Z' ρ' g hs hr=>h β O Z' ρ' g (rD hs (agg_nil (by have:=hs t;rwa [ht] at this) hk)) hr
end
def zpv:Value->PV
 | .slice none 0 0=>.slc 0 []
 | x=>cond (sM x) (.v x) .any
theorem DS {O:Kr}:∀ (l:List Value),Xb O (l.map zpv) l
 | []=>.nil
 | x::l=>.cons (by unfold zpv;split;exact uZ;exact zV) (DS l)
theorem j8 {o:Oper} {Z:Xa} {ρ:List Qa} {c:Bool} {t sz by':Nat} {parts:List (Nat×Operand)} {fl:List (Nat×Nat)} {zs:List Value} {zp cs:List PV} (hc:c=true) (ho:o.op=.build t parts.toArray) (hz:iE t=some (.agg zs.toArray,sz,by')) (hf:tZ t=some fl) (hall:(fl.all fun p=>(iE p.2).isSome)=true) (hzp:zs.map zpv=zp) (hz1:zs.all Value.oneCell'=true) (h:Uc Z fl zp parts cs):Na c o Z ρ (.agg cs):=fun O Z' ρ' g hs hr=>by
 subst hc
 obtain ⟨cv,h1,h2,h3⟩:=h.real hs (zv:=zs) (by rw [<- hzp];exact DS zs) (fun u hu=>List.all_eq_true.1 hz1 u hu)
 exact ⟨_,fun _=>.agg h3 h2,Bc ho hz hf hall h1⟩
def jO (x y c:Int):Option (Int×Int):=if 0<=x/\0<=y/\0<=c/\c<=1 then some ((x+y+c) % 18446744073709551616,(x+y+c) / 18446744073709551616) else none
theorem Bu {o:Oper} {Z:Xa} {ρ:List Qa} {l:List Operand} {ts:Array Nat} {x y c:Int} {r:Int×Int} {K:PV->List Qa->Prop} (ho:o.op=.call { callee:=.value (.func 211),args:=l.toArray,argTypes:=ts }) (ha:l.map (bt Z)=[.v (.int .u64 x),.v (.int .u64 y),.v (.int .u64 c)]) (hr:jO x y c=some r) (h:K (.tup [.v (.int .u64 r.1),.v (.int .u64 r.2)]) ρ):Qb o Z ρ K:=fun O Z' ρ' g hs hrr=>by
 unfold jO at hr
 split at hr
 ·rename_i hh
  injection hr with hr;subst hr
  have hargs:=lm hs l
  rw [ha] at hargs
  obtain ⟨v1,w1,e1,h1,hargs⟩:=hargs.cons_inv
  obtain ⟨v2,w2,rfl,h2,hargs⟩:=hargs.cons_inv
  obtain ⟨v3,w3,rfl,h3,hargs⟩:=hargs.cons_inv
  rw [hargs.nil_inv,h1.val,h2.val,h3.val] at e1
  have hq:Rb true o Z' ρ' O (.tuple #[.int .u64 ((x+y+c) % 18446744073709551616),.int .u64 ((x+y+c) / 18446744073709551616)]):=fun _ w _=>by
   have hcall:=run_callFunc_extern (P:=Tryz.prog) Tryz.func211 (by kernel_rfl) (by kernel_rfl) (by kernel_rfl) (e:=add64Entry) (by kernel_rfl) #[.int .u64 x,.int .u64 y,.int .u64 c] w
   rw [run_add64 x y c hh.1 hh.2.1 hh.2.2.1 hh.2.2.2] at hcall
   simp only [Result.andThen_ok] at hcall
   unfold execOp
   simp only [ho,ev,resolve,Deferred.ofValue,Sem.run_bind,Sem.run_pure,Result.andThen_ok,invoke,map_toArray,e1]
   simp only [Array.append_empty,Array.empty_append,hcall]
  exact ol_q hq ⟨_,ρ,.tup (ws:=[_,_]) (.cons (.v rfl) (.cons (.v rfl) .nil)),hrr,h⟩
 cases hr
theorem eG {α:Type} {a:α} {l:List α}:a∈a::l:=List.Mem.head _
theorem tz {α:Type} {a b0:α} {l:List α}:a∈b0::a::l:=List.Mem.tail _ (List.Mem.head _)
theorem uR {α:Type} {a b0 b1:α} {l:List α}:a∈b0::b1::a::l:=List.Mem.tail _ (List.Mem.tail _ (List.Mem.head _))
theorem zm3 {α:Type} {a b0 b1 b2:α} {l:List α}:a∈b0::b1::b2::a::l:=List.Mem.tail _ (List.Mem.tail _ (List.Mem.tail _ (List.Mem.head _)))
theorem zm4 {α:Type} {a b0 b1 b2 b3:α} {l:List α}:a∈b0::b1::b2::b3::a::l:=List.Mem.tail _ (List.Mem.tail _ (List.Mem.tail _ (List.Mem.tail _ (List.Mem.head _))))
theorem zm5 {α:Type} {a b0 b1 b2 b3 b4:α} {l:List α}:a∈b0::b1::b2::b3::b4::a::l:=List.Mem.tail _ (List.Mem.tail _ (List.Mem.tail _ (List.Mem.tail _ (List.Mem.tail _ (List.Mem.head _)))))
theorem zm6 {α:Type} {a b0 b1 b2 b3 b4 b5:α} {l:List α}:a∈b0::b1::b2::b3::b4::b5::a::l:=List.Mem.tail _ (List.Mem.tail _ (List.Mem.tail _ (List.Mem.tail _ (List.Mem.tail _ (List.Mem.tail _ (List.Mem.head _))))))
theorem zm7 {α:Type} {a b0 b1 b2 b3 b4 b5 b6:α} {l:List α}:a∈b0::b1::b2::b3::b4::b5::b6::a::l:=List.Mem.tail _ (List.Mem.tail _ (List.Mem.tail _ (List.Mem.tail _ (List.Mem.tail _ (List.Mem.tail _ (List.Mem.tail _ (List.Mem.head _)))))))
theorem zm8 {α:Type} {a b0 b1 b2 b3 b4 b5 b6 b7:α} {l:List α}:a∈b0::b1::b2::b3::b4::b5::b6::b7::a::l:=List.Mem.tail _ (List.Mem.tail _ (List.Mem.tail _ (List.Mem.tail _ (List.Mem.tail _ (List.Mem.tail _ (List.Mem.tail _ (List.Mem.tail _ (List.Mem.head _))))))))
theorem zm9 {α:Type} {a b0 b1 b2 b3 b4 b5 b6 b7 b8:α} {l:List α}:a∈b0::b1::b2::b3::b4::b5::b6::b7::b8::a::l:=List.Mem.tail _ (List.Mem.tail _ (List.Mem.tail _ (List.Mem.tail _ (List.Mem.tail _ (List.Mem.tail _ (List.Mem.tail _ (List.Mem.tail _ (List.Mem.tail _ (List.Mem.head _)))))))))
theorem zm10 {α:Type} {a b0 b1 b2 b3 b4 b5 b6 b7 b8 b9:α} {l:List α}:a∈b0::b1::b2::b3::b4::b5::b6::b7::b8::b9::a::l:=List.Mem.tail _ (List.Mem.tail _ (List.Mem.tail _ (List.Mem.tail _ (List.Mem.tail _ (List.Mem.tail _ (List.Mem.tail _ (List.Mem.tail _ (List.Mem.tail _ (List.Mem.tail _ (List.Mem.head _))))))))))
theorem zm11 {α:Type} {a b0 b1 b2 b3 b4 b5 b6 b7 b8 b9 b10:α} {l:List α}:a∈b0::b1::b2::b3::b4::b5::b6::b7::b8::b9::b10::a::l:=List.Mem.tail _ (List.Mem.tail _ (List.Mem.tail _ (List.Mem.tail _ (List.Mem.tail _ (List.Mem.tail _ (List.Mem.tail _ (List.Mem.tail _ (List.Mem.tail _ (List.Mem.tail _ (List.Mem.tail _ (List.Mem.head _)))))))))))
theorem zm12 {α:Type} {a b0 b1 b2 b3 b4 b5 b6 b7 b8 b9 b10 b11:α} {l:List α}:a∈b0::b1::b2::b3::b4::b5::b6::b7::b8::b9::b10::b11::a::l:=List.Mem.tail _ (List.Mem.tail _ (List.Mem.tail _ (List.Mem.tail _ (List.Mem.tail _ (List.Mem.tail _ (List.Mem.tail _ (List.Mem.tail _ (List.Mem.tail _ (List.Mem.tail _ (List.Mem.tail _ (List.Mem.tail _ (List.Mem.head _))))))))))))
theorem zm13 {α:Type} {a b0 b1 b2 b3 b4 b5 b6 b7 b8 b9 b10 b11 b12:α} {l:List α}:a∈b0::b1::b2::b3::b4::b5::b6::b7::b8::b9::b10::b11::b12::a::l:=List.Mem.tail _ (List.Mem.tail _ (List.Mem.tail _ (List.Mem.tail _ (List.Mem.tail _ (List.Mem.tail _ (List.Mem.tail _ (List.Mem.tail _ (List.Mem.tail _ (List.Mem.tail _ (List.Mem.tail _ (List.Mem.tail _ (List.Mem.tail _ (List.Mem.head _)))))))))))))
theorem zmv {n:Nat} {ops:Array Oper} {o:Oper} {rest:List Oper} {K:Ua} {Z:Xa} {ρ:List Qa} {d:Nat} {x:Operand} {p:PV} (hg:o.guard=none) (hd:o.dst=some d) (hlt:Nat.blt d n=true) (ho:o.op=.move x) (hx:bt Z x=p) (hw:Wa n ops rest K (ig Z d p) ρ):Wa n ops (o::rest) K Z ρ:=cg hg hd hlt (bY ho (.p hx)) hw
theorem zas {n:Nat} {ops:Array Oper} {o:Oper} {rest:List Oper} {K:Ua} {Z:Xa} {ρ:List Qa} {d:Nat} {x:Operand} {p:PV} (hg:o.guard=none) (hd:o.dst=some d) (hlt:Nat.blt d n=true) (ho:o.op=.assign x) (hx:bt Z x=p) (hw:Wa n ops rest K (ig Z d p) ρ):Wa n ops (o::rest) K Z ρ:=cg hg hd hlt (cD ho (.p hx)) hw
theorem zex {n:Nat} {ops:Array Oper} {o:Oper} {rest:List Oper} {K:Ua} {Z:Xa} {ρ:List Qa} {d i:Nat} {vs:List PV} {x:Operand} {p:PV} (hg:o.guard=none) (hd:o.dst=some d) (hlt:Nat.blt d n=true) (ho:o.op=.extract x i) (hx:bt Z x=.tup vs) (hr:vs[i]?=some p) (hw:Wa n ops rest K (ig Z d p) ρ):Wa n ops (o::rest) K Z ρ:=cg hg hd hlt (xk ho (.p hx) hr) hw
def rg (a:Nat):Nat->List Nat
  | 0=>[]
  | n+1=>a::rg (a+1) n
theorem fh {n:Nat} {x y:Code} {K:Exit->Ua} {Z:Xa} {ρ:List Qa} {α:Type} {c:Operand} {p:Bool} {a b r:α} (hc:bt Z c=.v (.bool p)) (h:cond p a b=r) (ht:p=true->a=r->Ka n x K Z ρ) (hf:p=false->b=r->Ka n y K Z ρ):Ka n (.cond c x y) K Z ρ:=iV hc (fun e=>ht e (CL e h)) (fun e=>hf e (CM e h))
theorem oC {Z:Xa} {d0:Nat} {v0:PV} (h:Z d0=v0):Ya Z [(d0,v0)]:=by cases h;exact jK rfl (qr)
theorem ii {x0 v0:PV} {l:List PV}:Jb (x0::l) 0 [v0] (v0::l):=gr (GM)
theorem bN {x0:Qa} {l:List Qa}:Vb [x0] (x0::l):=bg aN (bq)
theorem lK {Z:Xa} {d0 d1:Nat} {v0 v1:PV} (h:(Z d0,Z d1)=(v0,v1)):Ya Z [(d0,v0),(d1,v1)]:=by cases h;exact jK rfl (jK rfl (qr))
theorem pV {x0 v0 x1 v1:PV} {l:List PV}:Jb (x0::x1::l) 0 [v0,v1] (v0::v1::l):=gr (gr (GM))
theorem tc {x0 x1:Qa} {l:List Qa}:Vb [x0,x1] (x0::x1::l):=bg aN (bg aN (bq))
theorem nt {Z:Xa} {d0 d1 d2:Nat} {v0 v1 v2:PV} (h:(Z d0,Z d1,Z d2)=(v0,v1,v2)):Ya Z [(d0,v0),(d1,v1),(d2,v2)]:=by cases h;exact jK rfl (jK rfl (jK rfl (qr)))
theorem AW {x0 v0 x1 v1 x2 v2:PV} {l:List PV}:Jb (x0::x1::x2::l) 0 [v0,v1,v2] (v0::v1::v2::l):=gr (gr (gr (GM)))
theorem rI {x0 x1 x2:Qa} {l:List Qa}:Vb [x0,x1,x2] (x0::x1::x2::l):=bg aN (bg aN (bg aN (bq)))
theorem jC {Z:Xa} {d0 d1 d2 d3:Nat} {v0 v1 v2 v3:PV} (h:(Z d0,Z d1,Z d2,Z d3)=(v0,v1,v2,v3)):Ya Z [(d0,v0),(d1,v1),(d2,v2),(d3,v3)]:=by cases h;exact jK rfl (jK rfl (jK rfl (jK rfl (qr))))
theorem zl4 {x0 v0 x1 v1 x2 v2 x3 v3:PV} {l:List PV}:Jb (x0::x1::x2::x3::l) 0 [v0,v1,v2,v3] (v0::v1::v2::v3::l):=gr (gr (gr (gr (GM))))
theorem CP {x0 x1 x2 x3:Qa} {l:List Qa}:Vb [x0,x1,x2,x3] (x0::x1::x2::x3::l):=bg aN (bg aN (bg aN (bg aN (bq))))
theorem gA {Z:Xa} {d0 d1 d2 d3 d4:Nat} {v0 v1 v2 v3 v4:PV} (h:(Z d0,Z d1,Z d2,Z d3,Z d4)=(v0,v1,v2,v3,v4)):Ya Z [(d0,v0),(d1,v1),(d2,v2),(d3,v3),(d4,v4)]:=by cases h;exact jK rfl (jK rfl (jK rfl (jK rfl (jK rfl (qr)))))
theorem td {x0 v0 x1 v1 x2 v2 x3 v3 x4 v4:PV} {l:List PV}:Jb (x0::x1::x2::x3::x4::l) 0 [v0,v1,v2,v3,v4] (v0::v1::v2::v3::v4::l):=gr (gr (gr (gr (gr (GM)))))
theorem zs5 {x0 x1 x2 x3 x4:Qa} {l:List Qa}:Vb [x0,x1,x2,x3,x4] (x0::x1::x2::x3::x4::l):=bg aN (bg aN (bg aN (bg aN (bg aN (bq)))))
theorem o3 {Z:Xa} {d0 d1 d2 d3 d4 d5:Nat} {v0 v1 v2 v3 v4 v5:PV} (h:(Z d0,Z d1,Z d2,Z d3,Z d4,Z d5)=(v0,v1,v2,v3,v4,v5)):Ya Z [(d0,v0),(d1,v1),(d2,v2),(d3,v3),(d4,v4),(d5,v5)]:=by cases h;exact jK rfl (jK rfl (jK rfl (jK rfl (jK rfl (jK rfl (qr))))))
theorem yB {Z:Xa} {d0 d1 d2 d3 d4 d5 d6:Nat} {v0 v1 v2 v3 v4 v5 v6:PV} (h:(Z d0,Z d1,Z d2,Z d3,Z d4,Z d5,Z d6)=(v0,v1,v2,v3,v4,v5,v6)):Ya Z [(d0,v0),(d1,v1),(d2,v2),(d3,v3),(d4,v4),(d5,v5),(d6,v6)]:=by cases h;exact jK rfl (jK rfl (jK rfl (jK rfl (jK rfl (jK rfl (jK rfl (qr)))))))
theorem zl7 {x0 v0 x1 v1 x2 v2 x3 v3 x4 v4 x5 v5 x6 v6:PV} {l:List PV}:Jb (x0::x1::x2::x3::x4::x5::x6::l) 0 [v0,v1,v2,v3,v4,v5,v6] (v0::v1::v2::v3::v4::v5::v6::l):=gr (gr (gr (gr (gr (gr (gr (GM)))))))
theorem Iq {Z:Xa} {d0 d1 d2 d3 d4 d5 d6 d7:Nat} {v0 v1 v2 v3 v4 v5 v6 v7:PV} (h:(Z d0,Z d1,Z d2,Z d3,Z d4,Z d5,Z d6,Z d7)=(v0,v1,v2,v3,v4,v5,v6,v7)):Ya Z [(d0,v0),(d1,v1),(d2,v2),(d3,v3),(d4,v4),(d5,v5),(d6,v6),(d7,v7)]:=by cases h;exact jK rfl (jK rfl (jK rfl (jK rfl (jK rfl (jK rfl (jK rfl (jK rfl (qr))))))))
theorem zl8 {x0 v0 x1 v1 x2 v2 x3 v3 x4 v4 x5 v5 x6 v6 x7 v7:PV} {l:List PV}:Jb (x0::x1::x2::x3::x4::x5::x6::x7::l) 0 [v0,v1,v2,v3,v4,v5,v6,v7] (v0::v1::v2::v3::v4::v5::v6::v7::l):=gr (gr (gr (gr (gr (gr (gr (gr (GM))))))))
theorem wv {Z:Xa} {d0 d1 d2 d3 d4 d5 d6 d7 d8:Nat} {v0 v1 v2 v3 v4 v5 v6 v7 v8:PV} (h:(Z d0,Z d1,Z d2,Z d3,Z d4,Z d5,Z d6,Z d7,Z d8)=(v0,v1,v2,v3,v4,v5,v6,v7,v8)):Ya Z [(d0,v0),(d1,v1),(d2,v2),(d3,v3),(d4,v4),(d5,v5),(d6,v6),(d7,v7),(d8,v8)]:=by cases h;exact jK rfl (jK rfl (jK rfl (jK rfl (jK rfl (jK rfl (jK rfl (jK rfl (jK rfl (qr)))))))))
theorem GT {x0 v0 x1 v1 x2 v2 x3 v3 x4 v4 x5 v5 x6 v6 x7 v7 x8 v8:PV} {l:List PV}:Jb (x0::x1::x2::x3::x4::x5::x6::x7::x8::l) 0 [v0,v1,v2,v3,v4,v5,v6,v7,v8] (v0::v1::v2::v3::v4::v5::v6::v7::v8::l):=gr (gr (gr (gr (gr (gr (gr (gr (gr (GM)))))))))
theorem zq {t:Nat} {R:PV->List Qa->Prop} {Z:Xa} {ρ:List Qa} {p:PV} (h:Z t=p) (hr:R p []):jN [.tmp t] R .ret Z ρ:=aH (dZ (az h)) bq hr
theorem osi {α:Type} {a b:α} (h:some a=some b):a=b:=Option.some.inj h

def Bv:TypeDesc->Bool
 | .interface _=>true
 | _=>false
section
variable {o:Oper} {Z:Xa} {ρ:List Qa} {x:Operand} {t:Nat}
theorem CQ {Z:Ma} {ρ:List Ja} {O:Kr} {d:TypeDesc} (ho:o.op=.makeInterface t x) (hu:fQ t=some d) (hn:Bv d=false):Rb true o Z ρ O (.iface t (ev Z x)):=fun _ w _=>by
 have h:=run_underlying (w:=w) (bD hu)
 cases d <;> first | (cases hn;done) | simp [execOp,ho,Instr.makeInterface,h]
theorem CS {d:TypeDesc} (ho:o.op=.makeInterface t x) (hu:fQ t=some d) (hn:Bv d=false):Na true o Z ρ (.ifc t (bt Z x)):=fun O Z' ρ' g hs hr=>⟨_,fun _=>.ifc (hs.ev x),CQ ho hu hn⟩
def ta (T:Nat) (p:PV):Option PV:=match p with
 | .ifc t q=>cond (Nat.beq t T) (some (.tup [q,.v (.bool true)])) (match iE T with
  | some (.agg ⟨zs⟩,_,_)=>cond (zs.all Value.oneCell') (some (.tup [.agg (zs.map fun x=>cond (sM x) (.v x) .any),.v (.bool false)])) none
  | _=>none)
 | _=>none
theorem oq_ta {Z:Ma} {ρ:List Ja} {O:Kr} {xT T s:Nat} {v z:Value} {d:TypeDesc} {sz by':Nat} (ho:o.op=.typeAssert x xT T true) (hu:fQ T=some d) (hn:Bv d=false) (hz:iE T=some (z,sz,by')) (hx:ev Z x=.iface s v):Rb true o Z ρ O (if s=T then .tuple #[v,.bool true] else .tuple #[z,.bool false]):=fun _ w _=>by
 have h:=run_underlying (w:=w) (bD hu)
 have hzv:=gq hz w
 by_cases hst:s=T
 ·cases d <;> first | (cases hn;done) | simp [execOp,ho,hx,Instr.typeAssert,h,hst]
 cases d <;> first | (cases hn;done) | simp [execOp,ho,hx,Instr.typeAssert,h,hst,hzv]
theorem pq_ta {xT T:Nat} {d:TypeDesc} {p r:PV} (ho:o.op=.typeAssert x xT T true) (hu:fQ T=some d) (hn:Bv d=false) (hi:(iE T).isSome=true) (hx:bt Z x=p) (hr:ta T p=some r):Na true o Z ρ r:=fun O Z' ρ' g hs hrr=>by
 obtain ⟨⟨z,sz,by'⟩,hz⟩:=Option.isSome_iff_exists.1 hi
 have h:=hs.ev x
 rw [hx] at h
 generalize he:ev Z' x=w at h
 cases h with
 | ifc h =>
  rename_i s q v
  have hq:=oq_ta (ρ:=ρ') (O:=O) ho hu hn hz he
  simp only [ta] at hr
  cases hb:Nat.beq s T
  ·have hne:s≠T:=fun e=>by rw [e] at hb;simp at hb
   rw [hb,hz] at hr
   simp only [dq] at hr
   rw [if_neg hne] at hq
   split at hr
   ·rename_i zs s1 b1 heq
    simp only [gn,Prod.mk.injEq] at heq
    obtain ⟨rfl,rfl,rfl⟩:=heq
    cases ho1:zs.all Value.oneCell'
    ·rw [ho1] at hr;cases hr
    rw [ho1] at hr;simp only [cQ,gn] at hr;subst hr
    exact ⟨_,fun _=>.tup (ws:=[_,_]) (.cons (.agg (ds:=zs) (fun u hu=>List.all_eq_true.1 ho1 u hu) (lV zs)) (.cons (.v rfl) .nil)),hq⟩
   cases hr
  ·have hst:=eq_of_beq_eq_true hb
   rw [hb] at hr;simp only [cQ,gn] at hr;subst hr
   rw [if_pos hst] at hq
   exact ⟨_,fun _=>.tup (ws:=[_,_]) (.cons h (.cons (.v rfl) .nil)),hq⟩
 | _=>simp only [ta] at hr;cases hr
end
structure Pg (t:Nat) (name:String) (f:Nat):Prop where
 h:∀ (v:Value) (w:World),(method (Tryz.prog.types.size+Made.depth) t v name).run Tryz.prog w=.ok (f,v) w
theorem CT {o:Oper} {Z:Ma} {ρ:List Ja} {O:Kr} {K:Value->List Ja->Kr->Prop} {f t:Nat} {x:Operand} {name:String} {l:List Operand} {ts:Array Nat} {v:Value} {R:Value->Kr->Prop} (ho:o.op=.call { callee:=.invoke x name,args:=l.toArray,argTypes:=ts })
    (hx:ev Z x=.iface t v) (hm:Pg t name f) (hc:Rc f (v::l.map (ev Z)) O R) (h:∀ v O',Sa O O'->R v O'->K v ρ O'):Lc o Z ρ O K:=fun β hi Nx hk=>by
  have hi2:=hi.perm (List.Perm.refl ([]++ρ))
  have e1:(#[Value.iface t v]++(l.map (ev Z)).toArray)[0]?=some (.iface t v):=by simp
  have e2:(#[Value.iface t v]++(l.map (ev Z)).toArray).extract 1 (#[Value.iface t v]++(l.map (ev Z)).toArray).size=(l.map (ev Z)).toArray:=by simp;exact List.take_of_length_le (by simp)
  have e3:#[v]++(l.map (ev Z)).toArray=(v::l.map (ev Z)).toArray:=by simp
  have hp:(program).run Tryz.prog O.w=.ok Tryz.prog O.w:=rfl
  unfold execOp
  simp only [ho,resolve,Sem.run_bind,Sem.run_pure,Result.andThen_ok,invoke,map_toArray,hx,e1,e2,callMethod,hp,hm.h,e3,qB hc.1,Wc]
  exact (hc.2 hi2.split).mono fun e w' ⟨v,ρ',O',h1,h2,h3,h4⟩=>by
    subst h2
    obtain ⟨rfl,h4⟩:=h4
    exact ⟨v,h1,hk v ρ O' (hi2.join h3) h3.le.kle (h v O' h3.le.kle h4)⟩
def PFI (p:PV) (name:String) (pargs:List PV) (r:PV):Prop:=∃ t q f,p=.ifc t q/\Pg t name f/\PF f (q::pargs) r
abbrev pI (x:Int):PV:=.v (.int .i64 x)
abbrev pU (x:Int):PV:=.v (.int .u64 x)
abbrev pY (x:Int):PV:=.v (.int .u8 x)
abbrev pB (b:Bool):PV:=.v (.bool b)
abbrev pS (s:Xh):PV:=.v (.string s)
abbrev pP (b off:Nat):PV:=.v (.pointer (some ⟨b,off,none⟩))
abbrev pO (a:Option Addr) (n c:Nat):PV:=.v (.slice a n c)
abbrev pN:PV:=.v (.slice none 0 0)
abbrev pL {α:Type} (e:α->List PV) (xs:List α):PV:=.slc xs.length (List.map e xs)
def AX:IntKind->Nat
 | .i8=>0 | .i16=>1 | .i32=>2 | .i64=>3 | .u8=>4 | .u16=>5 | .u32=>6 | .u64=>7
theorem ww {a b:IntKind} (h:Nat.beq (AX a) (AX b)=true):a=b:=by cases a <;> cases b <;> first | rfl | cases h
def GU:Int->Bool
 | .ofNat (_+1)=>true
 | _=>false
def ge0l:Int->Bool
 | .ofNat _=>true
 | _=>false
theorem DT {b:Int} (h:GU b=true):b≠0:=by rintro rfl;cases h
theorem ge0l_ge {b:Int} (h:ge0l b=true):0<=b:=by cases b with | ofNat n=>exact Int.natCast_nonneg n | negSucc n=>cases h
def qcmp (op:BinOp) (a b:Int):Option Bool:=match op with | .eql=>some (a == b) | .neq=>some (a != b) | .lss=>some (decide (a<b)) | .leq=>some (decide (a<=b)) | .gtr=>some (decide (b<a)) | .geq=>some (decide (b<=a)) | _=>none
def qari (op:BinOp) (a b:Int):Option Int:=match op with | .add=>some (a+b) | .sub=>some (a - b) | .mul=>some (a*b) | _=>none
def qbit (op:BinOp) (k:IntKind) (a b:Int):Option Int:=match op with | .and=>some (ji k a b) | .or=>some (xi k a b) | .xor=>some (rE k a b) | _=>none
def qshf (op:BinOp) (k:IntKind) (a b:Int):Option Int:=match op with | .shl=>some (ja k a b) | .shr=>some (ex k a b) | _=>none
def qeqb (op:BinOp) (p q:Bool):Option Bool:=match op with | .eql=>some (p == q) | .neq=>some (p != q) | _=>none
def qstr (op:BinOp) (s u:Xh):Option Bool:=match op with | .eql=>some (decide (s=u)) | .neq=>some (!decide (s=u)) | .lss=>some (Op.bytesLess s.toList u.toList) | .leq=>some (Op.bytesLess s.toList u.toList||decide (s=u)) | .gtr=>some (!(Op.bytesLess s.toList u.toList||decide (s=u))) | .geq=>some (!Op.bytesLess s.toList u.toList) | _=>none
def qint (op:BinOp) (k k':IntKind) (a b:Int):Option PV :=
 match qshf op k a b with
 | some r=>cond (ge0l b) (some (.v (.int k r))) none
 | none=>cond (Nat.beq (AX k) (AX k'))
  (match qcmp op a b with
   | some r=>some (.v (.bool r))
   | none=>match qari op a b with
    | some r=>some (.v (.int k (k.wrap r)))
    | none=>match qbit op k a b with
     | some r=>some (.v (.int k r))
     | none=>match op with
      | .quo=>cond (GU b) (some (.v (.int k (k.wrap (a.tdiv b))))) none
      | .rem=>cond (GU b) (some (.v (.int k (a.tmod b)))) none
      | _=>none) none
def qbin (op:BinOp) (t:Nat) (p q:PV):Option PV:=match p,q with
 | .v (.int k a),.v (.int k' b)=>qint op k k' a b
 | .v (.bool p),.v (.bool q)=>(match fQ t with | some .bool=>(qeqb op p q).map fun r=>.v (.bool r) | _=>none)
 | .v (.string s),.v (.string u)=>(qstr op s u).map fun r=>.v (.bool r)
 | _,_=>none
def qlen (t:Nat) (p:PV):Option PV:=match fQ t,p with
 | some (.slice _),.slc m _=>some (.v (.int .i64 (m:Int)))
 | some (.slice _),.v (.slice _ m _)=>some (.v (.int .i64 (m:Int)))
 | some .string,.v (.string s)=>some (.v (.int .i64 (s.size:Int)))
 | _,_=>none
def qmm (mx:Bool) (p q:PV):Option PV:=match p,q with
 | .v (.int k a),.v (.int k' b)=>cond (Nat.beq (AX k) (AX k')) (some (.v (.int k (cond mx (eO a b) (lJ a b))))) none
 | _,_=>none
def Bw (Z:Xa) (fl:List (Nat×Nat)):List PV->List (Nat×Operand)->Option (List PV)
 | zs,[]=>some zs
 | zs,(i,x)::r=>match fl[i]? with
  | some (k,ty)=>match iE ty,kp (bt Z x) with
   | some (_,sz,_),some vs=>cond (Nat.beq vs.length sz&&Nat.ble (k+vs.length) zs.length) (Bw Z fl (zs.take k++vs++zs.drop (k+vs.length)) r) none
   | _,_=>none
  | none=>none
theorem Bx {Z:Xa} {fl:List (Nat×Nat)}:∀ {parts:List (Nat×Operand)} {zs cs:List PV},Bw Z fl zs parts=some cs->Uc Z fl zs parts cs
 | [],zs,cs,h=>by simp only [Bw,gn] at h;exact h
 | (i,x)::r,zs,cs,h=>by
  simp only [Bw] at h
  split at h
  ·rename_i k ty h1
   split at h
   ·rename_i z sz by' vs h2 h3
    cases hb:(Nat.beq vs.length sz&&Nat.ble (k+vs.length) zs.length)
    ·rw [hb] at h;cases h
    rw [hb] at h
    simp only [and_eq_true] at hb
    exact sZ h1 h2 h3 hb.1 ⟨rfl,Nat.le_of_ble_eq_true hb.2⟩ (Bx h)
   cases h
  cases h
def qfa (s f:Nat) (p:PV):Option PV:=match tZ s with
 | some l=>match l[f]? with
  | some (kk,ty)=>match iE ty with
   | some (_,sz,_)=>cond (Nat.blt 0 sz) (match p with
    | .v (.pointer (some ⟨b,off,none⟩))=>some (.v (.pointer (some ⟨b,off+kk,none⟩)))
    | .ref cs off=>some (.ref cs (off+kk))
    | _=>none) none
   | none=>none
  | none=>none
 | none=>none
def qfd (t f:Nat) (p:PV):Option PV:=match tZ t with
 | some l=>match l[f]? with
  | some (kk,ty)=>match p with
   | .agg cs=>cond (Nat.ble kk cs.length) (my ty (cs.drop kk)) none
   | _=>none
  | none=>none
 | none=>none
def qx (Z:Xa) (ρ:List Qa) (at_:Nat):Op->Option (PV×Option (Nat×Nat))
 | .move x=>some (bt Z x,none)
 | .assign x=>some (bt Z x,none)
 | .binOp op t x y _=>(qbin op t (bt Z x) (bt Z y)).map fun p=>(p,none)
 | .unOp .not _ x=>(match bt Z x with | .v (.bool p)=>some (.v (.bool !p),none) | _=>none)
 | .unOp .neg _ x=>(match bt Z x with | .v (.int k a)=>some (.v (.int k (k.wrap (0 - a))),none) | _=>none)
 | .convert s d x=>(match fQ s,fQ d,bt Z x with | some _,some (.int k'),.v (.int _ a)=>some (.v (.int k' (k'.wrap a)),none) | _,_,_=>none)
 | .nilCheck x=>(match bt Z x with | .v (.pointer (some ad))=>some (.v (.pointer (some ad)),none) | .ref cs k=>some (.ref cs k,none) | .ifc t p=>some (.ifc t p,none) | _=>none)
 | .fieldAddr s x f=>(qfa s f (bt Z x)).map fun p=>(p,none)
 | .field t x f=>(qfd t f (bt Z x)).map fun p=>(p,none)
 | .extract x i=>(match bt Z x with | .tup vs=>(vs[i]?).map fun p=>(p,none) | _=>none)
 | .load t x=>(match bt Z x with
  | .ref cs off=>(my t (cs.drop off)).map fun p=>(p,none)
  | .v (.pointer (some ⟨b,off,none⟩))=>(match ρ[at_]? with | some (.b b' _ cs)=>(my t (cs.drop off)).map fun p=>(p,some (b,b')) | _=>none)
  | _=>none)
 | .call ⟨.builtin .len,⟨[x]⟩,⟨[t]⟩⟩=>(qlen t (bt Z x)).map fun p=>(p,none)
 | .call ⟨.builtin .min,⟨[x,y]⟩,_⟩=>(qmm false (bt Z x) (bt Z y)).map fun p=>(p,none)
 | .call ⟨.builtin .max,⟨[x,y]⟩,_⟩=>(qmm true (bt Z x) (bt Z y)).map fun p=>(p,none)
 | .makeFunc (.func f) ⟨[]⟩ ⟨l⟩=>some (.fn f (l.map (bt Z)),none)
 | .makeInterface t x=>(match fQ t with | some d=>cond (Bv d) none (some (.ifc t (bt Z x),none)) | none=>none)
 | .build t ⟨parts⟩=>(match iE t,tZ t with
  | some (.agg ⟨zs⟩,_,_),some fl=>cond ((fl.all fun p=>(iE p.2).isSome)&&zs.all Value.oneCell') ((Bw Z fl (zs.map fun x=>cond (sM x) (.v x) .any) parts).map fun cs=>(.agg cs,none)) none
  | _,_=>none)
 | _=>none
section
variable {o:Oper} {Z:Xa} {ρ:List Qa} {x y:Operand} {t t':Nat} {p:PV}
theorem map_none {a:Option PV} {p:PV} {e:Option (Nat×Nat)} (h:(a.map fun q=>(q,(none:Option (Nat×Nat))))=some (p,e)):a=some p:=by
 cases a with
 | none=>cases h
 | some q=>simp only [Option.map_some,gn,Prod.mk.injEq] at h;rw [h.1]
theorem qint_ok {op:BinOp} {k k':IntKind} {a b:Int} (ho:o.op=.binOp op t x y t') (hx:bt Z x=.v (.int k a)) (hy:bt Z y=.v (.int k' b)) (h:qint op k k' a b=some p):Na true o Z ρ p:=by
 unfold qint at h
 split at h
 ·rename_i r hr
  cases hb:ge0l b
  ·rw [hb] at h;cases h
  rw [hb] at h;simp only [cQ,gn] at h;subst h
  exact xj ho (.p hx) (.p hy) (fun _=>ge0l_ge hb) (by cases op <;> exact hr)
 cases hk:Nat.beq (AX k) (AX k')
 ·rw [hk] at h;cases h
 rw [hk] at h;simp only [cQ] at h
 have:=ww hk;subst this
 split at h
 ·rename_i r hr;simp only [gn] at h;subst h;exact xh ho (.p hx) (.p hy) (by cases op <;> exact hr)
 split at h
 ·rename_i r hr;simp only [gn] at h;subst h;exact nB ho (.p hx) (.p hy) (by cases op <;> exact hr)
 split at h
 ·rename_i r hr;simp only [gn] at h;subst h;exact pq_bits ho (.p hx) (.p hy) (by cases op <;> exact hr)
 split at h
 ·cases hb:GU b
  ·rw [hb] at h;cases h
  rw [hb] at h;simp only [cQ,gn] at h;subst h;exact GJ ho (.p hx) (.p hy) fun _=>DT hb
 ·cases hb:GU b
  ·rw [hb] at h;cases h
  rw [hb] at h;simp only [cQ,gn] at h;subst h;exact GK ho (.p hx) (.p hy) fun _=>DT hb
 cases h
theorem qbin_ok {op:BinOp} (ho:o.op=.binOp op t x y t') (h:qbin op t (bt Z x) (bt Z y)=some p):Na true o Z ρ p:=by
 unfold qbin at h
 split at h
 ·rename_i h1 h2;exact qint_ok ho h1 h2 h
 ·rename_i h1 h2
  split at h
  ·rename_i hu
   obtain ⟨r,hr,rfl⟩:=Option.map_eq_some_iff.1 h
   exact pq_eqB ho hu (.p h1) (.p h2) (by cases op <;> exact hr)
  cases h
 ·rename_i h1 h2
  obtain ⟨r,hr,rfl⟩:=Option.map_eq_some_iff.1 h
  exact pq_str ho (.p h1) (.p h2) (by cases op <;> exact hr)
 cases h
theorem qlen_ok (ho:o.op=.call { callee:=.builtin .len,args:=#[x],argTypes:=#[t] }) (h:qlen t (bt Z x)=some p):Na true o Z ρ p:=by
 unfold qlen at h
 split at h
 ·rename_i hu hx;simp only [gn] at h;subst h;exact pq_len ho hu (.p hx)
 ·rename_i hu hx;simp only [gn] at h;subst h;exact pq_lenO ho hu (.p hx)
 ·rename_i hu hx;simp only [gn] at h;subst h;exact pq_lenS ho hu (.p hx)
 cases h
theorem GV {mx:Bool} {ts:List Nat} (ho:o.op=.call { callee:=.builtin (cond mx .max .min),args:=#[x,y],argTypes:=ts.toArray }) (h:qmm mx (bt Z x) (bt Z y)=some p):Na true o Z ρ p:=by
 unfold qmm at h
 split at h
 ·rename_i k a k' b h1 h2
  cases hk:Nat.beq (AX k) (AX k')
  ·rw [hk] at h;cases h
  have:=ww hk;subst this
  rw [hk] at h
  simp only [cQ,gn] at h;subst h
  cases mx
  ·exact pq_min ho (.p h1) (.p h2)
  exact z8 ho (.p h1) (.p h2)
 cases h
theorem qfa_ok {s f:Nat} (ho:o.op=.fieldAddr s x f) (h:qfa s f (bt Z x)=some p):Na true o Z ρ p:=by
 unfold qfa at h
 split at h
 ·rename_i l h1
  split at h
  ·rename_i kk ty h2
   split at h
   ·rename_i z sz by' h3
    cases h4:Nat.blt 0 sz
    ·rw [h4] at h;cases h
    rw [h4] at h;simp only [cQ] at h
    split at h
    ·rename_i hx;simp only [gn] at h;subst h;exact bR ho h1 h2 h3 h4 (.p hx)
    ·rename_i hx;simp only [gn] at h;subst h;exact yA ho h1 h2 h3 h4 (.p hx)
    cases h
   cases h
  cases h
 cases h
theorem qfd_ok {f:Nat} (ho:o.op=.field t x f) (h:qfd t f (bt Z x)=some p):Na true o Z ρ p:=by
 unfold qfd at h
 split at h
 ·rename_i l h1
  split at h
  ·rename_i kk ty h2
   split at h
   ·rename_i cs hx
    cases h4:Nat.ble kk cs.length
    ·rw [h4] at h;cases h
    rw [h4] at h;exact GL ho h1 h2 (.p hx) h4 h
   cases h
  cases h
 cases h
theorem Ae {c:Bool} {tt:Nat} {pp:PV} (ho:o.op=.nilCheck x) (hx:Ra Z c x (.ifc tt pp)):Na c o Z ρ (.ifc tt pp):=fun O Z' ρ' g hs _=>by
 refine ⟨ev Z' x,hs.pe hx,fun hc w _=>?_⟩
 have h:=hs.pe hx hc
 generalize he:ev Z' x=y at h
 cases h with
 | ifc h=>simp [execOp,ho,he]
theorem qx_ok {k:Nat} {e:Option (Nat×Nat)} (h:qx Z ρ k o.op=some (p,e)) (he:∀ b b',e=some (b,b')->b=b'):Na true o Z ρ p:=by
 generalize ho:o.op=op at h
 unfold qx at h
 split at h
 ·simp only [gn,Prod.mk.injEq] at h;obtain ⟨rfl,_⟩:=h;exact bY ho (.p rfl)
 ·simp only [gn,Prod.mk.injEq] at h;obtain ⟨rfl,_⟩:=h;exact cD ho (.p rfl)
 ·exact qbin_ok ho (map_none h)
 ·split at h
  ·rename_i hx;simp only [gn,Prod.mk.injEq] at h;obtain ⟨rfl,_⟩:=h;exact zY ho (.p hx)
  cases h
 ·split at h
  ·rename_i hx;simp only [gn,Prod.mk.injEq] at h;obtain ⟨rfl,_⟩:=h;exact pq_neg ho (.p hx)
  cases h
 ·split at h
  ·rename_i h1 h2 hx;simp only [gn,Prod.mk.injEq] at h;obtain ⟨rfl,_⟩:=h;exact pq_conv ho h1 h2 (.p hx)
  cases h
 ·split at h
  ·rename_i hx;simp only [gn,Prod.mk.injEq] at h;obtain ⟨rfl,_⟩:=h;exact nC ho (.p hx)
  ·rename_i hx;simp only [gn,Prod.mk.injEq] at h;obtain ⟨rfl,_⟩:=h;exact zZ ho (.p hx)
  ·rename_i hx;simp only [gn,Prod.mk.injEq] at h;obtain ⟨rfl,_⟩:=h;exact Ae ho (.p hx)
  cases h
 ·exact qfa_ok ho (map_none h)
 ·exact qfd_ok ho (map_none h)
 ·split at h
  ·rename_i hx;exact xk ho (.p hx) (map_none h)
  cases h
 ·split at h
  ·rename_i hx;exact p9 ho (.p hx) (map_none h)
  ·rename_i b off hx
   split at h
   ·rename_i b' T cs hr
    obtain ⟨q,hq,h2⟩:=Option.map_eq_some_iff.1 h
    simp only [Prod.mk.injEq] at h2
    obtain ⟨rfl,rfl⟩:=h2
    have:=he b b' rfl;subst this
    exact co ho (.p hx) (mem_of_getElem? hr) hq
   cases h
  cases h
 ·exact qlen_ok ho (map_none h)
 ·exact GV (mx:=false) (ts:=_) ho (map_none h)
 ·exact GV (mx:=true) (ts:=_) ho (map_none h)
 ·simp only [gn,Prod.mk.injEq] at h;obtain ⟨rfl,_⟩:=h;exact Bo ho
 ·split at h
  ·rename_i d hu
   cases hn:Bv d
   ·rw [hn] at h;simp only [dq,gn,Prod.mk.injEq] at h;obtain ⟨rfl,_⟩:=h;exact CS ho hu hn
   rw [hn] at h;cases h
  cases h
 ·split at h
  ·rename_i zs sz by' fl h1 h2
   cases hc:((fl.all fun p=>(iE p.2).isSome)&&zs.all Value.oneCell')
   ·rw [hc] at h;cases h
   rw [hc] at h
   simp only [cQ] at h
   obtain ⟨q,hq,h3⟩:=Option.map_eq_some_iff.1 h
   simp only [Prod.mk.injEq] at h3
   obtain ⟨rfl,_⟩:=h3
   simp only [and_eq_true] at hc
   exact GN rfl ho h1 h2 hc.1 rfl hc.2 (Bx hq)
  cases h
 cases h
end
structure GE where
 gs:List Bool
 p:PV
def gl (t:Nat):List (Nat×GE)->Option GE
 | []=>none
 | (d,e)::l=>cond (Nat.beq t d) (some e) (gl t l)
def GW (t:Nat):List (Nat×GE)->List (Nat×GE)
 | []=>[]
 | (d,e)::l=>cond (Nat.beq t d) (GW t l) ((d,e)::GW t l)
def GX (d:Nat):List Nat->Bool
 | []=>false
 | k::l=>cond (Nat.beq d k) true (GX d l)
theorem wx {d:Nat}:∀ {l:List Nat},GX d l=true↔d∈l
 | []=>by simp [GX]
 | k::l=>by
  unfold GX
  cases h:Nat.beq d k
  ·have:d≠k:=fun e=>by rw [e] at h;simp at h
   simp [wx (l:=l),this]
  simp [eq_of_beq_eq_true h]
def jn:List Operand->List Nat
 | []=>[]
 | .tmp t::l=>t::jn l
 | _::l=>jn l
def rb (Z:Xa) (G:List (Nat×GE)) (ts:List Nat) (gs:List Bool):Xa:=fun t=>match gl t G with
 | none=>Z t
 | some e=>cond (GX t ts&&Nat.ble e.gs.length gs.length) e.p .any
def og (G:List (Nat×GE)) (gs:List Bool):List Nat->List (Bool×Bool)
 | []=>[]
 | t::ts=>match gl t G with
  | none=>og G gs ts
  | some e=>(e.gs.headD true,(gs.drop (gs.length - e.gs.length)).headD true)::og G gs ts
def Af (ops:Array Oper) (Z:Xa) (G:List (Nat×GE)):Option (Nat×Bool)->Option (List Bool)
 | none=>some []
 | some (j,pol)=>match (ops[j]?).bind (·.dst) with
  | none=>none
  | some d=>match gl d G with
   | none=>match Z d with | .v (.bool p)=>some [cond pol p (!p)] | _=>none
   | some e=>match e.p with | .v (.bool p)=>some ((e.gs.headD true&&cond pol p (!p))::e.gs) | _=>none
def Tc (gs:List Bool):Prop:=gs.headD true=true->∀ b∈gs,b=true
def Md (Z:Xa) (G:List (Nat×GE)):Prop:=∀ t e,gl t G=some e->Z t=pgv (e.gs.headD true) e.p/\Tc e.gs/\e.gs≠[]
def Kc (l:List (Bool×Bool)):Prop:=l.map (·.1)=l.map (·.2)
theorem Kc.nil:Kc []:=rfl
theorem Kc.cons {a b:Bool} {l:List (Bool×Bool)} (h:Kc ((a,b)::l)):a=b/\Kc l:=by
 unfold Kc at h;simp only [map_cons,List.cons.injEq] at h;exact h
theorem Kc.app {l m:List (Bool×Bool)} (h:Kc (l++m)):Kc l/\Kc m:=by
 unfold Kc at h;simp only [map_append] at h
 exact append_inj h (by simp)
theorem uh {G:List (Nat×GE)} {gs:List Bool} {t:Nat} {e:GE}:∀ {ts:List Nat},t∈ts->gl t G=some e->Kc (og G gs ts)->e.gs.headD true=(gs.drop (gs.length - e.gs.length)).headD true
 | u::ts,hm,hg,ha=>by
  simp only [og] at ha
  rcases List.mem_cons.1 hm with rfl | hm
  ·rw [hg] at ha;exact ha.cons.1
  split at ha
  ·exact uh hm hg ha
  exact uh hm hg ha.cons.2
theorem xq {gs:List Bool} (h:Tc gs) (hc:gs.headD true=true) (k:Nat):(gs.drop k).headD true=true:=by
 rw [List.headD_eq_head?_getD,List.head?_drop]
 cases e:gs[k]? with
 | none=>rfl
 | some b=>exact h hc b (mem_of_getElem? e)
theorem ui {O:Kr} {Z:Xa} {Z':Ma} {G:List (Nat×GE)} {ts:List Nat} {gs:List Bool} (hs:Xc O Z Z') (hi:Md Z G) (ha:Kc (og G gs ts)) (hk:Tc gs) (hc:gs.headD true=true):Xc O (rb Z G ts gs) Z':=fun t=>by
 unfold rb
 cases hg:gl t G with
 | none=>exact hs t
 | some e =>
  simp only
  cases hb:(GX t ts&&Nat.ble e.gs.length gs.length)
  ·exact .any
  simp only [and_eq_true,wx] at hb
  have h1:=uh hb.1 hg ha
  rw [xq hk hc] at h1
  have h2:=(hi t e hg).1
  rw [h1,lp] at h2
  have:=hs t
  rw [h2] at this
  exact this
theorem va {o:Oper} {Z:Xa} {ρ:List Qa} {G:List (Nat×GE)} {ts:List Nat} {gs:List Bool} {p:PV} (h:gs.headD true=true->Na true o (rb Z G ts gs) ρ p) (hi:Md Z G) (ha:Kc (og G gs ts)) (hk:Tc gs):Na (gs.headD true) o Z ρ p:=fun O Z' ρ' g hs hr=>by
 cases hc:gs.headD true with
 | false=>exact Cx
 | true=>exact h hc O Z' ρ' g (ui hs hi ha hk hc) hr
theorem EY {ops:Array Oper} {Z:Xa} {G:List (Nat×GE)} {o:Oper} {gs:List Bool} (hi:Md Z G) (h:Af ops Z G o.guard=some gs):Pa ops Z o (gs.headD true)/\Tc gs:=by
 cases hg:o.guard with
 | none =>
  rw [hg] at h;simp only [Af,gn] at h;subst h
  exact ⟨fun O Z' _=>CA hg,fun _ b hb=>by cases hb⟩
 | some jp =>
  obtain ⟨j,pol⟩:=jp
  rw [hg] at h;simp only [Af] at h
  split at h
  ·cases h
  rename_i d hd
  split at h
  ·split at h
   ·rename_i p hp
    simp only [gn] at h;subst h
    refine ⟨?_,fun hc b hb=>by rw [List.mem_singleton.1 hb];exact hc⟩
    cases pol
    ·exact jM hg hd hp
    exact gP hg hd hp
   cases h
  rename_i e hgl
  split at h
  ·rename_i p hp
   simp only [gn] at h;subst h
   obtain ⟨h1,h2,h3⟩:=hi d e hgl
   rw [hp] at h1
   refine ⟨?_,fun hc b hb=>?_⟩
   ·cases pol
    ·exact ES hg hd h1
    exact ER hg hd h1
   simp only [List.headD_cons,and_eq_true] at hc
   rcases List.mem_cons.1 hb with rfl | hb
   ·simp only [hc,Bool.and_self]
   exact h2 hc.1 b hb
  cases h
def DV (Z:Xa) (G:List (Nat×GE)) (want:Bool):Operand->Option (PV×List (Bool×Bool))
 | .tmp t=>match gl t G with
  | some e=>some (e.p,[(e.gs.headD true,want)])
  | none=>some (Z t,[])
 | x=>some (bt Z x,[])
theorem By {Z:Xa} {G:List (Nat×GE)} {want:Bool} {x:Operand} {p:PV} {l:List (Bool×Bool)} (hi:Md Z G) (h:DV Z G want x=some (p,l)) (ha:Kc l):Ra Z want x p:=by
 unfold DV at h
 split at h
 ·rename_i t
  split at h
  ·rename_i e hg
   simp only [gn,Prod.mk.injEq] at h;obtain ⟨rfl,rfl⟩:=h
   have h1:=ha.cons.1
   have h2:=(hi t e hg).1
   rw [h1] at h2
   exact .g h2
  simp only [gn,Prod.mk.injEq] at h;obtain ⟨rfl,rfl⟩:=h;exact .p rfl
 simp only [gn,Prod.mk.injEq] at h;obtain ⟨rfl,rfl⟩:=h;exact .p rfl
def xr:PV->Option Bool
 | .v (.bool p)=>some p
 | _=>none
theorem vb {p:PV} {b:Bool} (h:xr p=some b):p=.v (.bool b):=by
 unfold xr at h;split at h
 ·simp only [gn] at h;rw [h]
 cases h
def Ag:Operand->Bool
 | .const (.bool true)=>true
 | _=>false
def wy:Operand->Bool
 | .const (.bool false)=>true
 | _=>false
theorem EZ {x:Operand} {Z:Xa} (h:Ag x=true):bt Z x=.v (.bool true):=by
 unfold Ag at h;split at h
 ·rfl
 cases h
theorem CU {x:Operand} {Z:Xa} (h:wy x=true):bt Z x=.v (.bool false):=by
 unfold wy at h;split at h
 ·rfl
 cases h
def GY (Z:Xa) (G:List (Nat×GE)) (gs:List Bool) (cc a b:Operand):Option (PV×List (Bool×Bool)) :=
 match xr (bt (rb Z G (jn [cc]) gs) cc) with
 | none=>none
 | some p=>cond (Ag a)
  (match DV Z G (gs.headD true && !p) b with
   | some (q,l)=>match xr q with
    | some q=>some (.v (.bool (p||q)),og G gs (jn [cc])++l)
    | none=>none
   | none=>none)
  (cond (wy b)
   (match DV Z G (gs.headD true&&p) a with
    | some (q,l)=>match xr q with
     | some q=>some (.v (.bool (p&&q)),og G gs (jn [cc])++l)
     | none=>none
    | none=>none) none)
theorem DW {Z:Xa} {G:List (Nat×GE)} {gs:List Bool} {x:Operand} {p:PV} (hi:Md Z G) (hk:Tc gs) (ha:Kc (og G gs (jn [x]))) (h:bt (rb Z G (jn [x]) gs) x=p) (hn:p≠.any):Ra Z (gs.headD true) x p:=fun hc=>by
 cases x with
 | tmp t =>
  simp only [bt,jn] at h ⊢
  unfold rb at h
  cases hg:gl t G with
  | none=>rw [hg] at h;exact h
  | some e =>
   rw [hg] at h
   simp only at h
   cases hb:(GX t [t]&&Nat.ble e.gs.length gs.length)
   ·rw [hb] at h;exact absurd h.symm hn
   ·rw [hb] at h;simp only [cQ] at h
    have h1:=uh (t:=t) (ts:=[t]) (by simp) hg ha
    rw [xq hk hc] at h1
    have h2:=(hi t e hg).1
    rw [h1,lp] at h2
    rw [h2,h]
 | const x=>exact h
 | global g=>exact h
 | func f=>exact h
theorem GZ {o:Oper} {Z:Xa} {ρ:List Qa} {G:List (Nat×GE)} {gs:List Bool} {cc a b:Operand} {p:PV} {l:List (Bool×Bool)} (ho:o.op=.pick cc a b) (hi:Md Z G) (hk:Tc gs) (h:GY Z G gs cc a b=some (p,l)) (ha:Kc l):Na (gs.headD true) o Z ρ p:=by
 unfold GY at h
 split at h
 ·cases h
 rename_i c hc
 have hc:=vb hc
 cases h1:Ag a
 ·rw [h1] at h;simp only [dq] at h
  cases h2:wy b
  ·rw [h2] at h;cases h
  rw [h2] at h;simp only [cQ] at h
  split at h
  ·rename_i q m hl
   split at h
   ·rename_i q' hq
    simp only [gn,Prod.mk.injEq] at h;obtain ⟨rfl,rfl⟩:=h
    have hl':=By hi hl ha.app.2
    rw [vb hq] at hl'
    exact xg ho (DW hi hk ha.app.1 hc (by simp)) (.p (CU h2)) hl'
   cases h
  cases h
 rw [h1] at h;simp only [cQ] at h
 split at h
 ·rename_i q m hl
  split at h
  ·rename_i q' hq
   simp only [gn,Prod.mk.injEq] at h;obtain ⟨rfl,rfl⟩:=h
   have hl':=By hi hl ha.app.2
   rw [vb hq] at hl'
   exact Bn ho (DW hi hk ha.app.1 hc (by simp)) (.p (EZ h1)) hl'
  cases h
 cases h
inductive Jd where
 | ix (c:Bool) (css:List (List PV)) (i:Int) (cs:List PV)
 | sx (c:Bool) (s:Xh) (i:Int) (u:UInt8)
 | nz (c:Bool) (b:Int)
 | ge (c:Bool) (b:Int)
 | sl (c:Bool) (css:List (List PV)) (lo hi:Int) (zss:List (List PV)) (m sz:Nat)
 | ss (c:Bool) (s:Xh) (lo hi:Int) (z:Xh)
 | ct (c:Bool) (s u z:Xh)
 | eq (t:Nat) (ks:List Nat)
 | cl (c:Bool) (f:Nat) (pargs:List PV) (r:PV)
 | cv (c:Bool) (pf:PV) (pargs:List PV) (r:PV)
 | ci (c:Bool) (p:PV) (name:String) (pargs:List PV) (r:PV)
 | ta (T:Nat) (p r:PV)
structure Rg (t:Nat) (ks:List Nat):Prop where
 h1:Tryz.prog.underlying t=some (.struct (Tryz.prog.fieldsOf t))
 h2:Tryz.prog.stoodInHeld t=false
 h3:Tryz.prog.eqGuardType Tryz.prog.depth t=false
 h4:Br (Tryz.prog.fieldsOf t).toList 0 ks=true
def Jd.ok:Jd->Prop
 | .ix c css i cs=>c=true->bx css i=some cs
 | .sx c s i u=>c=true->bx s.data.toList i=some u
 | .nz c b=>c=true->b≠0
 | .ge c b=>c=true->0<=b
 | .sl c css lo hi zss m sz=>(c=true->sub css lo hi=some zss)/\m=zss.length/\∀ cs∈css,cs.length=sz
 | .ss c s lo hi z=>c=true->ff s lo hi=some z
 | .ct c s u z=>c=true->lC s u=some z
 | .eq t ks=>Rg t ks
 | .cl c f pargs r=>c=true->PF f pargs r
 | .cv c pf pargs r=>c=true->Yc pf pargs r
 | .ci c p name pargs r=>c=true->PFI p name pargs r
 | .ta T p r=>SX.ta T p=some r
def Lb:List (Nat×Jd)->Prop
 | []=>True
 | f::l=>f.2.ok/\Lb l
theorem aY:Lb []:=trivial
section
variable {F:List (Nat×Jd)} {c:Bool} {α:Type} {xs zs:List α} {i lo hi b:Int} {m:α}
theorem xt (k:Nat) (e:α->List PV) (hm:c=true->bx xs i=some m) (h:Lb F):Lb ((k,.ix c (List.map e xs) i (e m))::F):=⟨fun hc=>by
 obtain ⟨h0,hmm⟩:=mA (hm hc)
 unfold bx;rw [if_pos h0,List.getElem?_map,hmm];rfl,h⟩
theorem bX (k:Nat) (e:α->List PV) (hm:bx xs i=some m) (h:Lb F):Lb ((k,.ix true (List.map e xs) i (e m))::F):=xt k e (fun _=>hm) h
theorem G0 (k:Nat) {s:Xh} {u:UInt8} (hm:c=true->bx s.data.toList i=some u) (h:Lb F):Lb ((k,.sx c s i u)::F):=⟨hm,h⟩
theorem fosx (k:Nat) {s:Xh} {u:UInt8} (hm:bx s.data.toList i=some u) (h:Lb F):Lb ((k,.sx true s i u)::F):=⟨fun _=>hm,h⟩
theorem Ah (k:Nat) {u:Unit} (hm:SX.nz b=some u) (h:Lb F):Lb ((k,.nz true b)::F):=⟨fun _=>nz_some hm,h⟩
theorem CV (k:Nat) {u:Unit} (hm:sN b=some u) (h:Lb F):Lb ((k,.ge true b)::F):=⟨fun _=>ug hm,h⟩
theorem foslg (k:Nat) (e:α->List PV) (sz:Nat) (hw:∀ m,(e m).length=sz) (hm:c=true->sub xs lo hi=some zs) (h:Lb F):Lb ((k,.sl c (List.map e xs) lo hi (List.map e zs) zs.length sz)::F):=⟨⟨fun hc=>by
 obtain ⟨h1,rfl⟩:=lq (hm hc)
 unfold sub;rw [if_pos (by rw [length_map];exact h1),List.map_drop,map_take],by rw [length_map],fun cs hcs=>by obtain ⟨x,_,rfl⟩:=List.mem_map.1 hcs;exact hw x⟩,h⟩
theorem Bz (k:Nat) (e:α->List PV) (sz:Nat) (hw:∀ m,(e m).length=sz) (hm:sub xs lo hi=some zs) (h:Lb F):Lb ((k,.sl true (List.map e xs) lo hi (List.map e zs) zs.length sz)::F):=foslg k e sz hw (fun _=>hm) h
theorem G1 (k:Nat) {s z:Xh} (hm:c=true->ff s lo hi=some z) (h:Lb F):Lb ((k,.ss c s lo hi z)::F):=⟨hm,h⟩
theorem yC (k:Nat) {s z:Xh} (hm:ff s lo hi=some z) (h:Lb F):Lb ((k,.ss true s lo hi z)::F):=⟨fun _=>hm,h⟩
theorem ml (k:Nat) {s u z:Xh} (hm:lC s u=some z) (h:Lb F):Lb ((k,.ct true s u z)::F):=⟨fun _=>hm,h⟩
theorem foeq (k:Nat) {t:Nat} {ks:List Nat} (hm:Rg t ks) (h:Lb F):Lb ((k,.eq t ks)::F):=⟨hm,h⟩
theorem aU (k:Nat) {f:Nat} {pargs:List PV} {r:PV} (hm:PF f pargs r) (h:Lb F):Lb ((k,.cl true f pargs r)::F):=⟨fun _=>hm,h⟩
theorem iJ (k:Nat) {f:Nat} {pargs:List PV} {r:PV} (hm:c=true->PF f pargs r) (h:Lb F):Lb ((k,.cl c f pargs r)::F):=⟨hm,h⟩
theorem yD (k:Nat) {pf:PV} {pargs:List PV} {r:PV} (hm:Yc pf pargs r) (h:Lb F):Lb ((k,.cv true pf pargs r)::F):=⟨fun _=>hm,h⟩
theorem focvg (k:Nat) {pf:PV} {pargs:List PV} {r:PV} (hm:c=true->Yc pf pargs r) (h:Lb F):Lb ((k,.cv c pf pargs r)::F):=⟨hm,h⟩
end
inductive Nb where
 | n (a:Nat)
 | b (a:Bool)
 | i (a:Int)
 | p (a:PV)
 | l (a:List PV)
 | q (a:List (List PV))
 | s (a:Xh)
 | m (a:String)
abbrev StepR:=PV×List Nb×List Nb
def CW (Z:Xa) (c:Bool) (t:Nat) (p:PV) (lo hi:Option Operand):Jd->Option StepR
 | .sl c' css l h zss m sz=>(match fQ t,p with
  | some (.slice E),.slc mm css'=>(match iE E with
   | some (_,sz',_)=>(match lo,hi with
    | none,some y=>(match bt Z y with | .v (.int _ b)=>some (.slc m zss,[.b c',.q css,.i l,.i h,.n sz],[.b c,.q css',.i 0,.i b,.n sz']) | _=>none)
    | some x,none=>(match bt Z x with | .v (.int _ a)=>some (.slc m zss,[.b c',.q css,.i l,.i h,.n sz],[.b c,.q css',.i a,.i (mm:Int),.n sz']) | _=>none)
    | _,_=>none)
   | none=>none)
  | _,_=>none)
 | .ss c' s l h z=>(match fQ t,p with
  | some .string,.v (.string s')=>(match lo,hi with
   | none,some y=>(match bt Z y with | .v (.int _ b)=>some (.v (.string z),[.b c',.s s,.i l,.i h],[.b c,.s s',.i 0,.i b]) | _=>none)
   | some x,none=>(match bt Z x with | .v (.int _ a)=>some (.v (.string z),[.b c',.s s,.i l,.i h],[.b c,.s s',.i a,.i (s'.size:Int)]) | _=>none)
   | some x,some y=>(match bt Z x,bt Z y with | .v (.int _ a),.v (.int _ b)=>some (.v (.string z),[.b c',.s s,.i l,.i h],[.b c,.s s',.i a,.i b]) | _,_=>none)
   | none,none=>none)
  | _,_=>none)
 | _=>none
def G2 (Z:Xa) (c:Bool):Op->Jd->Option StepR
 | .indexAddr t x y,.ix c' css i cs=>(match fQ t,bt Z x,bt Z y with
  | some (.slice E),.slc _ css',.v (.int _ i')=>(match iE E with | some (_,sz,_)=>some (.ref cs 0,[.b c',.q css,.i i,.n cs.length],[.b c,.q css',.i i',.n sz]) | none=>none)
  | _,_,_=>none)
 | .index t x y,.sx c' s i u=>(match fQ t,bt Z x,bt Z y with
  | some .string,.v (.string s'),.v (.int _ i')=>some (.v (.int .u8 (u.toNat:Int)),[.b c',.s s,.i i],[.b c,.s s',.i i'])
  | _,_,_=>none)
 | .binOp .quo _ x y _,.nz c' b=>(match bt Z x,bt Z y with
  | .v (.int k a),.v (.int k' b')=>cond (Nat.beq (AX k) (AX k')) (some (.v (.int k (k.wrap (a.tdiv b))),[.b c',.i b],[.b c,.i b'])) none
  | _,_=>none)
 | .binOp .rem _ x y _,.nz c' b=>(match bt Z x,bt Z y with
  | .v (.int k a),.v (.int k' b')=>cond (Nat.beq (AX k) (AX k')) (some (.v (.int k (a.tmod b)),[.b c',.i b],[.b c,.i b'])) none
  | _,_=>none)
 | .binOp .shl _ x y _,.ge c' b=>(match bt Z x,bt Z y with
  | .v (.int k a),.v (.int _ b')=>some (.v (.int k (ja k a b)),[.b c',.i b],[.b c,.i b'])
  | _,_=>none)
 | .binOp .shr _ x y _,.ge c' b=>(match bt Z x,bt Z y with
  | .v (.int k a),.v (.int _ b')=>some (.v (.int k (ex k a b)),[.b c',.i b],[.b c,.i b'])
  | _,_=>none)
 | .binOp .add _ x y _,.ct c' s u z=>(match bt Z x,bt Z y with
  | .v (.string s'),.v (.string u')=>some (.v (.string z),[.b c',.s s,.s u],[.b c,.s s',.s u'])
  | _,_=>none)
 | .binOp .eql t x y _,.eq t' ks=>(match bt Z x,bt Z y with
  | .agg cs,.agg ds=>(match GR cs,GR ds with
   | some xs,some ys=>(match Bs ks xs ys with | some r=>some (.v (.bool r),[.n t'],[.n t]) | none=>none)
   | _,_=>none)
  | _,_=>none)
 | .binOp .neq t x y _,.eq t' ks=>(match bt Z x,bt Z y with
  | .agg cs,.agg ds=>(match GR cs,GR ds with
   | some xs,some ys=>(match Bs ks xs ys with | some r=>some (.v (.bool !r),[.n t'],[.n t]) | none=>none)
   | _,_=>none)
  | _,_=>none)
 | .slice t x lo hi none,f=>CW Z c t (bt Z x) lo hi f
 | .typeAssert x _ T true,.ta T' p r=>(match fQ T with
  | some d=>cond (!Bv d&&(iE T).isSome) (some (r,[.n T',.p p],[.n T,.p (bt Z x)])) none
  | none=>none)
 | _,_=>none
section
variable {o:Oper} {Z:Xa} {ρ:List Qa} {x y:Operand} {t:Nat} {k:IntKind} {a b:Int} {css zss:List (List PV)}
theorem E0 {E sz by' mm:Nat} {z:Value} {cs:List PV} (ho:o.op=.indexAddr t x y) (hu:fQ t=some (.slice E)) (hi:iE E=some (z,sz,by')) (hw:cs.length=sz) (hx:bt Z x=.slc mm css) (hy:bt Z y=.v (.int k a)) (hm:bx css a=some cs):Na true o Z ρ (.ref cs 0):=fun O Z' ρ' g hs hrr=>by
 obtain ⟨h0,hcs⟩:=mA hm
 have h:=hs.ev x
 rw [hx] at h
 generalize he:ev Z' x=w at h
 cases h with
 | slc hsl hb h1 hss =>
  rename_i ad cp sz' dss
  obtain ⟨ds,hd,hds⟩:=hss.get hcs
  have hlt:a.toNat<mm:=by rw [<- hsl.len];exact (List.getElem?_eq_some_iff.1 hd).1
  obtain ⟨bb,off,ha,hsh⟩:=hsl.at_ (by omega)
  have hwid:sz'=sz:=by
   have e1:=hsl.wid ds (mem_of_getElem? hd)
   have e2:=hds.len
   omega
  subst hwid
  have h2:=rC (c:=true) (ρ:=ρ') (O:=O) (j:=a.toNat) ho hu hi (.p (by rw [he,ha])) (.p (hs.v1 hy)) (fun _=>by omega) (fun _=>hlt)
  exact ⟨_,fun _=>by have:=Rp.ref (k:=0) (hsh _ _ hd) (h1 ds (mem_of_getElem? hd)) hds;rwa [Nat.add_zero] at this,h2⟩
theorem BA {O:Kr} {sz:Nat}:∀ {css:List (List PV)} {dss:List (List Value)},(∀ cs∈css,cs.length=sz)->Mb O css dss->∀ ds∈dss,ds.length=sz
 | _,_,_,.nil,ds,hd=>by cases hd
 | _,_,hw,.cons h hs,ds,hd=>by
  rcases List.mem_cons.1 hd with rfl | hd
  ·rw [<- h.len];exact hw _ (by simp)
  exact BA (fun c hc=>hw c (by simp [hc])) hs ds hd
theorem CX {E sz by' mm:Nat} {z:Value} (ho:o.op=.slice t x none (some y) none) (hu:fQ t=some (.slice E)) (hi:iE E=some (z,sz,by')) (hx:bt Z x=.slc mm css) (hy:bt Z y=.v (.int k b)) (hm:sub css 0 b=some zss):Na true o Z ρ (.slc zss.length zss):=fun O Z' ρ' g hs hrr=>by
 obtain ⟨⟨h0,h1,h2⟩,rfl⟩:=lq hm
 have h:=hs.ev x
 rw [hx] at h
 generalize he:ev Z' x=w at h
 cases h with
 | slc hsl hb ho1 hss =>
  rename_i ad cp sz' dss
  have hl:css.length=mm:=by rw [<- hsl.len,<- hss.len]
  have hcap:=hsl.cap
  have hzl:((css.take b.toNat).drop (0:Int).toNat).length=b.toNat:=by simp;omega
  rw [hzl]
  refine ⟨.slice ad b.toNat cp,fun _=>?_,tp (c:=true) (k:=b.toNat) ho hu hi (.p he) (.p (hs.v1 hy)) (fun _=>by omega) (fun _=>by omega)⟩
  have:=Rp.slc (hsl.take (m:=b.toNat) (by omega)) (by omega) (xm ho1 fun d hd=>mem_of_mem_take hd) (hss.take b.toNat)
  simpa using this
theorem CY {E sz by' mm:Nat} {z:Value} (ho:o.op=.slice t x (some y) none none) (hu:fQ t=some (.slice E)) (hi:iE E=some (z,sz,by')) (hw:∀ cs∈css,cs.length=sz) (hx:bt Z x=.slc mm css) (hy:bt Z y=.v (.int k a)) (hm:sub css a (mm:Int)=some zss):Na true o Z ρ (.slc zss.length zss):=fun O Z' ρ' g hs hrr=>by
 obtain ⟨⟨h0,h1,h2⟩,rfl⟩:=lq hm
 have h:=hs.ev x
 rw [hx] at h
 generalize he:ev Z' x=w at h
 cases h with
 | slc hsl hb ho1 hss =>
  rename_i ad cp sz' dss
  have hl:css.length=mm:=by rw [<- hsl.len,<- hss.len]
  have hcap:=hsl.cap
  have hq:=xe (c:=true) (ρ:=ρ') (O:=O) (k:=a.toNat) ho hu hi (.p he) (.p (hs.v1 hy)) (fun _=>by omega) (fun _=>by omega)
  have hd:=hsl.dropT (m:=a.toNat) (by omega)
  have e2:List.drop a.toNat (List.take (mm:Int).toNat css)=css.drop a.toNat:=by rw [Int.toNat_natCast,<- hl,List.take_length]
  rw [e2]
  have hzl:(css.drop a.toNat).length=mm - a.toNat:=by simp [hl]
  rw [hzl]
  by_cases hz:mm - a.toNat=0
  ·refine ⟨_,fun _=>?_,hq⟩
   have e3:css.drop a.toNat=[]:=List.drop_of_length_le (by omega)
   rw [e3]
   exact .slc (sz:=sz) (css:=[]) ⟨by simp [hz],by omega,by simp,fun h=>absurd h (by omega)⟩ (by omega) (fun _ h=>by cases h) .nil
  have hszz:sz'=sz:=by
   have hlen:=hsl.len
   match dss,hlen with
   | [],hlen=>simp only [List.length_nil] at hlen;omega
   | d::ds,_=>rw [<- hsl.wid d (by simp),BA hw hss d (by simp)]
  subst hszz
  exact ⟨_,fun _=>Rp.slc hd (by omega) (xm ho1 fun d hd=>List.mem_of_mem_drop hd) (hss.drop a.toNat),hq⟩
end
theorem E3 {o:Oper} {Z:Xa} {ρ:List Qa} {c:Bool} {x:Operand} {t:Nat} {lo hi:Option Operand} {f:Jd} {p:PV} {L R:List Nb} (ho:o.op=.slice t x lo hi none) (h:CW Z c t (bt Z x) lo hi f=some (p,L,R)) (he:L=R) (hf:f.ok) (hc:c=true):Na true o Z ρ p:=by
 unfold CW at h
 split at h
 ·rename_i c' css l hh zss m sz
  split at h
  ·rename_i E mm css' hu hx
   split at h
   ·rename_i z sz' by' hi'
    split at h
    ·rename_i y
     split at h
     ·rename_i k b hy
      simp only [gn,Prod.mk.injEq] at h;obtain ⟨rfl,rfl,rfl⟩:=h
      simp only [List.cons.injEq,Nb.b.injEq,Nb.q.injEq,Nb.i.injEq,Nb.n.injEq,and_true] at he
      obtain ⟨rfl,rfl,rfl,rfl,rfl⟩:=he
      obtain ⟨h1,rfl,h3⟩:=hf
      exact CX ho hu hi' hx hy (h1 hc)
     cases h
    ·rename_i y
     split at h
     ·rename_i k b hy
      simp only [gn,Prod.mk.injEq] at h;obtain ⟨rfl,rfl,rfl⟩:=h
      simp only [List.cons.injEq,Nb.b.injEq,Nb.q.injEq,Nb.i.injEq,Nb.n.injEq,and_true] at he
      obtain ⟨rfl,rfl,rfl,rfl,rfl⟩:=he
      obtain ⟨h1,rfl,h3⟩:=hf
      exact CY ho hu hi' h3 hx hy (h1 hc)
     cases h
    cases h
   cases h
  cases h
 ·rename_i c' s l hh z
  split at h
  ·rename_i s' hu hx
   split at h
   ·split at h
    ·rename_i hy
     simp only [gn,Prod.mk.injEq] at h;obtain ⟨rfl,rfl,rfl⟩:=h
     simp only [List.cons.injEq,Nb.b.injEq,Nb.s.injEq,Nb.i.injEq,and_true] at he
     obtain ⟨rfl,rfl,rfl,rfl⟩:=he
     exact CN ho hu (.p hx) (.p hy) (fun _=>hf hc)
    cases h
   ·split at h
    ·rename_i hy
     simp only [gn,Prod.mk.injEq] at h;obtain ⟨rfl,rfl,rfl⟩:=h
     simp only [List.cons.injEq,Nb.b.injEq,Nb.s.injEq,Nb.i.injEq,and_true] at he
     obtain ⟨rfl,rfl,rfl,rfl⟩:=he
     exact CO ho hu (.p hx) (.p hy) (fun _=>hf hc)
    cases h
   ·split at h
    ·rename_i hy hy2
     simp only [gn,Prod.mk.injEq] at h;obtain ⟨rfl,rfl,rfl⟩:=h
     simp only [List.cons.injEq,Nb.b.injEq,Nb.s.injEq,Nb.i.injEq,and_true] at he
     obtain ⟨rfl,rfl,rfl,rfl⟩:=he
     exact Bp ho hu (.p hx) (.p hy) (.p hy2) (fun _=>hf hc)
    cases h
   cases h
  cases h
 cases h
theorem G3 {o:Oper} {Z:Xa} {ρ:List Qa} {c:Bool} {f:Jd} {p:PV} {L R:List Nb} (h:G2 Z c o.op f=some (p,L,R)) (he:L=R) (hf:f.ok) (hc:c=true):Na true o Z ρ p:=by
 generalize ho:o.op=op at h
 unfold G2 at h
 split at h
 ·split at h
  ·rename_i hu hx hy
   split at h
   ·rename_i hi
    simp only [gn,Prod.mk.injEq] at h;obtain ⟨rfl,rfl,rfl⟩:=h
    simp only [List.cons.injEq,Nb.b.injEq,Nb.q.injEq,Nb.i.injEq,Nb.n.injEq,and_true] at he
    obtain ⟨rfl,rfl,rfl,h4⟩:=he
    exact E0 ho hu hi h4 hx hy (hf hc)
   cases h
  cases h
 ·split at h
  ·rename_i hu hx hy
   simp only [gn,Prod.mk.injEq] at h;obtain ⟨rfl,rfl,rfl⟩:=h
   simp only [List.cons.injEq,Nb.b.injEq,Nb.s.injEq,Nb.i.injEq,and_true] at he
   obtain ⟨rfl,rfl,rfl⟩:=he
   exact EV ho hu (.p hx) (.p hy) (fun _=>hf hc)
  cases h
 ·split at h
  ·rename_i k a k' b' hx hy
   cases hk:Nat.beq (AX k) (AX k')
   ·rw [hk] at h;cases h
   rw [hk] at h;have:=ww hk;subst this
   simp only [cQ,gn,Prod.mk.injEq] at h;obtain ⟨rfl,rfl,rfl⟩:=h
   simp only [List.cons.injEq,Nb.b.injEq,Nb.i.injEq,and_true] at he
   obtain ⟨rfl,rfl⟩:=he
   exact GJ ho (.p hx) (.p hy) (fun _=>hf hc)
  cases h
 ·split at h
  ·rename_i k a k' b' hx hy
   cases hk:Nat.beq (AX k) (AX k')
   ·rw [hk] at h;cases h
   rw [hk] at h;have:=ww hk;subst this
   simp only [cQ,gn,Prod.mk.injEq] at h;obtain ⟨rfl,rfl,rfl⟩:=h
   simp only [List.cons.injEq,Nb.b.injEq,Nb.i.injEq,and_true] at he
   obtain ⟨rfl,rfl⟩:=he
   exact GK ho (.p hx) (.p hy) (fun _=>hf hc)
  cases h
 ·split at h
  ·rename_i hx hy
   simp only [gn,Prod.mk.injEq] at h;obtain ⟨rfl,rfl,rfl⟩:=h
   simp only [List.cons.injEq,Nb.b.injEq,Nb.i.injEq,and_true] at he
   obtain ⟨rfl,rfl⟩:=he
   exact xj ho (.p hx) (.p hy) (fun _=>hf hc) rfl
  cases h
 ·split at h
  ·rename_i hx hy
   simp only [gn,Prod.mk.injEq] at h;obtain ⟨rfl,rfl,rfl⟩:=h
   simp only [List.cons.injEq,Nb.b.injEq,Nb.i.injEq,and_true] at he
   obtain ⟨rfl,rfl⟩:=he
   exact xj ho (.p hx) (.p hy) (fun _=>hf hc) rfl
  cases h
 ·split at h
  ·rename_i hx hy
   simp only [gn,Prod.mk.injEq] at h;obtain ⟨rfl,rfl,rfl⟩:=h
   simp only [List.cons.injEq,Nb.b.injEq,Nb.s.injEq,and_true] at he
   obtain ⟨rfl,rfl,rfl⟩:=he
   exact pq_catT ho (.p hx) (.p hy) (fun _=>hf hc)
  cases h
 ·split at h
  ·rename_i hx hy
   split at h
   ·rename_i h5 h6
    split at h
    ·rename_i r hr
     simp only [gn,Prod.mk.injEq] at h;obtain ⟨rfl,rfl,rfl⟩:=h
     simp only [List.cons.injEq,Nb.n.injEq,and_true] at he
     subst he
     exact DR _ ho hf.h1 hf.h2 hf.h3 hf.h4 (.p hx) (.p hy) h5 h6 hr rfl
    cases h
   cases h
  cases h
 ·split at h
  ·rename_i hx hy
   split at h
   ·rename_i h5 h6
    split at h
    ·rename_i r hr
     simp only [gn,Prod.mk.injEq] at h;obtain ⟨rfl,rfl,rfl⟩:=h
     simp only [List.cons.injEq,Nb.n.injEq,and_true] at he
     subst he
     exact DR _ ho hf.h1 hf.h2 hf.h3 hf.h4 (.p hx) (.p hy) h5 h6 hr rfl
    cases h
   cases h
  cases h
 ·exact E3 ho h he hf hc
 ·split at h
  ·rename_i d hu
   cases hb:(!Bv d&&(iE _).isSome)
   ·rw [hb] at h;cases h
   rw [hb] at h
   simp only [cQ,gn,Prod.mk.injEq] at h;obtain ⟨rfl,rfl,rfl⟩:=h
   simp only [List.cons.injEq,Nb.n.injEq,Nb.p.injEq,and_true] at he
   obtain ⟨rfl,h2⟩:=he
   simp only [and_eq_true,Bool.not_eq_true'] at hb
   exact pq_ta ho hu hb.1 hb.2 h2.symm hf
  cases h
 cases h
def gL (l:List (Bool×Bool)):List Nb:=l.map fun z=>.b z.1
def gR (l:List (Bool×Bool)):List Nb:=l.map fun z=>.b z.2
theorem gLR:∀ {l:List (Bool×Bool)},gL l=gR l->Kc l
 | [],_=>Kc.nil
 | (a,b)::l,h=>by
  simp only [gL,gR,map_cons,List.cons.injEq,Nb.b.injEq] at h
  have:=gLR (l:=l) h.2
  unfold Kc at this ⊢
  simp only [map_cons,h.1,this]
theorem G4 {l:List (Bool×Bool)}:(gL l).length=(gR l).length:=by simp [gL,gR]
def rJ:Op->Bool
 | .call ⟨.value _,_,_⟩=>true
 | .call ⟨.invoke _ _,_,_⟩=>true
 | _=>false
abbrev Jg:=Option (PV×Bool×List Nb×List Nb)
def xu (Z:Xa) (G:List (Nat×GE)) (ρ:List Qa) (gs:List Bool) (at_:Nat) (op:Op):Jg :=
 match qx (rb Z G (jn op.operands.toList) gs) ρ at_ op with
 | some (p,none)=>some (p,false,gL (og G gs (jn op.operands.toList)),gR (og G gs (jn op.operands.toList)))
 | some (p,some (b,b'))=>some (p,true,gL (og G gs (jn op.operands.toList))++[.n b],gR (og G gs (jn op.operands.toList))++[.n b'])
 | none=>none
def G5 (Z:Xa) (G:List (Nat×GE)) (gs:List Bool) (op:Op) (cal:Operand) (ags:List Operand):Jd->Jg
 | .cl c f pargs r=>(match cal with
  | .func f'=>some (r,false,gL (og G gs (jn op.operands.toList))++[.b c,.n f,.l pargs],gR (og G gs (jn op.operands.toList))++[.b (gs.headD true),.n f',.l (ags.map (bt (rb Z G (jn op.operands.toList) gs)))])
  | _=>none)
 | .cv c pf pargs r=>some (r,false,gL (og G gs (jn op.operands.toList))++[.b c,.p pf,.l pargs],gR (og G gs (jn op.operands.toList))++[.b (gs.headD true),.p (bt (rb Z G (jn op.operands.toList) gs) cal),.l (ags.map (bt (rb Z G (jn op.operands.toList) gs)))])
 | _=>none
def invx (Z:Xa) (G:List (Nat×GE)) (gs:List Bool) (op:Op) (x:Operand) (name:String) (ags:List Operand):Jd->Jg
 | .ci c p name' pargs r=>some (r,false,gL (og G gs (jn op.operands.toList))++[.b c,.p p,.m name',.l pargs],gR (og G gs (jn op.operands.toList))++[.b (gs.headD true),.p (bt (rb Z G (jn op.operands.toList) gs) x),.m name,.l (ags.map (bt (rb Z G (jn op.operands.toList) gs)))])
 | _=>none
def G6 (Z:Xa) (G:List (Nat×GE)) (ρ:List Qa) (gs:List Bool) (at_:Nat) (fo:Option Jd) (op:Op):Jg :=
 match fo with
 | some f=>(match op with
  | .call ⟨.value cal,⟨ags⟩,ts⟩=>G5 Z G gs (.call ⟨.value cal,⟨ags⟩,ts⟩) cal ags f
  | .call ⟨.invoke x name,⟨ags⟩,ts⟩=>invx Z G gs (.call ⟨.invoke x name,⟨ags⟩,ts⟩) x name ags f
  | op=>(match G2 (rb Z G (jn op.operands.toList) gs) (gs.headD true) op f with
   | some (p,L,R)=>some (p,false,gL (og G gs (jn op.operands.toList))++L,gR (og G gs (jn op.operands.toList))++R)
   | none=>none))
 | none=>(match op with
  | .pick cc a b=>(match GY Z G gs cc a b with | some (p,l)=>some (p,false,gL l,gR l) | none=>none)
  | op=>xu Z G ρ gs at_ op)
def Xf (c:Bool) (o:Oper) (Z:Xa) (r:PV):Prop:=∀ O Z' ρ' (KK:Value->Kr->Prop),Xe O->Xc O Z Z'->(∀ v O',Sa O O'->(c=true->Rp O' r v)->KK v O')->OpG c o Z' ρ' O KK
theorem BB {a b l m:List Nb} (h:a++l=b++m) (hl:a.length=b.length):a=b/\l=m:=append_inj h hl
theorem popg_cl {o:Oper} {Z:Xa} {G:List (Nat×GE)} {gs:List Bool} {ts:List Nat} {f:Nat} {ags:List Operand} {at_:Array Nat} {pargs:List PV} {r:PV} (ho:o.op=.call { callee:=.value (.func f),args:=ags.toArray,argTypes:=at_ }) (hi:Md Z G) (ha:Kc (og G gs ts)) (hk:Tc gs) (hp:pargs=ags.map (bt (rb Z G ts gs))) (hc:gs.headD true=true->PF f pargs r):Xf (gs.headD true) o Z r:=fun O Z' ρ' KK g hs h =>
 wX ho (fun _=>rfl) (fun hct=>hc hct O _ g (by rw [hp];exact lm (ui hs hi ha hk hct) ags)) h
theorem popg_cv {o:Oper} {Z:Xa} {G:List (Nat×GE)} {gs:List Bool} {ts:List Nat} {x:Operand} {ags:List Operand} {at_:Array Nat} {pf:PV} {pargs:List PV} {r:PV} (ho:o.op=.call { callee:=.value x,args:=ags.toArray,argTypes:=at_ }) (hi:Md Z G) (ha:Kc (og G gs ts)) (hk:Tc gs) (hx:pf=bt (rb Z G ts gs) x) (hp:pargs=ags.map (bt (rb Z G ts gs))) (hc:gs.headD true=true->Yc pf pargs r):Xf (gs.headD true) o Z r:=fun O Z' ρ' KK g hs h=>by
 refine ⟨fun hct=>?_,fun hcf=>h undef O (.refl _) fun h=>by rw [hcf] at h;cases h⟩
 have hs':=ui hs hi ha hk hct
 obtain ⟨f,first,cap,h1,h2⟩:=hc hct O _ _ g (by rw [hx];exact hs'.ev x) (by rw [hp];exact lm hs' ags)
 exact yW ho h1 rfl h2 fun v O' hk hv=>⟨rfl,h v O' hk fun _=>hv⟩
theorem popg_ci {o:Oper} {Z:Xa} {G:List (Nat×GE)} {gs:List Bool} {ts:List Nat} {x:Operand} {name:String} {ags:List Operand} {at_:Array Nat} {p:PV} {pargs:List PV} {r:PV} (ho:o.op=.call { callee:=.invoke x name,args:=ags.toArray,argTypes:=at_ }) (hi:Md Z G) (ha:Kc (og G gs ts)) (hk:Tc gs) (hx:p=bt (rb Z G ts gs) x) (hp:pargs=ags.map (bt (rb Z G ts gs))) (hc:gs.headD true=true->PFI p name pargs r):Xf (gs.headD true) o Z r:=fun O Z' ρ' KK g hs h=>by
 refine ⟨fun hct=>?_,fun hcf=>h undef O (.refl _) fun h=>by rw [hcf] at h;cases h⟩
 have hs':=ui hs hi ha hk hct
 obtain ⟨t,q,f,e1,hm,hf⟩:=hc hct
 have hv:=hs'.ev x
 rw [<- hx,e1] at hv
 generalize he:ev Z' x=w at hv
 cases hv with
 | ifc hv=>exact CT ho he hm (hf O _ g (.cons hv (by rw [hp];exact lm hs' ags))) fun v O' hk hv=>⟨rfl,h v O' hk fun _=>hv⟩
theorem E4 {o:Oper} {Z:Xa} {G:List (Nat×GE)} {ρ:List Qa} {gs:List Bool} {k:Nat} {p:PV} {u:Bool} {L R:List Nb} (hi:Md Z G) (hk:Tc gs) (h:xu Z G ρ gs k o.op=some (p,u,L,R)) (he:L=R):Na (gs.headD true) o Z ρ p:=by
 unfold xu at h
 split at h
 ·rename_i p' hq
  simp only [gn,Prod.mk.injEq] at h;obtain ⟨rfl,_,rfl,rfl⟩:=h
  exact va (fun _=>qx_ok hq (fun _ _ e=>by cases e)) hi (gLR he) hk
 ·rename_i p' b b' hq
  simp only [gn,Prod.mk.injEq] at h;obtain ⟨rfl,_,rfl,rfl⟩:=h
  obtain ⟨h1,h2⟩:=BB he G4
  simp only [List.cons.injEq,Nb.n.injEq,and_true] at h2
  exact va (fun _=>qx_ok hq (fun _ _ e=>by simp only [gn,Prod.mk.injEq] at e;rw [<- e.1,<- e.2];exact h2)) hi (gLR h1) hk
 cases h
theorem G7 {o:Oper} {Z:Xa} {G:List (Nat×GE)} {gs:List Bool} {cal:Operand} {ags:List Operand} {ts:Array Nat} {f:Jd} {p:PV} {u:Bool} {L R:List Nb} (ho:o.op=.call ⟨.value cal,⟨ags⟩,ts⟩) (hi:Md Z G) (hk:Tc gs) (h:G5 Z G gs (.call ⟨.value cal,⟨ags⟩,ts⟩) cal ags f=some (p,u,L,R)) (he:L=R) (hf:f.ok):Xf (gs.headD true) o Z p:=by
 unfold G5 at h
 split at h
 ·split at h
  ·simp only [gn,Prod.mk.injEq] at h;obtain ⟨rfl,_,rfl,rfl⟩:=h
   obtain ⟨h1,h2⟩:=BB he G4
   simp only [List.cons.injEq,Nb.n.injEq,Nb.b.injEq,Nb.l.injEq,and_true] at h2
   obtain ⟨h3,h4,h5⟩:=h2
   subst h4
   exact popg_cl ho hi (gLR h1) hk h5 (fun hc=>hf (by rw [h3];exact hc))
  cases h
 ·simp only [gn,Prod.mk.injEq] at h;obtain ⟨rfl,_,rfl,rfl⟩:=h
  obtain ⟨h1,h2⟩:=BB he G4
  simp only [List.cons.injEq,Nb.p.injEq,Nb.b.injEq,Nb.l.injEq,and_true] at h2
  obtain ⟨h3,h4,h5⟩:=h2
  exact popg_cv ho hi (gLR h1) hk h4 h5 (fun hc=>hf (by rw [h3];exact hc))
 cases h
theorem invx_ok {o:Oper} {Z:Xa} {G:List (Nat×GE)} {gs:List Bool} {x:Operand} {name:String} {ags:List Operand} {ts:Array Nat} {f:Jd} {p:PV} {u:Bool} {L R:List Nb} (ho:o.op=.call ⟨.invoke x name,⟨ags⟩,ts⟩) (hi:Md Z G) (hk:Tc gs) (h:invx Z G gs (.call ⟨.invoke x name,⟨ags⟩,ts⟩) x name ags f=some (p,u,L,R)) (he:L=R) (hf:f.ok):Xf (gs.headD true) o Z p:=by
 unfold invx at h
 split at h
 ·simp only [gn,Prod.mk.injEq] at h;obtain ⟨rfl,_,rfl,rfl⟩:=h
  obtain ⟨h1,h2⟩:=BB he G4
  simp only [List.cons.injEq,Nb.p.injEq,Nb.b.injEq,Nb.l.injEq,Nb.m.injEq,and_true] at h2
  obtain ⟨h3,h4,h5,h6⟩:=h2
  subst h5
  exact popg_ci ho hi (gLR h1) hk h4 h6 (fun hc=>hf (by rw [h3];exact hc))
 cases h
theorem G8 {o:Oper} {Z:Xa} {G:List (Nat×GE)} {ρ:List Qa} {gs:List Bool} {k:Nat} {fo:Option Jd} {p:PV} {u:Bool} {L R:List Nb} (hi:Md Z G) (hk:Tc gs) (h:G6 Z G ρ gs k fo o.op=some (p,u,L,R)) (he:L=R) (hf:∀ f,fo=some f->f.ok):(rJ o.op=false/\Na (gs.headD true) o Z ρ p)\/(rJ o.op=true/\Xf (gs.headD true) o Z p):=by
 unfold G6 at h
 split at h
 ·rename_i f
  split at h
  ·rename_i cal ags ts ho
   exact .inr ⟨by rw [ho];rfl,G7 ho hi hk h he (hf f rfl)⟩
  ·rename_i x name ags ts ho
   exact .inr ⟨by rw [ho];rfl,invx_ok ho hi hk h he (hf f rfl)⟩
  rename_i hnc hnc2
  split at h
  ·rename_i p' L' R' hq
   simp only [gn,Prod.mk.injEq] at h;obtain ⟨rfl,_,rfl,rfl⟩:=h
   obtain ⟨h1,h2⟩:=BB he G4
   refine .inl ⟨?_,va (fun hc=>G3 hq h2 (hf f rfl) hc) hi (gLR h1) hk⟩
   unfold rJ
   split
   ·rename_i cal ags ts ho;exact absurd ho (hnc cal ags.toList ts)
   ·rename_i x name ags ts ho;exact absurd ho (hnc2 x name ags.toList ts)
   rfl
  cases h
 split at h
 ·rename_i cc a b ho
  split at h
  ·rename_i p' l' hp
   simp only [gn,Prod.mk.injEq] at h;obtain ⟨rfl,_,rfl,rfl⟩:=h
   exact .inl ⟨by rw [ho];rfl,GZ ho hi hk hp (gLR he)⟩
  cases h
 cases hc:rJ o.op
 ·exact .inl ⟨rfl,E4 hi hk h he⟩
 exfalso
 unfold rJ at hc
 split at hc
 ·rename_i ho
  rw [ho] at h
  unfold xu at h
  simp only [qx] at h
  cases h
 ·rename_i ho
  rw [ho] at h
  unfold xu at h
  simp only [qx] at h
  cases h
 cases hc
def Ai (Z:Xa) (G:List (Nat×GE)) (d:Nat) (gs:List Bool) (p:PV):Xa×List (Nat×GE):=match gs with
 | []=>(ig Z d p,GW d G)
 | c::gs=>(ig Z d (pgv c p),(d,⟨c::gs,p⟩)::G)
theorem Aj {d t:Nat} {e:GE}:∀ {G:List (Nat×GE)},gl t (GW d G)=some e->t≠d/\gl t G=some e
 | [],h=>by cases h
 | (k,e')::l,h=>by
  simp only [GW] at h
  cases hd:Nat.beq d k
  ·rw [hd] at h;simp only [dq,gl] at h ⊢
   cases ht:Nat.beq t k
   ·rw [ht] at h;exact Aj h
   rw [ht] at h
   refine ⟨fun e=>?_,h⟩
   rw [eq_of_beq_eq_true ht] at e;rw [e] at hd;simp at hd
  rw [hd] at h;simp only [cQ] at h
  obtain ⟨h1,h2⟩:=Aj h
  refine ⟨h1,?_⟩
  simp only [gl]
  have:Nat.beq t k=false:=by cases e:Nat.beq t k;rfl;exact absurd ((eq_of_beq_eq_true e).trans (eq_of_beq_eq_true hd).symm) h1
  rw [this];exact h2
theorem Ak {Z:Xa} {d t:Nat} {p:PV} (h:t≠d):ig Z d p t=Z t:=by
 unfold ig
 have:Nat.beq t d=false:=by cases e:Nat.beq t d;rfl;exact absurd (eq_of_beq_eq_true e) h
 rw [this];rfl
theorem xx {Z:Xa} {G:List (Nat×GE)} {d:Nat} {gs:List Bool} {p:PV} (hi:Md Z G) (hk:Tc gs):Md (Ai Z G d gs p).1 (Ai Z G d gs p).2:=by
 unfold Ai
 split
 ·intro t e h
  obtain ⟨h1,h2⟩:=Aj h
  simp only [Ak h1]
  exact hi t e h2
 rename_i c gs
 intro t e h
 simp only [gl] at h
 cases ht:Nat.beq t d
 ·rw [ht] at h
  have hne:t≠d:=fun e=>by rw [e] at ht;simp at ht
  simp only [Ak hne]
  exact hi t e h
 rw [ht] at h
 simp only [cQ,gn] at h;subst h
 have:=eq_of_beq_eq_true ht;subst this
 refine ⟨?_,hk,by simp⟩
 simp only [ig,Nat.beq_refl,cQ,List.headD_cons]
theorem xy {Z:Xa} {G:List (Nat×GE)} {d:Nat} {gs:List Bool} {p:PV}:(Ai Z G d gs p).1=ig Z d (pgv (gs.headD true) p):=by
 unfold Ai;split
 ·rw [List.headD_nil,lp]
 rfl
structure Ng where
 Z:Xa
 L:List Nb
 R:List Nb
def DX (i:Nat):List (Nat×Jd)->Option Jd
 | (k,f)::_=>cond (Nat.beq k i) (some f) none
 | []=>none
def uj (n:Nat) (ops:Array Oper) (ρ:List Qa):List Oper->Nat->List Nat->List (Nat×Jd)->Xa->List (Nat×GE)->Option Ng
 | [],_,_,_,Z,_=>some ⟨Z,[],[]⟩
 | o::l,i,H,F,Z,G=>match o.dst with
  | some d=>cond (Nat.blt d n) (match Af ops Z G o.guard with
   | some gs=>match G6 Z G ρ gs (H.headD 0) (DX i F) o.op with
    | some (p,u,L,R)=>match uj n ops ρ l (i+1) (cond u H.tail H) (match DX i F with | some _=>F.tail | none=>F) (Ai Z G d gs p).1 (Ai Z G d gs p).2 with
     | some r=>cond (Nat.beq L.length R.length) (some ⟨r.Z,L++r.L,R++r.R⟩) none
     | none=>none
    | none=>none
   | none=>none) none
  | none=>none
theorem G9 {i:Nat} {F:List (Nat×Jd)} (h:Lb F):∀ f,DX i F=some f->f.ok:=fun f hf=>by
 cases F with
 | nil=>cases hf
 | cons a l =>
  obtain ⟨k,g⟩:=a
  simp only [DX] at hf
  cases hk:Nat.beq k i
  ·rw [hk] at hf;cases hf
  rw [hk] at hf;simp only [cQ,gn] at hf;subst hf;exact h.1
theorem Ha {F:List (Nat×Jd)} (h:Lb F) (b:Option Jd):Lb (match b with | some _=>F.tail | none=>F):=by
 cases b with
 | none=>exact h
 | some f=>cases F with
  | nil=>exact h
  | cons a l=>exact h.2
theorem xz {n:Nat} {ops:Array Oper} {ρ:List Qa} {o:Oper} {l:List Oper} {i:Nat} {H:List Nat} {F:List (Nat×Jd)} {Z:Xa} {G:List (Nat×GE)} {r:Ng} (h:uj n ops ρ (o::l) i H F Z G=some r) (he:r.L=r.R) (hF:Lb F) (hi:Md Z G) :
    ∃ d gs p H' F' r',o.dst=some d/\Nat.blt d n=true/\Pa ops Z o (gs.headD true)/\Tc gs/\((rJ o.op=false/\Na (gs.headD true) o Z ρ p)\/(rJ o.op=true/\Xf (gs.headD true) o Z p))/\uj n ops ρ l (i+1) H' F' (Ai Z G d gs p).1 (Ai Z G d gs p).2=some r'/\r'.Z=r.Z/\r'.L=r'.R/\Lb F':=by
  simp only [uj] at h
  split at h
  · rename_i d hd
    cases hlt:Nat.blt d n
    · rw [hlt] at h;cases h
    rw [hlt] at h;simp only [cQ] at h
    split at h
    · rename_i gs hgs
      split at h
      · rename_i p u L R hst
        split at h
        · rename_i r' hr
          cases hlen:Nat.beq L.length R.length
          · rw [hlen] at h;cases h
          rw [hlen] at h;simp only [cQ,gn] at h;subst h
          obtain ⟨h1,h2⟩:=append_inj he (eq_of_beq_eq_true hlen)
          obtain ⟨hg,hk⟩:=EY hi hgs
          exact ⟨d,gs,p,_,_,r',hd,hlt,hg,hk,G8 hi hk hst h1 (G9 hF),hr,rfl,h2,Ha hF _⟩
        cases h
      cases h
    cases h
  cases h
theorem Hb {n:Nat} {ops:Array Oper} {o:Oper} {rest:List Oper} {K:Ua} {Z:Xa} {ρ:List Qa} {d:Nat} {c:Bool} {r:PV} (hg:Pa ops Z o c) (hd:o.dst=some d) (hlt:Nat.blt d n=true) (h:Xf c o Z r) (hw:Wa n ops rest K (ig Z d (pgv c r)) ρ):Wa n ops (o::rest) K Z ρ:=fun β O Z' ρ' g hs hr =>
 wl_g (hg O Z' hs) hd hlt (h O Z' ρ' _ g hs fun v O' hk hv=>hw β O' _ _ (g.mono hk) ((hs.mono hk).upd (y9 hv)) (hr.mono hk))
theorem Hc {n:Nat} {ops:Array Oper} {o:Oper} {lo:List (Nat×Oper)} {K:Ua} {Z:Xa} {ρd ρs:List Qa} {d:Nat} {c:Bool} {r:PV} (hg:Pa ops Z o c) (hd:o.dst=some d) (hlt:Nat.blt d n=true) (h:Xf c o Z r) (hw:Vc n ops K lo (ig Z d (pgv c r)) ρd ρs):Vc n ops K ((1,o)::lo) Z ρd ρs:=fun β O Z' rd rs g hs h1 h2 =>
 wd_g (hg O Z' hs) hd hlt fun κ1 hk=>h κ1 Z' _ _ (g.mono hk) (hs.mono hk) fun v O' hk' hv=>hw β O' _ rd rs ((g.mono hk).mono hk') (((hs.mono hk).mono hk').upd (y9 hv)) ((h1.mono hk).mono hk') ((h2.mono hk).mono hk')
theorem Al {n:Nat} {ops:Array Oper} {rest:List Oper} {K:Ua} {ρ:List Qa}:∀ {l:List Oper} {i:Nat} {H:List Nat} {F:List (Nat×Jd)} {Z:Xa} {G:List (Nat×GE)} {r:Ng},uj n ops ρ l i H F Z G=some r->r.L=r.R->Lb F->Md Z G->Wa n ops rest K r.Z ρ->Wa n ops (l++rest) K Z ρ
 | [],i,H,F,Z,G,r,h,_,_,_,hw=>by simp only [uj,gn] at h;subst h;exact hw
 | o::l,i,H,F,Z,G,r,h,he,hF,hi,hw=>by
  obtain ⟨d,gs,p,H',F',r',h1,h2,h3,h4,h5,h6,h7,h8,h9⟩:=xz h he hF hi
  have hrec:=Al (rest:=rest) (K:=K) h6 h8 h9 (xx hi h4) (by rw [h7];exact hw)
  rw [xy] at hrec
  rcases h5 with ⟨_,hq⟩ | ⟨_,hq⟩
  ·exact tq h3 h1 h2 hq hrec
  exact Hb h3 h1 h2 hq hrec
def Hd (ks D:List Nat):List Oper->Bool
 | []=>true
 | o::l=>(match o.dst with | some d=>GX d ks||GX d D | none=>true)&&Hd ks D l
theorem zc {n:Nat} {ops:Array Oper} {ρ:List Qa} {ks D:List Nat}:∀ {l:List Oper} {i:Nat} {H:List Nat} {F:List (Nat×Jd)} {Z:Xa} {G:List (Nat×GE)} {r:Ng},uj n ops ρ l i H F Z G=some r->r.L=r.R->Lb F->Md Z G->Hd ks D l=true->∀ t,t ∉ ks->t ∉ D->r.Z t=Z t
 | [],i,H,F,Z,G,r,h,_,_,_,_,t,_,_=>by simp only [uj,gn] at h;subst h;rfl
 | o::l,i,H,F,Z,G,r,h,he,hF,hi,hd,t,g1,g2=>by
  obtain ⟨d,gs,p,H',F',r',h1,h2,h3,h4,h5,h6,h7,h8,h9⟩:=xz h he hF hi
  simp only [Hd,and_eq_true] at hd
  rw [h1] at hd
  simp only [Bool.or_eq_true,wx] at hd
  have hne:t≠d:=fun e=>by subst e;rcases hd.1 with h | h;exact g1 h;exact g2 h
  rw [<- h7,zc h6 h8 h9 (xx hi h4) hd.2 t g1 g2,xy]
  exact Ak hne
abbrev RunO:=Option (List PV×List Nb)
def oM (n:Nat) (ops:Array Oper) (ρ:List Qa) (l:List Oper) (H:List Nat) (F:List (Nat×Jd)) (Z:Xa) (ks D:List Nat):RunO :=
 match uj n ops ρ l 0 H F Z [] with
 | some r=>cond (Hd ks D l) (some (ks.map r.Z,r.L)) none
 | none=>none
def ng (n:Nat) (ops:Array Oper) (ρ:List Qa) (l:List Oper) (H:List Nat) (F:List (Nat×Jd)) (Z:Xa) (vs:List PV):RunO :=
 match uj n ops ρ l 0 H F Z [] with
 | some r=>some (vs,r.R)
 | none=>some ([],[])
def pdel (Z:Xa) (D:List Nat):Xa:=fun t=>cond (GX t D) .any (Z t)
def mR (Z:Xa) (D:List Nat) (X:List (Nat×PV)):Xa:=aw (pdel Z D) X
def BC (t:Nat):List (Nat×PV)->Option PV
 | []=>none
 | (d,v)::l=>cond (Nat.beq t d) (some v) (BC t l)
theorem xA {Z:Xa} {t:Nat}:∀ {X:List (Nat×PV)},aw Z X t=(BC t X).getD (Z t)
 | []=>rfl
 | (d,v)::l=>by
  simp only [aw,ig,BC]
  cases Nat.beq t d
  ·exact xA (X:=l)
  rfl
theorem zd {t:Nat} {v:PV} {Z:Xa}:∀ {X:List (Nat×PV)},BC t X=some v->(X.map (·.1)).map Z=X.map (·.2)->Z t=v
 | (d,w)::l,h,e=>by
  simp only [map_cons,List.cons.injEq] at e
  simp only [BC] at h
  cases hb:Nat.beq t d
  ·rw [hb] at h;exact zd h e.2
  rw [hb] at h;simp only [cQ,gn] at h
  rw [eq_of_beq_eq_true hb,e.1,h]
theorem ze {t:Nat}:∀ {X:List (Nat×PV)},BC t X=none->t ∉ X.map (·.1)
 | [],_=>by simp
 | (d,v)::l,h=>by
  simp only [BC] at h
  cases hb:Nat.beq t d
  ·rw [hb] at h
   have:t≠d:=fun e=>by rw [e] at hb;simp at hb
   simp only [map_cons,List.mem_cons,not_or]
   exact ⟨this,ze h⟩
  rw [hb] at h;cases h
def Vg (Z σ1:Xa):Prop:=∀ t,σ1 t=Z t\/σ1 t=.any
theorem Xc.weak {O:Kr} {Z σ1:Xa} {Z':Ma} (h:Xc O Z Z') (hw:Vg Z σ1):Xc O σ1 Z':=fun t=>by
 rcases hw t with e | e
 ·rw [e];exact h t
 rw [e];exact .any
theorem DY {Z:Xa}:Md Z []:=fun t e h=>by cases h
theorem Am {n:Nat} {ops:Array Oper} {ρ:List Qa} {l:List Oper} {H D:List Nat} {F:List (Nat×Jd)} {Z:Xa} {X:List (Nat×PV)} (hF:Lb F) (h:oM n ops ρ l H F Z (X.map (·.1)) D=ng n ops ρ l H F Z (X.map (·.2))):∃ r,uj n ops ρ l 0 H F Z []=some r/\r.L=r.R/\Vg r.Z (mR Z D X):=by
 unfold oM ng at h
 cases hr:uj n ops ρ l 0 H F Z [] with
 | none=>rw [hr] at h;cases h
 | some r =>
  rw [hr] at h
  simp only at h
  cases hd:Hd (X.map (·.1)) D l
  ·rw [hd] at h;cases h
  rw [hd] at h
  simp only [cQ,gn,Prod.mk.injEq] at h
  obtain ⟨h1,h2⟩:=h
  refine ⟨r,rfl,h2,fun t=>?_⟩
  unfold mR
  rw [xA]
  cases hl:BC t X with
  | some v=>exact .inl (by rw [Option.getD_some,zd hl h1])
  | none =>
   rw [Option.getD_none]
   unfold pdel
   cases hi:GX t D
   ·have h3':t ∉ D:=fun hm=>by rw [wx.2 hm] at hi;cases hi
    exact .inl (by rw [dq,zc hr h2 hF DY hd t (ze hl) h3'])
   exact .inr rfl
section
variable {n:Nat} {ops:Array Oper} {l:List Oper} {K:Ua} {KC:Exit->Ua} {Z:Xa} {ρ:List Qa} {id:Nat} {F:List (Nat×Jd)}
theorem BD {σ1:Xa} (hw:Vg Z σ1) (h:Wa n ops l K σ1 ρ):Wa n ops l K Z ρ:=fun β O Z' ρ' g hs hr=>h β O Z' ρ' g (hs.weak hw) hr
theorem iW (k:Nat) (H D:List Nat) (X:List (Nat×PV)) (hF:Lb F) (h:oM n ops ρ (l.take k) H F Z (X.map (·.1)) D=ng n ops ρ (l.take k) H F Z (X.map (·.2))) (hw:Wa n ops (l.drop k) K (mR Z D X) ρ):Wa n ops l K Z ρ:=by
 obtain ⟨r,h1,h2,h3⟩:=Am hF h
 have:=Al h1 h2 hF DY (BD h3 hw)
 rwa [take_append_drop] at this
theorem dh (H D:List Nat) (X:List (Nat×PV)) (hF:Lb F) (h:oM n ops ρ l H F Z (X.map (·.1)) D=ng n ops ρ l H F Z (X.map (·.2))) (hw:K (mR Z D X) ρ):Wa n ops l K Z ρ:=by
 obtain ⟨r,h1,h2,h3⟩:=Am hF h
 have:=Al (rest:=[]) h1 h2 hF DY (BD h3 (au (ops:=ops) hw))
 rwa [List.append_nil] at this
theorem ai (H D:List Nat) (X:List (Nat×PV)) (hF:Lb F) (h:oM n l.toArray ρ l H F Z (X.map (·.1)) D=ng n l.toArray ρ l H F Z (X.map (·.2))) (hw:KC .normal (mR Z D X) ρ):Ka n (.region id l.toArray false) KC Z ρ:=ak (dh H D X hF h hw)
end
def BF:List (Nat×Oper)->Bool
 | []=>true
 | (k,o)::l=>cond (rJ o.op) (Nat.beq k 1) (Nat.beq k 0)&&BF l
theorem BG {n:Nat} {ops:Array Oper} {rest:List (Nat×Oper)} {K:Ua} {ρd ρ:List Qa}:∀ {l:List (Nat×Oper)} {i:Nat} {H:List Nat} {F:List (Nat×Jd)} {Z:Xa} {G:List (Nat×GE)} {r:Ng},BF l=true->uj n ops ρ (l.map (·.2)) i H F Z G=some r->r.L=r.R->Lb F->Md Z G->Vc n ops K rest r.Z ρd ρ->Vc n ops K (l++rest) Z ρd ρ
 | [],i,H,F,Z,G,r,_,h,_,_,_,hw=>by simp only [map_nil,uj,gn] at h;subst h;exact hw
 | (k,o)::l,i,H,F,Z,G,r,ht,h,he,hF,hi,hw=>by
  simp only [BF,and_eq_true] at ht
  obtain ⟨d,gs,p,H',F',r',h1,h2,h3,h4,h5,h6,h7,h8,h9⟩:=xz h he hF hi
  have hrec:=BG (rest:=rest) (K:=K) (ρd:=ρd) ht.2 h6 h8 h9 (xx hi h4) (by rw [h7];exact hw)
  rw [xy] at hrec
  rcases h5 with ⟨hc,hq⟩ | ⟨hc,hq⟩
  ·rw [hc] at ht;have:=eq_of_beq_eq_true ht.1;subst this
   exact nT h3 h1 h2 hq hrec
  rw [hc] at ht;have:=eq_of_beq_eq_true ht.1;subst this
  exact Hc h3 h1 h2 hq hrec
section
variable {n:Nat} {ops:Array Oper} {l:List (Nat×Oper)} {K:Ua} {Z:Xa} {ρd ρs:List Qa} {F:List (Nat×Jd)}
theorem He {σ1:Xa} (hw:Vg Z σ1) (h:Vc n ops K l σ1 ρd ρs):Vc n ops K l Z ρd ρs:=fun β O Z' rd rs g hs h1 h2=>h β O Z' rd rs g (hs.weak hw) h1 h2
def BH (n:Nat) (ops:Array Oper) (ρ:List Qa) (l:List (Nat×Oper)) (H:List Nat) (F:List (Nat×Jd)) (Z:Xa) (ks D:List Nat):RunO:=cond (BF l) (oM n ops ρ (l.map (·.2)) H F Z ks D) none
theorem ca (k:Nat) (H D:List Nat) (X:List (Nat×PV)) (hF:Lb F) (h:BH n ops ρs (l.take k) H F Z (X.map (·.1)) D=ng n ops ρs ((l.take k).map (·.2)) H F Z (X.map (·.2))) (hw:Vc n ops K (l.drop k) (mR Z D X) ρd ρs):Vc n ops K l Z ρd ρs:=by
 unfold BH at h
 cases ht:BF (l.take k)
 ·rw [ht] at h;unfold ng at h;split at h <;> cases h
 rw [ht] at h
 obtain ⟨r,h1,h2,h3⟩:=Am hF h
 have:=BG ht h1 h2 hF DY (He h3 hw)
 rwa [take_append_drop] at this
end
def Qf (v:Value) (es:List MapEntry) (r:Option (Nat×Value)):Prop:=(r=none/\∀ e∈es,e.key≠v)\/∃ i e,r=some (i,e.val)/\es[i]?=some e/\e.key=v
structure Nf (kt:Nat) (P:Value->Prop):Prop where
 chk:∀ v,P v->∀ e w,(Instr.checkKey e 10000 kt v).run Tryz.prog w=.ok () w
 find:∀ v es,P v->(∀ e∈es,P e.key)->∀ w,∃ r,(Instr.findKey kt v es).run Tryz.prog w=.ok r w/\Qf v es r
 same:∀ v,P v->Instr.sameBits 10000 v v=true
section
variable {K V:Type} [DecidableEq K]
def pC:List (K×V)->K->Option V
 | [],_=>none
 | (a,v)::r,k=>if a=k then some v else pC r k
def rK:List (K×V)->K->V->List (K×V)
 | [],k,v=>[(k,v)]
 | (a,w)::r,k,v=>if a=k then (k,v)::r else (a,w)::rK r k v
def mpos:List (K×V)->K->Nat
 | [],_=>0
 | (a,_)::r,k=>if a=k then 0 else mpos r k+1
def MND (xs:List (K×V)):Prop:=xs.Pairwise fun a b=>a.1≠b.1
theorem E5 {xs:List (K×V)} {k:K} (h:∀ p∈xs,p.1≠k):pC xs k=none:=by
 induction xs with
 | nil=>rfl
 | cons p r ih =>
  obtain ⟨a,v⟩:=p
  unfold pC
  rw [if_neg (h (a,v) (by simp)),ih (fun p hp=>h p (by simp [hp]))]
theorem E6 {xs:List (K×V)} {k:K} (h:∀ p∈xs,p.1≠k) (v:V):rK xs k v=xs++[(k,v)]:=by
 induction xs with
 | nil=>rfl
 | cons p r ih =>
  obtain ⟨a,w⟩:=p
  unfold rK
  rw [if_neg (h (a,w) (by simp)),ih (fun p hp=>h p (by simp [hp]))];rfl
theorem DZ {xs:List (K×V)} (nd:MND xs) {k:K} {v:V}:∀ {i:Nat},xs[i]?=some (k,v)->pC xs k=some v/\mpos xs k=i/\∀ u,rK xs k u=xs.set i (k,u):=by
 induction xs with
 | nil=>intro i h;simp at h
 | cons p r ih =>
  obtain ⟨a,w⟩:=p
  intro i h
  unfold MND at nd
  rw [List.pairwise_cons] at nd
  cases i with
  | zero =>
   simp only [List.getElem?_cons_zero,gn,Prod.mk.injEq] at h
   obtain ⟨rfl,rfl⟩:=h
   unfold pC mpos rK
   simp
  | succ i =>
   simp only [List.getElem?_cons_succ] at h
   have hne:a≠k:=nd.1 (k,v) (mem_of_getElem? h)
   obtain ⟨h1,h2,h3⟩:=ih nd.2 h
   unfold pC mpos rK
   rw [if_neg hne,if_neg hne]
   refine ⟨h1,by rw [h2],fun u=>?_⟩
   rw [if_neg hne,h3];rfl
def ls (ek:K->Value) (ev:V->PV) (xs:List (K×V)):List (Value×PV):=xs.map fun p=>(ek p.1,ev p.2)
structure Mg (kt:Nat) (ek:K->Value):Prop where
 law:∃ P,Nf kt P/\∀ a,P (ek a)
 inj:∀ a b,ek a=ek b->a=b
end
section
variable {O:Kr}
theorem Ud.get:∀ {kvs:List (Value×PV)} {es:List MapEntry} {i:Nat} {e:MapEntry},Ud O kvs es->es[i]?=some e->∃ p,kvs[i]?=some (e.key,p)/\Rp O p e.val
 | _,_,0,_,.cons h _,g=>by simp only [List.getElem?_cons_zero,gn] at g;subst g;exact ⟨_,rfl,h⟩
 | _,_,i+1,_,.cons _ hs,g=>by simp only [List.getElem?_cons_succ] at g ⊢;exact hs.get g
theorem Ud.get':∀ {kvs:List (Value×PV)} {es:List MapEntry} {i:Nat} {k:Value} {p:PV},Ud O kvs es->kvs[i]?=some (k,p)->∃ e,es[i]?=some e/\e.key=k/\Rp O p e.val
 | _,_,0,_,_,.cons h _,g=>by simp only [List.getElem?_cons_zero,gn,Prod.mk.injEq] at g;obtain ⟨rfl,rfl⟩:=g;exact ⟨_,rfl,rfl,h⟩
 | _,_,i+1,_,_,.cons _ hs,g=>by simp only [List.getElem?_cons_succ] at g ⊢;exact hs.get' g
theorem Ud.keys:∀ {kvs:List (Value×PV)} {es:List MapEntry},Ud O kvs es->kvs.map (·.1)=es.map (·.key)
 | _,_,.nil=>rfl
 | _,_,.cons _ hs=>by simp [hs.keys]
theorem Ud.app:∀ {ps qs:List (Value×PV)} {es fs:List MapEntry},Ud O ps es->Ud O qs fs->Ud O (ps++qs) (es++fs)
 | _,_,_,_,.nil,h=>h
 | _,_,_,_,.cons h hs,g=>.cons h (hs.app g)
theorem Ud.set:∀ {kvs:List (Value×PV)} {es:List MapEntry} {i:Nat} {e e':MapEntry} {p:PV},Ud O kvs es->es[i]?=some e->e'.key=e.key->Rp O p e'.val->Ud O (kvs.set i (e.key,p)) (es.set i e')
 | _,_,0,_,_,_,.cons h hs,g,hk,hp=>by simp only [List.getElem?_cons_zero,gn] at g;subst g;rw [<- hk];exact .cons hp hs
 | _,_,i+1,_,_,_,.cons h hs,g,hk,hp=>by simp only [List.getElem?_cons_succ] at g;exact .cons h (hs.set g hk hp)
theorem CZ {α:Type} {R:α->α->Prop}:∀ {l:List α} {i:Nat} {a a':α},l.Pairwise R->l[i]?=some a->(∀ x,R x a->R x a')->(∀ x,R a x->R a' x)->(l.set i a').Pairwise R
 | _::l,0,a,a',h,g,h1,h2=>by
  simp only [List.getElem?_cons_zero,gn] at g;subst g
  rw [List.pairwise_cons] at h
  exact List.pairwise_cons.2 ⟨fun x hx=>h2 x (h.1 x hx),h.2⟩
 | b::l,i+1,a,a',h,g,h1,h2=>by
  simp only [List.getElem?_cons_succ] at g
  rw [List.pairwise_cons] at h
  refine List.pairwise_cons.2 ⟨fun x hx=>?_,CZ h.2 g h1 h2⟩
  rcases List.mem_or_eq_of_mem_set hx with hx | rfl
  ·exact h.1 x hx
  exact h1 b (h.1 a (mem_of_getElem? g))
theorem Xd.set {es:List MapEntry} {clock i:Nat} {e e':MapEntry} (h:Xd es clock) (g:es[i]?=some e) (hk:e'.key=e.key) (hb:e'.born=e.born):Xd (es.set i e') clock where
 nd:=CZ h.nd g (fun x hx=>by rw [hk];exact hx) (fun x hx=>by rw [hk];exact hx)
 bn:=CZ h.bn g (fun x hx=>by rw [hb];exact hx) (fun x hx=>by rw [hb];exact hx)
 lt:=fun x hx=>by
  rcases List.mem_or_eq_of_mem_set hx with hx | rfl
  ·exact h.lt x hx
  rw [hb];exact h.lt e (mem_of_getElem? g)
theorem Xd.push {es:List MapEntry} {clock:Nat} (h:Xd es clock) {k v:Value} (hk:∀ e∈es,e.key≠k):Xd (es++[⟨k,v,clock⟩]) (clock+1) where
 nd:=List.pairwise_append.2 ⟨h.nd,by simp,fun a ha b hb=>by simp at hb;subst hb;exact hk a ha⟩
 bn:=List.pairwise_append.2 ⟨h.bn,by simp,fun a ha b hb=>by simp at hb;subst hb;have:=h.lt a ha;show a.born≠clock;omega⟩
 lt:=fun x hx=>by
  rcases List.mem_append.1 hx with hx | hx
  ·have:=h.lt x hx;omega
  simp at hx;subst hx;show clock<clock+1;omega
end
section
variable {K V:Type} {ek:K->Value} {ev:V->PV} {xs:List (K×V)} {O:Kr} {es:List MapEntry} {clock kt:Nat}
theorem BI {i:Nat} {k':Value} {p:PV} (h:(ls ek ev xs)[i]?=some (k',p)):∃ k v,xs[i]?=some (k,v)/\k'=ek k/\p=ev v:=by
 unfold ls at h
 rw [List.getElem?_map] at h
 cases e:xs[i]? with
 | none=>rw [e] at h;cases h
 | some q=>rw [e] at h;simp only [Option.map_some,gn,Prod.mk.injEq] at h;exact ⟨q.1,q.2,rfl,h.1.symm,h.2.symm⟩
theorem D0 (h:Ud O (ls ek ev xs) es) (hw:Xd es clock):MND xs:=by
 have h1:(es.map (·.key)).Pairwise (· ≠ ·):=List.pairwise_map.2 hw.nd
 rw [<- h.keys,ls,List.map_map,List.pairwise_map] at h1
 exact h1.imp fun hab e=>hab (by simp [e])
theorem An {P:Value->Prop} (hP:∀ a,P (ek a)) (h:Ud O (ls ek ev xs) es):∀ e∈es,P e.key:=by
 intro e he
 obtain ⟨i,hi,rfl⟩:=List.getElem_of_mem he
 obtain ⟨p,h1,_⟩:=h.get (List.getElem?_eq_getElem hi)
 obtain ⟨k,v,_,h2,_⟩:=BI h1
 rw [h2];exact hP k
theorem vc (hinj:∀ a b,ek a=ek b->a=b) (h:Ud O (ls ek ev xs) es) (hw:Xd es clock) {k:K} {r:Option (Nat×Value)} (hf:Qf (ek k) es r):(r=none/\(∀ p∈xs,p.1≠k)/\∀ e∈es,e.key≠ek k)\/∃ i e v,r=some (i,e.val)/\es[i]?=some e/\e.key=ek k/\xs[i]?=some (k,v)/\Rp O (ev v) e.val:=by
 rcases hf with ⟨h1,h2⟩ | ⟨i,e,h1,h2,h3⟩
 ·left
  refine ⟨h1,fun p hp hpk=>?_,h2⟩
  obtain ⟨i,hi,rfl⟩:=List.getElem_of_mem hp
  have:(ls ek ev xs)[i]?=some (ek k,ev xs[i].2):=by unfold ls;rw [List.getElem?_map,List.getElem?_eq_getElem hi];simp [hpk]
  obtain ⟨e,g1,g2,_⟩:=h.get' this
  exact h2 e (mem_of_getElem? g1) g2
 right
 obtain ⟨p,g1,g2⟩:=h.get h2
 obtain ⟨k',v,g3,g4,g5⟩:=BI g1
 have:k'=k:=hinj _ _ (g4.symm.trans h3)
 subst this
 exact ⟨i,e,v,h1,h2,h3,g3,by rw [<- g5];exact g2⟩
end
section
variable {O:Kr} {Z:Ma} {ρ:List Ja} {o:Oper} {K:Value->List Ja->Kr->Prop}
theorem C0 {t:Nat} (ho:o.op=.makeMap t none) (h:∀ b O',Sa O O'->K (.map (some b)) (Ja.mp (some b) [] 0::ρ) O'):Lc o Z ρ O K:=fun β hi Nx hk=>by
 unfold execOp
 simp only [ho,Option.map_none,Instr.makeMap,Sem.run_bind,run_newObj_alloc,Result.andThen_ok,Sem.run_pure,Wc]
 exact hk _ _ _ (hi.alloc _ (Ja.mp (some O.w.heap.size) [] 0) rfl rfl) (ga hi.fin _) (h _ _ (ga hi.fin _))
end
theorem xB {b clock:Nat} {es:Array MapEntry} {w:World} (hb:w.heap[b]?=some (.map es clock)):(getObj b).run Tryz.prog w=.ok (.map es clock) w:=by simp [getObj,Sem.run,hb]
theorem BJ {b clock:Nat} {es:Array MapEntry} {w:World} (o:Obj) (hb:w.heap[b]?=some (.map es clock)):(setObj b o).run Tryz.prog w=.ok () { w with heap:=w.heap.setIfInBounds b o }:=by simp [setObj,Sem.run,hb]
theorem zf {α:Type} {f:α->α}:∀ {l:List α} {i:Nat} {e:α},l[i]?=some e->l.modify i f=l.set i (f e)
 | _::_,0,_,h=>by simp only [List.getElem?_cons_zero,gn] at h;subst h;rfl
 | _::l,i+1,_,h=>by simp only [List.getElem?_cons_succ] at h;simp [zf h]
theorem C1 {t kt et b clock:Nat} {z v:Value} {sz by':Nat} {P:Value->Prop} (ht:fQ t=some (.map kt et)) (hz:iE et=some (z,sz,by')) (L:Nf kt P) (hv:P v) {es:List MapEntry} (hes:∀ e∈es,P e.key) {w:World} (hb:w.heap[b]?=some (.map es.toArray clock)) (c:Bool):∃ r,Qf v es r/\(Instr.lookup t (.map (some b)) v c).run Tryz.prog w=.ok (if c then .tuple #[(r.map (·.2)).getD z,.bool r.isSome] else (r.map (·.2)).getD z) w:=by
 obtain ⟨r,h1,h2⟩:=L.find v es hv hes w
 refine ⟨r,h2,?_⟩
 simp only [Instr.lookup,Sem.run_bind,run_underlying (bD ht),Result.andThen_ok,xB hb,Sem.run_pure,L.chk v hv,h1]
 cases r with
 | none=>simp [gq hz]
 | some q=>simp
theorem xC {t kt et:Nat} {z v:Value} {sz by':Nat} {P:Value->Prop} (ht:fQ t=some (.map kt et)) (hz:iE et=some (z,sz,by')) (L:Nf kt P) (hv:P v) {w:World} (c:Bool):(Instr.lookup t (.map none) v c).run Tryz.prog w=.ok (if c then .tuple #[z,.bool false] else z) w:=by
 obtain ⟨r,h1,h2⟩:=L.find v [] hv (fun e h=>by cases h) w
 have hr:r=none:=by
  rcases h2 with h2 | ⟨i,e,_,h2,_⟩
  ·exact h2.1
  simp at h2
 subst hr
 simp [Instr.lookup,run_underlying (bD ht),L.chk v hv,h1,gq hz]
theorem te {t kt et b clock:Nat} {v u:Value} {P:Value->Prop} (ht:fQ t=some (.map kt et)) (L:Nf kt P) (hv:P v) {es:List MapEntry} (hes:∀ e∈es,P e.key) {w:World} (hb:w.heap[b]?=some (.map es.toArray clock)):∃ r es' clock',Qf v es r/\(Instr.mapUpdate t (.map (some b)) v u).run Tryz.prog w=.ok () { w with heap:=w.heap.setIfInBounds b (.map es'.toArray clock') }/\((r=none/\es'=es++[⟨v,u,clock⟩]/\clock'=clock+1)\/∃ i e,es[i]?=some e/\e.key=v/\r=some (i,e.val)/\es'=es.set i ⟨v,u,e.born⟩/\clock'=clock):=by
 obtain ⟨r,h1,h2⟩:=L.find v es hv hes w
 have h2':=h2
 rcases h2 with ⟨rfl,h3⟩ | ⟨i,e,rfl,h3,h4⟩
 ·refine ⟨none,es++[⟨v,u,clock⟩],clock+1,h2',?_,.inl ⟨rfl,rfl,rfl⟩⟩
  simp only [Instr.mapUpdate,Sem.run_bind,run_underlying (bD ht),Result.andThen_ok,xB hb,L.chk v hv,h1,BJ _ hb]
  simp
 refine ⟨some (i,e.val),es.set i ⟨v,u,e.born⟩,clock,h2',?_,.inr ⟨i,e,h3,h4,rfl,rfl,rfl⟩⟩
 have hk:((es.toArray[i]?).map (·.key)).getD v=v:=by simp [h3,h4]
 have hst:(Instr.keyThatStays v v).run Tryz.prog w=.ok v w:=by simp [Instr.keyThatStays,L.same v hv]
 have hm:es.toArray.modify i (fun x=>({ x with key:=v,val:=u }:MapEntry))=(es.set i ⟨v,u,e.born⟩).toArray:=by
  apply Array.ext'
  simp only [Array.toList_modify]
  rw [zf h3]
 simp only [Instr.mapUpdate,Sem.run_bind,run_underlying (bD ht),Result.andThen_ok,xB hb,L.chk v hv,h1,hk,hst,hm,BJ _ hb]
section
variable {K V:Type} [DecidableEq K] {ek:K->Value} {vv:V->PV} {xs:List (K×V)} {O:Kr} {es:List MapEntry} {clock kt:Nat}
theorem BK {es':List MapEntry} {clock':Nat} {k:K} {v:V} {u:Value} {r:Option (Nat×Value)} (hinj:∀ a b,ek a=ek b->a=b) (hw:Xd es clock) (h:Ud O (ls ek vv xs) es) (hf:Qf (ek k) es r) (hv:Rp O (vv v) u)
    (hc:(r=none/\es'=es++[⟨ek k,u,clock⟩]/\clock'=clock+1)\/∃ i e,es[i]?=some e/\e.key=ek k/\r=some (i,e.val)/\es'=es.set i ⟨ek k,u,e.born⟩/\clock'=clock):Xd es' clock'/\Ud O (ls ek vv (rK xs k v)) es':=by
  rcases hc with ⟨rfl,rfl,rfl⟩ | ⟨i,e,h1,h2,rfl,rfl,rfl⟩
  · rcases vc hinj h hw hf with ⟨_,h3,h4⟩ | ⟨i,e,v,h3,_⟩
    · refine ⟨hw.push h4,?_⟩
      rw [E6 h3,ls,map_append]
      exact h.app (.cons (e:=⟨ek k,u,clock⟩) hv .nil)
    cases h3
  rcases vc hinj h hw hf with ⟨h3,_⟩ | ⟨i',e',v',h3,h4,h5,h6,h7⟩
  · cases h3
  have hi:i'=i:=by injection h3 with h3;injection h3 with h3 _;exact h3.symm
  subst hi
  refine ⟨hw.set h1 h2.symm rfl,?_⟩
  rw [(DZ (D0 h hw) h6).2.2 v,ls,List.map_set]
  have:=h.set h1 (e':=⟨ek k,u,e.born⟩) h2.symm hv
  rw [h2] at this
  exact this
theorem Hf {k:K} {z0:V} {z:Value} {r:Option (Nat×Value)} (hinj:∀ a b,ek a=ek b->a=b) (hw:Xd es clock) (h:Ud O (ls ek vv xs) es) (hf:Qf (ek k) es r) (hz:Rp O (vv z0) z):Rp O (vv ((pC xs k).getD z0)) ((r.map (·.2)).getD z)/\r.isSome=(pC xs k).isSome:=by
 rcases vc hinj h hw hf with ⟨rfl,h3,h4⟩ | ⟨i,e,v,rfl,h4,h5,h6,h7⟩
 ·rw [E5 h3];exact ⟨hz,rfl⟩
 rw [(DZ (D0 h hw) h6).1];exact ⟨h7,rfl⟩
end
theorem rL {w:World} {b i:Nat} {o:Obj} (h:i≠b):({ w with heap:=w.heap.setIfInBounds b o }:World).heap[i]?=w.heap[i]?:=by
 show (w.heap.setIfInBounds b o)[i]?=_
 rw [Array.getElem?_setIfInBounds_ne (fun e=>h e.symm)]
theorem rM {w:World} {b:Nat} {o o':Obj} (h:w.heap[b]?=some o'):({ w with heap:=w.heap.setIfInBounds b o }:World).heap[b]?=some o:=by
 show (w.heap.setIfInBounds b o)[b]?=_
 have:b<w.heap.size:=by
  rcases Nat.lt_or_ge b w.heap.size with h1 | h1
  ·exact h1
  rw [Array.getElem?_eq_none h1] at h;cases h
 rw [Array.getElem?_setIfInBounds_self_of_lt this]
theorem Zt.mapTurn {β:Jc} {l1 l2:List Ja} {O:Kr} {b clock clock':Nat} {es es':List MapEntry} (h:Zt β (l1++Ja.mp (some b) es clock::l2) O):Zt β (l1++Ja.mp (some b) es' clock'::l2) ⟨{ O.w with heap:=O.w.heap.setIfInBounds b (.map es'.toArray clock') },O.S⟩/\Sa O ⟨{ O.w with heap:=O.w.heap.setIfInBounds b (.map es'.toArray clock') },O.S⟩:=by
 have hb:O.w.heap[b]?=some (.map es.toArray clock):=h.own (Ja.mp (some b) es clock) (by simp)
 exact h.turn (r:=Ja.mp (some b) es clock) (r':=Ja.mp (some b) es' clock') (b:=b) rfl rfl rfl (fun i hi=>rL hi) (by simp) (rM hb) rfl rfl rfl (le_refl _)
section
variable {K V:Type} [DecidableEq K] {ek:K->Value} {vv:V->PV} {xs:List (K×V)} {o:Oper} {Z:Xa} {ρ ρ':List Qa} {c:Bool} {x y y2:Operand} {t kt et:Nat} {KK:PV->List Qa->Prop} {k:K} {v z0:V} {z:Value} {sz by' b:Nat} {pk:PV} {mo:Option Nat}
theorem C2 (ho:o.op=.makeMap t none) (h:∀ b,KK (.v (.map (some b))) (.mp (some b) []::ρ)):Qb o Z ρ KK:=fun O Z' ρ' g hs hr =>
 C0 ho fun b O' hk=>⟨_,_,.v rfl,.cons (.mp (fun h=>by cases h) ⟨.nil,.nil,fun e h=>by cases h⟩ .nil) (hr.mono hk),h b⟩
def Wg (ρ:List Qa) (mo:Option Nat) (kvs:List (Value×PV)):Prop:=∀ O rs,Ta O ρ rs->∃ es clock,Ja.mp mo es clock∈rs/\(mo=none->es=[])/\Xd es clock/\Ud O kvs es
theorem Hg {kvs:List (Value×PV)} (h:Qa.mp mo kvs∈ρ):Wg ρ mo kvs:=fun O rs hr=>by
 obtain ⟨r,h1,h2⟩:=hr.mem h
 cases h2 with
 | mp hn hw hk=>exact ⟨_,_,h1,hn,hw,hk⟩
theorem C3 {es:List MapEntry} {clock:Nat} (hw:Xd es clock) {u:Value} {r r':Option (Nat×Value)} (h:Qf u es r) (h':Qf u es r'):r=r':=by
 rcases h with ⟨rfl,h1⟩ | ⟨i,e,rfl,h1,h2⟩ <;> rcases h' with ⟨rfl,h3⟩ | ⟨j,f,rfl,h3,h4⟩
 ·rfl
 ·exact absurd h4 (h1 f (mem_of_getElem? h3))
 ·exact absurd h2 (h3 e (mem_of_getElem? h1))
 have hij:i=j:=by
  obtain ⟨li,ei⟩:=List.getElem?_eq_some_iff.1 h1
  obtain ⟨lj,ej⟩:=List.getElem?_eq_some_iff.1 h3
  have pw:=List.pairwise_iff_getElem.1 hw.nd
  rcases Nat.lt_trichotomy i j with h | h | h
  ·exact absurd (by rw [ei,ej,h2,h4]) (pw i j li lj h)
  ·exact h
  exact absurd (by rw [ei,ej,h2,h4]) (pw j i lj li h)
 subst hij
 rw [h1] at h3;injection h3 with h3;rw [h3]
theorem look_q (cm:Bool) (ho:o.op=.lookup t x y cm) (ht:fQ t=some (.map kt et)) (hz:iE et=some (z,sz,by')) (hzp:∀ O,Rp O (vv z0) z) (L:Mg kt ek) (hx:Ra Z c x (.v (.map mo))) (hy:Ra Z c y pk) (hk:∀ O u,Rp O pk u->u=ek k) (hm:Wg ρ mo (ls ek vv xs)) {O:Kr} {Z':Ma} {ρ':List Ja} (hs:Xc O Z Z') (hr:Ta O ρ ρ'):c=true->∃ u,Rp O (vv ((pC xs k).getD z0)) u/\∀ w,Sc ρ' O w->(execOp (SX.ev Z') o).run Tryz.prog w=.ok (.value (if cm then .tuple #[u,.bool (pC xs k).isSome] else u)) w:=by
 intro hc
 obtain ⟨P,hL,hP⟩:=L.law
 have e1:SX.ev Z' x=.map mo:=hs.ve hx hc
 have e2:SX.ev Z' y=ek k:=hk O _ (hs.pe hy hc)
 obtain ⟨es,clock,h1,hn,h2,h3⟩:=hm O ρ' hr
 obtain ⟨r,g1,g2⟩:=hL.find (ek k) es (hP k) (An hP h3) O.w
 obtain ⟨l1,l2⟩:=Hf L.inj h2 h3 g2 (hzp O)
 refine ⟨_,l1,fun w hw=>?_⟩
 cases mo with
 | none =>
  have:=hn rfl;subst this
  have hr0:r=none:=by
   rcases g2 with g2 | ⟨i,e,_,g2,_⟩
   ·exact g2.1
   simp at g2
  subst hr0
  rw [<- l2]
  simp only [execOp,ho,e1,e2,Sem.run_bind,xC ht hz hL (hP k) cm,Result.andThen_ok,Sem.run_pure]
  rfl
 | some b =>
  have hb:w.heap[b]?=some (.map es.toArray clock):=hw.own _ h1
  obtain ⟨r',f1,f2⟩:=C1 ht hz hL (hP k) (An hP h3) hb cm
  have:=C3 h2 f1 g2;subst this
  rw [<- l2]
  simp only [execOp,ho,e1,e2,Sem.run_bind,f2,Result.andThen_ok,Sem.run_pure]
theorem BL (ho:o.op=.lookup t x y true) (ht:fQ t=some (.map kt et)) (hz:iE et=some (z,sz,by')) (hzp:∀ O,Rp O (vv z0) z) (L:Mg kt ek) (hx:Ra Z c x (.v (.map mo))) (hy:Ra Z c y pk) (hk:∀ O u,Rp O pk u->u=ek k) (hm:Wg ρ mo (ls ek vv xs)):Na c o Z ρ (.tup [vv ((pC xs k).getD z0),.v (.bool (pC xs k).isSome)]):=fun O Z' ρ' g hs hr=>by
 cases c with
 | false=>exact Cx
 | true =>
  obtain ⟨u,h1,h2⟩:=look_q true ho ht hz hzp L hx hy hk hm hs hr rfl
  exact ⟨_,fun _=>.tup (ws:=[u,.bool (pC xs k).isSome]) (.cons h1 (.cons (.v rfl) .nil)),fun _ w hw=>h2 w hw⟩
theorem uk (ho:o.op=.mapUpdate t x y y2) (ht:fQ t=some (.map kt et)) (L:Mg kt ek) (hx:bt Z x=.v (.map (some b))) (hy:bt Z y=pk) (hk:∀ O u,Rp O pk u->u=ek k) (hv:bt Z y2=vv v) (hu:Nc ρ (.mp (some b) (ls ek vv xs)) (.mp (some b) (ls ek vv (rK xs k v))) ρ') (h:KK (.v undef) ρ'):Qb o Z ρ KK:=fun O Z' rr g hs hr=>by
 obtain ⟨P,hL,hP⟩:=L.law
 obtain ⟨r0,l1,l2,rfl,h4,h5⟩:=hr.upd hu
 cases h4 with
 | mp hn hw hkv =>
  rename_i es clock
  intro β hi Nx hnx
  have hb:O.w.heap[b]?=some (.map es.toArray clock):=hi.own (Ja.mp (some b) es clock) (by simp)
  have e1:SX.ev Z' x=.map (some b):=hs.v1 hx
  have e2:SX.ev Z' y=ek k:=hk O _ (by have:=hs.ev y;rwa [hy] at this)
  have rv:Rp O (vv v) (SX.ev Z' y2):=by have:=hs.ev y2;rwa [hv] at this
  obtain ⟨r,es',clock',f1,f2,f3⟩:=te (u:=SX.ev Z' y2) ht hL (hP k) (An hP hkv) hb
  obtain ⟨w1,w2⟩:=BK (v:=v) L.inj hw hkv f1 rv f3
  obtain ⟨i1,i2⟩:=hi.mapTurn (es':=es') (clock':=clock')
  simp only [execOp,ho,e1,e2,Sem.run_bind,f2,Result.andThen_ok,Sem.run_pure,Wc]
  exact hnx _ _ _ i1 i2 ⟨.v undef,ρ',.v rfl,h5 _ _ i2 (.mp (fun h=>by cases h) w1 (w2.mono i2)),h⟩
end
def vI (a:Int):PV:=.v (.int .i64 a)
def vT (a:Bool):PV:=.v (.bool a)
theorem vL {K V:Type} {o:Oper} {Z:Xa} {ρ:List Qa} {t:Nat} {KK:PV->List Qa->Prop} (ek:K->Value) (vv:V->PV) (ho:o.op=.makeMap t none) (h:∀ b,KK (.v (.map (some b))) (.mp (some b) (ls ek vv [])::ρ)):Qb o Z ρ KK:=C2 ho h
theorem wl_gT {β:Jc} {n:Nat} {ops:Array Oper} {o:Oper} {rest:List Oper} {K:Yb} {Z:Ma} {ρ:List Ja} {O:Kr} {d:Nat} (hg:Wb ops Z o true) (hd':o.dst=some d) (hlt:Nat.blt d n=true) (h:Lc o Z ρ O fun v ρ' O'=>WL β n ops rest K (upd Z d v) ρ' O'):WL β n ops (o::rest) K Z ρ O:=fun hi df a hr Q hk=>by
 simp only [<- ie hd'] at h
 have hd:=jl hd' hlt
 unfold wpList
 rw [lI hr,hg]
 exact .inl (mY hr.eval (h β hi (fun v w=>wpList Tryz.prog ops Q rest (a.put o.dst v) w) fun v ρ' O' hi' hle hw=>hw hi' _ (hr.put hd v) Q fun a' Z' ρ'' O'' h1 h2 h3 h4=>hk a' Z' ρ'' O'' h1 h2 (hle.trans h3) h4) fun _ _ h=>h)
section
variable {n:Nat} {ops:Array Oper} {o:Oper} {rest:List Oper} {K:Ua} {Z:Xa} {ρ:List Qa} {d:Nat}
theorem C4 (hg:Pa ops Z o true) (hd:o.dst=some d) (hlt:Nat.blt d n=true) (h:Qb o Z ρ fun p ρ'=>Wa n ops rest K (ig Z d p) ρ'):Wa n ops (o::rest) K Z ρ:=fun β O Z' ρ' g hs hr =>
 wl_gT (hg O Z' hs) hd hlt ((h O Z' ρ' g hs hr).mono fun v ρ1 κ1 hk ⟨pv,ρp,h1,h2,h3⟩=>h3 β κ1 _ _ (g.mono hk) ((hs.mono hk).upd h1) h2)
theorem C5 {p:PV} (hg:Pa ops Z o false) (hd:o.dst=some d) (hlt:Nat.blt d n=true) (h:Wa n ops rest K (ig Z d (pgv false p)) ρ):Wa n ops (o::rest) K Z ρ :=
 tq (p:=p) hg hd hlt (fun O Z' ρ' g hs hr=>Cx) h
theorem BM {ρ':List Qa} (hp:ρ.Perm ρ') (h:Wa n ops rest K Z ρ'):Wa n ops rest K Z ρ:=fun β O Z' r g hs hr=>by
 obtain ⟨rs',h1,h2⟩:=hr.perm hp
 exact fun hi=>h β O Z' rs' g hs h2 (hi.perm h1)
theorem C7 {c:Bool} {f:Nat} {ags:List Operand} {ts:Array Nat} {pargs:List PV} {r:PV} {r0 r1:Qa} {l0:List Qa} (hg:Pa ops Z o c) (hd:o.dst=some d) (hlt:Nat.blt d n=true) (ho:o.op=.call { callee:=.value (.func f),args:=ags.toArray,argTypes:=ts }) (hp:Ub ρ r0 l0) (ha:c=true->ags.map (bt Z)=pargs) (hc:c=true->La f pargs [r0] (fun pv ρ'=>pv=r/\ρ'=[r1])) (hn:c=false->r1=r0) (hw:Wa n ops rest K (ig Z d (pgv c r)) (r1::l0)):Wa n ops (o::rest) K Z ρ:=by
 cases c with
 | true =>
  refine C4 hg hd hlt (aI ho (ha rfl) (ρ1:=[r0]) (ρ2:=l0) hp (hc rfl) ?_)
  rintro _ _ ⟨rfl,rfl⟩
  rw [lp] at hw;exact hw
 | false =>
  have:=hn rfl;subst this
  exact C5 (p:=r) hg hd hlt (BM hp hw)
end
def gdp {α β:Type} [Inhabited α] (c:Bool) (x:Option (α×β)) (m:β):Option (α×β):=cond c x (some (default,m))
theorem gdp_t {α β:Type} [Inhabited α] {c:Bool} {x:Option (α×β)} {m:β} {v:α×β} (h:gdp c x m=some v) (hc:c=true):x=some v:=by subst hc;exact h
theorem gdp_f {α β:Type} [Inhabited α] {c:Bool} {x:Option (α×β)} {m:β} {v:α×β} (h:gdp c x m=some v) (hc:c=false):v.2=m:=by subst hc;simp only [gdp,dq,gn] at h;rw [<- h]
def mk0 (by':Nat) (n:Int):Option Unit:=if 0<=n/\by'*n.toNat<=140737488355328/\n.toNat<=140737488355328 then some () else none
theorem Hh {a:Option Addr} {n c T sz k:Nat} {css:List (List Value)} (hk:k<=n):∀ o,(Ja.row a n c T sz css).says o->(Ja.row a k c T sz (css.take k)).says o:=fun o h=>by
 cases a with
 | none=>obtain ⟨rfl,rfl,rfl⟩:=h;exact ⟨by omega,rfl,by simp⟩
 | some ad =>
  obtain ⟨h1,h2,h3,h4,h5,cur,h6,h7,h8⟩:=h
  refine ⟨h1,by rw [length_take];omega,fun cs hcs=>h3 cs (mem_of_mem_take hcs),by omega,h5,cur,h6,h7,?_⟩
  have hle:k*sz<=n*sz:=Nat.mul_le_mul_right _ hk
  have e:cur.toList.take (k*sz)=(css.flatten).take (k*sz):=by rw [<- h8,List.take_take,Nat.min_eq_left hle]
  rw [e]
  have hw:∀ cs∈css.take k,cs.length=sz:=fun cs hcs=>h3 cs (mem_of_mem_take hcs)
  have hl:((css.take k).flatten).length=k*sz:=by rw [fS hw,length_take];congr 1;omega
  have hsplit:css.flatten=(css.take k).flatten++(css.drop k).flatten:=by rw [<- List.flatten_append,take_append_drop]
  rw [hsplit,List.take_append_of_le_length (by omega),List.take_of_length_le (by omega)]
theorem row_blk {a:Option Addr} {n c T sz k:Nat} {css dss:List (List Value)}:(Ja.row a k c T sz dss).blk=(Ja.row a n c T sz css).blk:=by cases a <;> rfl
theorem E7 {o:Oper} {Z:Xa} {ρ l:List Qa} {x y:Operand} {t T T2 sz by' n c:Nat} {a:Option Addr} {kd:IntKind} {i:Int} {z:Value} {K:PV->List Qa->Prop} {α:Type} {enc:α->List PV} {xs zs:List α} (ho:o.op=.slice t x none (some y) none) (hu:fQ t=some (.slice T)) (hi:iE T=some (z,sz,by')) (hx:bt Z x=.v (.slice a n c)) (hy:bt Z y=.v (.int kd i)) (hp:Ub ρ (.row a n c T2 sz (xs.map enc)) l) (hm:sub xs 0 i=some zs) (h:K (.v (.slice a zs.length c)) (.row a zs.length c T2 sz (zs.map enc)::l)):Qb o Z ρ K:=fun O Z' ρ' g hs hr β hinv Nx hk=>by
 obtain ⟨⟨h0,h1,h2⟩,hz⟩:=lq hm
 have hz:zs=xs.take i.toNat:=by rw [hz];rfl
 obtain ⟨r,l',k1,k2,k3⟩:=hr.pick hp
 cases k2 with
 | row hb ho1 hc =>
  rename_i dss
  have hi2:=hinv.perm k1
  have hown:=im (hi2.own (Ja.row a n c T2 sz dss) (by simp))
  have hl:xs.length=n:=by have e:=hc.len;rw [length_map] at e;omega
  have hcap:n<=c:=by
   have hh:=hi2.own (Ja.row a n c T2 sz dss) (by simp)
   cases a with
   | none=>obtain ⟨e1,e2,_⟩:=hh;omega
   | some ad=>exact hh.2.2.2.1
  have hq:Rb true o Z' ρ' O (.slice a i.toNat c):=tp (c:=true) (k:=i.toNat) ho hu hi (.p (hs.v1 hx)) (.p (hs.v1 hy)) (fun _=>by omega) (fun _=>by omega)
  have hzl:zs.length=i.toNat:=by rw [hz,length_take];omega
  have hv:=hinv.view (r':=Ja.row a i.toNat c T2 sz (dss.take i.toNat)) k1 row_blk (Hh (by omega))
  rw [hq rfl O.w hinv.stab]
  refine hk _ (Ja.row a i.toNat c T2 sz (dss.take i.toNat)::l') O hv (.refl _) ⟨.v (.slice a zs.length c),.row a zs.length c T2 sz (zs.map enc)::l,by rw [hzl];exact .v rfl,.cons ?_ k3,h⟩
  rw [hzl]
  refine .row (by omega) (fun d hd=>ho1 d (mem_of_mem_take hd)) ?_
  rw [hz,map_take]
  exact hc.take _
theorem Hj {α:Type} {enc:α->List PV} {f T sz:Nat} {pargs:List PV} {r:List α} (h:La f pargs [] (fun pv ρ'=>∃ a c,pv=.v (.slice a r.length c)/\ρ'=[Qa.row a r.length c T sz (List.map enc r)])):PF f pargs (.slc r.length (List.map enc r)):=fun O args g ha=>by
 refine ⟨(h O args [] g ha .nil).1,fun hi=>((h O args [] g ha .nil).2 hi).mono fun e w' ⟨v,ρ',O',h1,h2,h3,pv,ρp,h4,h5,a,c,h6,h7⟩=>?_⟩
 subst h6 h7
 obtain ⟨r0,l',rfl,h8,h9⟩:=h5.cons_inv
 have:=h9.nil_inv;subst this
 cases h8 with
 | row hb ho hc =>
  obtain ⟨i1,i2,i3⟩:=wo h3
  exact ⟨v,[],CK O' a,h1,by rw [zU];exact h2,i1,rfl,by rw [h4.val];exact .slc i3 hb ho (hc.mono i2)⟩
abbrev pQ (a:Option Addr) (n c k sz:Nat):PV:=.v (.slice (if c=k then a else a.map (·.add (k*sz))) (n - k) (c - k))
section
variable {o:Oper} {Z:Xa} {ρ ρ':List Qa} {x y:Operand} {t T T2 sz by' n c:Nat} {a:Option Addr} {kd:IntKind} {i j:Int} {z:Value} {α:Type} {enc:α->List PV} {xs zs:List α} {m:α} {K:PV->List Qa->Prop}
theorem xD (ho:o.op=.slice t x (some y) none none) (hu:fQ t=some (.slice T)) (hi:iE T=some (z,sz,by')) (hx:bt Z x=.v (.slice a n c)) (hy:bt Z y=.v (.int kd i)) (hm2:Qa.row a n c T2 sz (xs.map enc)∈ρ) (hm:sub xs i (xs.length:Int)=some zs):Na true o Z ρ (pQ a n c i.toNat sz):=fun O Z' ρ' g hs hrr=>by
 obtain ⟨⟨h0,h1,h2⟩,_⟩:=lq hm
 refine ⟨_,fun _=>.v rfl,fun _ w hst=>?_⟩
 obtain ⟨r,hr1,hr2⟩:=hrr.mem hm2
 cases hr2 with
 | row hb ho1 hc =>
  have hl:xs.length=n:=by have e1:=(im (hst.own _ hr1)).2.1;have e2:=hc.len;rw [length_map] at e2;omega
  exact xe (c:=true) (ρ:=ρ') (O:=O) (k:=i.toNat) ho hu hi (.p (hs.v1 hx)) (.p (hs.v1 hy)) (fun _=>by omega) (fun _=>by omega) rfl w hst
theorem D1 {B k sz c n:Nat} (h:k<n) (hc:n<=c):(if c=k then some (⟨B,0,none⟩:Addr) else (some (⟨B,0,none⟩:Addr)).map (·.add (k*sz)))=some ⟨B,k*sz,none⟩:=by
 rw [if_neg (by omega)]
 simp only [Option.map_some,Addr.add,gn]
 split
 ·rename_i e;rw [e]
 simp
theorem D3 {a:Option Addr} {n c T sz:Nat} {css:List (List Value)} {w:World} (h:(Ja.row a n c T sz css).holds w):n<=c:=by
 cases a with
 | none=>obtain ⟨e1,e2,_⟩:=h;omega
 | some ad=>exact h.2.2.2.1
theorem tA (ho:o.op=.indexAddr t x y) (hu:fQ t=some (.slice T)) (hi:iE T=some (z,sz,by')) (hx:bt Z x=pQ a n c i.toNat sz) (hy:bt Z y=.v (.int kd j)) (hi0:0<=i) (hj:0<=j) (hm2:Qa.row a n c T2 sz (xs.map enc)∈ρ) (hm:bx xs (i+j)=some m):Na true o Z ρ (.v (.pointer (some ⟨uf a,(i+j).toNat * sz,none⟩))):=fun O Z' ρ' g hs hrr=>by
 refine ⟨_,fun _=>.v rfl,fun _ w hst=>?_⟩
 obtain ⟨h0,hmm⟩:=mA hm
 have hlt:=(List.getElem?_eq_some_iff.1 hmm).1
 obtain ⟨r,hr1,hr2⟩:=hrr.mem hm2
 cases hr2 with
 | row hb ho1 hc2 =>
  have hw:=hst.own _ hr1
  have hn:xs.length=n:=by have e1:=(im hw).2.1;have e2:=hc2.len;rw [length_map] at e2;omega
  have ha:=nD hw (by omega)
  have hcap:=D3 hw
  have e1:ev Z' x=.slice (some ⟨uf a,i.toNat * sz,none⟩) (n - i.toNat) (c - i.toNat):=by
   rw [hs.v1 hx]
   generalize uf a=B at ha ⊢
   subst ha
   rw [D1 (n:=n) (by omega) hcap]
  have h:=rC (c:=true) (ρ:=ρ') (O:=O) (j:=j.toNat) ho hu hi (fun _=>e1) (fun _=>hs.v1 hy) (fun _=>by omega) (fun _=>by omega) rfl w hst
  have e:i.toNat * sz+j.toNat * sz=(i+j).toNat * sz:=by rw [<- add_mul];congr 1;omega
  rwa [e] at h
theorem zc_flat {z:Value} {sz m:Nat} (h0:0<sz) (hz:(cn z).length=sz):(Builtin.zeroCells z.cells m).toList=(List.replicate m (cn z)).flatten:=by
 have hsz:z.cells.size=sz:=by rw [<- hz,<- j6];simp
 have:=DM (z:=z.cells) (n:=m) (by omega)
 show (madeCells z.cells (m*z.cells.size)).toList=_
 rw [this,j6]
theorem E8 {z0:α} (ho:o.op=.call { callee:=.builtin .clear,args:=#[x],argTypes:=#[t] }) (hu:fQ t=some (.slice T)) (hi:iE T=some (z,sz,by')) (hx:bt Z x=pQ a n c i.toNat sz) (hm:sub xs i (xs.length:Int)=some zs) (hzc:enc z0=Aa z) (hz1:(cn z).all Value.oneCell'=true) (hzl:Nat.beq (cn z).length sz=true) (h0:Nat.blt 0 sz=true) (hp:Nc ρ (.row a n c T2 sz (xs.map enc)) (.row a n c T2 sz ((xs.take i.toNat++List.replicate (n - i.toNat) z0).map enc)) ρ') (h:K (.tup []) ρ'):Qb o Z ρ K:=fun O Z' rr g hs hr β hinv Nx hkk=>by
 obtain ⟨⟨hi0,hi1,hi2⟩,_⟩:=lq hm
 generalize hkk':i.toNat=k at *
 have hsz0:0<sz:=by have:=h0;simp [Nat.blt] at this;omega
 have hzlen:=eq_of_beq_eq_true hzl
 have hr0:=hr
 obtain ⟨r0,l1,l2,rfl,h4,h5⟩:=hr.upd hp
 cases h4 with
 | row hb ho1 hc =>
  rename_i dss
  have hw:=hinv.own (Ja.row a n c T2 sz dss) (by simp)
  have hdl:dss.length=n:=(im hw).2.1
  have hdw:=(im hw).2.2
  have hxl:xs.length=n:=by have e:=hc.len;rw [length_map] at e;omega
  have hcap:=D3 hw
  have e1:ev Z' x=_:=hs.v1 hx
  have hun:=run_underlying (w:=O.w) (bD hu)
  have fin:∀ O',Sa O O'->Nd O' (.row a n c T2 sz ((xs.take k++List.replicate (n - k) z0).map enc)) (Ja.row a n c T2 sz (dss.take k++List.replicate (n - k) (cn z))):=fun O' hk'=>by
   refine .row hb (fun d hd=>?_) ?_
   ·rcases List.mem_append.1 hd with hd | hd
    ·exact ho1 d (mem_of_mem_take hd)
    rw [(List.mem_replicate.1 hd).2];exact fun u hu=>List.all_eq_true.1 hz1 u hu
   rw [map_append,map_take,List.map_replicate]
   refine ((hc.take k).app ?_).mono hk'
   rw [hzc]
   generalize n - k=q
   induction q with
   | zero=>exact .nil
   | succ q ih=>rw [List.replicate_succ,List.replicate_succ];exact .cons (lV _) ih
  rcases Nat.eq_zero_or_pos (n - k) with hz | hz
  ·have hkn:k=n:=by omega
   have hrun:(execOp (ev Z') o).run Tryz.prog O.w=.ok (.value (.tuple #[])) O.w:=by
    rw [show n - k=0 from hz] at e1
    unfold execOp
    simp only [ho,resolve,Sem.run_bind,Sem.run_pure,Result.andThen_ok,invoke,builtin,map_toArray,Array.map,e1]
    generalize (if c=k then a else a.map (·.add (k*sz)))=q at e1
    cases q <;> simp [Builtin.clear_,hun,e1]
   rw [hrun]
   have e2:dss.take k++List.replicate (n - k) (cn z)=dss:=by rw [hz,hkn,<- hdl];simp
   have:=fin O (.refl _)
   rw [e2] at this
   exact hkk _ _ O hinv (.refl _) ⟨.tup [],ρ',.tup (ws:=[]) .nil,h5 O _ (.refl _) this,h⟩
  have ha:=nD hw (by omega)
  generalize uf a=B at ha
  subst ha
  rw [D1 (n:=n) (by omega) hcap] at e1
  obtain ⟨g0,g1,g2,g3,g4,cur,g5,g6,g7⟩:=hw
  have hbk:O.w.heap[B]?=some (.cells cur.toList.toArray T2 (0,0)):=by simpa using g5
  have hfl:((List.replicate (n - k) (cn z)).flatten).length=(n - k)*sz:=by simp [hzlen]
  have hmul:k*sz+(n - k)*sz=n*sz:=by rw [<- add_mul];congr 1;omega
  have hnc:n*sz<=c*sz:=Nat.mul_le_mul_right _ g3
  have hone:((List.replicate (n - k) (cn z)).flatten).all Value.oneCell'=true:=by
   rw [List.all_eq_true];intro u hu
   obtain ⟨d,hd,hu⟩:=List.mem_flatten.1 hu
   rw [(List.mem_replicate.1 hd).2] at hu
   exact List.all_eq_true.1 hz1 u hu
  obtain ⟨w',hrun,q1,q2,q3,q4,q5,q6⟩:=pz (off:=k*sz) (vs:=(List.replicate (n - k) (cn z)).flatten) hbk (by simp only [Array.length_toList,g6,hfl];omega) hone
  have hzc2:=zc_flat (z:=z) (m:=n - k) hsz0 hzlen
  have hrun2:(execOp (ev Z') o).run Tryz.prog O.w=.ok (.value (.tuple #[])) w':=by
   obtain ⟨q,hq⟩:∃ q,n - k=q+1:=⟨n - k - 1,by omega⟩
   rw [hq] at e1 hrun hzc2
   unfold execOp
   simp only [ho,resolve,Sem.run_bind,Sem.run_pure,Result.andThen_ok,invoke,builtin,map_toArray,Array.map,e1]
   simp [Builtin.clear_,hun,e1,gq hi,hzc2,hrun]
  rw [hrun2]
  have hsays:(Ja.row (some ⟨B,0,none⟩) n c T2 sz (dss.take k++List.replicate (n - k) (cn z))).says w'.heap[B]?:=by
   refine ⟨rfl,by simp [length_take];omega,fun d hd=>?_,g3,g4,_,q3,?_,?_⟩
   ·rcases List.mem_append.1 hd with hd | hd
    ·exact g2 d (mem_of_mem_take hd)
    rw [(List.mem_replicate.1 hd).2];exact hzlen
   ·simp only [List.size_toArray,List.length_append,length_take,List.length_drop,Array.length_toList,g6,hfl];omega
   have hA:(List.take (k*sz) cur.toList).length=k*sz:=by rw [length_take,Array.length_toList,g6];omega
   rw [List.toList_toArray,List.take_left' (by rw [List.length_append,hA,hfl];exact hmul)]
   rw [List.flatten_append]
   congr 1
   have hw2:∀ d∈dss.take k,d.length=sz:=fun d hd=>g2 d (mem_of_mem_take hd)
   have hl2:((dss.take k).flatten).length=k*sz:=by rw [fS hw2,length_take];congr 1;omega
   have:List.take (k*sz) cur.toList=List.take (k*sz) (List.take (n*sz) cur.toList):=by rw [List.take_take,Nat.min_eq_left (by omega)]
   rw [this,g7]
   have hsplit:dss.flatten=(dss.take k).flatten++(dss.drop k).flatten:=by rw [<- List.flatten_append,take_append_drop]
   rw [hsplit,List.take_append_of_le_length (by omega),List.take_of_length_le (by omega)]
  obtain ⟨hi',hk'⟩:=hinv.turn (r:=Ja.row (some ⟨B,0,none⟩) n c T2 sz dss) (r':=Ja.row (some ⟨B,0,none⟩) n c T2 sz (dss.take k++List.replicate (n - k) (cn z))) rfl rfl rfl q1 q2 hsays q4 q5 q6 (oA _ _ _ _ _ hrun)
  exact hkk _ _ _ hi' hk' ⟨.tup [],ρ',.tup (ws:=[]) .nil,h5 _ _ hk' (fin _ hk'),h⟩
end
structure Za where
 Code:Xh
 From:Int
 To:Int
 Terms:(List (List Xh))
 Other:Bool
 deriving Inhabited,DecidableEq
def Za.enc (m:Za):List PV:=[pS m.Code,pI m.From,pI m.To,pL (eL eS) m.Terms,pB m.Other]
structure Ze where
 Scope:Xh
 Words:(List Xh)
 Target:Xh
 deriving Inhabited,DecidableEq
def Ze.enc (m:Ze):List PV:=[pS m.Scope,pL eS m.Words,pS m.Target]
structure Zh where
 Entries:(List Za)
 Notes:(List Ze)
 deriving Inhabited,DecidableEq
structure Zf where
 Name:Xh
 Share:Int
 deriving Inhabited,DecidableEq
def Zf.enc (m:Zf):List PV:=[pS m.Name,pI m.Share]
structure Zb where
 Words:(List Xh)
 Share:Int
 deriving Inhabited,DecidableEq
def Zb.enc (m:Zb):List PV:=[pL eS m.Words,pI m.Share]
structure Zu where
 Words:(List Xh)
 Materials:(List Zf)
 Parts:(List Zb)
 Incomplete:Bool
 deriving Inhabited,DecidableEq
structure Zw where
 Code:Xh
 Origin:Xh
 Proof:Bool
 Company:Int
 Day:Int
 Quantity:Int
 Value:Int
 Granted:Int
 deriving Inhabited,DecidableEq
structure Zi where
 Kind:Int
 Measure:Int
 Quantity:Int
 Value:Int
 Amount:Int
 deriving Inhabited,DecidableEq
def Zi.enc (m:Zi):List PV:=[pI m.Kind,pI m.Measure,pI m.Quantity,pI m.Value,pI m.Amount]
def Zi.eqb (a b:Zi):Bool:=((a.Kind == b.Kind)&&((a.Measure == b.Measure)&&((a.Quantity == b.Quantity)&&((a.Value == b.Value)&&((a.Amount == b.Amount)&&true)))))
theorem Zi.eqb_iff {a b:Zi}:Zi.eqb a b=true↔a=b:=by cases a;cases b;simp [Zi.eqb]
theorem Zi.eqok132:Rg 132 [0,0,0,0,0]:=⟨by kernel_rfl,by kernel_rfl,by kernel_rfl,by kernel_rfl⟩
structure Zx where
 Lines:(List Zi)
 Total:Int
 deriving Inhabited,DecidableEq
structure Zg where
 L:(List Int)
 I:Int
 deriving Inhabited,DecidableEq
structure Zs where
 Rate:Int
 Amount:Int
 Per:Int
 HasMost:Bool
 Most:Int
 HasLeast:Bool
 Least:Int
 deriving Inhabited,DecidableEq
structure Zc where
 ID:Int
 Kind:Int
 Prefix:Xh
 Origins:(List Xh)
 Company:Int
 From:Int
 To:Int
 Registered:Int
 Duty:Zs
 deriving Inhabited,DecidableEq
def Zc.enc (m:Zc):List PV:=[pI m.ID,pI m.Kind,pS m.Prefix,pL eS m.Origins,pI m.Company,pI m.From,pI m.To,pI m.Registered,pI m.Duty.Rate,pI m.Duty.Amount,pI m.Duty.Per,pB m.Duty.HasMost,pI m.Duty.Most,pB m.Duty.HasLeast,pI m.Duty.Least]
structure Zm where
 Parent:Xh
 Basis:Int
 Candidates:(List Xh)
 Rule:Int
 Chosen:Xh
 deriving Inhabited,DecidableEq
def Zm.enc (m:Zm):List PV:=[pS m.Parent,pI m.Basis,pL eS m.Candidates,pI m.Rule,pS m.Chosen]
structure Zk where
 quantity:Int
 value:Int
 kinds:(List Int)
 deriving Inhabited,DecidableEq
def Zk.enc (m:Zk):List PV:=[pI m.quantity,pI m.value,pL eI m.kinds]
structure Zr where
 Price:Int
 Weight:Int
 deriving Inhabited,DecidableEq
def Zr.enc (m:Zr):List PV:=[pI m.Price,pI m.Weight]
structure Zp where
 Kind:Int
 Amount:Int
 Currency:Xh
 Basis:Int
 Line:Int
 deriving Inhabited,DecidableEq
def Zp.enc (m:Zp):List PV:=[pI m.Kind,pI m.Amount,pS m.Currency,pI m.Basis,pI m.Line]
structure Zy where
 Currency:Xh
 Day:Int
 Lines:(List Zr)
 Charges:(List Zp)
 deriving Inhabited,DecidableEq
structure Zl where
 book:Zh
 good:Zu
 parent:Xh
 entries:(List Za)
 deriving Inhabited,DecidableEq
def Zl.enc (m:Zl):List PV:=[pL Za.enc m.book.Entries,pL Ze.enc m.book.Notes,pL eS m.good.Words,pL Zf.enc m.good.Materials,pL Zb.enc m.good.Parts,pB m.good.Incomplete,pS m.parent,pL Za.enc m.entries]
structure Zj where
 code:Xh
 from_:Int
 deriving Inhabited,DecidableEq
def Zj.eqb (a b:Zj):Bool:=((decide (a.code=b.code))&&((a.from_ == b.from_)&&true))
theorem Zj.eqb_iff {a b:Zj}:Zj.eqb a b=true↔a=b:=by cases a;cases b;simp [Zj.eqb]
theorem Zj.eqok201:Rg 201 [2,0]:=⟨by kernel_rfl,by kernel_rfl,by kernel_rfl,by kernel_rfl⟩
structure Zd where
 index_:Int
 share:Int
 rest:Int
 deriving Inhabited,DecidableEq
def Zd.enc (m:Zd):List PV:=[pI m.index_,pU m.share,pU m.rest]
structure Zv where
 compare:Unit
 deriving Inhabited,DecidableEq
structure Zn where
 Hi:Int
 Lo:Int
 deriving Inhabited,DecidableEq
def Zn.eqb (a b:Zn):Bool:=((a.Hi == b.Hi)&&((a.Lo == b.Lo)&&true))
theorem Zn.eqok244:Rg 244 [0,0]:=⟨by kernel_rfl,by kernel_rfl,by kernel_rfl,by kernel_rfl⟩
structure Zo where
 Currency:Xh
 From:Int
 PerUnit:Int
 deriving Inhabited,DecidableEq
def Zo.enc (m:Zo):List PV:=[pS m.Currency,pI m.From,pI m.PerUnit]
structure Zq where
 basis:Int
 choose:Nat
 deriving Inhabited,DecidableEq
def Zq.enc (m:Zq):List PV:=[pI m.basis,.fn m.choose []]
abbrev av (m:Za):List PV:=[pS m.Code,pI m.From,pI m.To,pL (eL eS) m.Terms,pB m.Other]
abbrev bL (m:Zc):List PV:=[pI m.ID,pI m.Kind,pS m.Prefix,pL eS m.Origins,pI m.Company,pI m.From,pI m.To,pI m.Registered,pI m.Duty.Rate,pI m.Duty.Amount,pI m.Duty.Per,pB m.Duty.HasMost,pI m.Duty.Most,pB m.Duty.HasLeast,pI m.Duty.Least]
abbrev bv (m:Zl):List PV:=[pL Za.enc m.book.Entries,pL Ze.enc m.book.Notes,pL eS m.good.Words,pL Zf.enc m.good.Materials,pL Zb.enc m.good.Parts,pB m.good.Incomplete,pS m.parent,pL Za.enc m.entries]

section
variable {o:Oper} {Z:Xa} {ρ:List Qa} {f:Nat} {l:List Operand} {ts:Array Nat} {pargs caps:List PV} {x:Operand} {KV:PV->List Qa->Prop}
end
theorem BN {O:Kr}:∀ {l1 l2:List PV} {vs:List Value},Xb O (l1++.v (.slice none 0 0)::l2) vs->Xb O (l1++.slc 0 []::l2) vs
 | [],l2,vs,h=>by
  obtain ⟨v,ws,rfl,h1,h2⟩:=h.cons_inv
  rw [h1.val];exact .cons uZ h2
 | p::l1,l2,vs,h=>by
  obtain ⟨v,ws,rfl,h1,h2⟩:=h.cons_inv
  exact .cons h1 (BN h2)
theorem pf_nil1 {f:Nat} (l1 l2:List PV) {r:PV} (h:PF f (l1++.slc 0 []::l2) r):PF f (l1++.v (.slice none 0 0)::l2) r:=fun O args g ha=>h O args g (BN ha)
theorem C8 {o:Oper} {Z:Xa} {ρ:List Qa} {K:PV->List Qa->Prop} (h:Qb { o with guard:=none } Z ρ K):Qb o Z ρ K:=h
theorem xE {n:Nat} {ops:Array Oper} {o:Oper} {rest:List Oper} {K:Ua} {Z:Xa} {ρ:List Qa} {d t E len sz by':Nat} {c:Bool} {z:Value} {parts:List (Nat×Operand)} {css:List (List PV)} (hg:Pa ops Z o c) (hd:o.dst=some d) (hlt:Nat.blt d n=true) (ho:o.op=.buildSlice t len parts.toArray) (hu:fQ t=some (.slice E)) (hi:iE E=some (z,sz,by')) (hz:Nat.beq z.cells.size sz=true)
    (hp:c=true->Qd Z 0 parts css) (hl:Nat.beq css.length len=true) (hw:(css.all fun cs=>Nat.beq cs.length sz)=true) (hb:Nat.ble (len*sz) 16777216=true) (hb2:Nat.ble len 16777216=true) (h:Wa n ops rest K (ig Z d (pgv c (.slc len css))) ρ):Wa n ops (o::rest) K Z ρ:=by
  cases c with
  | true =>
    refine C4 hg hd hlt (C8 (DQ (bp (o:={ o with guard:=none }) rfl ho hu hi hz (hp rfl) hl hw hb hb2 fun b=>⟨_,_,_,_,_,_,_,rfl,aN,?_⟩)))
    rw [lp] at h;exact h
  | false=>exact C5 hg hd hlt h
section
variable {o:Oper} {Z:Xa} {ρ:List Qa} {x y:Operand} {t:Nat} {K:PV->List Qa->Prop} {α:Type} {enc:α->List PV} {xs:List α} {m m':α} {i:Int}
end
theorem vd {P:Program} (w:World) (t tx ty e:TypeId) (i:TypeInfo) (z:Value) (ht:P.underlying t=some (.slice e)) (hx:P.underlying tx=some (.int .i64)) (hi:P.info? e=some i) (hz:i.zero=some z) (n:Nat) (hn:0<n) (hs:0<i.size) (hb:n*i.bytes<=140737488355328) (hm:n<=140737488355328) :
    (Builtin.append_ #[t,tx] ty #[.slice none 0 0,.int .i64 (n:Int)]).run P w=.ok (.slice (some ⟨w.heap.size,0,none⟩) n (grownCap w n 0 e)) (w.drew.alloc (.cells (Builtin.zeroCells z.cells n++Builtin.zeroCells z.cells (grownCap w n 0 e - n)) e)):=by
  have hw:i64.wrap (n:Int)=n:=by simp [IntKind.wrap,IntKind.signed,IntKind.bits];omega
  have h1:¬ ((n:Int)<0):=by omega
  have h2:¬ (281474976710656<(n:Int)*(i.bytes:Int)):=by
    have:(n:Int)*(i.bytes:Int)=((n*i.bytes:Nat):Int):=by simp
    omega
  have h3:¬ n=0:=by omega
  have h4:¬ i.size=0:=by omega
  have h5:¬ (281474976710656<Builtin.nextslicecap n 0*i.bytes):=by
    have:Builtin.nextslicecap n 0=n:=by unfold Builtin.nextslicecap;rw [if_pos (by omega)]
    rw [this];omega
  have h6:¬ (9223372036854775807<(n:Int)):=by omega
  simp [Builtin.append_,run_underlying ht,run_underlying hx,sizeOf,typeInfo,zeroValue,hi,hz,asInt,asIntOf,hw,h1,h2,h3,h4,h5,h6,Question.forced,newRow,grownCap,Builtin.firstCells]
  exact fun h=>absurd h (Nat.mul_ne_zero h3 h4)
theorem Hk {o:Oper} {Z:Ma} {ρ l:List Ja} {O:Kr} {K:Value->List Ja->Kr->Prop} {s x:Operand} {t ti T n sz by':Nat} {z:Value} (ho:o.op=.call { callee:=.builtin .append,args:=#[s,x],argTypes:=#[t,ti] }) (hu:fQ t=some (.slice T)) (hui:fQ ti=some (.int .i64)) (hi:iE T=some (z,sz,by')) (hz:Nat.beq z.cells.size sz=true) (h0:Nat.blt 0 sz=true) (hs:ev Z s=.slice none 0 0) (hx:ev Z x=.int .i64 (n:Int)) (hn:0<n) (hb:n*by'<=140737488355328/\n<=140737488355328)
    (hp:Sd ρ (Ja.row none 0 0 T sz []) l) (h:∀ a c O',Sa O O'->n<=c->K (.slice a n c) (Ja.row a 0 c T sz []::l) O'):Lc o Z ρ O K:=fun β hinv Nx hk=>by
  obtain ⟨i,hinf,hz0,hsz,hby⟩:=o9 hi
  have hsz0:0<sz:=by have h:=h0;simp [Nat.blt] at h;omega
  have hr:=vd (P:=Tryz.prog) O.w t ti o.type T i z (bD hu) (bD hui) hinf hz0 n hn (by rw [hsz];exact hsz0) (by rw [hby];exact hb.1) hb.2
  have hge:=grownCap_ge O.w n 0 T
  have hcm:grownCap O.w n 0 T<=maxLen:=grownCap_le_maxLen O.w n 0 T (by unfold maxLen;omega)
  have hi2:=hinv.perm hp
  have hzs:=eq_of_beq_eq_true hz
  have hhold:(Ja.row (some ⟨O.w.heap.size,0,none⟩) 0 (grownCap O.w n 0 T) T sz []).holds (O.w.drew.alloc (.cells (Builtin.zeroCells z.cells n++Builtin.zeroCells z.cells (grownCap O.w n 0 T - n)) T)):=by
    refine ⟨rfl,rfl,fun _ h=>(by cases h),Nat.zero_le _,hcm,_,heap_alloc_new O.w.drew _,?_,by simp⟩
    simp only [Array.size_append,size_zeroCells,hzs,<- add_mul]
    congr 1;omega
  obtain ⟨hi3,hk3⟩:=hi2.grow (r':=Ja.row (some ⟨O.w.heap.size,0,none⟩) 0 (grownCap O.w n 0 T) T sz []) (w':=O.w.drew.alloc (.cells (Builtin.zeroCells z.cells n++Builtin.zeroCells z.cells (grownCap O.w n 0 T - n)) T)) ⟨rfl,rfl,rfl,by simp,fun k hk _=>by first | exact Go.heap_alloc_old O.w.drew _ k hk | exact heap_alloc_old O.w.drew _ hk⟩ (.inr (.inr rfl)) hhold (zS hhold) (oA _ _ _ _ _ hr)
  unfold execOp
  simp only [ho,resolve,invoke,builtin,Sem.run_bind,Sem.run_pure,Result.andThen_ok,map_toArray,map_cons,map_nil,hs,hx,hr,Wc]
  exact hk _ _ _ hi3 hk3 (h _ _ _ hk3 hge)
theorem BO {o:Oper} {Z:Xa} {ρ l:List Qa} {K:PV->List Qa->Prop} {s x:Operand} {t ti T sz by':Nat} {n:Int} {z:Value} {u:Unit} (ho:o.op=.call { callee:=.builtin .append,args:=#[s,x],argTypes:=#[t,ti] }) (hu:fQ t=some (.slice T)) (hui:fQ ti=some (.int .i64)) (hi:iE T=some (z,sz,by')) (hz:Nat.beq z.cells.size sz=true) (h0:Nat.blt 0 sz=true) (hs:bt Z s=.v (.slice none 0 0)) (hx:bt Z x=.v (.int .i64 n)) (hn:0<n) (hm:mk0 by' n=some u)
    (hp:Ub ρ (.row none 0 0 T sz []) l) (h:∀ a c,n.toNat<=c->K (.v (.slice a n.toNat c)) (.row a 0 c T sz []::l)):Qb o Z ρ K:=fun O Z' ρ' g hm' hrr=>by
  unfold mk0 at hm
  split at hm
  · rename_i hb
    obtain ⟨h1,h2,h3⟩:=hb
    have hn':n=((n.toNat:Nat):Int):=by omega
    obtain ⟨r,l',k1,k2,k3⟩:=hrr.pick hp
    cases k2 with
    | row hbn ho1 hc =>
      rename_i dss
      have:=hc.nil_inv;subst this
      exact Hk ho hu hui hi hz h0 (hm'.v1 hs) (by rw [hm'.v1 hx,<- hn']) (by omega) ⟨by rw [Nat.mul_comm];exact h2,h3⟩ k1 fun a c O' hk hge=>⟨_,_,.v rfl,.cons (.row (by omega) (fun _ h=>by cases h) .nil) (k3.mono hk),h a c hge⟩
  cases hm
theorem Hl {by':Nat} {n:Int} {u:Unit} (h:mk0 by' n=some u):0<=n/\n<=140737488355328:=by
 unfold mk0 at h
 split at h
 ·rename_i hb;omega
 cases h
theorem zg {n:Int} (h0:0<=n) (h1:n<=140737488355328):i64.wrap (n - i64.wrap (((0:Nat):Int) - ((0:Nat):Int)))=n:=by
 simp [IntKind.wrap,IntKind.signed,IntKind.bits];omega
theorem oq_cap {o:Oper} {Z:Ma} {ρ:List Ja} {O:Kr} {c:Bool} {x:Operand} {t n cp E:Nat} {a:Option Addr} (ho:o.op=.call { callee:=.builtin .cap,args:=#[x],argTypes:=#[t] }) (hu:fQ t=some (.slice E)) (hx:Ev Z c x (.slice a n cp)):Rb c o Z ρ O (.int .i64 (cp:Int)):=fun hc w _=>by
 simp [execOp,ho,resolve,invoke,builtin,Builtin.cap_,hx hc,run_underlying (bD hu),goInt]
theorem wz {o:Oper} {Z:Xa} {ρ:List Qa} {c:Bool} {x:Operand} {t E nn cp:Nat} {ad:Option Addr} (ho:o.op=.call { callee:=.builtin .cap,args:=#[x],argTypes:=#[t] }) (hu:fQ t=some (.slice E)) (hx:Ra Z c x (.v (.slice ad nn cp))):Na c o Z ρ (.v (.int .i64 (cp:Int))):=fun O Z' ρ' g hs hrr=>⟨_,fun _=>.v rfl,oq_cap ho hu (hs.ve hx)⟩
theorem sB {o:Oper} {Z:Xa} {ρ:List Qa} {c:Bool} {x y:Operand} {t E sz by' nn cp k:Nat} {z:Value} {ad:Option Addr} {kd:IntKind} {i:Int} (ho:o.op=.slice t x none (some y) none) (hu:fQ t=some (.slice E)) (hi:iE E=some (z,sz,by')) (hx:Ra Z c x (.v (.slice ad nn cp))) (hy:Ra Z c y (.v (.int kd i))) (hik:i=(k:Int)) (hk:k<=cp):Na c o Z ρ (.v (.slice ad k cp)):=fun O Z' ρ' g hs hrr=>⟨_,fun _=>.v rfl,tp ho hu hi (hs.ve hx) (hs.ve hy) (fun _=>hik) (fun _=>hk)⟩

def memN (t:Nat):List Nat->Bool
 | []=>false
 | x::l=>cond (Nat.beq t x) true (memN t l)
def rs (ds:List Nat) (Z:Xa):Xa:=fun t=>cond (memN t ds) (Z t) .any
section
variable {Z:Xa} {ρ:List Qa} {o:Oper} {l:List Oper} {ds:List Nat} {D:List (List Nat)} {d:Nat} {p:PV} {dp:List (Nat×PV)}
end
section
variable {o:Oper} {c:Bool} {x y y2 y3:Operand}
theorem Hm {Z:Ma} {ρ:List Ja} {O:Kr} {op:BinOp} {t t':Nat} {ms:Array (String×TypeId)} {r:Bool} (ho:o.op=.binOp op t x y t') (hu:fQ t=some (.interface ms)) (hy0:y=.const .nilIface) (hx:Ev Z c x .nilIface) (hy:Ev Z c y .nilIface) (hr:(match op with | .eql=>some true | .neq=>some false | _=>none)=some r):Rb c o Z ρ O (.bool r):=fun hc w _=>by
 subst hy0
 simp only [execOp,ho,hx hc,hy hc,Sem.run_bind]
 have he:(Op.equal t .nilIface .nilIface).run Tryz.prog w=.ok true w:=by
  unfold Op.equal Op.maxDepth Op.equalIn
  simp only [Sem.run_bind,run_underlying (bD hu),Result.andThen_ok,Sem.run_pure]
 cases op <;> simp only [gn,reduceCtorEq] at hr <;> subst hr <;> simp [eqGuard,binOp,he]
theorem oN {Z:Xa} {ρ:List Qa} {op:BinOp} {t t':Nat} {ms:Array (String×TypeId)} {r:Bool} (ho:o.op=.binOp op t x y t') (hu:fQ t=some (.interface ms)) (hy0:y=.const .nilIface) (hx:Ra Z c x (.v .nilIface)) (hy:Ra Z c y (.v .nilIface)) (hr:(match op with | .eql=>some true | .neq=>some false | _=>none)=some r):Na c o Z ρ (.v (.bool r)):=fun O Z' ρ' g hs _=>⟨_,fun _=>.v rfl,Hm ho hu hy0 (hs.ve hx) (hs.ve hy) hr⟩
theorem Hn {p:PV} {cs:List PV} (hc:c=true) (h:kp p=some cs):kp (pgv c p)=some cs:=by subst hc;rw [lp];exact h
theorem E9 {Z:Ma} {ρ:List Ja} {O:Kr} {t E sz by' n cp k:Nat} {z:Value} {a:Option Addr} {kd kd2:IntKind} {i j:Int} (ho:o.op=.slice t x none (some y) (some y2)) (hu:fQ t=some (.slice E)) (hi:iE E=some (z,sz,by')) (hx:Ev Z c x (.slice a n cp)) (hy:Ev Z c y (.int kd i)) (hy2:Ev Z c y2 (.int kd2 j)) (hik:c=true->i=(k:Int)) (hjk:c=true->j=(k:Int)) (hk:c=true->k<=cp):Rb c o Z ρ O (.slice a k k):=fun hc w _=>by
 simp only [execOp,ho,Option.map_none,Option.map_some,hx hc,hy hc,hy2 hc,Instr.sliceAt,Instr.slice,Instr.sliceBounds,Sem.run_bind,run_underlying (bD hu),Result.andThen_ok,Sem.run_pure,lU (hik hc) (le_refl k),lU (hjk hc) (hk hc),eN hi]
 simp [Bd]
theorem Sl.takeM {O:Kr} {a:Option Addr} {n c sz m:Nat} {css:List (List Value)} (h:Sl O a n c sz css) (hm:m<=n):Sl O a m m sz (css.take m) :=
 ⟨by rw [length_take,h.len];omega,le_refl _,fun cs hcs=>h.wid cs (mem_of_mem_take hcs),fun h0=>by
  obtain ⟨b,off,h1,h2⟩:=h.at_ (by omega)
  refine ⟨b,off,h1,fun j cs hj=>h2 j cs ?_⟩
  rw [List.getElem?_take] at hj
  split at hj
  ·exact hj
  cases hj⟩
theorem Fa {α:Type} {enc:α->List PV} {xs zs:List α} {Z:Xa} {ρ:List Qa} {t E sz by' mm:Nat} {z:Value} {k k2:IntKind} {b:Int} (ho:o.op=.slice t x none (some y) (some y2)) (hu:fQ t=some (.slice E)) (hi:iE E=some (z,sz,by')) (hw:∀ m,Nat.beq (enc m).length sz=true) (hx:Ra Z c x (.slc mm (xs.map enc))) (hy:Ra Z c y (.v (.int k b))) (hy2:Ra Z c y2 (.v (.int k2 b))) (hm:c=true->sub xs 0 b=some zs):Na c o Z ρ (.slc zs.length (zs.map enc)):=fun O Z' ρ' g hs hrr=>by
 cases c with
 | false=>exact Cx
 | true =>
  obtain ⟨⟨h0,h1,h2⟩,rfl⟩:=lq (hm rfl)
  have h:=hs.pe hx rfl
  generalize he:ev Z' x=w at h
  cases h with
  | slc hsl hb ho1 hss =>
   rename_i ad cp sz' css
   have hl:xs.length=mm:=by rw [<- hsl.len,<- hss.len];simp
   have hcap:=hsl.cap
   have hzl:((xs.take b.toNat).drop (0:Int).toNat).length=b.toNat:=by simp;omega
   rw [hzl]
   refine ⟨.slice ad b.toNat b.toNat,fun _=>?_,E9 (c:=true) (k:=b.toNat) ho hu hi (.p he) (hs.ve hy) (hs.ve hy2) (fun _=>by omega) (fun _=>by omega) (fun _=>by omega)⟩
   have:=Rp.slc (hsl.takeM (m:=b.toNat) (by omega)) (by omega) (xm ho1 fun d hd=>mem_of_mem_take hd) (hss.take b.toNat)
   rw [<- map_take] at this
   simpa using this
theorem vM {v:PV}:∀ {cs:List PV} {k:Nat},k<cs.length->Jb cs k [v] (cs.set k v)
 | x::cs,0,_=>gr GM
 | x::cs,k+1,h=>bV (vM (by simpa using h))
end
end SX
end Go.Proofs.YtbedcfghfcmkdaaGreatDoor
