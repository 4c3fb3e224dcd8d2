/- PlanChanged: for every input the law returns true, and each argument reads afterwards as it read before. Conditions: the package variables are as the program's text lays them (the card ties them). -/
import Derived.Test.YthbphcbhedmnoaaDoorM2
import Derived.Test.YthbphcbhedmnoaaDoorL1q
set_option linter.unusedVariables false
set_option linter.unusedSimpArgs false
set_option maxHeartbeats 4000000
set_option maxRecDepth 100000
namespace Go.Proofs
open Go.Shelf
def Tryd.lSortI_ren:Go.Shelf.Ren:=⟨fun | 5=>49 | 8=>64 | 7=>63 | 19=>78 | 20=>79 | 10=>69 | 11=>70 | 12=>71 | 13=>72 | 14=>73 | 15=>74 | 16=>75 | 17=>76 | 18=>77 | 30=>83 | 31=>84 | 32=>85 | 33=>86 | 34=>87 | 35=>61 | 40=>92 | n=>n,fun | 23=>22 | 25=>3 | 3=>3 | 32=>30 | 22=>22 | 0=>0 | 44=>108 | 46=>110 | 4=>4 | 36=>101 | 35=>100 | 41=>62 | 5=>5 | 9=>9 | 53=>112 | 57=>116 | 63=>125 | 64=>126 | n=>n,fun | n=>n⟩
theorem Tryd.lSortI:Go.Proofs.SlLaysM.n5 Tryd.prog Tryd.lSortI_ren:={
 mixed:=by kernel_rfl
 f5:=⟨Tryd.f49.name,by decide,Tryd.func49.trans (congrArg some (by kernel_rfl))⟩
 f7:=⟨Tryd.f63.name,by decide,Tryd.func63.trans (congrArg some (by kernel_rfl))⟩
 f8:=Tryd.func64.trans (congrArg some (by kernel_rfl))
 f10:=⟨Tryd.f69.name,by decide,Tryd.func69.trans (congrArg some (by kernel_rfl))⟩
 f11:=⟨Tryd.f70.name,by decide,Tryd.func70.trans (congrArg some (by kernel_rfl))⟩
 f12:=⟨Tryd.f71.name,by decide,Tryd.func71.trans (congrArg some (by kernel_rfl))⟩
 f13:=⟨Tryd.f72.name,by decide,Tryd.func72.trans (congrArg some (by kernel_rfl))⟩
 f14:=⟨Tryd.f73.name,by decide,Tryd.func73.trans (congrArg some (by kernel_rfl))⟩
 f15:=⟨Tryd.f74.name,by decide,Tryd.func74.trans (congrArg some (by kernel_rfl))⟩
 f16:=⟨Tryd.f75.name,by decide,Tryd.func75.trans (congrArg some (by kernel_rfl))⟩
 f17:=⟨Tryd.f76.name,by decide,Tryd.func76.trans (congrArg some (by kernel_rfl))⟩
 f18:=⟨Tryd.f77.name,by decide,Tryd.func77.trans (congrArg some (by kernel_rfl))⟩
 f19:=Tryd.func78.trans (congrArg some (by kernel_rfl))
 f20:=Tryd.func79.trans (congrArg some (by kernel_rfl))
 f30:=⟨Tryd.f83.name,by decide,Tryd.func83.trans (congrArg some (by kernel_rfl))⟩
 f31:=Tryd.func84.trans (congrArg some (by kernel_rfl))
 f32:=Tryd.func85.trans (congrArg some (by kernel_rfl))
 f33:=⟨Tryd.f86.name,by decide,Tryd.func86.trans (congrArg some (by kernel_rfl))⟩
 f34:=⟨Tryd.f87.name,by decide,Tryd.func87.trans (congrArg some (by kernel_rfl))⟩
 f35:=⟨Tryd.f61.name,by decide,Tryd.func61.trans (congrArg some (by kernel_rfl))⟩
 f40:=⟨Tryd.f92.name,by decide,Tryd.func92.trans (congrArg some (by kernel_rfl))⟩
 t0:=Tryd.underlying0
 a0:=Tryd.isAgg0
 z0:=Tryd.sizeOf0
 v0:=Tryd.zeroValue0
 t3:=Tryd.underlying3
 a3:=Tryd.isAgg3
 z3:=Tryd.sizeOf3
 v3:=Tryd.zeroValue3
 t4:=Tryd.underlying4
 a4:=Tryd.isAgg4
 z4:=Tryd.sizeOf4
 v4:=Tryd.zeroValue4
 t5:=Tryd.underlying5
 a5:=Tryd.isAgg5
 z5:=Tryd.sizeOf5
 v5:=Tryd.zeroValue5
 t9:=Tryd.underlying9
 a9:=Tryd.isAgg9
 z9:=Tryd.sizeOf9
 v9:=Tryd.zeroValue9
 t22:=Tryd.underlying22
 a22:=Tryd.isAgg22
 z22:=Tryd.sizeOf22
 v22:=Tryd.zeroValue22
 t23:=Tryd.underlying22
 a23:=Tryd.isAgg22
 z23:=Tryd.sizeOf22
 v23:=Tryd.zeroValue22
 t25:=Tryd.underlying3
 a25:=Tryd.isAgg3
 z25:=Tryd.sizeOf3
 v25:=Tryd.zeroValue3
 t32:=Tryd.underlying30
 a32:=Tryd.isAgg30
 z32:=Tryd.sizeOf30
 v32:=Tryd.zeroValue30
 t35:=Tryd.underlying100
 a35:=Tryd.isAgg100
 z35:=Tryd.sizeOf100
 v35:=Tryd.zeroValue100
 t36:=Tryd.underlying101
 a36:=Tryd.isAgg101
 z36:=Tryd.sizeOf101
 v36:=Tryd.zeroValue101
 t41:=Tryd.underlying62
 a41:=Tryd.isAgg62
 z41:=Tryd.sizeOf62
 v41:=Tryd.zeroValue62
 t44:=Tryd.underlying108
 a44:=Tryd.isAgg108
 z44:=Tryd.sizeOf108
 v44:=Tryd.zeroValue108
 t46:=Tryd.underlying110
 a46:=Tryd.isAgg110
 z46:=Tryd.sizeOf110
 v46:=Tryd.zeroValue110
 t53:=Tryd.underlying112
 a53:=Tryd.isAgg112
 z53:=Tryd.sizeOf112
 v53:=Tryd.zeroValue112
 t57:=Tryd.underlying116
 a57:=Tryd.isAgg116
 z57:=Tryd.sizeOf116
 v57:=Tryd.zeroValue116
 t63:=Tryd.underlying125
 a63:=Tryd.isAgg125
 z63:=Tryd.sizeOf125
 v63:=Tryd.zeroValue125
 t64:=Tryd.underlying126
 a64:=Tryd.isAgg126
 z64:=Tryd.sizeOf126
 v64:=Tryd.zeroValue126 }
end Go.Proofs
namespace Go.Proofs.YthbphcbhedmnoaaDoor
namespace SX
open Go
section
variable {K V:Type} [DecidableEq K]
theorem rj {xs:List (K×V)} {k:K} (h:∀ p∈xs,p.1≠k):mO xs k=xs:=by
 induction xs with
 | nil=>rfl
 | cons p r ih =>
  obtain ⟨a,v⟩:=p
  unfold mO
  rw [if_neg (h (a,v) (by simp)),ih (fun p hp=>h p (by simp [hp]))]
theorem qw:∀ {xs:List (K×V)},MND xs→∀ {k:K} {v:V} {i:Nat},xs[i]?=some (k,v)→mO xs k=xs.eraseIdx i
 | (a,w)::r,nd,k,v,0,h=>by
  simp only [List.getElem?_cons_zero,bE,Prod.mk.injEq] at h
  unfold mO;rw [if_pos h.1,List.eraseIdx_cons_zero]
 | (a,w)::r,nd,k,v,i+1,h=>by
  simp only [List.getElem?_cons_succ] at h
  have nd':=List.pairwise_cons.1 nd
  have hne:a≠k:=nd'.1 (k,v) (List.mem_of_getElem? h)
  unfold mO;rw [if_neg hne,List.eraseIdx_cons_succ,qw nd'.2 h]
end
theorem KVs.erase {κ:Kr}:∀ {kvs:List (Value×PV)} {es:List MapEntry} (i:Nat),KVs κ kvs es→KVs κ (kvs.eraseIdx i) (es.eraseIdx i)
 | _,_,_,.nil=>.nil
 | _,_,0,.cons _ hs=>hs
 | _,_,i+1,.cons h hs=>.cons h (KVs.erase i hs)
theorem MapWf.erase {es:List MapEntry} {clock:Nat} (h:MapWf es clock) (i:Nat):MapWf (es.eraseIdx i) clock where
 nd:=h.nd.sublist (List.eraseIdx_sublist es i)
 bn:=h.bn.sublist (List.eraseIdx_sublist es i)
 lt:=fun e he=>h.lt e ((List.eraseIdx_sublist es i).subset he)
theorem jQ {α β:Type} (f:α→β):∀ (l:List α) (i:Nat),(l.map f).eraseIdx i=(l.eraseIdx i).map f
 | [],_=>rfl
 | _::_,0=>rfl
 | x::l,i+1=>congrArg (f x::·) (jQ f l i)
theorem KVs.length {κ:Kr} {kvs:List (Value×PV)} {es:List MapEntry} (h:KVs κ kvs es):kvs.length=es.length:=by
 have:=congrArg List.length h.keys;simpa using this
theorem tG {t kt et ty b clock:Nat} (ht:bX t=some (.map kt et)) {es:List MapEntry} {w:World} (hb:w.heap[b]?=some (.map es.toArray clock)):(Builtin.len_ #[t] ty #[.map (some b)]).run Tryd.prog w=.ok (.int .i64 (es.length:Int)) w:=by
 simp [Builtin.len_,run_underlying (aF ht),gm hb,goInt]
theorem mZ {t kt et ty:Nat} (ht:bX t=some (.map kt et)) {w:World}:(Builtin.len_ #[t] ty #[.map none]).run Tryd.prog w=.ok (.int .i64 0) w:=by
 simp [Builtin.len_,run_underlying (aF ht),goInt]
theorem ow {t kt et ty b clock:Nat} {ts:Array TypeId} {v:Value} {P:Value→Prop} (h0:ts[0]?=some t) (ht:bX t=some (.map kt et)) (L:KeyLaw kt P) (hv:P v) {es:List MapEntry} (hes:∀ e∈es,P e.key) {w:World} (hb:w.heap[b]?=some (.map es.toArray clock)):∃ r es',Found v es r∧(Builtin.delete_ ts ty #[.map (some b),v]).run Tryd.prog w=.ok (.tuple #[]) { w with heap:=w.heap.setIfInBounds b (.map es'.toArray clock) }∧((r=none∧es'=es)∨∃ i e,es[i]?=some e∧e.key=v∧r=some (i,e.val)∧es'=es.eraseIdx i):=by
 obtain ⟨r,h1,h2⟩:=L.find v es hv hes w
 have h2':=h2
 rcases h2 with ⟨rfl,h3⟩ | ⟨i,e,rfl,h3,h4⟩
 ·refine ⟨none,es,h2',?_,.inl ⟨rfl,rfl⟩⟩
  simp only [Builtin.delete_,h0,List.getElem?_toArray,List.getElem?_cons_zero,List.getElem?_cons_succ,Sem.run_bind,run_underlying (aF ht),Result.andThen_ok,gm hb,L.chk v hv,h1,i4 _ hb]
  simp
 refine ⟨some (i,e.val),es.eraseIdx i,h2',?_,.inr ⟨i,e,h3,h4,rfl,rfl⟩⟩
 have hlt:i<es.length:=(List.getElem?_eq_some_iff.1 h3).1
 have hm:es.toArray.eraseIdxIfInBounds i=(es.eraseIdx i).toArray:=by
  simp [Array.eraseIdxIfInBounds,hlt]
 simp only [Builtin.delete_,h0,List.getElem?_toArray,List.getElem?_cons_zero,List.getElem?_cons_succ,Sem.run_bind,run_underlying (aF ht),Result.andThen_ok,gm hb,L.chk v hv,h1,hm,i4 _ hb]
 simp
section
variable {K V:Type} [DecidableEq K] {ek:K→Value} {vv:V→PV} {xs:List (K×V)} {o:Oper} {σ:PEnv} {ρ ρ':List PRes} {c:Bool} {x y:Operand} {t kt et:Nat} {KK:PV→List PRes→Prop} {k:K} {b:Nat} {pk:PV} {mo:Option Nat}
omit [DecidableEq K] in
theorem pq_lenM (ho:o.op=.call { callee:=.builtin .len,args:=#[x],argTypes:=#[t] }) (ht:bX t=some (.map kt et)) (hx:PEv σ c x (.v (.map mo))) (hm:MapIs ρ mo (ba ek vv xs)):POpQ c o σ ρ (.v (.int .i64 (xs.length:Int))):=fun κ σ' ρ' g hs hr=>by
 cases c with
 | false=>exact oF
 | true =>
  refine ⟨.int .i64 (xs.length:Int),fun _=>.v rfl,fun hc w hw=>?_⟩
  have e1:SX.ev σ' x=.map mo:=hs.ve hx hc
  obtain ⟨es,clock,h1,hn,h2,h3⟩:=hm κ ρ' hr
  have hl:es.length=xs.length:=by rw [← h3.length];simp [ba]
  cases mo with
  | none =>
   have:=hn rfl;subst this
   have:xs.length=0:=hl.symm
   simp only [execOp,ho,resolve,invoke,builtin,Sem.run_bind,Sem.run_pure,Result.andThen_ok,List.map_toArray,List.map_cons,List.map_nil,e1,mZ ht,this]
   rfl
  | some b =>
   have hb:w.heap[b]?=some (.map es.toArray clock):=hw.own _ h1
   simp only [execOp,ho,resolve,invoke,builtin,Sem.run_bind,Sem.run_pure,Result.andThen_ok,List.map_toArray,List.map_cons,List.map_nil,e1,tG ht hb,hl]
theorem tH {κ:Kr} {es es':List MapEntry} {clock:Nat} {r:Option (Nat×Value)} (hinj:∀ a b,ek a=ek b→a=b) (hw:MapWf es clock) (h:KVs κ (ba ek vv xs) es) (hf:Found (ek k) es r)
    (hc:(r=none∧es'=es)∨∃ i e,es[i]?=some e∧e.key=ek k∧r=some (i,e.val)∧es'=es.eraseIdx i):MapWf es' clock∧KVs κ (ba ek vv (mO xs k)) es':=by
  rcases hc with ⟨rfl,rfl⟩ | ⟨i,e,h1,h2,rfl,rfl⟩
  · rcases gj hinj h hw hf with ⟨_,h3,h4⟩ | ⟨i,e,v,h3,_⟩
    · rw [rj h3];exact ⟨hw,h⟩
    cases h3
  rcases gj hinj h hw hf with ⟨h3,_⟩ | ⟨i',e',v',h3,h4,h5,h6,h7⟩
  · cases h3
  have hi:i'=i:=by injection h3 with h3;injection h3 with h3 _;exact h3.symm
  subst hi
  refine ⟨hw.erase _,?_⟩
  rw [qw (mP h hw) h6]
  have:=KVs.erase i' h
  rw [ba,jQ] at this
  exact this
theorem rk {ts:List Nat} (ho:o.op=.call { callee:=.builtin .delete,args:=#[x,y],argTypes:=ts.toArray }) (h0:ts[0]?=some t) (ht:bX t=some (.map kt et)) (L:KEnc kt ek) (hx:aB σ x=.v (.map (some b))) (hy:aB σ y=pk) (hk:∀ κ u,Rp κ pk u→u=ek k) (hu:PUpd ρ (.mp (some b) (ba ek vv xs)) (.mp (some b) (ba ek vv (mO xs k))) ρ') (h:KK (.tup []) ρ'):POpL o σ ρ KK:=fun κ σ' rr g hs hr=>by
 obtain ⟨P,hL,hP⟩:=L.law
 obtain ⟨r0,l1,l2,rfl,h4,h5⟩:=hr.upd hu
 cases h4 with
 | mp hn hw hkv =>
  rename_i es clock
  intro β hi Nx hnx
  have hb:κ.w.heap[b]?=some (.map es.toArray clock):=hi.own (Res.mp (some b) es clock) (by simp)
  have e1:SX.ev σ' x=.map (some b):=hs.v1 hx
  have e2:SX.ev σ' y=ek k:=hk κ _ (by have:=hs.ev y;rwa [hy] at this)
  obtain ⟨r,es',f1,f2,f3⟩:=ow (ty:=o.type) (ts:=ts.toArray) (by simpa using h0) ht hL (hP k) (mQ hP hkv) hb
  obtain ⟨w1,w2⟩:=tH (vv:=vv) L.inj hw hkv f1 f3
  obtain ⟨i1,i2⟩:=hi.mapTurn (es':=es') (clock':=clock)
  simp only [execOp,ho,resolve,invoke,builtin,Sem.run_bind,Sem.run_pure,Result.andThen_ok,List.map_toArray,List.map_cons,List.map_nil,e1,e2,f2,OutV]
  exact hnx _ _ _ i1 i2 ⟨.tup [],ρ',.tup .nil,h5 _ _ i2 (.mp (fun h=>by cases h) w1 (w2.mono i2)),h⟩
end
end SX
namespace SX
open Go
attribute [local irreducible] PWL PWC PWD POpL POpQ PEv PGuardIs PSub PPick PUpd PSplice PFill PLit PF PFV PCall FOk eN dj iT iU gI iy Cov PHolds bh idx app mk gd lb nz sB cat sub lm jt ior qQ oV gT qS qT IntKind.wrap Int.tmod Int.tdiv Op.bytesLess strOfNums
def cG (p0:(List ByteArray)):Option Bool:=cond (decide (8<(p0.length:Int))) (some false) ((bh (S:=Int) (T:=(Unit)⊕(_)) (fun v2=>cond (decide (v2<(p0.length:Int))) ((idx p0 v2).bind fun m6=>(d8 m6).bind fun x7=>(gd ((!(!x7))&&(decide (0<v2))) (idx p0 (IntKind.i64.wrap (v2 - 1)))).bind fun m8=>cond ((!x7)||((decide (0<v2))&&(Op.bytesLess m6.toList m8.toList||decide (m6=m8)))) (some (.inr (.inr false))) (some (.inl (IntKind.i64.wrap (v2+1))))) (some (.inr (.inl ())))) FUEL 0).bind fun q=>match q with | .inl _=>some true | .inr e=>some e)
theorem iu {p0:(List ByteArray)} {r:Bool}  (h:cG p0=some r):PF 27 [pL eS p0] (pB r):=by
 unfold cG at h
 refine bH ?_
 refine aH Tryd.func27 rfl Tryd.ntmps27 Tryd.results27 rfl (ae (aL [2] (by kernel_rfl) (fE (ah [5,6] [(7,pB (decide (8<(p0.length:Int))))] (by kernel_rfl) (cO rfl h (fun hc1 h=>?_) fun hc1 h=>?_)))))
 ·refine ae ?_
  refine ai [(2,pB false)] (by kernel_rfl) (cN (aj ?_))
  exact zz r h rfl
 refine al ?_
 refine fE (ai [(8,pL eS p0),(9,pI (p0.length:Int)),(10,pI 0)] (by kernel_rfl) (aq (aa h fun q4 hq4 h=>?_)))
 refine aP (Y:=Unit×Unit) (fun (_,_)=>[]) (fun (_,_)=>[]) (fun (_,_)=>q4=Sum.inl ()) ?_ ?_
 ·refine am ?_
  refine aQ (Y:=Unit) (S:=Int) _ hq4 (fun _ v2=>[(0,pL eS p0),(8,pL eS p0),(9,pI (p0.length:Int)),(10,pI v2)]) (fun _ v2=>[]) () (mE rfl) dr ?_
  rintro _ v2 o τ hb3;(try dsimp only at hb3);dsimp only [aG]
  refine ae (ai [(11,pB (decide (v2<(p0.length:Int))))] (by kernel_rfl) (bC (qf rfl hb3 (fun hc5 hb3=>?_) fun hc5 hb3=>?_)))
  ·refine al ?_
   refine bC (am (ae (aa hb3 fun m6 hm6 hb3=>aN [] [12,13,14] [(3,pI v2),(4,pS m6)] (eb 1 eS hm6 cf) (by kernel_rfl) (bC (aa hb3 fun x7 hx7 hb3=>aa hb3 fun m8 hm8 hb3=>aN [] (rg 15 15) [(30,pB ((!x7)||((decide (0<v2))&&(Op.bytesLess m6.toList m8.toList||decide (m6=m8)))))] (dD 1 (jU hx7) (gh 11 eS (cW hm8) cf)) (by kernel_rfl) (cO rfl hb3 (fun hc9 hb3=>?_) fun hc9 hb3=>?_))))))
   ·refine ae ?_
    refine ai [(2,pB false)] (by kernel_rfl) (cN (af (aj ?_)))
    refine av hb3 (fun ht=>?_);subst ht
    refine af (az ?_)
    exact zz r h rfl
   refine al ?_
   refine ak (aq (ah [31] [(10,pI (IntKind.i64.wrap (v2+1)))] (by kernel_rfl) ?_))
   exact bd hb3 () (mE rfl) dr
  refine aT ?_
  refine ar (ap hb3 (fun ht=>au rfl ?_))
  exact aO ((),()) lG dr ht.symm
 rintro ⟨_,_⟩ τ hz;(try dsimp only at hz);subst q4;(try dsimp only at h);dsimp only [aG]
 refine ae (ai [(2,pB true)] (by kernel_rfl) (cN ?_))
 exact zz r h rfl
def bi (p0:Za):Option Int:=(fA p0.Code).bind fun x2=>(gd (!((x2 != 6)&&(x2 != 8))) (bq p0.Country)).bind fun x3=>(gd (!(((x2 != 6)&&(x2 != 8))||(!x3))) (cG p0.Processes)).bind fun x4=>cond ((((x2 != 6)&&(x2 != 8))||(!x3))||(!x4)) (some (1:Int)) (cond ((decide (p0.Price<1))||(decide (1000000000000<p0.Price))) (some (2:Int)) (cond (decide (8<(p0.Inputs.length:Int))) (some (8:Int)) (cond (p0.Obtained&&(decide (0<(p0.Inputs.length:Int)))) (some (1:Int)) (some (0:Int)))))
theorem eQ {p0:Za} {r:Int}  (h:bi p0=some r):PF 14 [.agg (an p0)] (pI r):=by
 unfold bi at h
 refine bH ?_
 refine aH Tryd.func14 rfl Tryd.ntmps14 Tryd.results14 rfl (ae (ag (aA rfl (gK (cs:=(an p0)) rfl rfl (fun b1=>eO [2] (by kernel_rfl) (bC (aa h fun x2 hx2 h=>aN [0] [4,5,6] [(3,pI x2)] (dD 2 (gW hx2) cf) (by kernel_rfl) (fE (aa h fun x3 hx3 h=>aa h fun x4 hx4 h=>aN [0,0] (rg 7 17) [(24,pB ((((x2 != 6)&&(x2 != 8))||(!x3))||(!x4)))] (hY 9 (fun hc=>fx (cW hx3 hc)) (hY 15 (fun hc=>iu (cW hx4 hc)) cf)) (by kernel_rfl) (cO rfl h (fun hc5 h=>?_) fun hc5 h=>?_))))))))))
 ·refine ae ?_
  refine ai [(2,pI 1)] (by kernel_rfl) (cN (aj ?_))
  exact zz r h rfl
 refine al ?_
 refine fE (cX [0,0] (rg 25 7) [(32,pB ((decide (p0.Price<1))||(decide (1000000000000<p0.Price))))] (by kernel_rfl) (cO rfl h (fun hc6 h=>?_) fun hc6 h=>?_))
 ·refine ae ?_
  refine ai [(2,pI 2)] (by kernel_rfl) (cN (aj ?_))
  exact zz r h rfl
 refine al ?_
 refine fE (cX [0] [33,34,35] [(36,pB (decide (8<(p0.Inputs.length:Int))))] (by kernel_rfl) (cO rfl h (fun hc7 h=>?_) fun hc7 h=>?_))
 ·refine ae ?_
  refine ai [(2,pI 8)] (by kernel_rfl) (cN (aj ?_))
  exact zz r h rfl
 refine al ?_
 refine fE (cX [0,0] (rg 37 7) [(44,pB (p0.Obtained&&(decide (0<(p0.Inputs.length:Int)))))] (by kernel_rfl) (cO rfl h (fun hc8 h=>?_) fun hc8 h=>?_))
 ·refine ae ?_
  refine ai [(2,pI 1)] (by kernel_rfl) (cN (aj ?_))
  exact zz r h rfl
 refine al ?_
 refine bC (ai [(2,pI 0)] (by kernel_rfl) (cN ?_))
 exact zz r h rfl
def bx (p0:(List Za)):Option Int:=cond (decide (64<(p0.length:Int))) (some (8:Int)) ((bh (S:=Int) (T:=(Unit)⊕(_)) (fun v2=>cond (decide (v2<(p0.length:Int))) ((idx p0 v2).bind fun m6=>cond ((decide (m6.ID<1))||(decide (1000000<m6.ID))) (some (.inr (.inr (2:Int)))) ((gd (decide (0<v2)) (idx p0 (IntKind.i64.wrap (v2 - 1)))).bind fun m9=>cond ((decide (0<v2))&&(decide (m6.ID≤m9.ID))) (some (.inr (.inr (9:Int)))) ((bi m6).bind fun x11=>cond (x11 != 0) (some (.inr (.inr x11))) ((bk p0 m6.Inputs).bind fun x13=>cond (x13 != 0) (some (.inr (.inr x13))) (some (.inl (IntKind.i64.wrap (v2+1)))))))) (some (.inr (.inl ())))) FUEL 0).bind fun q=>match q with | .inl _=>some (0:Int) | .inr e=>some e)
theorem ea {p0:(List Za)} {r:Int}  (h:bx p0=some r):PF 6 [pL Za.enc p0] (pI r):=by
 unfold bx at h
 refine bH ?_
 refine aH Tryd.func6 rfl Tryd.ntmps6 Tryd.results6 rfl (ae (aL [2] (by kernel_rfl) (fE (ah [7,8] [(9,pB (decide (64<(p0.length:Int))))] (by kernel_rfl) (cO rfl h (fun hc1 h=>?_) fun hc1 h=>?_)))))
 ·refine ae ?_
  refine ai [(2,pI 8)] (by kernel_rfl) (cN (aj ?_))
  exact zz r h rfl
 refine al ?_
 refine fE (ai [(10,pL Za.enc p0),(11,pI (p0.length:Int)),(12,pI 0)] (by kernel_rfl) (aq (aa h fun q4 hq4 h=>?_)))
 refine aP (Y:=Unit×Unit) (fun (_,_)=>[]) (fun (_,_)=>[]) (fun (_,_)=>q4=Sum.inl ()) ?_ ?_
 ·refine am ?_
  refine aQ (Y:=Unit) (S:=Int) _ hq4 (fun _ v2=>[(0,pL Za.enc p0),(10,pL Za.enc p0),(11,pI (p0.length:Int)),(12,pI v2)]) (fun _ v2=>[]) () (mE rfl) dr ?_
  rintro _ v2 o τ hb3;(try dsimp only at hb3);dsimp only [aG]
  refine ae (ai [(13,pB (decide (v2<(p0.length:Int))))] (by kernel_rfl) (bC (qf rfl hb3 (fun hc5 hb3=>?_) fun hc5 hb3=>?_)))
  ·refine al ?_
   refine bC (am (ae (aa hb3 fun m6 hm6 hb3=>ag (bj 3 [] [15] [(14,pI v2),(16,.agg (an m6))] (eb 1 Za.enc hm6 cf) (by kernel_rfl) (aA rfl (dc (cs:=[pI 0,pS ByteArray.empty,pS ByteArray.empty,pI 0,pB false,pN,pN]) rfl rfl rfl rfl (fun b7=>aw 1 [(3,pI v2)] (by kernel_rfl) (bR rfl rfl (bL (vs:=(an m6)) rfl rfl rfl rfl rfl gF sI (bg (fE (cX [0,0] (rg 17 7) [(24,pB ((decide (m6.ID<1))||(decide (1000000<m6.ID))))] (by kernel_rfl) (cO rfl hb3 (fun hc8 hb3=>?_) fun hc8 hb3=>?_)))))))))))))
   ·refine ae ?_
    refine ai [(2,pI 2)] (by kernel_rfl) (cN (aj (af (aj ?_))))
    refine av hb3 (fun ht=>?_);subst ht
    refine af (az ?_)
    exact zz r h rfl
   refine al ?_
   refine fE (cw (ρd:=[]) [(0,0),(1,0),(2,0),(3,0),(4,0),(5,0),(6,0),(7,0),(8,0),(9,0),(10,0),(11,0),(12,0)] _ (List.Perm.refl _) (by kernel_rfl) rfl (aa hb3 fun m9 hm9 hb3=>cn 13 [0] (rg 25 12) [(37,pB ((decide (0<v2))&&(decide (m6.ID≤m9.ID))))] (gh 8 Za.enc (cW hm9) cf) (by kernel_rfl) (da (cO rfl hb3 (fun hc10 hb3=>?_) fun hc10 hb3=>?_))))
   ·refine ae ?_
    refine ai [(2,pI 9)] (by kernel_rfl) (cN (aj (af (aj ?_))))
    refine av hb3 (fun ht=>?_);subst ht
    refine af (az ?_)
    exact zz r h rfl
   refine al ?_
   refine fE (aa hb3 fun x11 hx11 hb3=>aN [0] [38,39] [(5,pI x11)] (dD 1 (eQ hx11) cf) (by kernel_rfl) (bC (ah [40] [(41,pB (x11 != 0))] (by kernel_rfl) (cO rfl hb3 (fun hc12 hb3=>?_) fun hc12 hb3=>?_))))
   ·refine ae ?_
    refine ah [42] [(2,pI x11)] (by kernel_rfl) (cN (aj (af (aj ?_))))
    refine av hb3 (fun ht=>?_);subst ht
    refine af (az ?_)
    exact zz r h rfl
   refine al ?_
   refine bC (aa hb3 fun x13 hx13 hb3=>aN [0] [43,44,45,46] [(6,pI x13)] (dD 3 (eV hx13) cf) (by kernel_rfl) (bC (ah [47] [(48,pB (x13 != 0))] (by kernel_rfl) (cO rfl hb3 (fun hc14 hb3=>?_) fun hc14 hb3=>?_))))
   ·refine ae ?_
    refine ah [49] [(2,pI x13)] (by kernel_rfl) (cN (af (aj ?_)))
    refine av hb3 (fun ht=>?_);subst ht
    refine af (az ?_)
    exact zz r h rfl
   refine al ?_
   refine ak (aq (ah [50] [(12,pI (IntKind.i64.wrap (v2+1)))] (by kernel_rfl) ?_))
   exact bd hb3 () (mE rfl) dr
  refine aT ?_
  refine ar (ap hb3 (fun ht=>au rfl ?_))
  exact aO ((),()) lG dr ht.symm
 rintro ⟨_,_⟩ τ hz;(try dsimp only at hz);subst q4;(try dsimp only at h);dsimp only [aG]
 refine ae (ai [(2,pI 0)] (by kernel_rfl) (cN ?_))
 exact zz r h rfl
def dq (p0:(List Za)) (p1:Int):Option (List Int):=(bh (S:=(List Int)×(List (Int×Bool))) (T:=((List (Int×Bool)))) (fun (l5,l8)=>cond (decide (0<((l5.length:Nat):Int))) ((idx l5 (IntKind.i64.wrap (((l5.length:Nat):Int) - 1))).bind fun m13=>(dY p0 m13).bind fun x14=>(sub l5 0 (IntKind.i64.wrap (((l5.length:Nat):Int) - 1))).bind fun l15=>cond (!x14.2) (some (.inl (l15,l8))) ((idx p0 x14.1).bind fun m18=>(bh (S:=(List Int)×Int×(List (Int×Bool))) (T:=((List Int)×(List (Int×Bool)))) (fun (l20,v23,l24)=>cond (decide (v23<(m18.Inputs.length:Int))) (((idx m18.Inputs v23).bind fun m39=>cond (!((bM l24 m39.Product).getD false)) ((app 8 l20 [m39.Product]).bind fun l44=>some (l44,(ib l24 m39.Product true))) (some (l20,l24))).bind fun (l36,l37)=>some (.inl (l36,(IntKind.i64.wrap (v23+1)),l37))) (some (.inr (l20,l24)))) FUEL (l15,0,l8)).bind fun (l28,l29)=>some (.inl (l28,l29)))) (some (.inr l8))) FUEL ([p1],([]:List (Int×Bool)))).bind fun l9=>(tD l9).bind fun l50=>some l50
theorem eY {p0:(List Za)} {p1:Int} {r:(List Int)}  (h:dq p0 p1=some r):PF 23 [pL Za.enc p0,pI p1] (pL eI r):=by
 unfold dq at h
 refine bH ?_
 refine aH Tryd.func23 rfl Tryd.ntmps23 Tryd.results23 rfl (ae (aL [4] (by kernel_rfl) (bC (ag (aA rfl (fM kI vT rfl (fun b1=>aV [(5,.v (.map (some b1)))] (by kernel_rfl) (bC (ag (aw 1 [(12,pI p1)] (by kernel_rfl) (aA rfl (bT rfl rfl rfl rfl rfl (ga rfl iM) rfl rfl rfl rfl (fun b2=>aV [(6,pO (some ⟨b2,0,none⟩) 1 1)] (by kernel_rfl) (bC (aa h fun q11 hq11 h=>?_)))))))))))))))
 refine aP (Y:=Unit×((List (Int×Bool)))) (fun (_,l9)=>[(5,.v (.map (some b1)))]) (fun (_,l9)=>[PRes.mp (some b1) (ba kI vT l9)]) (fun (_,l9)=>q11=l9) ?_ ?_
 ·refine am ?_
  refine aQ (Y:=Option Addr×Nat) (S:=(List Int)×(List (Int×Bool))) _ hq11 (fun (a6,c7) (l5,l8)=>[(0,pL Za.enc p0),(5,.v (.map (some b1))),(6,pO a6 l5.length c7)]) (fun (a6,c7) (l5,l8)=>[PRes.mp (some b1) (ba kI vT l8),PRes.row a6 l5.length c7 3 1 (List.map eI l5)]) ((some ⟨b2,0,none⟩),1) (nT rfl) (cH (bc bf) eF) ?_
  rintro ⟨a6,c7⟩ ⟨l5,l8⟩ o τ hb10;(try dsimp only at hb10);dsimp only [aG]
  refine ae (ae (ah [14,15] [(16,pB (decide (0<((l5.length:Nat):Int))))] (by kernel_rfl) (cO rfl hb10 (fun hc12 hb10=>?_) fun hc12 hb10=>?_)))
  ·refine al ?_
   refine aq (am (ae (aa hb10 fun m13 hm13 hb10=>ag (fw 5 [20,21] [(18,pL Za.enc p0),(19,pO a6 l5.length c7),(22,pI (IntKind.i64.wrap (((l5.length:Nat):Int) - 1)))] (by kernel_rfl) (bG rfl rfl rfl (ce (enc:=eI) (xs:=l5) rfl rfl rfl (.p rfl) qW (.p rfl) (fun _=>hm13)) (bG rfl rfl rfl (dm (sz:=1) (p:=pI m13) (enc:=eI) (xs:=l5) (a:=a6) (IntKind.i64.wrap (((l5.length:Nat):Int) - 1)) 0 m13 rfl (.p rfl) rfl qW (fun _=>hm13) rfl) (aa hb10 fun x14 hx14 hb10=>fb [] [25,17,26,27] [(7,pI x14.1),(8,pB x14.2)] (dD 0 (ii hx14) cf) (by kernel_rfl) (bC (aa hb10 fun l15 hl15 hb10=>ag (fw 4 [29,30] [(28,pO a6 l5.length c7),(31,pI (IntKind.i64.wrap (((l5.length:Nat):Int) - 1)))] (by kernel_rfl) ?_))))))))))
   refine aA rfl (rb (enc:=eI) (xs:=l5) rfl rfl rfl rfl rfl (by exact bc bf) hl15 ?_)
   refine aV [(6,pO a6 l15.length c7)] (by kernel_rfl) (fE (ah [33] [(34,pB (!x14.2))] (by kernel_rfl) (cO rfl hb10 (fun hc17 hb10=>?_) fun hc17 hb10=>?_)))
   ·refine aT ?_
    refine ar (au rfl ?_)
    exact bd hb10 (a6,c7) (nT rfl) (cH (bc bf) eF)
   refine al ?_
   refine bC (aa hb10 fun m18 hm18 hb10=>aN [] [35,36,37,38] [(39,pL Zb.enc m18.Inputs),(40,pI (m18.Inputs.length:Int)),(41,pI 0)] (eb 2 Za.enc hm18 cf) (by kernel_rfl) (aq (aa hb10 fun q31 hq31 hb10=>?_)))
   refine hR (Y:=(Option Addr×Nat)×((List Int)×(List (Int×Bool)))) (fun ((a26,c27),(l28,l29))=>[(0,pL Za.enc p0),(5,.v (.map (some b1))),(6,pO a26 l28.length c27)]) (fun ((a26,c27),(l28,l29))=>[PRes.mp (some b1) (ba kI vT l29),PRes.row a26 l28.length c27 3 1 (List.map eI l28)]) (fun ((a26,c27),(l28,l29))=>q31=(l28,l29)) ?_ ?_
   ·refine am ?_
    refine aQ (Y:=Option Addr×Nat) (S:=(List Int)×Int×(List (Int×Bool))) _ hq31 (fun (a21,c22) (l20,v23,l24)=>[(0,pL Za.enc p0),(5,.v (.map (some b1))),(6,pO a21 l20.length c22),(39,pL Zb.enc m18.Inputs),(40,pI (m18.Inputs.length:Int)),(41,pI v23)]) (fun (a21,c22) (l20,v23,l24)=>[PRes.mp (some b1) (ba kI vT l24),PRes.row a21 l20.length c22 3 1 (List.map eI l20)]) (a6,c7) (o8 rfl) (cH (bc bf) eF) ?_
    rintro ⟨a21,c22⟩ ⟨l20,v23,l24⟩ o τ hb30;(try dsimp only at hb30);dsimp only [aG]
    refine ae (ai [(42,pB (decide (v23<(m18.Inputs.length:Int))))] (by kernel_rfl) (bC (qf rfl hb30 (fun hc32 hb30=>?_) fun hc32 hb30=>?_)))
    ·refine al ?_
     refine bC (aa hb30 fun q38 hq38 hb30=>?_)
     refine aP (Y:=(Option Addr×Nat)×((List Int)×(List (Int×Bool)))) (fun ((a34,c35),(l36,l37))=>[(0,pL Za.enc p0),(5,.v (.map (some b1))),(6,pO a34 l36.length c35),(39,pL Zb.enc m18.Inputs),(40,pI (m18.Inputs.length:Int)),(41,pI v23)]) (fun ((a34,c35),(l36,l37))=>[PRes.mp (some b1) (ba kI vT l37),PRes.row a34 l36.length c35 3 1 (List.map eI l36)]) (fun ((a34,c35),(l36,l37))=>q38=(l36,l37)) ?_ ?_
     ·skip
      refine am (ae (aa hq38 fun m39 hm39 hq38=>ag (bj 2 [] [43] [(44,.agg [pI m39.Product,pI m39.Value])] (eb 0 Zb.enc hm39 cf) (by kernel_rfl) (aA rfl (dc (cs:=[pI 0,pI 0]) rfl rfl rfl rfl (fun b40=>bR rfl rfl (bL (vs:=[pI m39.Product,pI m39.Value]) rfl rfl rfl rfl rfl gF zl2 (bg (bC (ag (cg 3 [0] [46] [(45,.v (.map (some b1))),(47,pI m39.Product)] (by kernel_rfl) (bG rfl rfl rfl (show POpQ _ _ _ _ (pB ((bM l24 m39.Product).getD false)) from ew (xs:=l24) (k:=m39.Product) (ek:=kI) (vv:=vT) (z0:=false) rfl rfl rfl (fun _=>.v rfl) (fL rfl) (.p rfl) (.p rfl) dU (dv qW)) (aV [(49,pB (!((bM l24 m39.Product).getD false)))] (by kernel_rfl) (cO rfl hq38 (fun hc41 hq38=>?_) fun hc41 hq38=>?_))))))))))))))
      ·refine ae ?_
       refine ag (cg 3 [0] [51] [(50,.v (.map (some b1))),(52,pI m39.Product)] (by kernel_rfl) (bR rfl rfl (fc (xs:=l24) (k:=m39.Product) (ek:=kI) (vv:=vT) (v:=true) rfl rfl (fL rfl) rfl rfl dU rfl (jj gF) (bg (aq (ag (cg 3 [0] [54] [(53,pO a21 l20.length c22),(55,pI m39.Product)] (by kernel_rfl) (aA rfl (bT rfl rfl rfl rfl rfl (ga rfl iM) rfl rfl rfl rfl (fun b42=>aa hq38 fun l44 hl44 hq38=>?_))))))))))
       refine aA rfl (cx (enc:=eI) rfl rfl rfl rfl rfl rfl rfl rfl rfl gw (by exact bc (bc (bc bf))) hl44 (fun a45 c46=>?_))
       refine aV [(6,pO a45 l44.length c46)] (by kernel_rfl) (ak ?_)
       obtain rfl:=osi hq38
       exact aO ((a45,c46),(l44,(ib l24 m39.Product true))) (o8 rfl) (cH (bc (bc (bc bf))) eF) rfl
      refine al ?_
      refine ak ?_
      obtain rfl:=osi hq38
      exact aO ((a21,c22),(l20,l24)) (o8 rfl) (cH (bc bf) (cH (bc bf) dr)) rfl
     rintro ⟨⟨a34,c35⟩,⟨l36,l37⟩⟩ τ hz;(try dsimp only at hz);subst q38;(try dsimp only at hb30);dsimp only [aG]
     refine ah [58] [(41,pI (IntKind.i64.wrap (v23+1)))] (by kernel_rfl) ?_
     exact bd hb30 (a34,c35) (o8 rfl) mD
    refine aT ?_
    refine ar (ap hb30 (fun ht=>au rfl ?_))
    exact gH ((a21,c22),(l20,l24)) (nT rfl) mD ht.symm
   rintro ⟨⟨a26,c27⟩,⟨l28,l29⟩⟩ τ ρ1 hsub48 hz;(try dsimp only at hz hsub48);subst q31;(try dsimp only at hb10);dsimp only [aG]
   refine ak ?_
   exact bd hb10 (a26,c27) (nT rfl) (PSub.trans mD hsub48)
  refine aT ?_
  refine ar (ap hb10 (fun ht=>au rfl ?_))
  exact aO ((),l8) (j6 rfl) eF ht.symm
 rintro ⟨_,l9⟩ τ hz;(try dsimp only at hz);subst q11;(try dsimp only at h);dsimp only [aG]
 refine ae (ag (aw 1 [(59,.v (.map (some b1)))] (by kernel_rfl) ?_))
 refine aA rfl (bo rfl rfl (ρ1:=[]) (List.Perm.refl _) (tE Tryd.lKeys rfl rfl rfl (rU Tryd.func35 rfl)) ?_);rintro _ _ ⟨b49,rfl,rfl⟩
 refine aa h fun l50 hl50 h=>?_
 refine aA rfl (bo rfl rfl (ρ1:=[_,_]) (aR (by exact bf) (aR (by exact bf) (List.Perm.refl _))) (pE Tryd.lKeys Tryd.lSorted Tryd.lSortI rfl rfl rfl rfl rfl rfl (rU Tryd.func34 rfl) (rU Tryd.func50 rfl) (rU Tryd.func49 rfl) rfl hl50) ?_);rintro _ _ ⟨a51,c52,rfl,rfl⟩
 refine aV [(4,pO a51 l50.length c52)] (by kernel_rfl) (aq ?_)
 refine dT (enc:=eI) (xs:=l50) 4 rfl (by exact bf) ?_
 refine dk ?_
 exact zz r h rfl
def cZ (p0:(List Za)):Option (List (List Int)):=cond (decide (64<(p0.length:Int))) (some []) ((bh (S:=Int×(List (Int×(List Int)))) (T:=((List (Int×(List Int))))) (fun (v3,l4)=>cond (decide (v3<(p0.length:Int))) ((idx p0 v3).bind fun m9=>(dq p0 m9.ID).bind fun x11=>some (.inl ((IntKind.i64.wrap (v3+1)),(ib l4 m9.ID x11)))) (some (.inr l4))) FUEL (0,([]:List (Int×(List Int))))).bind fun l5=>(bh (S:=Int×(List (Int×Int))×(List (Int×(List Int)))) (T:=((List (Int×Int))×(List (Int×(List Int))))) (fun (v14,l15,l16)=>cond (decide (v14<(p0.length:Int))) (((idx p0 v14).bind fun m25=>(cP p0 l5 m25.ID).bind fun x27=>(idx x27 0).bind fun m28=>(idx x27 0).bind fun m29=>cond (m29 == m25.ID) (some ((ib l15 m25.ID m28),(ib l16 m25.ID x27))) (some ((ib l15 m25.ID m28),l16))).bind fun (l22,l23)=>some (.inl ((IntKind.i64.wrap (v14+1)),l22,l23))) (some (.inr (l15,l16)))) FUEL (0,([]:List (Int×Int)),([]:List (Int×(List Int))))).bind fun (l17,l18)=>(bh (S:=(List (List Int))×(List (Int×(List Int)))) (T:=((List (List Int)))) (fun (l32,l35)=>cond (decide (0<(l35.length:Int))) ((cB p0 l5 l17 l35).bind fun x44=>cond (!x44.2) (some (.inr l32)) ((app 24 l32 [((bM l35 x44.1).getD [])]).bind fun l48=>some (.inl (l48,(mO l35 x44.1))))) (some (.inr l32))) FUEL (([]:List (List Int)),l18)).bind fun l39=>some l39)
theorem fW {p0:(List Za)} {r:(List (List Int))}  (h:cZ p0=some r):PF 20 [pL Za.enc p0] (pL (eL eI) r):=by
 unfold cZ at h
 refine bH ?_
 refine aH Tryd.func20 rfl Tryd.ntmps20 Tryd.results20 rfl (ae (aL [2] (by kernel_rfl) (fE (ah [14,15] [(16,pB (decide (64<(p0.length:Int))))] (by kernel_rfl) (cO rfl h (fun hc1 h=>?_) fun hc1 h=>?_)))))
 ·refine ae ?_
  refine ai [(2,pN)] (by kernel_rfl) (aq (pwc_nil 2 rfl (dk (aj ?_))))
  exact zz r h rfl
 refine al ?_
 refine bC (ag (aA rfl (fM kI (vL eI) rfl (fun b2=>aV [(3,.v (.map (some b2)))] (by kernel_rfl) (fE (ai [(18,pL Za.enc p0),(19,pI (p0.length:Int)),(20,pI 0)] (by kernel_rfl) (aq (aa h fun q7 hq7 h=>?_))))))))
 refine aP (Y:=Unit×((List (Int×(List Int))))) (fun (_,l5)=>[(0,pL Za.enc p0),(3,.v (.map (some b2)))]) (fun (_,l5)=>[PRes.mp (some b2) (ba kI (vL eI) l5)]) (fun (_,l5)=>q7=l5) ?_ ?_
 ·refine am ?_
  refine aQ (Y:=Unit) (S:=Int×(List (Int×(List Int)))) _ hq7 (fun _ (v3,l4)=>[(0,pL Za.enc p0),(3,.v (.map (some b2))),(18,pL Za.enc p0),(19,pI (p0.length:Int)),(20,pI v3)]) (fun _ (v3,l4)=>[PRes.mp (some b2) (ba kI (vL eI) l4)]) () (rz rfl) eF ?_
  rintro _ ⟨v3,l4⟩ o τ hb6;(try dsimp only at hb6);dsimp only [aG]
  refine ae (ai [(21,pB (decide (v3<(p0.length:Int))))] (by kernel_rfl) (bC (qf rfl hb6 (fun hc8 hb6=>?_) fun hc8 hb6=>?_)))
  ·refine al ?_
   refine bC (am (ae (aa hb6 fun m9 hm9 hb6=>ag (bj 2 [] [22] [(23,.agg (an m9))] (eb 0 Za.enc hm9 cf) (by kernel_rfl) (aA rfl (dc (cs:=[pI 0,pS ByteArray.empty,pS ByteArray.empty,pI 0,pB false,pN,pN]) rfl rfl rfl rfl (fun b10=>bR rfl rfl (bL (vs:=(an m9)) rfl rfl rfl rfl rfl gF sI (bg (aq (cw (ρd:=[PRes.mp (some b2) _]) [(0,0),(1,0),(2,0),(3,0),(4,0),(5,0),(6,1),(7,1)] _ (aR (bc bf) (List.Perm.refl _)) (by kernel_rfl) rfl (aa hb6 fun x11 hx11 hb6=>cn 7 [0,0] [25,27,28,29] [(24,.v (.map (some b2))),(26,pI m9.ID),(30,pL eI x11)] (dD 6 (eY hx11) cf) (by kernel_rfl) (oW rfl rfl (fc (xs:=l4) (k:=m9.ID) (ek:=kI) (vv:=(vL eI)) (v:=x11) rfl rfl (fL rfl) rfl rfl dU rfl gF (da (ak (aq (ah [31] [(20,pI (IntKind.i64.wrap (v3+1)))] (by kernel_rfl) ?_))))))))))))))))))
   exact bd hb6 () (rz rfl) eF
  refine aT ?_
  refine ar (ap hb6 (fun ht=>au rfl ?_))
  exact aO ((),l4) (tU rfl) eF ht.symm
 rintro ⟨_,l5⟩ τ hz;(try dsimp only at hz);subst q7;(try dsimp only at h);dsimp only [aG]
 refine ae (ag (aA rfl (fM kI vI rfl (fun b12=>aV [(6,.v (.map (some b12)))] (by kernel_rfl) (bC (ag (aA rfl (fM kI (vL eI) rfl (fun b13=>aV [(7,.v (.map (some b13)))] (by kernel_rfl) (fE (ai [(34,pL Za.enc p0),(35,pI (p0.length:Int)),(36,pI 0)] (by kernel_rfl) (aq (aa h fun q20 hq20 h=>?_)))))))))))))
 refine aP (Y:=Unit×((List (Int×Int))×(List (Int×(List Int))))) (fun (_,(l17,l18))=>[(0,pL Za.enc p0),(3,.v (.map (some b2))),(6,.v (.map (some b12))),(7,.v (.map (some b13)))]) (fun (_,(l17,l18))=>[PRes.mp (some b12) (ba kI vI l17),PRes.mp (some b13) (ba kI (vL eI) l18),PRes.mp (some b2) (ba kI (vL eI) l5)]) (fun (_,(l17,l18))=>q20=(l17,l18)) ?_ ?_
 ·refine am ?_
  refine aQ (Y:=Unit) (S:=Int×(List (Int×Int))×(List (Int×(List Int)))) _ hq20 (fun _ (v14,l15,l16)=>[(0,pL Za.enc p0),(3,.v (.map (some b2))),(6,.v (.map (some b12))),(7,.v (.map (some b13))),(34,pL Za.enc p0),(35,pI (p0.length:Int)),(36,pI v14)]) (fun _ (v14,l15,l16)=>[PRes.mp (some b12) (ba kI vI l15),PRes.mp (some b13) (ba kI (vL eI) l16),PRes.mp (some b2) (ba kI (vL eI) l5)]) () (sH rfl) (cH (bc bf) mD) ?_
  rintro _ ⟨v14,l15,l16⟩ o τ hb19;(try dsimp only at hb19);dsimp only [aG]
  refine ae (ai [(37,pB (decide (v14<(p0.length:Int))))] (by kernel_rfl) (bC (qf rfl hb19 (fun hc21 hb19=>?_) fun hc21 hb19=>?_)))
  ·refine al ?_
   refine bC (aa hb19 fun q24 hq24 hb19=>?_)
   refine aP (Y:=Unit×((List (Int×Int))×(List (Int×(List Int))))) (fun (_,(l22,l23))=>[(0,pL Za.enc p0),(3,.v (.map (some b2))),(6,.v (.map (some b12))),(7,.v (.map (some b13))),(34,pL Za.enc p0),(35,pI (p0.length:Int)),(36,pI v14)]) (fun (_,(l22,l23))=>[PRes.mp (some b12) (ba kI vI l22),PRes.mp (some b13) (ba kI (vL eI) l23),PRes.mp (some b2) (ba kI (vL eI) l5)]) (fun (_,(l22,l23))=>q24=(l22,l23)) ?_ ?_
   ·skip
    refine am (ae (aa hq24 fun m25 hm25 hq24=>ag (bj 2 [] [38] [(39,.agg (an m25))] (eb 0 Za.enc hm25 cf) (by kernel_rfl) (aA rfl (dc (cs:=[pI 0,pS ByteArray.empty,pS ByteArray.empty,pI 0,pB false,pN,pN]) rfl rfl rfl rfl (fun b26=>bR rfl rfl (bL (vs:=(an m25)) rfl rfl rfl rfl rfl gF sI (bg (bC (aa hq24 fun x27 hx27 hq24=>ag (cg 4 [0] [42] [(40,pL Za.enc p0),(41,.v (.map (some b2))),(43,pI m25.ID)] (by kernel_rfl) ?_)))))))))))
    refine aA rfl (bo rfl rfl (ρ1:=[_]) (aR (by exact bc (bc (bc bf))) (List.Perm.refl _)) (fG hx27) ?_);rintro _ _ ⟨rfl,rfl⟩
    refine aV [(10,pL eI x27)] (by kernel_rfl) (bC (cw (ρd:=[PRes.mp (some b12) _]) [(0,0),(1,0),(2,0),(3,0),(4,0),(5,0),(6,1)] _ (aR (bc (bc bf)) (List.Perm.refl _)) (by kernel_rfl) rfl (aa hq24 fun m28 hm28 hq24=>cn 6 [1] [46,48,49] [(45,.v (.map (some b12))),(47,pI m25.ID),(50,pI m28)] (eb 4 eI hm28 cf) (by kernel_rfl) (oW rfl rfl (fc (xs:=l15) (k:=m25.ID) (ek:=kI) (vv:=vI) (v:=m28) rfl rfl (fL rfl) rfl rfl dU rfl gF (da (bC (cw (ρd:=[]) [(0,0),(1,0),(2,0),(3,0),(4,0),(5,0)] _ (List.Perm.refl _) (by kernel_rfl) rfl (aa hq24 fun m29 hm29 hq24=>cn 6 [2] (rg 51 5) [(56,pB (m29 == m25.ID))] (eb 1 eI hm29 cf) (by kernel_rfl) (da (cO rfl hq24 (fun hc30 hq24=>?_) fun hc30 hq24=>?_)))))))))))
    ·refine ag ?_
     refine cg 4 [2] [58] [(57,.v (.map (some b13))),(59,pI m25.ID),(60,pL eI x27)] (by kernel_rfl) (bR rfl rfl (fc (xs:=l16) (k:=m25.ID) (ek:=kI) (vv:=(vL eI)) (v:=x27) rfl rfl (fL rfl) rfl rfl dU rfl (jj (jj (jj gF))) (bg (ak ?_))))
     obtain rfl:=osi hq24
     exact aO ((),((ib l15 m25.ID m28),(ib l16 m25.ID x27))) (sH rfl) (cH bf (cH (bc (bc bf)) eF)) rfl
    refine al ?_
    refine ak ?_
    obtain rfl:=osi hq24
    exact aO ((),((ib l15 m25.ID m28),l16)) (sH rfl) (cH bf (cH (bc (bc bf)) eF)) rfl
   rintro ⟨_,⟨l22,l23⟩⟩ τ hz;(try dsimp only at hz);subst q24;(try dsimp only at hb19);dsimp only [aG]
   refine ah [61] [(36,pI (IntKind.i64.wrap (v14+1)))] (by kernel_rfl) ?_
   exact bd hb19 () (sH rfl) zs3
  refine aT ?_
  refine ar (ap hb19 (fun ht=>au rfl ?_))
  exact aO ((),(l15,l16)) (mE rfl) zs3 ht.symm
 rintro ⟨_,⟨l17,l18⟩⟩ τ hz;(try dsimp only at hz);subst q20;(try dsimp only at h);dsimp only [aG]
 refine ae (ai [(11,pN)] (by kernel_rfl) (bC (dC 22 1 (aa h fun q41 hq41 h=>?_))))
 refine aP (Y:=(Option Addr×Nat)×((List (List Int)))) (fun ((a37,c38),l39)=>[(11,pO a37 l39.length c38)]) (fun ((a37,c38),l39)=>[PRes.row a37 l39.length c38 22 1 (List.map (eL eI) l39)]) (fun ((a37,c38),l39)=>q41=l39) ?_ ?_
 ·refine am ?_
  refine aQ (Y:=Option Addr×Nat) (S:=(List (List Int))×(List (Int×(List Int)))) _ hq41 (fun (a33,c34) (l32,l35)=>[(0,pL Za.enc p0),(3,.v (.map (some b2))),(6,.v (.map (some b12))),(7,.v (.map (some b13))),(11,pO a33 l32.length c34)]) (fun (a33,c34) (l32,l35)=>[PRes.mp (some b12) (ba kI vI l17),PRes.mp (some b13) (ba kI (vL eI) l35),PRes.mp (some b2) (ba kI (vL eI) l5),PRes.row a33 l32.length c34 22 1 (List.map (eL eI) l32)]) (none,0) (rz rfl) (cH (bc bf) (cH (bc bf) (cH (bc bf) eF))) ?_
  rintro ⟨a33,c34⟩ ⟨l32,l35⟩ o τ hb40;(try dsimp only at hb40);dsimp only [aG]
  refine ae (ae (ag (aw 1 [(62,.v (.map (some b13)))] (by kernel_rfl) (bG rfl rfl rfl (show POpQ _ _ _ _ (.v (.int .i64 (l35.length:Int))) from pq_lenM (ek:=kI) (vv:=(vL eI)) (xs:=l35) rfl rfl (.p rfl) (dv qW)) (aV [(64,pB (decide (0<(l35.length:Int))))] (by kernel_rfl) (cO rfl hb40 (fun hc43 hb40=>?_) fun hc43 hb40=>?_))))))
  ·refine al ?_
   refine aq (am (ae (aa hb40 fun x44 hx44 hb40=>ag (aw 4 [(66,pL Za.enc p0),(67,.v (.map (some b2))),(68,.v (.map (some b12))),(69,.v (.map (some b13)))] (by kernel_rfl) ?_))))
   refine aA rfl (bo rfl rfl (ρ1:=[_,_,_]) (aR (by exact bc (bc bf)) (aR (by exact bf) (aR (by exact bf) (List.Perm.refl _)))) (fe hx44) ?_);rintro _ _ ⟨rfl,rfl⟩
   refine ig [65,71,72] [(12,pI x44.1),(13,pB x44.2)] (by kernel_rfl) (fE (ah [73] [(74,pB (!x44.2))] (by kernel_rfl) (cO rfl hb40 (fun hc45 hb40=>?_) fun hc45 hb40=>?_)))
   ·refine aT ?_
    refine ar (jH rfl (ap hb40 (fun ht=>au rfl ?_)))
    exact aO ((a33,c34),l32) (j6 rfl) (cH (bc (bc (bc bf))) dr) ht.symm
   refine al ?_
   refine bC (ag (aw 3 [(75,pO a33 l32.length c34),(76,.v (.map (some b13))),(77,pI x44.1)] (by kernel_rfl) (bG rfl rfl rfl (show POpQ _ _ _ _ (pL eI ((bM l35 x44.1).getD [])) from ew (xs:=l35) (k:=x44.1) (ek:=kI) (vv:=(vL eI)) (z0:=[]) rfl rfl rfl (fun _=>gJ) (fL rfl) (.p rfl) (.p rfl) dU (dv zm2)) (aA rfl (bT rfl rfl rfl rfl rfl (ga rfl iM) rfl rfl rfl rfl (fun b46=>aa hb40 fun l48 hl48 hb40=>?_))))))
   refine aA rfl (cx (enc:=(eL eI)) rfl rfl rfl rfl rfl rfl rfl rfl rfl gw (by exact bc (bc (bc (bc bf)))) hl48 (fun a49 c50=>?_))
   refine aV [(11,pO a49 l48.length c50)] (by kernel_rfl) (aq (ag (aw 2 [(81,.v (.map (some b13))),(82,pI x44.1)] (by kernel_rfl) (bR rfl rfl (rk (xs:=l35) (k:=x44.1) (ek:=kI) (vv:=(vL eI)) rfl rfl rfl (fL rfl) rfl rfl dU (jj (jj (jj (jj gF)))) (bg (ak ?_)))))))
   exact bd hb40 (a49,c50) (rz rfl) (cH (bc (bc (bc bf))) (cH (bc (bc (bc bf))) (cH (bc (bc bf)) eF)))
  refine aT ?_
  refine ar (ap hb40 (fun ht=>au rfl ?_))
  exact aO ((a33,c34),l32) (j6 rfl) (cH (bc (bc (bc bf))) dr) ht.symm
 rintro ⟨⟨a37,c38⟩,l39⟩ τ hz;(try dsimp only at hz);subst q41;(try dsimp only at h);dsimp only [aG]
 refine ae (ah [83] [(2,pO a37 l39.length c38)] (by kernel_rfl) (aq ?_))
 refine dT (enc:=(eL eI)) (xs:=l39) 2 rfl (by exact bf) ?_
 refine dk ?_
 exact zz r h rfl
def fQ  : Option Bool:=(dK).bind fun x1=>(cZ x1).bind fun x2=>(dK).bind fun x3=>(bx x3).bind fun x4=>(gd ((x4 == 0)&&((x2.length:Int) == 2)) (idx x2 0)).bind fun m5=>(gd ((x4 == 0)&&((x2.length:Int) == 2)) (ez m5 [3])).bind fun x7=>(gd (((x4 == 0)&&((x2.length:Int) == 2))&&x7) (idx x2 1)).bind fun m8=>(gd (((x4 == 0)&&((x2.length:Int) == 2))&&x7) (ez m8 [1,2])).bind fun x10=>(gd ((((x4 == 0)&&((x2.length:Int) == 2))&&x7)&&x10) (dK)).bind fun x11=>(gd ((((x4 == 0)&&((x2.length:Int) == 2))&&x7)&&x10) (dq x11 2)).bind fun x12=>(gd ((((x4 == 0)&&((x2.length:Int) == 2))&&x7)&&x10) (ez x12 [1,2,3])).bind fun x14=>(gd (((((x4 == 0)&&((x2.length:Int) == 2))&&x7)&&x10)&&x14) (dK)).bind fun x15=>(gd (((((x4 == 0)&&((x2.length:Int) == 2))&&x7)&&x10)&&x14) (eA x15 3)).bind fun x16=>(gd (((((x4 == 0)&&((x2.length:Int) == 2))&&x7)&&x10)&&x14) (ez x16 [1])).bind fun x18=>some ((((((x4 == 0)&&((x2.length:Int) == 2))&&x7)&&x10)&&x14)&&x18)
theorem k9  {r:Bool}  (h:fQ  = some r):PF 8 [] (pB r):=by
 unfold fQ at h
 refine bH ?_
 refine aH Tryd.func8 rfl Tryd.ntmps8 Tryd.results8 rfl (ae (aL [0] (by kernel_rfl) (bC (aa h fun x1 hx1 h=>aa h fun x2 hx2 h=>aN [] [2,3] [(1,pL (eL eI) x2)] (dD 0 (dZ hx1) (dD 1 (fW hx2) cf)) (by kernel_rfl) (bC (aa h fun x3 hx3 h=>aa h fun x4 hx4 h=>aa h fun m5 hm5 h=>ag (bj 12 [] ((rg 4 8)++[13,14]) [(12,pB ((x4 == 0)&&((x2.length:Int) == 2))),(15,pgv ((x4 == 0)&&((x2.length:Int) == 2)) (pL eI m5))] (dD 0 (dZ hx3) (dD 1 (ea hx4) (gh 10 (eL eI) (cW hm5) cf))) (by kernel_rfl) ?_)))))))
 refine i9 (cU rfl rfl rfl) rfl rfl rfl rfl rfl rfl (fun _=>by (repeat (first | exact iM | apply ga rfl))) rfl rfl rfl rfl ?_
 refine aa h fun x7 hx7 h=>fk (cU rfl rfl rfl) rfl rfl rfl (bv (.g rfl) (bv (.g rfl) eu)) (fun hc=>eH (cW hx7 hc)) (bG rfl rfl rfl (hT rfl (.p rfl) (.p rfl) (.g rfl)) (aa h fun m8 hm8 h=>bj 4 [] [20,21] [(19,pB (((x4 == 0)&&((x2.length:Int) == 2))&&x7)),(22,pgv (((x4 == 0)&&((x2.length:Int) == 2))&&x7) (pL eI m8))] (gh 2 (eL eI) (cW hm8) cf) (by kernel_rfl) ?_))
 refine i9 (cU rfl rfl rfl) rfl rfl rfl rfl rfl rfl (fun _=>by (repeat (first | exact iM | apply ga rfl))) rfl rfl rfl rfl ?_
 refine aa h fun x10 hx10 h=>fk (cU rfl rfl rfl) rfl rfl rfl (bv (.g rfl) (bv (.g rfl) eu)) (fun hc=>eH (cW hx10 hc)) (bG rfl rfl rfl (hT rfl (.p rfl) (.p rfl) (.g rfl)) (aa h fun x11 hx11 h=>aa h fun x12 hx12 h=>bj 3 [] [27] [(26,pB ((((x4 == 0)&&((x2.length:Int) == 2))&&x7)&&x10)),(28,pgv ((((x4 == 0)&&((x2.length:Int) == 2))&&x7)&&x10) (pL eI x12))] (hY 1 (fun hc=>dZ (cW hx11 hc)) (hY 2 (fun hc=>eY (cW hx12 hc)) cf)) (by kernel_rfl) ?_))
 refine i9 (cU rfl rfl rfl) rfl rfl rfl rfl rfl rfl (fun _=>by (repeat (first | exact iM | apply ga rfl))) rfl rfl rfl rfl ?_
 refine aa h fun x14 hx14 h=>fk (cU rfl rfl rfl) rfl rfl rfl (bv (.g rfl) (bv (.g rfl) eu)) (fun hc=>eH (cW hx14 hc)) (bG rfl rfl rfl (hT rfl (.p rfl) (.p rfl) (.g rfl)) (aa h fun x15 hx15 h=>aa h fun x16 hx16 h=>bj 3 [] [33] [(32,pB (((((x4 == 0)&&((x2.length:Int) == 2))&&x7)&&x10)&&x14)),(34,pgv (((((x4 == 0)&&((x2.length:Int) == 2))&&x7)&&x10)&&x14) (pL eI x16))] (hY 1 (fun hc=>dZ (cW hx15 hc)) (hY 2 (fun hc=>ir (cW hx16 hc)) cf)) (by kernel_rfl) ?_))
 refine i9 (cU rfl rfl rfl) rfl rfl rfl rfl rfl rfl (fun _=>by (repeat (first | exact iM | apply ga rfl))) rfl rfl rfl rfl ?_
 refine aa h fun x18 hx18 h=>fk (cU rfl rfl rfl) rfl rfl rfl (bv (.g rfl) (bv (.g rfl) eu)) (fun hc=>eH (cW hx18 hc)) (bG rfl rfl rfl (hT rfl (.p rfl) (.p rfl) (.g rfl)) (aV [(0,pB ((((((x4 == 0)&&((x2.length:Int) == 2))&&x7)&&x10)&&x14)&&x18))] (by kernel_rfl) (cN ?_)))
 exact zz r h rfl
end SX
namespace SX
open Go
def hdrH (y:Za×Option (Option Addr×Nat×Nat)):PV:=match y.2 with | none=>pL Zb.enc y.1.Inputs | some (a,n,c)=>pO a n c
def gP (y:Za×Option (Option Addr×Nat×Nat)):List PV:=[pI y.1.ID,pS y.1.Code,pS y.1.Country,pI y.1.Price,pB y.1.Obtained,pL eS y.1.Processes,hdrH y]
theorem jb (y:Za×Option (Option Addr×Nat×Nat)):Nat.beq (gP y).length 7=true:=rfl
def dy (xs:List Za):List (Za×Option (Option Addr×Nat×Nat)):=xs.map fun m=>(m,none)
theorem ox (xs:List Za):xs.map Za.enc=(dy xs).map gP:=by unfold dy;rw [List.map_map];rfl
theorem fB {xs:List Za} {i:Int} {m:Za} (h:idx xs i=some m):idx (dy xs) i=some (m,none):=by
 obtain ⟨h0,h1⟩:=cV h
 obtain ⟨n,rfl⟩:∃ n:Nat,i=(n:Int):=⟨i.toNat,by omega⟩
 have hn:n<xs.length:=by have:=(List.getElem?_eq_some_iff.1 h1).1;simpa using this
 have e:xs[n]?=some m:=by simpa using h1
 have hl:n<(dy xs).length:=by unfold dy;rw [List.length_map];exact hn
 have e2:(dy xs)[n]?=some (m,none):=by unfold dy;rw [List.getElem?_map,e];rfl
 unfold idx
 rw [if_pos (by omega),Int.toNat_natCast,e2]
theorem tI {xs:List Za} {i k:Int} {m x:Za} {o:Option (Option Addr×Nat×Nat)} (hk:idx xs k=some m) (h:idx xs i=some x):∃ o',idx ((dy xs).set k.toNat (m,o)) i=some (x,o'):=by
 obtain ⟨h0,h1⟩:=cV h
 obtain ⟨k0,k1⟩:=cV hk
 have e2:(dy xs)[i.toNat]?=some (x,none):=by unfold dy;rw [List.getElem?_map,h1];rfl
 unfold idx
 rw [if_pos h0,List.getElem?_set]
 split
 ·rename_i e
  rw [e] at k1
  rw [k1] at h1
  obtain rfl:=Option.some.inj h1
  have hl:=(List.getElem?_eq_some_iff.1 e2).1
  rw [← e] at hl
  exact ⟨o,by rw [if_pos hl]⟩
 exact ⟨none,e2⟩
theorem gQ {xs:List Za} {k:Int} {m:Za} {o:Option (Option Addr×Nat×Nat)} (hk:idx xs k=some m):idx ((dy xs).set k.toNat (m,o)) k=some (m,o):=by
 obtain ⟨h0,h1⟩:=cV hk
 have hl:=(List.getElem?_eq_some_iff.1 h1).1
 unfold idx
 rw [if_pos h0,List.getElem?_set_self (by unfold dy;rw [List.length_map];exact hl)]
theorem tJ {xs:List Za} {k:Int} {m:Za} {o:Option (Option Addr×Nat×Nat)} (hk:idx xs k=some m):(((dy xs).set k.toNat (m,o)).map gP)[k.toNat]?=some (gP (m,o)):=by
 obtain ⟨_,h1⟩:=cV (gQ (o:=o) hk)
 rw [List.getElem?_map,h1];rfl
theorem tK {xs:List Za} {k:Int} {m:Za} {o:Option (Option Addr×Nat×Nat)} {l:List Zb}:(((dy xs).set k.toNat (m,o)).map gP).set k.toNat ((gP (m,o)).set 6 (pL Zb.enc l))=(xs.set k.toNat (⟨m.ID,m.Code,m.Country,m.Price,m.Obtained,m.Processes,l⟩:Za)).map Za.enc:=by
 rw [List.map_set,List.set_set,← ox,List.map_set];rfl
section
variable {n:Nat} {x:Code} {K:Exit→PPost} {σ:PEnv} {ρ:List PRes} {a A:Option Addr} {m c N C T sz i k:Nat} {css css':List (List PV)} {cs:List PV} {α:Type} {enc:α→List PV} {xs:List α}
theorem oy {ρ':List PRes} (hi:css[i]?=some cs) (hk:cs[k]?=some (.v (.slice a m c))) (hm:PRes.frz a m c (xs.map enc)∈ρ) (he:css.set i (cs.set k (.slc xs.length (xs.map enc)))=css') (hu:PUpd ρ (.row A N C T sz css) (.row A N C T sz css') ρ') (h:PWC n x K σ ρ'):PWC n x K σ ρ:=fun β κ σ' r g hs hr=>by
 obtain ⟨rf,_,h2⟩:=hr.mem hm
 obtain ⟨r0,l1,l2,rfl,h3,h4⟩:=hr.upd hu
 have same:∀ {β:Type} (l:List β) (k:Nat) (v:β),l[k]?=some v→l.set k v=l:=fun l k v h=>by
  apply List.ext_getElem?
  intro i
  rw [List.getElem?_set]
  split
  ·rename_i hik;subst hik;rw [h];have:=(List.getElem?_eq_some_iff.1 h).1;simp [this]
  rfl
 cases h3 with
 | row hb ho hc =>
  obtain ⟨ds,hd,hds⟩:=hc.get hi
  obtain ⟨v,hv,hp⟩:=hds.get hk
  have e:=hp.val
  have hset:=hds.set (k:=k) (my h2 e)
  rw [same _ _ _ hv] at hset
  have hset2:=hc.set (k:=i) hset
  rw [same _ _ _ hd,he] at hset2
  exact h β κ σ' _ g hs (h4 κ _ (.refl _) (.row hb ho hset2))
end
def jc (xs:List Za) (k:Int):Option (List Za):=Option.bind (idx xs k) (fun m=>Option.bind (bh (S:=List Zb×Int) (T:=List Zb) (fun s=>cond (decide (s.2<(xs.length:Int))&&decide (s.2<9)) (Option.bind (idx xs s.2) (fun x=>Option.bind (app 16 s.1 [(⟨x.ID,0⟩:Zb)]) (fun l=>some (.inl (l,IntKind.i64.wrap (s.2+1)))))) (some (.inr s.1))) FUEL ([],0)) (fun l=>some (xs.set k.toNat (⟨m.ID,m.Code,m.Country,m.Price,m.Obtained,m.Processes,l⟩:Za))))
end SX
namespace SX
open Go
attribute [local irreducible] PWL PWC PWD POpL POpQ PEv PGuardIs PSub PPick PUpd PSplice PFill PLit PF PFV PCall FOk eN dj iT iU gI iy Cov PHolds bh idx app mk gd lb nz sB cat sub lm jt ior qQ oV gT qS qT IntKind.wrap Int.tmod Int.tdiv Op.bytesLess strOfNums
def cz (p0:(List Int)) (p1:Za) (p2:Int) (p3:Int) (p4:Int):Option Bool:=(gq p0).bind fun x2=>(cd p2 ((x2.length:Nat):Int)).bind fun x6=>(cd p3 11).bind fun x7=>Option.bind (cond (x7 == 0) ((idx x2 x6).bind fun m15=>some (x2.set x6.toNat (⟨p4,m15.Code,m15.Country,m15.Price,m15.Obtained,m15.Processes,m15.Inputs⟩:Za))) (cond (x7 == 1) ((cd p4 12).bind fun x18=>(idx x2 x6).bind fun m19=>some (x2.set x6.toNat (⟨(IntKind.i64.wrap (3*x18)),m19.Code,m19.Country,m19.Price,m19.Obtained,m19.Processes,m19.Inputs⟩:Za))) (cond (x7 == 2) ((idx x2 x6).bind fun m22=>some (x2.set x6.toNat (⟨m22.ID,p1.Code,m22.Country,m22.Price,m22.Obtained,m22.Processes,m22.Inputs⟩:Za))) (cond (x7 == 3) ((idx x2 x6).bind fun m25=>some (x2.set x6.toNat (⟨m25.ID,m25.Code,p1.Country,m25.Price,m25.Obtained,m25.Processes,m25.Inputs⟩:Za))) (cond (x7 == 4) ((idx x2 x6).bind fun m28=>some (x2.set x6.toNat (⟨m28.ID,m28.Code,m28.Country,p4,m28.Obtained,m28.Processes,m28.Inputs⟩:Za))) (cond (x7 == 5) ((idx x2 x6).bind fun m31=>some (x2.set x6.toNat (⟨m31.ID,m31.Code,m31.Country,m31.Price,m31.Obtained,p1.Processes,m31.Inputs⟩:Za))) (cond (x7 == 6) ((idx x2 x6).bind fun m34=>(idx x2 x6).bind fun m35=>some (x2.set x6.toNat (⟨m35.ID,m35.Code,m35.Country,m35.Price,(!m34.Obtained),m35.Processes,m35.Inputs⟩:Za))) (cond (x7 == 7) ((idx x2 x6).bind fun m40=>(app 16 ([]:List Zb) m40.Inputs).bind fun l41=>(cd p4 14).bind fun x45=>(app 16 l41 [(⟨(IntKind.i64.wrap (3*x45)),(gT .i64 p4 8)⟩:Zb)]).bind fun l48=>(idx x2 x6).bind fun m52=>some (x2.set x6.toNat (⟨m52.ID,m52.Code,m52.Country,m52.Price,m52.Obtained,m52.Processes,l48⟩:Za))) (cond (x7 == 8) ((sub x2 0 x6).bind fun l55=>(sub x2 (IntKind.i64.wrap (x6+1)) (x2.length:Int)).bind fun l56=>(app 104 ([]:List Za) l55).bind fun l59=>(app 104 l59 l56).bind fun l63=>some l63) (cond (x7 == 9) ((sub x2 0 x6).bind fun l68=>(idx x2 x6).bind fun m69=>(sub x2 x6 (x2.length:Int)).bind fun l70=>(app 104 ([]:List Za) l68).bind fun l73=>(app 104 l73 [m69]).bind fun l79=>(app 104 l79 l70).bind fun l83=>some l83) ((jc x2 x6).bind fun l87=>some l87))))))))))) (fun l11=>(bx l11).bind fun x92=>(fz l11).bind fun x93=>(gd (x92 == x93) (fQ)).bind fun x94=>some ((x92 == x93)&&x94))
theorem ij {p0:(List Int)} {p1:Za} {p2:Int} {p3:Int} {p4:Int} {r:Bool}  (h:cz p0 p1 p2 p3 p4=some r):PF 3 [pL eI p0,.agg (an p1),pI p2,pI p3,pI p4] (pB r):=by
 unfold cz at h
 refine bH ?_
 refine aH Tryd.func3 rfl Tryd.ntmps3 Tryd.results3 rfl (ae (ag (aA rfl (gK (cs:=(an p1)) rfl rfl (fun b1=>eO [10] (by kernel_rfl) (bC (aa h fun x2 hx2 h=>ag (aw 1 [(14,pL eI p0)] (by kernel_rfl) ?_))))))))
 refine aA rfl (bo rfl rfl (ρ1:=[]) (List.Perm.refl _) (mV hx2) ?_);rintro _ _ ⟨a3,c4,rfl,rfl⟩
 refine aV [(11,pO a3 x2.length c4)] (by kernel_rfl) (bC (aa h fun x6 hx6 h=>aN [] [16,17,18,19] [(12,pI x6)] (dD 3 (dd hx6) cf) (by kernel_rfl) (fE (aa h fun x7 hx7 h=>aN [] [20] [(21,pI x7)] (dD 1 (dd hx7) cf) (by kernel_rfl) (aq (aa h fun q13 hq13 h=>?_))))))
 refine aP (Y:=(Option Addr×Nat×Nat)×((List Za))) (fun ((a9,c10,n12),l11)=>[(11,pO a9 n12 c10)]) (fun ((a9,c10,n12),l11)=>[PRes.row a9 n12 c10 26 7 (List.map Za.enc l11)]) (fun ((a9,c10,n12),l11)=>q13=l11) ?_ ?_
 ·skip
  refine am (ae (ah [54] [(53,pB (x7 == 0))] (by kernel_rfl) (cO rfl hq13 (fun hc14 hq13=>?_) fun hc14 hq13=>?_)))
  ·refine aa hq13 ?_;clear hq13;intro m15 hm15 hq13
   refine ag (aw 3 [(55,pO a3 x2.length c4),(56,pI x6),(57,pI p4)] (by kernel_rfl) (bG rfl rfl rfl (ce (enc:=Za.enc) (xs:=x2) rfl rfl rfl (.p rfl) gw (.p rfl) (fun _=>hm15)) (aw 1 [(59,pP (gM a3) (x6.toNat * 7))] (by kernel_rfl) (bR rfl rfl (bU (enc:=Za.enc) (xs:=x2) (a:=a3) x6 0 m15 (⟨p4,m15.Code,m15.Country,m15.Price,m15.Obtained,m15.Processes,m15.Inputs⟩:Za) rfl rfl rfl rfl (fun _=>rfl) rfl rfl hm15 lg gF (bg (ak ?_)))))))
   obtain rfl:=osi hq13
   exact aO ((a3,c4,x2.length),(x2.set x6.toNat (⟨p4,m15.Code,m15.Country,m15.Price,m15.Obtained,m15.Processes,m15.Inputs⟩:Za))) (j6 rfl) eF rfl
  refine ae ?_
  refine ah [61] [(60,pB (x7 == 1))] (by kernel_rfl) (cO rfl hq13 (fun hc17 hq13=>?_) fun hc17 hq13=>?_)
  ·refine aa hq13 ?_;clear hq13;intro x18 hx18 hq13
   refine aa hq13 fun m19 hm19 hq13=>ag (bj 5 [] [64,65] [(62,pO a3 x2.length c4),(63,pI x6),(66,pI (IntKind.i64.wrap (3*x18)))] (dD 3 (dd hx18) cf) (by kernel_rfl) (bG rfl rfl rfl (ce (enc:=Za.enc) (xs:=x2) rfl rfl rfl (.p rfl) gw (.p rfl) (fun _=>hm19)) (aw 1 [(68,pP (gM a3) (x6.toNat * 7))] (by kernel_rfl) (bR rfl rfl (bU (enc:=Za.enc) (xs:=x2) (a:=a3) x6 0 m19 (⟨(IntKind.i64.wrap (3*x18)),m19.Code,m19.Country,m19.Price,m19.Obtained,m19.Processes,m19.Inputs⟩:Za) rfl rfl rfl rfl (fun _=>rfl) rfl rfl hm19 lg gF (bg (ak ?_)))))))
   obtain rfl:=osi hq13
   exact aO ((a3,c4,x2.length),(x2.set x6.toNat (⟨(IntKind.i64.wrap (3*x18)),m19.Code,m19.Country,m19.Price,m19.Obtained,m19.Processes,m19.Inputs⟩:Za))) (j6 rfl) eF rfl
  refine ae ?_
  refine ah [70] [(69,pB (x7 == 2))] (by kernel_rfl) (cO rfl hq13 (fun hc21 hq13=>?_) fun hc21 hq13=>?_)
  ·refine aa hq13 ?_;clear hq13;intro m22 hm22 hq13
   refine ag (cg 4 [1] [73] [(71,pO a3 x2.length c4),(72,pI x6),(74,pS p1.Code)] (by kernel_rfl) (bG rfl rfl rfl (ce (enc:=Za.enc) (xs:=x2) rfl rfl rfl (.p rfl) gw (.p rfl) (fun _=>hm22)) (aw 1 [(76,pP (gM a3) (x6.toNat * 7+1))] (by kernel_rfl) (bR rfl rfl (bU (enc:=Za.enc) (xs:=x2) (a:=a3) x6 1 m22 (⟨m22.ID,p1.Code,m22.Country,m22.Price,m22.Obtained,m22.Processes,m22.Inputs⟩:Za) rfl rfl rfl rfl (fun _=>rfl) rfl rfl hm22 (du lg) gF (bg (ak ?_)))))))
   obtain rfl:=osi hq13
   exact aO ((a3,c4,x2.length),(x2.set x6.toNat (⟨m22.ID,p1.Code,m22.Country,m22.Price,m22.Obtained,m22.Processes,m22.Inputs⟩:Za))) (j6 rfl) eF rfl
  refine ae ?_
  refine ah [78] [(77,pB (x7 == 3))] (by kernel_rfl) (cO rfl hq13 (fun hc24 hq13=>?_) fun hc24 hq13=>?_)
  ·refine aa hq13 ?_;clear hq13;intro m25 hm25 hq13
   refine ag (cg 4 [1] [81] [(79,pO a3 x2.length c4),(80,pI x6),(82,pS p1.Country)] (by kernel_rfl) (bG rfl rfl rfl (ce (enc:=Za.enc) (xs:=x2) rfl rfl rfl (.p rfl) gw (.p rfl) (fun _=>hm25)) (aw 1 [(84,pP (gM a3) (x6.toNat * 7+2))] (by kernel_rfl) (bR rfl rfl (bU (enc:=Za.enc) (xs:=x2) (a:=a3) x6 2 m25 (⟨m25.ID,m25.Code,p1.Country,m25.Price,m25.Obtained,m25.Processes,m25.Inputs⟩:Za) rfl rfl rfl rfl (fun _=>rfl) rfl rfl hm25 (du (du lg)) gF (bg (ak ?_)))))))
   obtain rfl:=osi hq13
   exact aO ((a3,c4,x2.length),(x2.set x6.toNat (⟨m25.ID,m25.Code,p1.Country,m25.Price,m25.Obtained,m25.Processes,m25.Inputs⟩:Za))) (j6 rfl) eF rfl
  refine ae ?_
  refine ah [86] [(85,pB (x7 == 4))] (by kernel_rfl) (cO rfl hq13 (fun hc27 hq13=>?_) fun hc27 hq13=>?_)
  ·refine aa hq13 ?_;clear hq13;intro m28 hm28 hq13
   refine ag (aw 3 [(87,pO a3 x2.length c4),(88,pI x6),(89,pI p4)] (by kernel_rfl) (bG rfl rfl rfl (ce (enc:=Za.enc) (xs:=x2) rfl rfl rfl (.p rfl) gw (.p rfl) (fun _=>hm28)) (aw 1 [(91,pP (gM a3) (x6.toNat * 7+3))] (by kernel_rfl) (bR rfl rfl (bU (enc:=Za.enc) (xs:=x2) (a:=a3) x6 3 m28 (⟨m28.ID,m28.Code,m28.Country,p4,m28.Obtained,m28.Processes,m28.Inputs⟩:Za) rfl rfl rfl rfl (fun _=>rfl) rfl rfl hm28 (du (du (du lg))) gF (bg (ak ?_)))))))
   obtain rfl:=osi hq13
   exact aO ((a3,c4,x2.length),(x2.set x6.toNat (⟨m28.ID,m28.Code,m28.Country,p4,m28.Obtained,m28.Processes,m28.Inputs⟩:Za))) (j6 rfl) eF rfl
  refine ae ?_
  refine ah [93] [(92,pB (x7 == 5))] (by kernel_rfl) (cO rfl hq13 (fun hc30 hq13=>?_) fun hc30 hq13=>?_)
  ·refine aa hq13 ?_;clear hq13;intro m31 hm31 hq13
   refine ag (cg 4 [1] [96] [(94,pO a3 x2.length c4),(95,pI x6),(97,pL eS p1.Processes)] (by kernel_rfl) (bG rfl rfl rfl (ce (enc:=Za.enc) (xs:=x2) rfl rfl rfl (.p rfl) gw (.p rfl) (fun _=>hm31)) (aw 1 [(99,pP (gM a3) (x6.toNat * 7+5))] (by kernel_rfl) (bR rfl rfl (bU (enc:=Za.enc) (xs:=x2) (a:=a3) x6 5 m31 (⟨m31.ID,m31.Code,m31.Country,m31.Price,m31.Obtained,p1.Processes,m31.Inputs⟩:Za) rfl rfl rfl rfl (fun _=>rfl) rfl rfl hm31 (du (du (du (du (du lg))))) gF (bg (ak ?_)))))))
   obtain rfl:=osi hq13
   exact aO ((a3,c4,x2.length),(x2.set x6.toNat (⟨m31.ID,m31.Code,m31.Country,m31.Price,m31.Obtained,p1.Processes,m31.Inputs⟩:Za))) (j6 rfl) eF rfl
  refine ae ?_
  refine ah [101] [(100,pB (x7 == 6))] (by kernel_rfl) (cO rfl hq13 (fun hc33 hq13=>?_) fun hc33 hq13=>?_)
  ·refine aa hq13 ?_;clear hq13;intro m34 hm34 hq13
   refine ag (aw 4 [(102,pO a3 x2.length c4),(103,pI x6),(104,pO a3 x2.length c4),(105,pI x6)] (by kernel_rfl) (bG rfl rfl rfl (ce (enc:=Za.enc) (xs:=x2) rfl rfl rfl (.p rfl) gw (.p rfl) (fun _=>hm34)) (aw 1 [(107,pP (gM a3) (x6.toNat * 7+4))] (by kernel_rfl) (bG rfl rfl rfl (dm (sz:=7) (p:=pB m34.Obtained) (enc:=Za.enc) (xs:=x2) (a:=a3) x6 4 m34 rfl (.p rfl) rfl gw (fun _=>hm34) rfl) (aa hq13 fun m35 hm35 hq13=>aw 1 [(109,pB (!m34.Obtained))] (by kernel_rfl) (bG rfl rfl rfl (ce (enc:=Za.enc) (xs:=x2) rfl rfl rfl (.p rfl) gw (.p rfl) (fun _=>hm35)) (aw 1 [(111,pP (gM a3) (x6.toNat * 7+4))] (by kernel_rfl) (bR rfl rfl (bU (enc:=Za.enc) (xs:=x2) (a:=a3) x6 4 m35 (⟨m35.ID,m35.Code,m35.Country,m35.Price,(!m34.Obtained),m35.Processes,m35.Inputs⟩:Za) rfl rfl rfl rfl (fun _=>rfl) rfl rfl hm35 (du (du (du (du lg)))) gF (bg (ak ?_)))))))))))
   obtain rfl:=osi hq13
   exact aO ((a3,c4,x2.length),(x2.set x6.toNat (⟨m35.ID,m35.Code,m35.Country,m35.Price,(!m34.Obtained),m35.Processes,m35.Inputs⟩:Za))) (j6 rfl) eF rfl
  refine ae ?_
  refine ah [113] [(112,pB (x7 == 7))] (by kernel_rfl) (cO rfl hq13 (fun hc37 hq13=>?_) fun hc37 hq13=>?_)
  ·refine ag ?_
   refine aw 2 [(114,pO a3 x2.length c4),(115,pI x6)] (by kernel_rfl) (aA rfl (bT rfl rfl rfl rfl rfl iM rfl rfl rfl rfl (fun b38=>aa hq13 fun m40 hm40 hq13=>aw 2 [(117,pO a3 x2.length c4),(118,pI x6)] (by kernel_rfl) (bG rfl rfl rfl (ce (enc:=Za.enc) (xs:=x2) rfl rfl rfl (.p rfl) qW (.p rfl) (fun _=>hm40)) (aw 1 [(120,pP (gM a3) (x6.toNat * 7+6))] (by kernel_rfl) (bG rfl rfl rfl (dm (sz:=7) (p:=pL Zb.enc m40.Inputs) (enc:=Za.enc) (xs:=x2) (a:=a3) x6 6 m40 rfl (.p rfl) rfl qW (fun _=>hm40) rfl) (aa hq13 fun l41 hl41 hq13=>?_)))))))
   refine aA rfl (hX (enc:=Zb.enc) rfl rfl rfl rfl rfl (fun _=>rfl) rfl rfl rfl (by exact bf) hl41 (fun a42 c43=>?_))
   refine aa hq13 fun x45 hx45 hq13=>bj 6 [] (rg 123 5) [(128,.agg [pI (IntKind.i64.wrap (3*x45)),pI (gT .i64 p4 8)])] (dD 1 (dd hx45) cf) (by kernel_rfl) (aA rfl (bT rfl rfl rfl rfl rfl (ga rfl iM) rfl rfl rfl rfl (fun b46=>aa hq13 fun l48 hl48 hq13=>?_)))
   refine aA rfl (cx (enc:=Zb.enc) rfl rfl rfl rfl rfl rfl rfl rfl rfl gw (by exact bc bf) hl48 (fun a49 c50=>?_))
   refine aa hq13 fun m52 hm52 hq13=>bG rfl rfl rfl (ce (enc:=Za.enc) (xs:=x2) rfl rfl rfl (.p rfl) zm2 (.p rfl) (fun _=>hm52)) (aw 1 [(132,pP (gM a3) (x6.toNat * 7+6))] (by kernel_rfl) ?_)
   refine iV (enc:=Zb.enc) (xs:=l48) 130 rfl (by exact bf) ?_
   refine bR rfl rfl (bU (enc:=Za.enc) (xs:=x2) (a:=a3) x6 6 m52 (⟨m52.ID,m52.Code,m52.Country,m52.Price,m52.Obtained,m52.Processes,l48⟩:Za) rfl rfl rfl rfl (fun _=>rfl) rfl rfl hm52 (du (du (du (du (du (du lg)))))) (jj (jj gF)) (bg (ak ?_)))
   obtain rfl:=osi hq13
   exact aO ((a3,c4,x2.length),(x2.set x6.toNat (⟨m52.ID,m52.Code,m52.Country,m52.Price,m52.Obtained,m52.Processes,l48⟩:Za))) (j6 rfl) (cH (bc (bc bf)) dr) rfl
  refine ae ?_
  refine ah [134] [(133,pB (x7 == 8))] (by kernel_rfl) (cO rfl hq13 (fun hc54 hq13=>?_) fun hc54 hq13=>?_)
  ·refine dT (enc:=Za.enc) (xs:=x2) 11 rfl (by exact bf) ?_
   refine cw (ρd:=[]) [(1,0),(2,0),(3,0),(5,0),(6,0),(7,0),(8,0),(0,1),(4,1),(9,1),(10,0)] _ (List.Perm.refl _) (by kernel_rfl) rfl (aa hq13 fun l55 hl55 hq13=>aa hq13 fun l56 hl56 hq13=>cn 7 [] [136,137,140,141,142] [(138,pL Za.enc l55),(143,pL Za.enc l56)] (sP 2 Za.enc 7 (fun _=>rfl) hl55 (sP 6 Za.enc 7 (fun _=>rfl) hl56 cf)) (by kernel_rfl) (gb rfl rfl rfl (bT rfl rfl rfl rfl rfl iM rfl rfl rfl rfl (fun b57=>aa hq13 fun l59 hl59 hq13=>?_))))
   refine gb rfl rfl rfl (hX (enc:=Za.enc) rfl rfl rfl rfl rfl (fun _=>rfl) rfl rfl rfl (by exact bf) hl59 (fun a60 c61=>?_))
   refine aa hq13 fun l63 hl63 hq13=>?_
   refine gb rfl rfl rfl (hX (enc:=Za.enc) rfl rfl rfl rfl rfl (fun _=>rfl) rfl rfl rfl (by exact bf) hl63 (fun a64 c65=>?_))
   refine kY 1 [(11,pO a64 l63.length c65)] (by kernel_rfl) (da (ak ?_))
   obtain rfl:=osi hq13
   exact aO ((a64,c65,l63.length),l63) (j6 rfl) eF rfl
  refine ae ?_
  refine ah [146] [(145,pB (x7 == 9))] (by kernel_rfl) (cO rfl hq13 (fun hc67 hq13=>?_) fun hc67 hq13=>?_)
  ·refine dT (enc:=Za.enc) (xs:=x2) 11 rfl (by exact bf) ?_
   refine cw (ρd:=[]) [(1,0),(2,0),(3,0),(5,0),(6,0),(7,0),(8,0),(9,3),(11,0),(12,0),(13,0),(0,1),(4,1),(9,2),(10,1),(14,1),(15,0)] _ (List.Perm.refl _) (by kernel_rfl) rfl (aa hq13 fun l68 hl68 hq13=>aa hq13 fun m69 hm69 hq13=>cn 7 [] [148,149,152,153,154] [(150,pL Za.enc l68),(155,.agg (an m69))] (sP 2 Za.enc 7 (fun _=>rfl) hl68 (eb 5 Za.enc hm69 cf)) (by kernel_rfl) (sA (lK rfl rfl rfl rfl rfl (ga rfl iM) rfl rfl rfl) (aa hq13 fun l70 hl70 hq13=>cn 3 [] [158,159] [(160,pL Za.enc l70)] (sP 2 Za.enc 7 (fun _=>rfl) hl70 cf) (by kernel_rfl) (gb rfl rfl rfl (bT rfl rfl rfl rfl rfl iM rfl rfl rfl rfl (fun b71=>aa hq13 fun l73 hl73 hq13=>?_))))))
   refine gb rfl rfl rfl (hX (enc:=Za.enc) rfl rfl rfl rfl rfl (fun _=>rfl) rfl rfl rfl (by exact bf) hl73 (fun a74 c75=>?_))
   refine nM (lK rfl rfl rfl rfl rfl (ga rfl iM) rfl rfl rfl) (fun _=>rfl) rfl (fun b77=>aa hq13 fun l79 hl79 hq13=>?_)
   refine gb rfl rfl rfl (sy (enc:=Za.enc) rfl rfl rfl rfl rfl (fun _=>rfl) rfl rfl rfl rfl gw rfl (by exact bc bf) hl79 (fun a80 c81=>?_))
   refine aa hq13 fun l83 hl83 hq13=>?_
   refine gb rfl rfl rfl (hX (enc:=Za.enc) rfl rfl rfl rfl rfl (fun _=>rfl) rfl rfl rfl (by exact bf) hl83 (fun a84 c85=>?_))
   refine kY 1 [(11,pO a84 l83.length c85)] (by kernel_rfl) (da (ak ?_))
   obtain rfl:=osi hq13
   exact aO ((a84,c85,l83.length),l83) (j6 rfl) eF rfl
  refine aa hq13 ?_;clear hq13;intro l87 hl87 hq13
  refine hR (Y:=Unit) (fun _=>[(11,pO a3 x2.length c4)]) (fun _=>[PRes.row a3 x2.length c4 26 7 (List.map Za.enc l87)]) (fun _=>True) ?_ ?_
  ·unfold jc at hl87
   refine aa hl87 fun mK hmK hl87=>aa hl87 fun lF hlF hl87=>?_
   rw [ox x2]
   refine jI (enc:=gP) (xs:=dy x2) (a:=a3) gw (fun hlen haddr=>ae (ag (aw 2 [(22,pO a3 x2.length c4),(23,pI x6)] (by kernel_rfl) (bG rfl rfl rfl (ce (enc:=gP) (xs:=dy x2) rfl rfl rfl (.p rfl) gw (.p rfl) (fun _=>fB hmK)) (aw 1 [(25,pP (gM a3) (x6.toNat * 7+6))] (by kernel_rfl) (bR rfl rfl (bU (enc:=gP) (xs:=dy x2) (a:=a3) x6 6 (mK,none) (mK,some (none,0,0)) rfl rfl rfl rfl jb rfl rfl (fB hmK) (du (du (du (du (du (du lg)))))) gF (bg (aq (dC 32 2 (ae (ai [(13,pI 0)] (by kernel_rfl) (aq (am ?_))))))))))))))
   refine aQ (Y:=Option Addr×Nat) (S:=List Zb×Int) _ hlF (fun (a,c) s=>[(11,pO a3 x2.length c4),(12,pI x6),(13,pI s.2)]) (fun (a,c) s=>[PRes.row a3 x2.length c4 26 7 (((dy x2).set x6.toNat (mK,some (a,s.1.length,c))).map gP),PRes.row a s.1.length c 32 2 (s.1.map Zb.enc)]) (none,0) (nT rfl) (cH (bc bf) eF) ?_
   rintro ⟨aI,cI⟩ ⟨lI,vI⟩ o τ hb;(try dsimp only at hb);dsimp only [aG]
   refine ae (ae (ah (rg 26 7) [(33,pB ((decide (vI<(x2.length:Int)))&&(decide (vI<9))))] (by kernel_rfl) (cO rfl hb (fun hcI hb=>?_) fun hcI hb=>?_)))
   ·refine al ?_
    refine aq (aa hb fun xI hxI hb=>aa hb fun lJ hlJ hb=>?_)
    obtain ⟨oI,hyI⟩:=tI (o:=some (aI,lI.length,cI)) hmK hxI
    refine ae (am ?_)
    refine hR (Y:=Option Addr×Nat) (fun (a,c)=>[(11,pO a3 x2.length c4),(12,pI x6),(13,pI vI)]) (fun (a,c)=>[PRes.row a3 x2.length c4 26 7 (((dy x2).set x6.toNat (mK,some (a,lJ.length,c))).map gP),PRes.row a lJ.length c 32 2 (lJ.map Zb.enc)]) (fun _=>True) ?_ ?_
    ·refine lL (ρd:=[PRes.row a3 _ _ _ _ _,PRes.row aI _ _ _ _ _]) _ (List.Perm.refl _) ?_
     refine cD 0 (by kernel_rfl) rfl rfl rfl rfl (dl (p:=pO a3 x2.length c4) rfl (.p rfl)) (cD 1 (by kernel_rfl) rfl rfl rfl rfl (dl (p:=pI x6) rfl (.p rfl)) (cD 2 (by kernel_rfl) rfl rfl rfl rfl (dl (p:=pO a3 x2.length c4) rfl (.p rfl)) (cD 3 (by kernel_rfl) rfl rfl rfl rfl (dl (p:=pI x6) rfl (.p rfl)) (cD 4 (by kernel_rfl) rfl rfl rfl rfl (gg (xs:=dy x2) hlen haddr rfl rfl rfl (.p rfl) (.p rfl) (fun _=>fB hmK)) (cD 5 (by kernel_rfl) rfl rfl rfl rfl (bu rfl rfl rfl rfl rfl (.p rfl)) (cD 7 (by kernel_rfl) rfl rfl rfl rfl (dl (p:=pO a3 x2.length c4) rfl (.p rfl)) (cD 8 (by kernel_rfl) rfl rfl rfl rfl (dl (p:=pI vI) rfl (.p rfl)) (cD 9 (by kernel_rfl) rfl rfl rfl rfl (gg (xs:=dy x2) hlen haddr rfl rfl rfl (.p rfl) (.p rfl) (fun _=>fB hxI)) (cD 10 (by kernel_rfl) rfl rfl rfl rfl (bu rfl rfl rfl rfl rfl (.p rfl)) ?_)))))))))
     refine j5 6 11 (by kernel_rfl) ?_ ?_
     ·skip
      refine bB rfl rfl rfl rfl (nK (dm (enc:=gP) (xs:=(dy x2).set x6.toNat (mK,some (aI,lI.length,cI))) (a:=a3) (p:=pO aI lI.length cI) x6 6 (mK,some (aI,lI.length,cI)) rfl (.p rfl) rfl gw (fun _=>gQ hmK) rfl) (bP 11 (by kernel_rfl) (bB rfl rfl rfl rfl (nK (dm (enc:=gP) (xs:=(dy x2).set x6.toNat (mK,some (aI,lI.length,cI))) (a:=a3) (p:=pI xI.ID) vI 0 (xI,oI) rfl (.p rfl) rfl gw (fun _=>hyI) rfl) (cD 12 (by kernel_rfl) rfl rfl rfl rfl (hU (cs:=[pI xI.ID,pI 0]) rfl rfl rfl rfl rfl rfl rfl (zfc rfl rfl rfl rfl lg zfn)) (bP 13 (by kernel_rfl) (bB rfl rfl rfl rfl (bT rfl rfl rfl rfl rfl (ga rfl iM) rfl rfl rfl rfl (fun bI=>bP 14 (by kernel_rfl) ?_)))))))))
      refine bB rfl rfl rfl rfl (cx (enc:=Zb.enc) rfl rfl rfl rfl rfl rfl rfl rfl rfl gw (by exact bc (bc bf)) hlJ (fun aJ cJ=>?_))
      refine cD 15 (by kernel_rfl) rfl rfl rfl rfl (gg (xs:=dy x2) hlen haddr rfl rfl rfl (.p rfl) (.p rfl) (fun _=>fB hmK)) (cD 16 (by kernel_rfl) rfl rfl rfl rfl (bu rfl rfl rfl rfl rfl (.p rfl)) (bP 17 (by kernel_rfl) (gf rfl rfl rfl (bU (enc:=gP) (xs:=(dy x2).set x6.toNat (mK,some (aI,lI.length,cI))) (a:=a3) x6 6 (mK,some (aI,lI.length,cI)) (mK,some (aJ,lJ.length,cJ)) rfl rfl rfl rfl jb rfl rfl (gQ hmK) (du (du (du (du (du (du lg)))))) (jj (jj gF)) ?_))))
      rw [List.set_set]
      refine gc (by kernel_rfl) ?_
      exact gH (aJ,cJ) (nT rfl) (cH (bc (bc bf)) eF) trivial
     skip
     refine bB rfl rfl rfl rfl (nK (dm (enc:=gP) (xs:=(dy x2).set x6.toNat (mK,some (aI,lI.length,cI))) (a:=a3) (p:=pI xI.ID) vI 0 (xI,oI) rfl (.p rfl) rfl gw (fun _=>hyI) rfl) (cD 12 (by kernel_rfl) rfl rfl rfl rfl (hU (cs:=[pI xI.ID,pI 0]) rfl rfl rfl rfl rfl rfl rfl (zfc rfl rfl rfl rfl lg zfn)) ?_))
     refine j5 6 13 (by kernel_rfl) ?_ ?_
     ·skip
      refine bB rfl rfl rfl rfl (nK (dm (enc:=gP) (xs:=(dy x2).set x6.toNat (mK,some (aI,lI.length,cI))) (a:=a3) (p:=pO aI lI.length cI) x6 6 (mK,some (aI,lI.length,cI)) rfl (.p rfl) rfl gw (fun _=>gQ hmK) rfl) (bP 13 (by kernel_rfl) (bB rfl rfl rfl rfl (bT rfl rfl rfl rfl rfl (ga rfl iM) rfl rfl rfl rfl (fun bI=>bP 14 (by kernel_rfl) ?_)))))
      refine bB rfl rfl rfl rfl (cx (enc:=Zb.enc) rfl rfl rfl rfl rfl rfl rfl rfl rfl gw (by exact bc (bc bf)) hlJ (fun aJ cJ=>?_))
      refine cD 15 (by kernel_rfl) rfl rfl rfl rfl (gg (xs:=dy x2) hlen haddr rfl rfl rfl (.p rfl) (.p rfl) (fun _=>fB hmK)) (cD 16 (by kernel_rfl) rfl rfl rfl rfl (bu rfl rfl rfl rfl rfl (.p rfl)) (bP 17 (by kernel_rfl) (gf rfl rfl rfl (bU (enc:=gP) (xs:=(dy x2).set x6.toNat (mK,some (aI,lI.length,cI))) (a:=a3) x6 6 (mK,some (aI,lI.length,cI)) (mK,some (aJ,lJ.length,cJ)) rfl rfl rfl rfl jb rfl rfl (gQ hmK) (du (du (du (du (du (du lg)))))) (jj (jj gF)) ?_))))
      rw [List.set_set]
      refine gc (by kernel_rfl) ?_
      exact gH (aJ,cJ) (nT rfl) (cH (bc (bc bf)) eF) trivial
     skip
     refine bB rfl rfl rfl rfl (bT rfl rfl rfl rfl rfl (ga rfl iM) rfl rfl rfl rfl (fun bI=>bP 6 (by kernel_rfl) (bB rfl rfl rfl rfl (nK (dm (enc:=gP) (xs:=(dy x2).set x6.toNat (mK,some (aI,lI.length,cI))) (a:=a3) (p:=pO aI lI.length cI) x6 6 (mK,some (aI,lI.length,cI)) rfl (.p rfl) rfl qW (fun _=>gQ hmK) rfl) (bP 14 (by kernel_rfl) ?_)))))
     refine bB rfl rfl rfl rfl (cx (enc:=Zb.enc) rfl rfl rfl rfl rfl rfl rfl rfl rfl gw (by exact bc (bc bf)) hlJ (fun aJ cJ=>?_))
     refine cD 15 (by kernel_rfl) rfl rfl rfl rfl (gg (xs:=dy x2) hlen haddr rfl rfl rfl (.p rfl) (.p rfl) (fun _=>fB hmK)) (cD 16 (by kernel_rfl) rfl rfl rfl rfl (bu rfl rfl rfl rfl rfl (.p rfl)) (bP 17 (by kernel_rfl) (gf rfl rfl rfl (bU (enc:=gP) (xs:=(dy x2).set x6.toNat (mK,some (aI,lI.length,cI))) (a:=a3) x6 6 (mK,some (aI,lI.length,cI)) (mK,some (aJ,lJ.length,cJ)) rfl rfl rfl rfl jb rfl rfl (gQ hmK) (du (du (du (du (du (du lg)))))) (jj (jj gF)) ?_))))
     rw [List.set_set]
     refine gc (by kernel_rfl) ?_
     exact gH (aJ,cJ) (nT rfl) (cH (bc (bc bf)) eF) trivial
    rintro ⟨aJ,cJ⟩ τ ρ1 hsub _;dsimp only [aG];(try dsimp only at hsub)
    refine ak (aq (ah [34,35] [(13,pI (IntKind.i64.wrap (vI+1)))] (by kernel_rfl) ?_))
    exact bd hb (aJ,cJ) (nT rfl) (PSub.trans mD hsub)
   refine p9 (css:=List.map Zb.enc lI) (a:=aI) (by exact bc bf) ?_
   refine oy (xs:=lI) (enc:=Zb.enc) (k:=6) (a:=aI) (A:=a3) (tJ hmK) rfl gw tK (jj gF) (aT (ar (ap hb (fun ht=>?_))))
   subst ht
   refine au rfl ?_
   obtain rfl:=osi hl87
   exact gH () (j6 rfl) (cH (bc bf) dr) trivial
  rintro _ τ ρ1 hsub89 _;(try dsimp only at hsub89);dsimp only [aG]
  refine ak ?_
  obtain rfl:=osi hq13
  exact aO ((a3,c4,x2.length),l87) (j6 rfl) (PSub.trans eF hsub89) rfl
 rintro ⟨⟨a9,c10,n12⟩,l11⟩ τ hz;(try dsimp only at hz);subst q13;(try dsimp only at h);dsimp only [aG]
 refine jI (enc:=Za.enc) (xs:=l11) (a:=a9) gw (fun hl90 ha91=>?_);subst hl90;clear ha91
 refine ae (ag (aw 1 [(162,pO a9 l11.length c10)] (by kernel_rfl) ?_))
 refine iV (enc:=Za.enc) (xs:=l11) 162 rfl (by exact bf) ?_
 refine aa h fun x92 hx92 h=>bj 2 [] [] [(163,pI x92),(164,pO a9 l11.length c10)] (dD 0 (ea hx92) cf) (by kernel_rfl) (nH (enc:=Za.enc) (xs:=l11) 164 rfl gw (aa h fun x93 hx93 h=>aa h fun x94 hx94 h=>fb [] (rg 165 5) [(10,pB ((x92 == x93)&&x94))] (dD 0 (lu hx93) (hY 3 (fun hc=>k9 (cW hx94 hc)) cf)) (by kernel_rfl) (cN ?_)))
 exact zz r h rfl
end SX
end Go.Proofs.YthbphcbhedmnoaaDoor
set_option maxRecDepth 100000
namespace Go.Proofs.YthbphcbhedmnoaaDoor
namespace SX
open Go
section
variable {γ:Type} [Inhabited γ]
end
def lh (a b:ByteArray):Bool:=Op.bytesLess a.toList b.toList
theorem ltS_eq (a b:ByteArray):lh a b=decide (a.data.toList<b.data.toList):=by
 unfold lh;rw [bytesLess_eq,ByteArray.toList_eq,ByteArray.toList_eq]
end SX
end Go.Proofs.YthbphcbhedmnoaaDoor
set_option maxRecDepth 100000
namespace Go.Proofs.YthbphcbhedmnoaaDoor
namespace SX
open Go
end SX
end Go.Proofs.YthbphcbhedmnoaaDoor
set_option maxRecDepth 100000
namespace Go.Proofs.YthbphcbhedmnoaaDoor
namespace SX
open Go
theorem lV {S T:Type} {body:S→Option (S⊕T)} (P:S→Prop) (μ:S→Nat) (Q:T→Prop) (step:∀ s,P s→(∃ s',body s=some (.inl s')∧P s'∧μ s'<μ s)∨∃ t,body s=some (.inr t)∧Q t):∀ (N:Nat) (s:S),P s→μ s<N→∃ t,bh body N s=some t∧Q t:=by
 intro N
 induction N with
 | zero=>intro s _ h;exact absurd h (Nat.not_lt_zero _)
 | succ N ih =>
  intro s hp hm
  rw [er]
  rcases step s hp with ⟨s',h1,h2,h3⟩ | ⟨t,h1,h2⟩
  ·rw [h1];exact ih s' h2 (by omega)
  rw [h1];exact ⟨t,rfl,h2⟩
theorem ix0 {α:Type} {a b:α}:idx [a,b] 0=some a:=rfl
theorem ix1 {α:Type} {a b:α}:idx [a,b] 1=some b:=rfl
theorem cap_eq (c:Int):bN c=some (decide (65≤c)&&decide (c≤90)):=rfl
def jW (s:ByteArray):Bool:=match s.data.toList with | [a,b]=>decide (65≤(a.toNat:Int))&&decide ((a.toNat:Int)≤90)&&decide (65≤(b.toNat:Int))&&decide ((b.toNat:Int)≤90) | _=>false
theorem oz {s:ByteArray} (h:((s.size:Int) == 2)=true):∃ a b,s.data.toList=[a,b]:=by
 have h2:s.data.toList.length=2:=by
  have:=eq_of_beq h
  rw [Array.length_toList];have e:s.size=s.data.size:=rfl;omega
 match hd:s.data.toList,h2 with
 | [a,b],_=>exact ⟨a,b,rfl⟩
theorem qy {s:ByteArray} (h:((s.size:Int) == 2)=false):jW s=false:=by
 unfold jW
 split
 ·rename_i a b hd
  have e:s.size=s.data.toList.length:=by rw [Array.length_toList];rfl
  rw [hd] at e
  have e2:(s.size:Int)=2:=by rw [e];rfl
  rw [e2] at h;cases h
 rfl
theorem lv (s:ByteArray):bq s=some (jW s):=by
 unfold bq
 cases h:((s.size:Int) == 2)
 ·rw [qy h];rfl
 obtain ⟨a,b,hd⟩:=oz h
 simp only [Bool.true_and,dw,cap_eq]
 rw [hd]
 simp only [jW,hd]
 rw [qm ix0]
 simp only [ed]
 cases h1:(decide (65≤(a.toNat:Int))&&decide ((a.toNat:Int)≤90))
 ·rfl
 simp only [dw,Bool.true_and];rw [qm ix1];rfl
theorem oA (s:ByteArray):cY s=some (jW s):=by
 unfold cY
 cases h:((s.size:Int) == 2)
 ·rw [qy h];rfl
 obtain ⟨a,b,hd⟩:=oz h
 simp only [Bool.true_and,dw]
 rw [hd]
 simp only [jW,hd]
 rw [qm ix0]
 cases h1:decide (65≤(a.toNat:Int))
 ·rfl
 simp only [dw,Bool.true_and];rw [qm ix0]
 cases h2:decide ((a.toNat:Int)≤90)
 ·rfl
 simp only [dw,Bool.true_and];rw [qm ix1]
 cases h3:decide (65≤(b.toNat:Int))
 ·rfl
 simp only [dw,Bool.true_and];rw [qm ix1]
theorem rl (s:ByteArray) (hs:s.size≤140737488355328):dI s=some (bW s):=by
 have hz:s.size=s.data.toList.length:=by rw [Array.length_toList];rfl
 unfold dI
 obtain ⟨t,h5,h6⟩:=lV (body:=fun v1=>cond (decide (v1<(s.size:Int))) (Option.bind (idx s.data.toList v1) (fun c5=>Option.bind (gd (!(decide ((c5.toNat:Int)<48))) (idx s.data.toList v1)) (fun c6=>cond ((decide ((c5.toNat:Int)<48))||(decide (57<(c6.toNat:Int)))) (some (.inr (.inr 0))) (some (.inl (IntKind.i64.wrap (v1+1))))))) (some (.inr (.inl ()))))
  (fun v:Int=>0≤v∧v≤s.size∧∀ j,(h:j<s.data.toList.length)→(j:Int)<v→d7 (s.data.toList[j]).toNat=true) (fun v=>(s.size:Int).toNat - v.toNat) (fun t:Unit⊕Int=>(t=.inl ()∧eC s=true)∨(t=.inr 0∧eC s=false))
  (fun v hv=>by
   obtain ⟨a1,a2,a3⟩:=hv
   by_cases hl:v<(s.size:Int)
   ·rw [det hl];simp only [ee]
    obtain ⟨k,rfl⟩:∃ k:Nat,v=(k:Int):=⟨v.toNat,by omega⟩
    have hk:k<s.data.toList.length:=by omega
    rw [qm (cy hk)]
    by_cases hd:d7 (s.data.toList[k]).toNat=true
    ·left
     have hd2:=hd
     simp only [d7,decide_eq_true_eq] at hd2
     rw [iz (show ¬ ((s.data.toList[k].toNat:Nat):Int)<48 by omega)]
     simp only [Bool.not_false,dw,Bool.false_or]
     rw [qm (cy hk),iz (show ¬ 57<((s.data.toList[k].toNat:Nat):Int) by omega)]
     simp only [fm]
     rw [fF (by omega) (by omega)]
     refine ⟨_,rfl,⟨by omega,by omega,fun j h1 h2=>?_⟩,by omega⟩
     by_cases hj:j=k
     ·subst hj;exact hd
     exact a3 j h1 (by omega)
    right
    refine ⟨.inr 0,?_,.inr ⟨rfl,?_⟩⟩
    ·have hd2:=hd
     simp only [d7,decide_eq_true_eq] at hd2
     by_cases h48:((s.data.toList[k].toNat:Nat):Int)<48
     ·rw [det h48];rfl
     rw [iz h48]
     simp only [Bool.not_false,dw,Bool.false_or]
     rw [qm (cy hk),det (show 57<((s.data.toList[k].toNat:Nat):Int) by omega)];rfl
    cases ha:eC s
    ·rfl
    exfalso;apply hd
    unfold eC bl at ha
    exact List.all_eq_true.1 ha _ (List.getElem_mem hk)
   right
   rw [iz hl]
   refine ⟨.inl (),rfl,.inl ⟨rfl,?_⟩⟩
   unfold eC bl
   rw [List.all_eq_true]
   intro c hc
   obtain ⟨j,hj,rfl⟩:=List.getElem_of_mem hc
   exact a3 j hj (by omega))
  FUEL 0 ⟨by omega,by omega,fun j _ h=>by omega⟩ (i6 (by omega))
 rw [qm h5]
 unfold bW
 rcases h6 with ⟨rfl,h⟩ | ⟨rfl,h⟩
 ·simp only [h,and_true]
  by_cases h8:(8:Int)<(s.size:Int)
  ·rw [det h8,if_neg (by omega)];rfl
  rw [iz h8]
  simp only [Bool.false_or]
  have e:Int.tmod (s.size:Int) 2=(s.size:Int) % 2:=Int.tmod_eq_emod_of_nonneg (by omega)
  rw [e]
  by_cases hp:(s.size:Int) % 2=1
  ·rw [hp,if_neg (by omega)];rfl
  have:((s.size:Int) % 2 == 1)=false:=by simpa using hp
  rw [this]
  by_cases h0:s.size=0
  ·rw [if_neg (by omega),h0];rfl
  rw [if_pos (by omega)];rfl
 simp [h]
theorem jz (s:ByteArray):s.size=s.data.toList.length:=by rw [Array.length_toList];rfl
def iJ (c:UInt8):Bool:=decide (97≤c.toNat)&&decide (c.toNat≤122)
def fC (s:ByteArray):Bool:=decide (1≤s.size)&&decide (s.size≤12)&&s.data.toList.all iJ
theorem tL (s:ByteArray) (hs:s.size≤140737488355328):fy s=some (fC s):=by
 unfold fy fC
 have hz:=jz s
 rw [hz] at hs ⊢
 generalize s.data.toList=l at hs ⊢
 refine (dn (l:=l) (by omega) (fun _ c=>cond (iJ c) none (some (.inr false))) (.inl ()) (fun k hk=>?_) (by simp only [mR,fm])).trans ?_
 ·simp only [dlt hk,ee,cy hk,ed,i7 hk (show l.length≤4611686018427387904 by omega),iJ]
  generalize l[k]=c
  by_cases h1:c.toNat<97
  ·rw [show decide ((c.toNat:Int)<97)=true from det (by omega),show decide (97≤c.toNat)=false from iz (by omega)];rfl
  rw [show decide ((c.toNat:Int)<97)=false from iz (by omega),show decide (97≤c.toNat)=true from det (by omega)]
  simp only [Bool.not_false,dw,ed,Bool.false_or,Bool.true_and]
  by_cases h2:122<c.toNat
  ·rw [show decide ((122:Int)<(c.toNat:Int))=true from det (by omega),show decide (c.toNat≤122)=false from iz (by omega)];rfl
  rw [show decide ((122:Int)<(c.toNat:Int))=false from iz (by omega),show decide (c.toNat≤122)=true from det (by omega)];rfl
 rw [lR]
 have i1:decide ((1:Int)≤(l.length:Int))=decide (1≤l.length):=decide_eq_decide.2 (by omega)
 have i2:decide ((l.length:Int)≤(12:Int))=decide (l.length≤12):=decide_eq_decide.2 (by omega)
 cases l.all iJ
 ·simp
 simp [i1,i2]
theorem rm (s:ByteArray) (hs:s.size≤140737488355328):d8 s=some (fC s):=by
 unfold d8 fC
 have i1:decide ((s.size:Int)<1) = !decide (1≤s.size):=by rw [← decide_not];exact decide_eq_decide.2 (by omega)
 have i2:decide ((12:Int)<(s.size:Int)) = !decide (s.size≤12):=by rw [← decide_not];exact decide_eq_decide.2 (by omega)
 rw [i1,i2]
 cases h1:decide (1≤s.size)
 ·rfl
 cases h2:decide (s.size≤12)
 ·rfl
 simp only [Bool.not_true,Bool.or_self,fm,Bool.true_and]
 have key:∀ n pos N,s.size - pos=n→pos≤s.size→n<N→bh (dL s) N pos=some ((s.data.toList.drop pos).all iJ):=by
  intro n
  induction n with
  | zero =>
   intro pos N hn hp hN
   obtain ⟨N,rfl⟩:∃ M,N=M+1:=⟨N - 1,by omega⟩
   have:Nat.blt pos s.size=false:=by cases hb:Nat.blt pos s.size;rfl;simp [Nat.blt] at hb;omega
   rw [er,dL,this]
   rw [List.drop_of_length_le (by rw [← jz];omega)];rfl
  | succ n ih =>
   intro pos N hn hp hN
   obtain ⟨N,rfl⟩:∃ M,N=M+1:=⟨N - 1,by omega⟩
   have hlt:pos<s.size:=by omega
   have hb:Nat.blt pos s.size=true:=by simp [Nat.blt];omega
   have hlt2:pos<s.data.toList.length:=by rw [← jz];exact hlt
   have hget:s[pos]=s.data.toList[pos]:=by
    rw [Array.getElem_toList];rfl
   rw [er,dL,hb,List.drop_eq_getElem_cons hlt2,List.all_cons,← hget]
   by_cases ha:(s[pos]'hlt).toNat<128
   ·rw [decode_ascii s pos hlt ha]
    simp only [ee,iJ]
    by_cases h1:(s[pos]'hlt).toNat<97
    ·rw [show decide (((s[pos]'hlt).toNat:Int)<97)=true from det (by omega),show decide (97≤(s[pos]'hlt).toNat)=false from iz (by omega)];rfl
    by_cases h2:122<(s[pos]'hlt).toNat
    ·rw [show decide ((122:Int)<((s[pos]'hlt).toNat:Int))=true from det (by omega),show decide ((s[pos]'hlt).toNat≤122)=false from iz (by omega),Bool.or_true,Bool.and_false];rfl
    rw [iz (by omega),iz (by omega),det (Nat.not_lt.1 h1),det (Nat.not_lt.1 h2)]
    exact ih (pos+1) N (by omega) (by omega) (by omega)
   have hh:=decode_high s pos hlt (by omega)
   have h122:¬ (s[pos]'hlt).toNat≤122:=by omega
   have:decide (122<((Utf8.decode s pos).1:Int))=true:=det (by omega)
   simp [this,iJ,h122]
 have:=key s.size 0 FUEL (by omega) (by omega) (i6 (by omega))
 rw [this,List.drop_zero]
def gX (lt:ByteArray→ByteArray→Bool):List ByteArray→Bool
 | []=>true
 | [_]=>true
 | a::b::l=>lt a b&&gX lt (b::l)
def jd (p:ByteArray→Bool) (l:List ByteArray) (k:Nat) (x:ByteArray):Bool:=p x&&(!decide (0<k)||lh (l.getD (k - 1) x) x)
theorem oB (p:ByteArray→Bool) (l:List ByteArray):(∀ i x,l[i]?=some x→jd p l i x=true)↔(l.all p&&gX lh l)=true:=by
 have key:∀ (l:List ByteArray),(∀ i,(h:i+1<l.length)→lh l[i] l[i+1]=true)↔gX lh l=true:=by
  intro l
  induction l with
  | nil=>simp [gX]
  | cons a l ih =>
   cases l with
   | nil=>simp [gX]
   | cons b l =>
    rw [gX,Bool.and_eq_true,← ih]
    constructor
    ·intro h;exact ⟨h 0 (by simp),fun i hi=>h (i+1) (by simpa using hi)⟩
    rintro ⟨h1,h2⟩ i hi
    cases i with
    | zero=>exact h1
    | succ i=>exact h2 i (by simpa using hi)
 rw [Bool.and_eq_true,← key,List.all_eq_true]
 constructor
 ·intro h
  refine ⟨fun x hx=>?_,fun i hi=>?_⟩
  ·obtain ⟨i,hi,rfl⟩:=List.getElem_of_mem hx
   have:=h i _ (List.getElem?_eq_getElem hi)
   simp only [jd,Bool.and_eq_true] at this
   exact this.1
  have:=h (i+1) _ (List.getElem?_eq_getElem hi)
  simp only [jd,Bool.and_eq_true,Nat.zero_lt_succ,decide_true,Bool.not_true,Bool.false_or,Nat.add_sub_cancel] at this
  rw [fN (by omega)] at this
  exact this.2
 rintro ⟨h1,h2⟩ i x hx
 obtain ⟨hi,rfl⟩:=List.getElem?_eq_some_iff.1 hx
 simp only [jd,h1 _ (List.getElem_mem hi),Bool.true_and]
 by_cases h0:0<i
 ·rw [det h0,Bool.not_true,Bool.false_or,fN (by omega)]
  obtain ⟨j,rfl⟩:∃ j,i=j+1:=⟨i - 1,by omega⟩
  exact h2 j hi
 simp [h0]
theorem lW {T:Type} (p:ByteArray→Bool) (l:List ByteArray) (t:T):bA (fun k x=>cond (jd p l k x) none (some t)) l 0=cond (l.all p&&gX lh l) none (some t):=by
 have hn:=iH (g:=fun k x=>cond (jd p l k x) none (some t)) (l:=l) (k:=0)
 cases h:(l.all p&&gX lh l)
 ·cases hf:bA (fun k x=>cond (jd p l k x) none (some t)) l 0 with
  | none =>
   exfalso
   have:(l.all p&&gX lh l)=true:=by
    rw [← oB]
    intro i x hx
    have:=hn.1 hf i x hx
    rw [Nat.zero_add] at this
    cases hk:jd p l i x
    ·rw [hk] at this;cases this
    rfl
   rw [h] at this;cases this
  | some u =>
   have:∀ (m:List ByteArray) (k:Nat) (u:T),bA (fun k x=>cond (jd p l k x) none (some t)) m k=some u→u=t:=by
    intro m
    induction m with
    | nil=>intro k u h;cases h
    | cons x m ih =>
     intro k u h
     rw [bA] at h
     cases hk:jd p l k x
     ·rw [hk] at h;injection h with h;exact h.symm
     rw [hk] at h;exact ih _ _ h
   rw [this _ _ _ hf];rfl
 rw [ee,hn]
 intro i x hx
 rw [Nat.zero_add,(oB p l).2 h i x hx];rfl
def eX (l:List ByteArray):Bool:=decide (l.length≤8)&&(l.all fC&&gX lh l)
def StrsOk (l:List ByteArray):Prop:=l.length≤140737488355328∧∀ s∈l,s.size≤140737488355328
theorem pF (l:List ByteArray) (hl:StrsOk l):cG l=some (eX l):=by
 obtain ⟨hl,hs⟩:=hl
 unfold cG eX
 have i2:decide ((8:Int)<(l.length:Int)) = !decide (l.length≤8):=by rw [← decide_not];exact decide_eq_decide.2 (by omega)
 rw [i2]
 cases decide (l.length≤8)
 ·rfl
 simp only [Bool.not_true,fm,Bool.true_and]
 refine (dn (l:=l) (by omega) (fun k x=>cond (jd fC l k x) none (some (.inr false))) (.inl ()) (fun k hk=>?_) (by simp only [mR,fm])).trans ?_
 ·have h62:l.length≤4611686018427387904:=by omega
  simp only [dlt hk,ee,cy hk,ed,rm _ (hs _ (List.getElem_mem hk)),d0k,i7 hk h62,jd]
  cases hw:fC l[k]
  ·rfl
  by_cases h0:0<k
  ·simp only [h0,decide_true,Bool.not_true,Bool.not_false,Bool.and_true,Bool.true_and,Bool.false_or,dw,gn h0 hk h62,ed,fN (show k - 1<l.length by omega),lh,str_tot]
   cases Op.bytesLess (l[k-1]'(by omega)).toList l[k].toList <;> rfl
  simp only [h0,decide_false,Bool.and_false,lQ,ed,Bool.not_true,Bool.false_or,Bool.false_and,fm,Bool.not_false,Bool.true_and,Bool.true_or,Bool.or_false];rfl
 rw [lW]
 cases (l.all fC&&gX lh l) <;> rfl
end SX
end Go.Proofs.YthbphcbhedmnoaaDoor
set_option maxRecDepth 100000
namespace Go.Proofs.YthbphcbhedmnoaaDoor
namespace SX
open Go
theorem len0' {α:Type} (l:List α):decide (0<(l.length:Int)) = !l.isEmpty:=by cases l with
 | nil=>rfl
 | cons a l=>exact det (by rw [List.length_cons];omega)
end SX
end Go.Proofs.YthbphcbhedmnoaaDoor
set_option maxRecDepth 100000
namespace Go.Proofs.YthbphcbhedmnoaaDoor
namespace SX
open Go
theorem gu {α T U:Type} (f:T→U) (g:Nat→α→Option T):∀ (m:List α) (i:Nat),bA (fun k x=>(g k x).map f) m i=(bA g m i).map f
 | [],_=>rfl
 | x::m,i=>by rw [bA,bA];cases g i x with | none=>exact gu f g m _ | some t=>rfl
end SX
end Go.Proofs.YthbphcbhedmnoaaDoor
set_option maxRecDepth 100000
namespace Go.Proofs.YthbphcbhedmnoaaDoor
namespace SX
open Go
def Y {α:Type} (x:Option α) (P:α→Prop):Prop:=∃ a,x=some a∧P a
section
variable {α β S T:Type} {x y:Option α} {P P':α→Prop} {Q:β→Prop} {f:α→Option β} {a:α} {c:Bool}
theorem Y.bind (h:Y x P) (k:∀ a,P a→Y (f a) Q):Y (x.bind f) Q:=by
 obtain ⟨a,h1,h2⟩:=h;rw [h1];exact k a h2
theorem Y.ret (h:P a):Y (some a) P:=⟨a,rfl,h⟩
theorem Y.mono (h:Y x P) (k:∀ a,P a→P' a):Y x P':=by obtain ⟨a,h1,h2⟩:=h;exact ⟨a,h1,k a h2⟩
theorem Y.cond (h:c=true→Y x P) (k:c=false→Y y P):Y (cond c x y) P:=by cases c;exact k rfl;exact h rfl
theorem Y.eq {r:α} (h:x=some r) (k:Y (f r) Q):Y (x.bind f) Q:=by rw [h];exact k
theorem Y.loop {body:S→Option (S⊕T)} {R:T→Prop} {s:S} (I:S→Prop) (μ:S→Nat) (h0:I s) (hm:μ s≤1267650600228229401496703205000) (step:∀ s,I s→Y (body s) (fun o=>match o with | .inl s'=>I s'∧μ s'<μ s | .inr t=>R t)):Y (bh body FUEL s) R:=by
 obtain ⟨t,h1,h2⟩:=lV (body:=body) I μ R (fun s hs=>by
  obtain ⟨o,k1,k2⟩:=step s hs
  cases o with
  | inl s'=>exact .inl ⟨s',k1,k2⟩
  | inr t=>exact .inr ⟨t,k1,k2⟩) FUEL s h0 (i6 hm)
 exact ⟨t,h1,h2⟩
theorem Y.idx {xs:List α} {i:Int} {n:Nat} (h:i=(n:Int)) (hn:n<xs.length) (k:Y (f xs[n]) Q):Y ((idx xs i).bind f) Q:=by subst h;rw [cy hn];exact k
theorem Y.gdp [Inhabited α] {z:Option (α×β)} {m:β} {R:α×β→Prop} (h:c=true→Y z R) (k:c=false→R (default,m)):Y (gdp c z m) R:=by
 cases c
 ·exact ⟨_,rfl,k rfl⟩
 exact h rfl
end
theorem lX (a n:Int) (h1:1≤n) (h2:n≤4611686018427387904):∃ r,cd a n=some r∧0≤r∧r<n:=by
 have hl:=Int.tmod_lt_of_pos a (show 0<n by omega)
 have hl2:=Int.tmod_lt_of_pos (-a) (show 0<n by omega)
 rw [Int.neg_tmod] at hl2
 unfold cd nz lb
 rw [if_neg (by omega),fF (by omega) (by omega)]
 exact ⟨_,rfl,Int.tmod_nonneg _ (by omega),Int.tmod_lt_of_pos _ (by omega)⟩
def SOK (p:Zc):Prop:=0≤p.I∧p.I≤p.L.length∧p.L.length≤1000000000000000
theorem next_ok {p:Zc} (hp:SOK p) (n:Int) (h1:1≤n) (h2:n≤4611686018427387904):∃ r q,aE p n=some (r,q)∧0≤r∧r<n∧SOK q:=by
 obtain ⟨a1,a2,a3⟩:=hp
 unfold aE
 by_cases h:(p.L.length:Int)≤p.I
 ·rw [det h];exact ⟨_,_,rfl,by omega,by omega,a1,a2,a3⟩
 rw [iz h,fF (r:=p.I+1) (by omega) (by omega),fF (by omega) (by omega)]
 simp only [fm]
 have e:idx p.L (p.I+1 - 1)=some (p.L[p.I.toNat]'(by omega)):=by
  unfold idx;rw [if_pos (by omega)]
  have:(p.I+1 - 1).toNat=p.I.toNat:=by omega
  rw [this];exact List.getElem?_eq_getElem _
 rw [qm e]
 obtain ⟨r,h3,h4,h5⟩:=lX (p.L[p.I.toNat]'(by omega)) n h1 h2
 rw [qm h3]
 exact ⟨_,_,rfl,h4,h5,by simp only;omega,by simp only;omega,a3⟩
theorem cut_ok (l:List Int) (n:Int) (h:0≤n) (h2:n≤1000):∃ m,gp l n=some m∧(m.length:Int)≤n:=by
 unfold gp
 by_cases h1:n<(l.length:Int)
 ·rw [det h1]
  have e:sub l 0 n=some ((l.take n.toNat).drop 0):=by unfold sub;rw [if_pos (by omega)];rfl
  simp only [ee];rw [qm e];exact ⟨_,rfl,by simp;omega⟩
 rw [iz h1];exact ⟨_,rfl,by omega⟩
theorem je (a n:Int) (h1:1≤n) (h2:n≤4611686018427387904):Y (cd a n) (fun r=>0≤r∧r<n):=lX a n h1 h2
theorem fD {p:Zc} (hp:SOK p) (n:Int) (h1:1≤n) (h2:n≤4611686018427387904):Y (aE p n) (fun r=>0≤r.1∧r.1<n∧SOK r.2):=by
 obtain ⟨r,q,h3,h4,h5,h6⟩:=next_ok hp n h1 h2;exact ⟨(r,q),h3,h4,h5,h6⟩
theorem cut_Y (l:List Int) (n:Int) (h:0≤n) (h2:n≤1000):Y (gp l n) (fun m=>SOK ⟨m,0⟩):=by
 obtain ⟨m,h3,h4⟩:=cut_ok l n h h2
 exact ⟨m,h3,by dsimp only;omega,by dsimp only;omega,by dsimp only;omega⟩
end SX
end Go.Proofs.YthbphcbhedmnoaaDoor
set_option maxRecDepth 100000
namespace Go.Proofs.YthbphcbhedmnoaaDoor
namespace SX
open Go
theorem ltS_tr (x y z:ByteArray) (h1:lh x y=true) (h2:lh y z=true):lh x z=true:=by
 rw [ltS_eq] at *;exact det (List.lt_trans (of_decide_eq_true h1) (of_decide_eq_true h2))
theorem jf:∀ l:List ByteArray,gX lh l=true↔l.Pairwise (fun a b=>lh a b=true)
 | []=>by simp [gX]
 | [a]=>by simp [gX]
 | a::b::l=>by
  rw [gX,Bool.and_eq_true,jf (b::l)]
  constructor
  ·rintro ⟨h1,h2⟩
   refine List.pairwise_cons.2 ⟨fun c hc=>?_,h2⟩
   rcases List.mem_cons.1 hc with rfl | hc
   ·exact h1
   exact ltS_tr _ _ _ h1 ((List.pairwise_cons.1 h2).1 c hc)
  intro h;obtain ⟨h1,h2⟩:=List.pairwise_cons.1 h;exact ⟨h1 b (by simp),h2⟩
theorem na {α:Type} {l C:List α} {v:Nat} (h:l.Sublist (C.take v)) (hv:v<C.length):(l++[C[v]]).Sublist (C.take (v+1))∧l.Sublist (C.take (v+1)):=by
 have e:C.take (v+1)=C.take v++[C[v]]:=by rw [List.take_add_one,List.getElem?_eq_getElem hv];rfl
 rw [e]
 exact ⟨h.append (List.Sublist.refl _),h.trans (List.sublist_append_left _ _)⟩
def C6:List ByteArray:=[(⟨#[65,65]⟩:ByteArray),(⟨#[66,66]⟩:ByteArray),(⟨#[67,67]⟩:ByteArray),(⟨#[68,68]⟩:ByteArray),(⟨#[69,69]⟩:ByteArray),(⟨#[70,70]⟩:ByteArray)]
theorem C6_ok:C6.all jW=true∧gX lh C6=true∧(C6.all fun s=>decide (s.size≤100))=true:=⟨by kernel_rfl,by kernel_rfl,by kernel_rfl⟩
theorem nc:dX=some C6:=rfl
theorem qz (v:Nat):sB (v:Int)=some ():=by unfold sB;rw [if_pos (by omega)]
end SX
end Go.Proofs.YthbphcbhedmnoaaDoor
set_option maxRecDepth 100000
namespace Go.Proofs.YthbphcbhedmnoaaDoor
namespace SX
open Go
end SX
end Go.Proofs.YthbphcbhedmnoaaDoor
set_option maxRecDepth 100000
namespace Go.Proofs.YthbphcbhedmnoaaDoor
namespace SX
open Go
theorem strs_of {κ:Kr} {ps:List PV} {vs:List Value} {k:Nat} {l:List ByteArray} (h:Rps κ ps vs) (hk:ps[k]?=some (pL eS l)):StrsOk l:=by
 refine ⟨by have:=qu h hk;simpa using this,fun s hs=>?_⟩
 obtain ⟨ds,hd⟩:=tw h hk (List.mem_map_of_mem (f:=eS) hs)
 exact qt (k:=0) hd rfl
end SX
end Go.Proofs.YthbphcbhedmnoaaDoor
set_option maxRecDepth 100000
namespace Go.Proofs.YthbphcbhedmnoaaDoor
namespace SX
open Go
def opt2 {α:Type} (z:α):Option α→α×Bool
 | some r=>(r,true)
 | none=>(z,false)
end SX
end Go.Proofs.YthbphcbhedmnoaaDoor
set_option maxRecDepth 100000
namespace Go.Proofs.YthbphcbhedmnoaaDoor
namespace SX
open Go
theorem oC {α T:Type} (p:α→Bool) (f:Nat→T):∀ (l:List α) (i:Nat),(bA (fun k x=>cond (p x) (some (f k)) none) l i=none∧l.find? p=none)∨∃ j,∃ h:j<l.length,bA (fun k x=>cond (p x) (some (f k)) none) l i=some (f (i+j))∧l.find? p=some l[j]
 | [],_=>.inl ⟨rfl,rfl⟩
 | x::xs,i=>by
  rw [bA,List.find?_cons]
  cases hp:p x
  ·rcases oC p f xs (i+1) with ⟨h1,h2⟩ | ⟨j,hj,h1,h2⟩
   ·exact .inl ⟨h1,h2⟩
   exact .inr ⟨j+1,by simpa using hj,by rw [show i+(j+1)=i+1+j by omega];exact h1,h2⟩
  exact .inr ⟨0,by simp,rfl,rfl⟩
end SX
end Go.Proofs.YthbphcbhedmnoaaDoor
set_option maxRecDepth 100000
namespace Go.Proofs.YthbphcbhedmnoaaDoor
namespace SX
open Go
def Digs (l:List Int):Prop:=∀ x∈l,48≤x∧x≤57
theorem code_Y {p:Zc} (hp:SOK p) (n:Nat) (hn:n=6∨n=8):Y (cF p (n:Int)) (fun r=>(∃ l:List Int,r.1=strOfNums l∧l.length=n∧Digs l)∧SOK r.2):=by
 unfold cF
 refine (fD hp 2 (by omega) (by omega)).bind fun a ⟨a1,a2,a3⟩=>?_
 rw [fF (by omega) (by omega),p6 (by omega)]
 refine Y.bind (P:=fun t:List Int×List Int×Int=>t.1.length=n∧Digs t.1∧SOK ⟨t.2.1,t.2.2⟩) ?_ fun t ⟨t1,t2,t3⟩=>?_
 ·refine Y.loop (fun s:List Int×List Int×Int=>(s.1.length % 2=0∧s.1.length≤n)∧Digs s.1∧SOK ⟨s.2.1,s.2.2⟩) (fun s=>n - s.1.length) ⟨⟨by simp,by simp;omega⟩,fun x hx=>by simp at hx;omega,a3⟩ (by dsimp only;omega) fun s hs=>?_
  obtain ⟨l,m,i⟩:=s
  obtain ⟨⟨s0,s1⟩,s2,s3⟩:=hs
  dsimp only at s0 s1 s2 s3 ⊢
  refine Y.cond (fun hc=>?_) (fun hc=>Y.ret ⟨by have:=of_decide_eq_false hc;dsimp only;omega,s2,s3⟩)
  have hc:=of_decide_eq_true hc
  refine (fD s3 3 (by omega) (by omega)).bind fun x ⟨x1,x2,x3⟩=>?_
  rw [eU (by simp;omega) (by simp;omega),ed,fF (by omega) (by omega),p6 (by omega)]
  refine Y.ret ⟨⟨⟨by simp;omega,by simp;omega⟩,fun z hz=>?_,x3⟩,by simp;omega⟩
  rcases List.mem_append.1 hz with hz | hz
  ·exact s2 z hz
  simp only [List.mem_cons,List.not_mem_nil,or_false] at hz;omega
 obtain ⟨l,m,i⟩:=t
 exact Y.ret ⟨⟨l,rfl,t1,t2⟩,t3⟩
theorem tM {l:List Int} {n:Nat} (hn:n=6∨n=8) (h1:l.length=n) (h2:Digs l):bW (strOfNums l)=(n:Int)∧(strOfNums l).size=n:=by
 have hs:(strOfNums l).size=n:=by
  unfold strOfNums
  show (Array.mk _).size=n
  simp [h1]
 have hd:eC (strOfNums l)=true:=by
  unfold eC bl strOfNums
  rw [List.all_eq_true]
  intro c hc
  simp only [List.mem_map] at hc
  obtain ⟨x,hx,rfl⟩:=hc
  have:=h2 x hx
  have h3:(UInt8.ofNat x.toNat).toNat=x.toNat:=by
   rw [UInt8.toNat_ofNat'];omega
  simp only [d7,h3,decide_eq_true_eq]
  omega
 refine ⟨?_,hs⟩
 unfold bW
 rw [if_pos ⟨by omega,hd⟩,hs]
def W5:List ByteArray:=[(⟨#[97,110,100]⟩:ByteArray),(⟨#[99,117,116]⟩:ByteArray),(⟨#[111,114]⟩:ByteArray),(⟨#[115,101,119]⟩:ByteArray),(⟨#[115,112,105,110]⟩:ByteArray)]
theorem W5_ok:W5.all fC=true∧gX lh W5=true∧(W5.all fun s=>decide (s.size≤100))=true:=⟨by kernel_rfl,by kernel_rfl,by kernel_rfl⟩
theorem oD {p:Zc} (hp:SOK p):Y (bD p) (fun r=>r.1.Sublist W5∧SOK r.2):=by
 unfold bD
 refine (fD hp 32 (by omega) (by omega)).bind fun a ⟨a1,a2,a3⟩=>?_
 refine Y.bind (P:=fun l:List ByteArray=>l.Sublist W5) ?_ fun l hl=>Y.ret ⟨hl,a3⟩
 refine Y.loop (fun s=>∃ v:Nat,s.2=(v:Int)∧v≤5∧s.1.Sublist (W5.take v)) (fun s=>(5 - s.2).toNat) ⟨0,rfl,by omega,List.Sublist.refl _⟩ (by dsimp only;omega) fun s hs=>?_
 obtain ⟨l,i⟩:=s
 obtain ⟨v,rfl,h1,h2⟩:=hs
 dsimp only at h2 ⊢
 have hlen:l.length≤5:=by have:=h2.length_le;have h6:W5.length=5:=rfl;rw [List.length_take] at this;omega
 refine Y.cond (fun hc=>?_) (fun hc=>Y.ret (h2.trans (List.take_sublist _ _)))
 have hv:v<5:=by have:=of_decide_eq_true hc;omega
 have hs:=na h2 (show v<W5.length from hv)
 refine Y.bind (P:=fun m:List ByteArray=>m.Sublist (W5.take (v+1))) (Y.eq (qz v) (Y.cond (fun _=>?_) fun _=>Y.ret hs.2)) fun m hm=>Y.ret ⟨⟨v+1,?_,by omega,hm⟩,?_⟩
 ·refine Y.idx (xs:=W5) rfl (show v<W5.length from hv) ?_
  rw [eU (by simp;omega) (by simp;omega)];exact Y.ret hs.1
 ·show IntKind.i64.wrap ((v:Int)+1)=_;rw [fF (by omega) (by omega)];omega
 show (5 - IntKind.i64.wrap ((v:Int)+1)).toNat<(5 - (v:Int)).toNat;rw [fF (by omega) (by omega)];omega
theorem codeN {x:Int} (h1:0≤x) (h2:x<2):∃ n:Nat,(n=6∨n=8)∧IntKind.i64.wrap (6+IntKind.i64.wrap (2*x))=(n:Int):=by
 rw [fF (r:=2*x) (by omega) (by omega),fF (by omega) (by omega)]
 exact ⟨(6+2*x).toNat,by omega,by omega⟩
end SX
end Go.Proofs.YthbphcbhedmnoaaDoor
set_option maxRecDepth 100000
namespace Go.Proofs.YthbphcbhedmnoaaDoor
namespace SX
open Go
structure MProd (n:Nat) (i:Nat) (p:Za):Prop where
 id:p.ID=3*((i:Int)+1)
 lvl:(bW p.Code=6∨bW p.Code=8)∧6≤p.Code.size∧p.Code.size≤8
 ctr:p.Country∈C6
 price:1≤p.Price∧p.Price≤200
 proc:p.Processes.Sublist W5
 few:p.Inputs.length≤4
 asc:p.Inputs.Pairwise fun a b=>a.Product<b.Product
 inp:∀ x∈p.Inputs,(∃ k:Nat,k<n∧x.Product=3*((k:Int)+1))∧0≤x.Value∧x.Value<100
 obt:p.Obtained=true→p.Inputs=[]
structure MPs (l:List Za):Prop where
 len:1≤l.length∧l.length≤10
 all:∀ (i:Nat) (p:Za),l[i]?=some p→MProd l.length i p
theorem plan_Y (p0:List Int):Y (gq p0) MPs:=by
 unfold gq
 refine (cut_Y p0 300 (by omega) (by omega)).bind fun x1 hx1=>?_
 refine (fD hx1 10 (by omega) (by omega)).bind fun x3 ⟨a1,a2,a3⟩=>?_
 rw [fF (r:=1+x3.1) (by omega) (by omega)]
 obtain ⟨n,hn⟩:∃ n:Nat,1+x3.1=(n:Int):=⟨(1+x3.1).toNat,by omega⟩
 rw [hn]
 have hn1:1≤n∧n≤10:=by omega
 refine Y.bind (P:=MPs) ?_ fun l hl=>Y.ret hl
 refine Y.loop (fun s:List Za×Int×List Int×Int=>(s.2.1=(s.1.length:Int)+1∧s.1.length≤n)∧SOK ⟨s.2.2.1,s.2.2.2⟩∧∀ i p,s.1[i]?=some p→MProd n i p) (fun s=>n - s.1.length) ⟨⟨rfl,by simp⟩,a3,by simp⟩ (by dsimp only;omega) fun s hs=>?_
 obtain ⟨l5,v8,l9,v10⟩:=s
 obtain ⟨⟨h1,h2⟩,h3,h4⟩:=hs
 dsimp only at h1 h2 h3 h4 ⊢
 refine Y.cond (fun hc=>?_) (fun hc=>Y.ret ?_)
 rotate_left
 ·have hc:=of_decide_eq_false hc
  have e:l5.length=n:=by omega
  exact ⟨by omega,by rw [e];exact h4⟩
 have hc:=of_decide_eq_true hc
 refine (fD h3 2 (by omega) (by omega)).bind fun x19 ⟨b1,b2,b3⟩=>?_
 obtain ⟨w,hw,e⟩:=codeN b1 b2
 rw [e]
 refine (code_Y b3 w hw).bind fun x20 ⟨⟨cl,hc1,hc2,hc3⟩,hx20⟩=>?_
 have hcode:=tM hw hc2 hc3
 refine Y.eq nc ?_
 refine (fD hx20 4 (by omega) (by omega)).bind fun x22 ⟨c1,c2,c3⟩=>?_
 obtain ⟨j,hj⟩:∃ j:Nat,x22.1=(j:Int):=⟨x22.1.toNat,by omega⟩
 refine Y.idx hj (show j<C6.length by have h6:C6.length=6:=rfl;omega) ?_
 refine (fD c3 200 (by omega) (by omega)).bind fun x24 ⟨d1,d2,d3⟩=>?_
 refine (oD d3).bind fun x25 ⟨hpr,hx25⟩=>?_
 refine (fD hx25 4 (by omega) (by omega)).bind fun x26 ⟨_,_,h26⟩=>?_
 refine (fD h26 1024 (by omega) (by omega)).bind fun x28 ⟨_,_,h28⟩=>?_
 refine Y.bind (P:=fun t:List Int×Int×List Zb=>SOK ⟨t.1,t.2.1⟩∧t.2.2.length≤4∧(t.2.2.Pairwise fun a b=>a.Product<b.Product)∧(∀ x∈t.2.2,(∃ k:Nat,k<n∧x.Product=3*((k:Int)+1))∧0≤x.Value∧x.Value<100)∧((x26.1 == 1)=true→t.2.2=[])) ?_ fun t ⟨t1,t2,t3,t4,t5⟩=>?_
 ·refine Y.loop (fun s:Int×List Int×Int×List Zb=>∃ v:Nat,s.1=(v:Int)+1∧v≤n∧SOK ⟨s.2.1,s.2.2.1⟩∧s.2.2.2.length≤4∧(s.2.2.2.Pairwise fun a b=>a.Product<b.Product)∧(∀ x∈s.2.2.2,(∃ k:Nat,k<v∧x.Product=3*((k:Int)+1))∧0≤x.Value∧x.Value<100)∧((x26.1 == 1)=true→s.2.2.2=[])) (fun s=>(n+1 - s.1).toNat) ⟨0,rfl,by omega,h28,by simp,List.Pairwise.nil,by simp,fun _=>rfl⟩ (by dsimp only;omega) fun s hs=>?_
  obtain ⟨i,l,k,m⟩:=s
  obtain ⟨v,rfl,s1,s2,s3,s4,s5,s6⟩:=hs
  dsimp only at s2 s3 s4 s5 s6 ⊢
  refine Y.cond (fun hc3=>?_) (fun hc3=>Y.ret ⟨s2,s3,s4,fun x hx=>?_,s6⟩)
  rotate_left
  ·obtain ⟨⟨k,h5,h6⟩,h7⟩:=s5 x hx;exact ⟨⟨k,by omega,h6⟩,h7⟩
  simp only [Bool.and_eq_true,decide_eq_true_eq,Bool.not_eq_true'] at hc3
  obtain ⟨⟨hc4,hc5⟩,hc6⟩:=hc3
  rw [fF (r:=(v:Int)+1 - 1) (by omega) (by omega),fF (r:=(v:Int)+1+1) (by omega) (by omega),fF (r:=3*((v:Int)+1)) (by omega) (by omega)]
  refine Y.bind (P:=fun t:List Int×Int×List Zb=>SOK ⟨t.1,t.2.1⟩∧t.2.2.length≤4∧(t.2.2.Pairwise fun a b=>a.Product<b.Product)∧(∀ x∈t.2.2,(∃ k:Nat,k<v+1∧x.Product=3*((k:Int)+1))∧0≤x.Value∧x.Value<100)) ?_ fun t ⟨t1,t2,t3,t4⟩=>Y.ret ⟨⟨v+1,by dsimp only;omega,by omega,t1,t2,t3,t4,fun h=>by rw [hc6] at h;cases h⟩,by dsimp only;omega⟩
  rw [show (v:Int)+1 - 1=(v:Int) by omega]
  refine Y.eq (qz v) ?_
  refine Y.bind (P:=fun r:Int×Zc=>SOK r.2) (Y.gdp (fun _=>(fD s2 3 (by omega) (by omega)).mono fun r hr=>hr.2.2) fun _=>s2) fun x56 hx56=>?_
  refine Y.cond (fun _=>?_) (fun _=>Y.ret ⟨hx56,s3,s4,fun x hx=>?_⟩)
  rotate_left
  ·obtain ⟨⟨k,h5,h6⟩,h7⟩:=s5 x hx;exact ⟨⟨k,by omega,h6⟩,h7⟩
  refine (fD hx56 100 (by omega) (by omega)).bind fun x58 ⟨e1,e2,e3⟩=>?_
  rw [eU (by simp;omega) (by simp;omega),ed]
  refine Y.ret ⟨e3,by simp;omega,?_,fun x hx=>?_⟩
  ·rw [List.pairwise_append]
   refine ⟨s4,List.pairwise_singleton _ _,fun a ha b hb=>?_⟩
   rw [List.mem_singleton.1 hb]
   obtain ⟨⟨k,h5,h6⟩,_⟩:=s5 a ha
   dsimp only;omega
  rcases List.mem_append.1 hx with hx | hx
  ·obtain ⟨⟨k,h5,h6⟩,h7⟩:=s5 x hx;exact ⟨⟨k,by omega,h6⟩,h7⟩
  rw [List.mem_singleton.1 hx];exact ⟨⟨v,by omega,rfl⟩,e1,e2⟩
 obtain ⟨l37,v38,l42⟩:=t
 dsimp only at t1 t2 t3 t4 t5 ⊢
 rw [eU (by simp;omega) (by simp;omega),ed,fF (r:=v8+1) (by omega) (by omega),fF (r:=1+x24.1) (by omega) (by omega),fF (r:=3*v8) (by omega) (by omega)]
 refine Y.ret ⟨⟨⟨by simp;omega,by simp;omega⟩,t1,fun i p hp=>?_⟩,by simp;omega⟩
 rw [List.getElem?_append] at hp
 split at hp
 ·exact h4 i p hp
 rename_i hi
 have hi0:i - l5.length=0:=by have:=(List.getElem?_eq_some_iff.1 hp).1;simp at this;omega
 rw [hi0] at hp
 simp only [List.getElem?_cons_zero,bE] at hp
 subst hp
 refine ⟨by dsimp only;omega,?_,List.getElem_mem _,⟨by dsimp only;omega,by dsimp only;omega⟩,hpr,t2,t3,t4,t5⟩
 dsimp only;rw [hc1,hcode.1,hcode.2];omega
structure Sorted (l:List Za):Prop where
 len:l.length≤1000000
 asc:l.Pairwise fun a b=>a.ID<b.ID
 small:∀ p∈l,p.Processes.length≤1000000∧p.Inputs.length≤1000000
def ec (l:List Za) (id:Int):Option Za:=l.find? fun p=>p.ID == id
def tN:Za:=⟨0,ByteArray.empty,ByteArray.empty,0,false,[],[]⟩
theorem rn (l:List Za) (id:Int) (hl:l.length≤140737488355328):de l id=some (opt2 tN (ec l id)):=by
 unfold de ec
 refine (dn (l:=l) (by omega) (fun _ x=>cond (x.ID == id) (some (.inr (x,true))) none) (.inl ()) (fun k hk=>?_) (by simp only [mR,fm])).trans ?_
 ·simp only [dlt hk,ee,cy hk,ed,i7 hk (show l.length≤4611686018427387904 by omega)]
  cases (l[k].ID == id) <;> rfl
 rw [kV (fun x:Za=>x.ID == id) (fun x=>(Sum.inr (x,true):Unit⊕(Za×Bool)))]
 cases l.find? (fun x:Za=>x.ID == id) <;> rfl
theorem MPs.sorted {l:List Za} (h:MPs l):Sorted l:=by
 refine ⟨by have:=h.len;omega,?_,fun p hp=>?_⟩
 ·rw [List.pairwise_iff_getElem]
  intro i j hi hj hij
  have h1:=(h.all i _ (List.getElem?_eq_getElem hi)).id
  have h2:=(h.all j _ (List.getElem?_eq_getElem hj)).id
  omega
 obtain ⟨i,hi,rfl⟩:=List.getElem_of_mem hp
 have hm:=h.all i _ (List.getElem?_eq_getElem hi)
 have h1:=hm.proc.length_le;have h2:=hm.few;have h6:W5.length=5:=rfl
 omega
end SX
end Go.Proofs.YthbphcbhedmnoaaDoor
set_option maxRecDepth 100000
set_option linter.unusedSectionVars false
namespace Go.Proofs.YthbphcbhedmnoaaDoor
namespace SX
open Go
section
variable {α:Type} [DecidableEq α]
variable {lt:α→α→Bool}
def Strict (lt:α→α→Bool) (l:List α):Prop:=l.Pairwise fun a b=>lt a b=true
end
section
variable {α:Type} [DecidableEq α]
end
end SX
end Go.Proofs.YthbphcbhedmnoaaDoor
set_option maxRecDepth 100000
namespace Go.Proofs.YthbphcbhedmnoaaDoor
namespace SX
open Go
structure VProd (l:List Za) (p:Za):Prop where
 price:1≤p.Price∧p.Price≤1000000000000
 lvl:6≤bW p.Code
 ctr:jW p.Country=true
 proc:eX p.Processes=true
 few:p.Inputs.length≤8
 asc:p.Inputs.Pairwise fun a b=>a.Product<b.Product
 inp:∀ x∈p.Inputs,(ec l x.Product).isSome=true∧0≤x.Value∧x.Value≤1000000000000
 obt:p.Obtained=true→p.Inputs=[]
structure VPs (l:List Za):Prop where
 len:l.length≤64
 asc:l.Pairwise fun a b=>a.ID<b.ID
 all:∀ p∈l,VProd l p
theorem jg {l:List ByteArray} (h:eX l=true):l.length≤8∧(∀ s∈l,fC s=true)∧Strict lh l:=by
 unfold eX at h
 simp only [Bool.and_eq_true,decide_eq_true_eq] at h
 exact ⟨h.1,fun s hs=>List.all_eq_true.1 h.2.1 s hs,(jf _).1 h.2.2⟩
theorem VPs.sorted {l:List Za} (h:VPs l):Sorted l:=⟨by have:=h.len;omega,h.asc,fun p hp=>by have h1:=(jg (h.all p hp).proc).1;have h2:=(h.all p hp).few;omega⟩
end SX
end Go.Proofs.YthbphcbhedmnoaaDoor
set_option maxRecDepth 100000
namespace Go.Proofs.YthbphcbhedmnoaaDoor
namespace SX
open Go
theorem C6_ctry {s:ByteArray} (h:s∈C6):jW s=true:=List.all_eq_true.1 C6_ok.1 s h
theorem W5_words {l:List ByteArray} (h:l.Sublist W5):eX l=true:=by
 unfold eX
 have h1:=h.length_le
 have h5:W5.length=5:=rfl
 simp only [Bool.and_eq_true,decide_eq_true_eq]
 exact ⟨by omega,List.all_eq_true.2 fun s hs=>List.all_eq_true.1 W5_ok.1 s (h.subset hs),(jf _).2 (List.Pairwise.sublist h ((jf _).1 W5_ok.2.1))⟩
theorem MPs.found {l:List Za} (h:MPs l) {k:Nat} (hk:k<l.length):(ec l (3*((k:Int)+1))).isSome=true:=by
 unfold ec
 rw [List.find?_isSome]
 exact ⟨l[k],List.getElem_mem hk,by have:=(h.all k _ (List.getElem?_eq_getElem hk)).id;simpa using this⟩
theorem MPs.vps {l:List Za} (h:MPs l):VPs l:=by
 refine ⟨by have:=h.len;omega,h.sorted.asc,fun p hp=>?_⟩
 obtain ⟨i,hi,rfl⟩:=List.getElem_of_mem hp
 have hm:=h.all i _ (List.getElem?_eq_getElem hi)
 refine ⟨by have:=hm.price;omega,by have:=hm.lvl.1;omega,C6_ctry hm.ctr,W5_words hm.proc,by have:=hm.few;omega,hm.asc,fun x hx=>?_,hm.obt⟩
 obtain ⟨⟨k,hk,e⟩,h1,h2⟩:=hm.inp x hx
 exact ⟨by rw [e];exact h.found hk,h1,by omega⟩
theorem pG {s:ByteArray} (h:fC s=true):s.size≤12:=by
 unfold fC at h;simp only [Bool.and_eq_true,decide_eq_true_eq] at h;omega
end SX
end Go.Proofs.YthbphcbhedmnoaaDoor
set_option maxRecDepth 100000
namespace Go.Proofs.YthbphcbhedmnoaaDoor
namespace SX
open Go
end SX
end Go.Proofs.YthbphcbhedmnoaaDoor
set_option maxRecDepth 100000
namespace Go.Proofs.YthbphcbhedmnoaaDoor
namespace SX
open Go
theorem rp (l:List Za) (x:Zb) (hl:l.length≤140737488355328):aC l (fun y=>aZ y x)=some (ec l x.Product).isSome:=by
 unfold aC
 have e:aK l (fun y=>aZ y x)=some (match bA (fun k p=>cond (p.ID == x.Product) (some (Sum.inr (k:Int):Unit⊕Int)) none) l 0 with | some (.inr k)=>k | _ => -1):=by
  unfold aK
  refine (dn (l:=l) (by omega) (fun k (p:Za)=>cond (p.ID == x.Product) (some (.inr (k:Int))) none) (.inl ()) (fun k hk=>?_) (by simp only [mR,fm])).trans ?_
  ·simp only [dlt hk,ee,cy hk,ed,i7 hk (show l.length≤4611686018427387904 by omega)]
   unfold aZ
   rw [ed];cases (l[k].ID == x.Product) <;> rfl
  cases bA (fun k (p:Za)=>cond (p.ID == x.Product) (some (Sum.inr (k:Int):Unit⊕Int)) none) l 0 with
  | none=>rfl
  | some t=>cases t <;> rfl
 rw [e,ed]
 unfold ec
 rcases oC (fun p:Za=>p.ID == x.Product) (fun k=>(Sum.inr (k:Int):Unit⊕Int)) l 0 with ⟨h1,h2⟩ | ⟨j,hj,h1,h2⟩
 ·rw [h1,h2];rfl
 rw [h1,h2]
 show some (decide (0≤((0+j:Nat):Int)))=_
 rw [det (by omega)];rfl
structure VIds (l:List Za):Prop where
 id:∀ p∈l,1≤p.ID∧p.ID≤1000000
 lvl:∀ p∈l,bW p.Code=6∨bW p.Code=8
theorem rq {plan:List Za} {p:Za} (hp:VProd plan p):StrsOk p.Processes:=by
 obtain ⟨h1,h2,_⟩:=jg hp.proc
 exact ⟨by omega,fun s hs=>by have:=pG (h2 s hs);omega⟩
theorem MPs.vids {l:List Za} (h:MPs l):VIds l:=by
 have hlen:=h.len
 refine ⟨fun p hp=>?_,fun p hp=>?_⟩
 ·obtain ⟨i,hi,rfl⟩:=List.getElem_of_mem hp
  have:=(h.all i _ (List.getElem?_eq_getElem hi)).id;omega
 obtain ⟨i,hi,rfl⟩:=List.getElem_of_mem hp
 exact (h.all i _ (List.getElem?_eq_getElem hi)).lvl.1
end SX
end Go.Proofs.YthbphcbhedmnoaaDoor
set_option maxRecDepth 100000
namespace Go.Proofs.YthbphcbhedmnoaaDoor
namespace SX
open Go
theorem rt (l:List ByteArray) (hl:StrsOk l):dJ l=some (eX l):=by
 obtain ⟨hl,hs⟩:=hl
 unfold dJ eX
 refine (dn (l:=l) (by omega) (fun k x=>cond (jd fC l k x) none (some (.inr false))) (.inl ()) (fun k hk=>?_) (by simp only [mR,fm])).trans ?_
 ·have h62:l.length≤4611686018427387904:=by omega
  simp only [dlt hk,ee,cy hk,ed,tL _ (hs _ (List.getElem_mem hk)),d0k,i7 hk h62,jd]
  cases hw:fC l[k]
  ·rfl
  by_cases h0:0<k
  ·simp only [h0,decide_true,Bool.not_true,Bool.not_false,Bool.and_true,Bool.true_and,Bool.false_or,dw,gn h0 hk h62,ed,fN (show k - 1<l.length by omega),lh]
   cases Op.bytesLess (l[k-1]'(by omega)).toList l[k].toList <;> rfl
  simp only [h0,decide_false,Bool.and_false,lQ,ed,Bool.not_true,Bool.false_or,Bool.false_and,fm,Bool.not_false,Bool.true_and,Bool.true_or,Bool.or_false];rfl
 rw [lW]
 have i2:decide ((l.length:Int)≤(8:Int))=decide (l.length≤8):=decide_eq_decide.2 (by omega)
 cases (l.all fC&&gX lh l)
 ·simp
 simp [i2]
end SX
end Go.Proofs.YthbphcbhedmnoaaDoor
set_option maxRecDepth 100000
namespace Go.Proofs.YthbphcbhedmnoaaDoor
namespace SX
open Go
theorem tO {s:ByteArray} (h:bW s=6∨bW s=8):s.size≤8:=by
 unfold bW at h
 split at h
 ·omega
 omega
end SX
end Go.Proofs.YthbphcbhedmnoaaDoor
set_option maxRecDepth 100000
namespace Go.Proofs.YthbphcbhedmnoaaDoor
namespace SX
open Go
structure POk (p:Za):Prop where
 code:p.Code.size≤140737488355328
 proc:StrsOk p.Processes
 len:p.Inputs.length≤140737488355328
structure PSOk (l:List Za):Prop where
 len:l.length≤140737488355328
 all:∀ p∈l,POk p
def ru (plan:List Za) (l:List Zb) (k:Nat) (x:Zb):Option Int :=
 cond (decide (0<k)&&decide (x.Product≤(l.getD (k - 1) x).Product)) (some 9) (cond (ec plan x.Product).isSome (cond (decide (x.Value<0)||decide (1000000000000<x.Value)) (some 2) none) (some 6))
def pH (plan:List Za) (l:List Zb):Int:=(bA (ru plan l) l 0).getD 0
def jh (p:Za):Int:=cond (decide (6≤bW p.Code)&&(jW p.Country&&eX p.Processes)) (cond (decide (p.Price<1)||decide (1000000000000<p.Price)) 2 (cond (decide (8<p.Inputs.length)) 8 (cond (p.Obtained && !p.Inputs.isEmpty) 1 0))) 1
def lc (plan:List Za) (k:Nat) (p:Za):Option Int :=
 cond (decide (p.ID<1)||decide (1000000<p.ID)) (some 2) (cond (decide (0<k)&&decide (p.ID≤(plan.getD (k - 1) p).ID)) (some 9) (cond (jh p == 0) (cond (pH plan p.Inputs == 0) none (some (pH plan p.Inputs))) (some (jh p))))
def qA (plan:List Za):Int:=cond (decide (plan.length≤64)) ((bA (lc plan) plan 0).getD 0) 8
theorem pJ (s:ByteArray):bW s=0∨bW s=2∨bW s=4∨bW s=6∨bW s=8:=by
 unfold bW
 split
 ·rename_i h;omega
 exact .inl rfl
theorem rx (s:ByteArray):((bW s != 6)&&(bW s != 8)) = !decide (6≤bW s):=by
 rcases pJ s with h | h | h | h | h <;> rw [h] <;> rfl
theorem tP (plan:List Za) (l:List Zb) (hp:plan.length≤140737488355328) (hl:l.length≤140737488355328):bk plan l=some (pH plan l):=by
 unfold bk pH
 have h62:l.length≤4611686018427387904:=by omega
 refine (dn (l:=l) h62 (fun k x=>(ru plan l k x).map .inr) (.inl ()) (fun k hk=>?_) (by simp only [mR,fm])).trans ?_
 ·simp only [dlt hk,ee,cy hk,ed,i7 hk h62,d0k,ru,rp _ _ hp]
  by_cases h0:0<k
  ·simp only [h0,decide_true,Bool.true_and,dw,gn h0 hk h62,ed,fN (show k - 1<l.length by omega)]
   cases decide (l[k].Product≤(l[k-1]'(by omega)).Product)
   ·cases (ec plan l[k].Product).isSome
    ·rfl
    cases (decide (l[k].Value<0)||decide (1000000000000<l[k].Value)) <;> rfl
   rfl
  simp only [h0,decide_false,Bool.false_and,lQ,ed,fm]
  cases (ec plan l[k].Product).isSome
  ·rfl
  cases (decide (l[k].Value<0)||decide (1000000000000<l[k].Value)) <;> rfl
 rw [gu]
 cases bA (ru plan l) l 0 <;> rfl
theorem len_pos {α:Type} (l:List α):decide (0<l.length) = !l.isEmpty:=by cases l <;> rfl
theorem pK (p:Za) (hp:POk p):bi p=some (jh p):=by
 unfold bi jh
 have e8:decide ((8:Int)<(p.Inputs.length:Int))=decide (8<p.Inputs.length):=decide_eq_decide.2 (by omega)
 show Option.bind (some (bW p.Code)) _=_
 rw [ed,rx,e8]
 cases decide (6≤bW p.Code)
 ·rfl
 simp only [Bool.not_true,Bool.not_false,dw,Bool.true_and,lv,ed,Bool.false_or]
 cases jW p.Country
 ·rfl
 simp only [Bool.not_true,Bool.not_false,dw,pF _ hp.proc,ed,Bool.true_and,Bool.false_or]
 cases eX p.Processes
 ·rfl
 simp only [Bool.not_true,fm,ee]
 cases (decide (p.Price<1)||decide (1000000000000<p.Price))
 ·simp only [fm]
  cases decide (8<p.Inputs.length)
  ·simp only [fm,len0']
   cases (p.Obtained && !p.Inputs.isEmpty) <;> rfl
  rfl
 rfl
theorem pM (plan:List Za) (h:PSOk plan):bx plan=some (qA plan):=by
 unfold bx qA
 have h62:plan.length≤4611686018427387904:=by have:=h.len;omega
 have i1:decide ((64:Int)<(plan.length:Int)) = !decide (plan.length≤64):=by rw [← decide_not];exact decide_eq_decide.2 (by omega)
 rw [i1]
 cases decide (plan.length≤64)
 ·rfl
 simp only [Bool.not_true,fm,ee]
 refine (dn (l:=plan) h62 (fun k x=>(lc plan k x).map .inr) (.inl ()) (fun k hk=>?_) (by simp only [mR,fm])).trans ?_
 ·have ha:=h.all _ (List.getElem_mem hk)
  simp only [dlt hk,ee,cy hk,ed,i7 hk h62,d0k,lc,pK _ ha,tP _ _ h.len ha.len]
  cases (decide (plan[k].ID<1)||decide (1000000<plan[k].ID))
  ·by_cases h0:0<k
   ·simp only [h0,decide_true,Bool.true_and,dw,gn h0 hk h62,ed,fN (show k - 1<plan.length by omega),fm]
    cases decide (plan[k].ID≤(plan[k-1]'(by omega)).ID)
    ·simp only [fm,bne]
     cases hz:(jh plan[k] == 0)
     ·simp [pu]
     simp only [ee,Bool.not_true,fm]
     cases hy:(pH plan plan[k].Inputs == 0) <;> simp [pu]
    rfl
   simp only [h0,decide_false,Bool.false_and,lQ,ed,fm,bne]
   cases hz:(jh plan[k] == 0)
   ·simp [pu]
   simp only [ee,Bool.not_true,fm]
   cases hy:(pH plan plan[k].Inputs == 0) <;> simp [pu]
  rfl
 rw [gu]
 cases bA (lc plan) plan 0 <;> rfl
theorem ld {α:Type} (g:Nat→α→Option Int) (hg:∀ k x,g k x≠some 0):∀ (l:List α) (i:Nat),(bA g l i).getD 0=0→bA g l i=none
 | [],_,_=>rfl
 | x::l,i,e=>by
  rw [bA] at e ⊢
  cases hx:g i x with
  | some t =>
   rw [hx] at e
   have:t=0:=e
   subst this
   exact absurd hx (hg i x)
  | none=>rw [hx] at e;exact ld g hg l (i+1) e
theorem gIn_nz (plan:List Za) (l:List Zb) (k:Nat) (x:Zb):ru plan l k x≠some 0:=by
 unfold ru
 cases (decide (0<k)&&decide (x.Product≤(l.getD (k - 1) x).Product))
 ·cases (ec plan x.Product).isSome
  ·simp
  cases (decide (x.Value<0)||decide (1000000000000<x.Value)) <;> simp
 simp
end SX
end Go.Proofs.YthbphcbhedmnoaaDoor
set_option maxRecDepth 100000
namespace Go.Proofs.YthbphcbhedmnoaaDoor
namespace SX
open Go
theorem ref_inE (plan:List Za) (l:List Zb) (hp:plan.length≤140737488355328) (hl:l.length≤140737488355328) {β:Type} (K:Unit⊕(Int⊕(Unit⊕Int))→Option β) :
    Option.bind (bh (S:=Int) (T:=(Unit)⊕(Int⊕(Unit⊕Int))) (fun v18=>cond (decide (v18<(l.length:Int))) (Option.bind (gd (decide (0<v18)) (idx l v18)) (fun m22=>Option.bind (gd (decide (0<v18)) (idx l (IntKind.i64.wrap (v18 - 1)))) (fun m23=>cond ((decide (0<v18))&&(decide (m22.Product≤m23.Product))) (some (.inr (.inr (.inr (.inr (9:Int)))))) (Option.bind (idx l v18) (fun m25=>Option.bind (de plan m25.Product) (fun x26=>cond (!x26.2) (some (.inr (.inr (.inr (.inr (6:Int)))))) (Option.bind (idx l v18) (fun m29=>Option.bind (gd (!(decide (m29.Value<0))) (idx l v18)) (fun m30=>cond ((decide (m29.Value<0))||(decide (1000000000000<m30.Value))) (some (.inr (.inr (.inr (.inr (2:Int)))))) (some (.inl (IntKind.i64.wrap (v18+1))))))))))))) (some (.inr (.inl ())))) FUEL 0) K
    = K (match bA (ru plan l) l 0 with | none=>.inl () | some e=>.inr (.inr (.inr e))):=by
  have h62:l.length≤4611686018427387904:=by omega
  refine (dn (l:=l) h62 (fun k x=>(ru plan l k x).map fun e=>.inr (.inr (.inr e))) (.inl ()) (fun k hk=>?_) (by simp only [mR,fm])).trans ?_
  · have hf:de plan l[k].Product=some (opt2 tN (ec plan l[k].Product)):=rn _ _ hp
    have hs:(opt2 tN (ec plan l[k].Product)).2=(ec plan l[k].Product).isSome:=by cases ec plan l[k].Product <;> rfl
    have tl:(cond (!(ec plan l[k].Product).isSome) (some (.inr (.inr (.inr (.inr (6:Int)))))) (Option.bind (gd (!(decide (l[k].Value<0))) (some l[k])) (fun m30=>cond ((decide (l[k].Value<0))||(decide (1000000000000<m30.Value))) (some (.inr (.inr (.inr (.inr (2:Int)))))) (some (.inl ((k+1:Nat):Int))))):Option (Int⊕(Unit⊕(Int⊕(Unit⊕Int)))))=some (pu k ((cond (ec plan l[k].Product).isSome (cond (decide (l[k].Value<0)||decide (1000000000000<l[k].Value)) (some 2) none) (some 6)).map fun e=>.inr (.inr (.inr e)))):=by
      cases (ec plan l[k].Product).isSome
      · rfl
      cases decide (l[k].Value<0)
      · simp only [Bool.not_false,dw,ed,Bool.not_true,fm,ee,Bool.false_or]
        cases decide (1000000000000<l[k].Value) <;> rfl
      rfl
    simp only [dlt hk,ee,cy hk,ed,i7 hk h62,d0k,ru,hf,hs]
    by_cases h0:0<k
    · simp only [h0,decide_true,Bool.true_and,dw,gn h0 hk h62,ed,fN (show k - 1<l.length by omega)]
      cases decide (l[k].Product≤(l[k-1]'(by omega)).Product)
      · exact tl
      rfl
    simp only [h0,decide_false,Bool.false_and,lQ,ed,fm]
    exact tl
  rw [gu]
  cases bA (ru plan l) l 0 <;> rfl
theorem tQ {plan:List Za} {l:List Zb} {e:Int} (h:bA (ru plan l) l 0=some e):pH plan l=e∧(pH plan l == 0)=false:=by
 have h1:pH plan l=e:=by unfold pH;rw [h];rfl
 refine ⟨h1,?_⟩
 cases hz:(pH plan l == 0) with
 | false=>rfl
 | true =>
  have:=ld _ (gIn_nz plan l) l 0 (beq_iff_eq.1 hz)
  rw [h] at this;cases this
theorem tR {plan:List Za} {l:List Zb} (h:bA (ru plan l) l 0=none):(pH plan l == 0)=true:=by unfold pH;rw [h];rfl
theorem ry (plan:List Za) (h:PSOk plan):fz plan=some (qA plan):=by
 unfold fz qA
 have h62:plan.length≤4611686018427387904:=by have:=h.len;omega
 have i1:decide ((64:Int)<(plan.length:Int)) = !decide (plan.length≤64):=by rw [← decide_not];exact decide_eq_decide.2 (by omega)
 rw [i1]
 cases decide (plan.length≤64)
 ·rfl
 simp only [Bool.not_true,fm,ee]
 refine (dn (l:=plan) h62 (fun k x=>(lc plan k x).map .inr) (.inl ()) (fun k hk=>?_) (by simp only [mR,fm])).trans ?_
 ·have ha:=h.all _ (List.getElem_mem hk)
  have e8:decide ((8:Int)<(plan[k].Inputs.length:Int))=decide (8<plan[k].Inputs.length):=decide_eq_decide.2 (by omega)
  have e6:decide (bW plan[k].Code<6) = !decide (6≤bW plan[k].Code):=by rw [← decide_not];exact decide_eq_decide.2 (by omega)
  simp only [dlt hk,ee,cy hk,ed,i7 hk h62,d0k,lc]
  cases (decide (plan[k].ID<1)||decide (1000000<plan[k].ID))
  ·have rest:(Option.bind (dI plan[k].Code) (fun x11=>Option.bind (gd (!(decide (x11<6))) (cY plan[k].Country)) (fun x12=>Option.bind (gd (!((decide (x11<6))||(!x12))) (dJ plan[k].Processes)) (fun x13=>cond (((decide (x11<6))||(!x12))||(!x13)) (some (.inr (.inr (1:Int)))) (cond ((decide (plan[k].Price<1))||(decide (1000000000000<plan[k].Price))) (some (.inr (.inr (2:Int)))) (cond (decide (8<(plan[k].Inputs.length:Int))) (some (.inr (.inr (8:Int)))) (cond (plan[k].Obtained&&(decide (0<plan[k].Inputs.length))) (some (.inr (.inr (1:Int)))) (Option.bind (bh (S:=Int) (T:=(Unit)⊕(Int⊕(Unit⊕Int))) (fun v18=>cond (decide (v18<(plan[k].Inputs.length:Int))) (Option.bind (gd (decide (0<v18)) (idx plan[k].Inputs v18)) (fun m22=>Option.bind (gd (decide (0<v18)) (idx plan[k].Inputs (IntKind.i64.wrap (v18 - 1)))) (fun m23=>cond ((decide (0<v18))&&(decide (m22.Product≤m23.Product))) (some (.inr (.inr (.inr (.inr (9:Int)))))) (Option.bind (idx plan[k].Inputs v18) (fun m25=>Option.bind (de plan m25.Product) (fun x26=>cond (!x26.2) (some (.inr (.inr (.inr (.inr (6:Int)))))) (Option.bind (idx plan[k].Inputs v18) (fun m29=>Option.bind (gd (!(decide (m29.Value<0))) (idx plan[k].Inputs v18)) (fun m30=>cond ((decide (m29.Value<0))||(decide (1000000000000<m30.Value))) (some (.inr (.inr (.inr (.inr (2:Int)))))) (some (.inl (IntKind.i64.wrap (v18+1))))))))))))) (some (.inr (.inl ())))) FUEL 0) (fun q=>match q with | .inl _=>some (.inl ((k+1:Nat):Int)) | .inr e=>some e)))))))):Option (Int⊕(Unit⊕Int)))=some (pu k ((cond (jh plan[k] == 0) (cond (pH plan plan[k].Inputs == 0) none (some (pH plan plan[k].Inputs))) (some (jh plan[k]))).map .inr)):=by
    simp only [rl _ ha.code,ed,e6,e8,jh,oA,rt _ ha.proc,len_pos]
    cases decide (6≤bW plan[k].Code)
    ·rfl
    simp only [Bool.not_true,Bool.not_false,dw,Bool.true_and,ed,Bool.false_or]
    cases jW plan[k].Country
    ·rfl
    simp only [Bool.not_true,Bool.not_false,dw,ed,Bool.true_and,Bool.false_or]
    cases eX plan[k].Processes
    ·rfl
    simp only [Bool.not_true,fm,ee]
    cases (decide (plan[k].Price<1)||decide (1000000000000<plan[k].Price))
    ·simp only [fm]
     cases decide (8<plan[k].Inputs.length)
     ·simp only [fm]
      cases (plan[k].Obtained && !plan[k].Inputs.isEmpty)
      ·refine (ref_inE plan plan[k].Inputs h.len ha.len _).trans ?_
       cases hf:bA (ru plan plan[k].Inputs) plan[k].Inputs 0 with
       | none=>rw [tR hf];rfl
       | some e=>obtain ⟨q1,q2⟩:=tQ hf;rw [q2,q1];rfl
      rfl
     rfl
    rfl
   by_cases h0:0<k
   ·simp only [h0,decide_true,Bool.true_and,dw,gn h0 hk h62,ed,fN (show k - 1<plan.length by omega),fm]
    cases decide (plan[k].ID≤(plan[k-1]'(by omega)).ID)
    ·exact rest
    rfl
   simp only [h0,decide_false,Bool.false_and,lQ,ed,fm]
   exact rest
  ·rfl
 rw [gu]
 cases bA (lc plan) plan 0 <;> rfl
end SX
end Go.Proofs.YthbphcbhedmnoaaDoor
set_option maxRecDepth 100000
namespace Go.Proofs.YthbphcbhedmnoaaDoor
namespace SX
open Go
theorem pQ {κ:Kr} {p:Za} {ds:List Value} (h:Rps κ (Za.enc p) ds):POk p :=
 ⟨qt (k:=1) h rfl,strs_of (k:=5) h rfl,by have:=qu (k:=6) h rfl;simpa using this⟩
theorem tS {l:List Za} (hv:VPs l) (hi:VIds l):PSOk l:=by
 refine ⟨by have:=hv.len;omega,fun p hp=>⟨?_,rq (hv.all p hp),?_⟩⟩
 ·have:=tO (hi.lvl p hp);omega
 have:=(hv.all p hp).few;omega
end SX
end Go.Proofs.YthbphcbhedmnoaaDoor
namespace Go.Proofs.YthbphcbhedmnoaaDoor
namespace SX
open Go
theorem awake13:fQ=some true:=by kernel_rfl
theorem PSOk.set {l:List Za} (h:PSOk l) (k:Nat) {p:Za} (hp:POk p):PSOk (l.set k p):=⟨by rw [List.length_set];exact h.len,fun q hq=>by
 rcases List.mem_or_eq_of_mem_set hq with hq | rfl
 ·exact h.all q hq
 exact hp⟩
theorem lf {l m:List Za} (h:PSOk m) (hl:l.length≤1000) (hs:∀ p∈l,p∈m):PSOk l:=⟨by omega,fun p hp=>h.all p (hs p hp)⟩
theorem fill_Y {xs:List Za} (h:PSOk xs) (hl:xs.length≤10) {k:Nat} (hk:k<xs.length):Y (jc xs (k:Int)) PSOk:=by
 unfold jc
 rw [cy hk,ed]
 refine Y.bind (P:=fun l:List Zb=>l.length≤10) ?_ fun l hl2=>Y.ret (h.set _ ⟨(h.all _ (List.getElem_mem hk)).code,(h.all _ (List.getElem_mem hk)).proc,by dsimp only;omega⟩)
 refine Y.loop (fun s:List Zb×Int=>∃ j:Nat,j≤xs.length∧s.2=(j:Int)∧s.1.length=j) (fun s=>(xs.length - s.2).toNat) ⟨0,Nat.zero_le _,rfl,rfl⟩ (by dsimp only;omega) ?_
 rintro ⟨l,i⟩ ⟨j,hj,hi,hlj⟩
 dsimp only at hi hlj ⊢
 subst hi
 refine Y.cond (fun hc=>?_) (fun _=>Y.ret (by omega))
 have hc:=of_decide_eq_true (Bool.and_eq_true_iff.1 hc).1
 have hjl:j<xs.length:=by omega
 rw [cy hjl,ed,eU (by simp;omega) (by simp;omega),ed]
 refine Y.ret ⟨⟨j+1,by omega,?_,by simp [hlj]⟩,?_⟩
 ·dsimp only;rw [fF (by omega) (by omega)];omega
 dsimp only;rw [fF (by omega) (by omega)];omega
theorem jX (m0:List Int) (m1:Za) (m2 m3 m4:Int) {κ:Kr} {v0 v1 v2 v3 v4:List Value} (_:Rps κ (eL eI m0) v0) (s1:Rps κ [.agg (Za.enc m1)] v1) (_:Rps κ (eI m2) v2) (_:Rps κ (eI m3) v3) (_:Rps κ (eI m4) v4):cz m0 m1 m2 m3 m4=some true:=by
 obtain ⟨ds,s1⟩:=rps_agg s1
 have hr:POk m1:=pQ s1
 have key:Y (cz m0 m1 m2 m3 m4) (fun r=>r=true):=by
  unfold cz
  refine (plan_Y m0).bind fun xs hx=>?_
  have hl:=hx.len
  have hp:PSOk xs:=tS hx.vps hx.vids
  refine (je m2 ((xs.length:Nat):Int) (by omega) (by omega)).bind fun k hk=>?_
  obtain ⟨k,rfl⟩:∃ n:Nat,k=(n:Int):=⟨k.toNat,by omega⟩
  have hkl:k<xs.length:=by omega
  have hq:=hp.all _ (List.getElem_mem hkl)
  have hin:xs[k].Inputs.length≤1000:=by have:=(hx.vps.all _ (List.getElem_mem hkl)).few;omega
  refine (je m3 11 (by omega) (by omega)).bind fun w _=>?_
  refine Y.bind (P:=PSOk) ?_ fun l hl=>?_
  ·rw [cy hkl]
   simp only [ed,Int.toNat_natCast]
   refine Y.cond (fun _=>Y.ret (hp.set k ⟨hq.code,hq.proc,hq.len⟩)) (fun _=>?_)
   refine Y.cond (fun _=>(je m4 12 (by omega) (by omega)).bind fun z _=>Y.ret (hp.set k ⟨hq.code,hq.proc,hq.len⟩)) (fun _=>?_)
   refine Y.cond (fun _=>Y.ret (hp.set k ⟨hr.code,hq.proc,hq.len⟩)) (fun _=>?_)
   refine Y.cond (fun _=>Y.ret (hp.set k ⟨hq.code,hq.proc,hq.len⟩)) (fun _=>?_)
   refine Y.cond (fun _=>Y.ret (hp.set k ⟨hq.code,hq.proc,hq.len⟩)) (fun _=>?_)
   refine Y.cond (fun _=>Y.ret (hp.set k ⟨hq.code,hr.proc,hq.len⟩)) (fun _=>?_)
   refine Y.cond (fun _=>Y.ret (hp.set k ⟨hq.code,hq.proc,hq.len⟩)) (fun _=>?_)
   refine Y.cond (fun _=>?_) (fun _=>?_)
   ·rw [eU (by simp;omega) (by simp;omega),ed]
    refine (je m4 14 (by omega) (by omega)).bind fun z _=>?_
    rw [eU (by simp;omega) (by simp;omega),ed]
    exact Y.ret (hp.set k ⟨hq.code,hq.proc,by simp;omega⟩)
   refine Y.cond (fun _=>?_) (fun _=>?_)
   ·rw [fF (by omega) (by omega),show (k:Int)+1=((k+1:Nat):Int) by omega,show (0:Int)=((0:Nat):Int) from rfl,mS (Nat.zero_le _) (by omega),ed,mS (by omega) (Nat.le_refl _),ed,eU (by simp;omega) (by simp;omega),ed,eU (by simp;omega) (by simp;omega),ed]
    refine Y.ret (lf hp (by simp;omega) fun p hm=>?_)
    rcases List.mem_append.1 hm with hm | hm
    ·rw [List.nil_append] at hm
     exact List.mem_of_mem_take (List.mem_of_mem_drop hm)
    exact List.mem_of_mem_take (List.mem_of_mem_drop hm)
   refine Y.cond (fun _=>?_) (fun _=>?_)
   ·rw [show (0:Int)=((0:Nat):Int) from rfl,mS (Nat.zero_le _) (by omega),ed,mS (by omega) (Nat.le_refl _),ed,eU (by simp;omega) (by simp;omega),ed,eU (by simp;omega) (by simp;omega),ed,eU (by simp;omega) (by simp;omega),ed]
    refine Y.ret (lf hp (by simp;omega) fun p hm=>?_)
    rcases List.mem_append.1 hm with hm | hm
    ·rcases List.mem_append.1 hm with hm | hm
     ·rw [List.nil_append] at hm
      exact List.mem_of_mem_take (List.mem_of_mem_drop hm)
     rw [List.mem_singleton] at hm
     rw [hm];exact List.getElem_mem hkl
    exact List.mem_of_mem_take (List.mem_of_mem_drop hm)
   exact (fill_Y hp (by omega) hkl).bind fun l hl=>Y.ret hl
  rw [pM l hl,ed,ry l hl,ed,beq_self_eq_true,dw,awake13,ed]
  exact Y.ret rfl
 obtain ⟨r,e,rfl⟩:=key
 exact e
def bd3:Nat→Int→Prop:=fun _ _=>True
theorem op3 {H:Type} {eh:TypeId×Value→H} {nb:Nat}:Opens eh nb 3 eI (bd3 nb):=re rfl
def bd22:Nat→(List Int)→Prop:=fun n l=>l.length*8≤140737488355328∧l.length≤n∧∀ x∈l,bd3 n x
theorem op22 {H:Type} {eh:TypeId×Value→H} {nb:Nat}:Opens eh nb 22 (eL eI) (bd22 nb):=ie rfl rfl rfl rfl op3
def bd9:Nat→ByteArray→Prop:=fun _ _=>True
theorem op9 {H:Type} {eh:TypeId×Value→H} {nb:Nat}:Opens eh nb 9 eS (bd9 nb):=rh rfl
def bd4:Nat→Bool→Prop:=fun _ _=>True
theorem op4 {H:Type} {eh:TypeId×Value→H} {nb:Nat}:Opens eh nb 4 eT (bd4 nb):=px rfl
def bd23:Nat→(List ByteArray)→Prop:=fun n l=>l.length*16≤140737488355328∧l.length≤n∧∀ x∈l,bd9 n x
theorem op23 {H:Type} {eh:TypeId×Value→H} {nb:Nat}:Opens eh nb 23 (eL eS) (bd23 nb):=ie rfl rfl rfl rfl op9
def bd32:Nat→Zb→Prop:=fun n m=>bd3 n m.Product∧bd3 n m.Value∧True
theorem op32 {H:Type} {eh:TypeId×Value→H} {nb:Nat}:Opens eh nb 32 Zb.enc (bd32 nb):=fun W fuel cs x hx hw hbk=>by
 obtain ⟨xs,n,rfl,rfl,hl,hlen,hf⟩:=DataW.trod_struct (aF (t:=32) rfl) hx
 obtain ⟨x0,x1,rfl⟩:∃ x0 x1,xs=[x0,x1]:=by
  match xs,hlen with
  | [a0,a1],_=>exact ⟨a0,a1,rfl⟩
 have hw2:∀ n∈DataW.weightsEach Tryd.prog [3,3] [x0.1,x1.1],n≤reachBytes:=fun n hn=>hw n (by simp only [DataW.weights,aF (t:=32) rfl];exact hn)
 simp only [DataW.weightsEach,List.mem_append] at hw2
 simp only [Rows.uptoBulk,List.map_cons,List.map_nil,Rows.uptoBulkAll] at hbk
 have g0:DataW.trod eh Tryd.prog W 0 (fun _=>true) true n 3 ((cs.drop 0).take (Tryd.prog.cellsOf 3))=some x0:=hf 0 _ rfl
 rw [(bw (t:=3) rfl).1] at g0
 obtain ⟨m0,r0,o0,c0⟩:=op3 (nb:=nb) W n _ _ g0 (fun n hn=>hw2 n (.inl hn)) (by omega)
 have g1:DataW.trod eh Tryd.prog W 0 (fun _=>true) true n 3 ((cs.drop 1).take (Tryd.prog.cellsOf 3))=some x1:=hf 1 _ rfl
 rw [(bw (t:=3) rfl).1] at g1
 obtain ⟨m1,r1,o1,c1⟩:=op3 (nb:=nb) W n _ _ g1 (fun n hn=>hw2 n (.inr (.inl hn))) (by omega)
 have hl2:cs.length=2:=hl.trans (bw (t:=32) rfl).1
 exact ⟨(⟨m0,m1⟩:Zb),(dV (off:=0) r0 (dV (off:=1) r1 (qo hl2))),(dW (off:=0) o0 (dW (off:=1) o1 (qp hl2))),⟨c0,c1,trivial⟩⟩
def bd24:Nat→(List Zb)→Prop:=fun n l=>l.length*16≤140737488355328∧l.length≤n∧∀ x∈l,bd32 n x
theorem op24 {H:Type} {eh:TypeId×Value→H} {nb:Nat}:Opens eh nb 24 (eL Zb.enc) (bd24 nb):=ie rfl rfl rfl rfl op32
def bd26:Nat→Za→Prop:=fun n m=>bd3 n m.ID∧bd9 n m.Code∧bd9 n m.Country∧bd3 n m.Price∧bd4 n m.Obtained∧bd23 n m.Processes∧bd24 n m.Inputs∧True
theorem op26 {H:Type} {eh:TypeId×Value→H} {nb:Nat}:Opens eh nb 26 Za.enc (bd26 nb):=fun W fuel cs x hx hw hbk=>by
 obtain ⟨xs,n,rfl,rfl,hl,hlen,hf⟩:=DataW.trod_struct (aF (t:=26) rfl) hx
 obtain ⟨x0,x1,x2,x3,x4,x5,x6,rfl⟩:∃ x0 x1 x2 x3 x4 x5 x6,xs=[x0,x1,x2,x3,x4,x5,x6]:=by
  match xs,hlen with
  | [a0,a1,a2,a3,a4,a5,a6],_=>exact ⟨a0,a1,a2,a3,a4,a5,a6,rfl⟩
 have hw2:∀ n∈DataW.weightsEach Tryd.prog [3,9,9,3,4,23,24] [x0.1,x1.1,x2.1,x3.1,x4.1,x5.1,x6.1],n≤reachBytes:=fun n hn=>hw n (by simp only [DataW.weights,aF (t:=26) rfl];exact hn)
 simp only [DataW.weightsEach,List.mem_append] at hw2
 simp only [Rows.uptoBulk,List.map_cons,List.map_nil,Rows.uptoBulkAll] at hbk
 have g0:DataW.trod eh Tryd.prog W 0 (fun _=>true) true n 3 ((cs.drop 0).take (Tryd.prog.cellsOf 3))=some x0:=hf 0 _ rfl
 rw [(bw (t:=3) rfl).1] at g0
 obtain ⟨m0,r0,o0,c0⟩:=op3 (nb:=nb) W n _ _ g0 (fun n hn=>hw2 n (.inl hn)) (by omega)
 have g1:DataW.trod eh Tryd.prog W 0 (fun _=>true) true n 9 ((cs.drop 1).take (Tryd.prog.cellsOf 9))=some x1:=hf 1 _ rfl
 rw [(bw (t:=9) rfl).1] at g1
 obtain ⟨m1,r1,o1,c1⟩:=op9 (nb:=nb) W n _ _ g1 (fun n hn=>hw2 n (.inr (.inl hn))) (by omega)
 have g2:DataW.trod eh Tryd.prog W 0 (fun _=>true) true n 9 ((cs.drop 2).take (Tryd.prog.cellsOf 9))=some x2:=hf 2 _ rfl
 rw [(bw (t:=9) rfl).1] at g2
 obtain ⟨m2,r2,o2,c2⟩:=op9 (nb:=nb) W n _ _ g2 (fun n hn=>hw2 n (.inr (.inr (.inl hn)))) (by omega)
 have g3:DataW.trod eh Tryd.prog W 0 (fun _=>true) true n 3 ((cs.drop 3).take (Tryd.prog.cellsOf 3))=some x3:=hf 3 _ rfl
 rw [(bw (t:=3) rfl).1] at g3
 obtain ⟨m3,r3,o3,c3⟩:=op3 (nb:=nb) W n _ _ g3 (fun n hn=>hw2 n (.inr (.inr (.inr (.inl hn))))) (by omega)
 have g4:DataW.trod eh Tryd.prog W 0 (fun _=>true) true n 4 ((cs.drop 4).take (Tryd.prog.cellsOf 4))=some x4:=hf 4 _ rfl
 rw [(bw (t:=4) rfl).1] at g4
 obtain ⟨m4,r4,o4,c4⟩:=op4 (nb:=nb) W n _ _ g4 (fun n hn=>hw2 n (.inr (.inr (.inr (.inr (.inl hn)))))) (by omega)
 have g5:DataW.trod eh Tryd.prog W 0 (fun _=>true) true n 23 ((cs.drop 5).take (Tryd.prog.cellsOf 23))=some x5:=hf 5 _ rfl
 rw [(bw (t:=23) rfl).1] at g5
 obtain ⟨m5,r5,o5,c5⟩:=op23 (nb:=nb) W n _ _ g5 (fun n hn=>hw2 n (.inr (.inr (.inr (.inr (.inr (.inl hn))))))) (by omega)
 have g6:DataW.trod eh Tryd.prog W 0 (fun _=>true) true n 24 ((cs.drop 6).take (Tryd.prog.cellsOf 24))=some x6:=hf 6 _ rfl
 rw [(bw (t:=24) rfl).1] at g6
 obtain ⟨m6,r6,o6,c6⟩:=op24 (nb:=nb) W n _ _ g6 (fun n hn=>hw2 n (.inr (.inr (.inr (.inr (.inr (.inr (.inl hn)))))))) (by omega)
 have hl2:cs.length=7:=hl.trans (bw (t:=26) rfl).1
 exact ⟨(⟨m0,m1,m2,m3,m4,m5,m6⟩:Za),(dV (off:=0) r0 (dV (off:=1) r1 (dV (off:=2) r2 (dV (off:=3) r3 (dV (off:=4) r4 (dV (off:=5) r5 (dV (off:=6) r6 (qo hl2)))))))),(dW (off:=0) o0 (dW (off:=1) o1 (dW (off:=2) o2 (dW (off:=3) o3 (dW (off:=4) o4 (dW (off:=5) o5 (dW (off:=6) o6 (qp hl2)))))))),⟨c0,c1,c2,c3,c4,c5,c6,trivial⟩⟩
end SX
end Go.Proofs.YthbphcbhedmnoaaDoor
set_option maxRecDepth 100000
namespace Go.Proofs.YthbphcbhedmnoaaDoor
open Go Go.ChangeShapes Go.WideShapes Go.RowKit
open SX
theorem planChanged_lifted (os:Os) (started:os.Started) (H:Type) (enc:TypeId×Value→H) :
    ReturnsInHanded {} Tryd.checked os 3 .any (fun w args=>(Rows.planChangedSpec.pre enc Tryd.prog Tryd.f3 [] false w args∧laidMetH Tryd.prog lT w)∧sizedMet enc Tryd.prog Tryd.f3 (OpenSpec.ofChange Rows.planChangedSpec) false w args)
      (Rows.planChangedSpec.post enc Tryd.prog Tryd.f3 false true false false):=by
  refine returnsInHanded_of_change_and (C:=Tryd.checked) (X:=fun w _=>laidMetH Tryd.prog lT w) (fun _ _ _ hh h=>h.of_heap hh) own_ok started (by kernel_rfl) Tryd.func3
    (ChangeSpec.witness_at (enc:=enc) (C:=Tryd.checked) (os:=os) (X:=fun w _=>laidMetH Tryd.prog lT w) false (laidWorld os) #[.slice none 0 0,.agg #[.int .i64 0,.string ByteArray.empty,.string ByteArray.empty,.int .i64 0,.bool false,.slice none 0 0,.slice none 0 0],.int .i64 0,.int .i64 0,.int .i64 0] 8 rfl (by kernel_rfl) (by kernel_rfl) (by kernel_rfl) (by kernel_rfl) (by kernel_rfl) (lp os _)) ?_
  intro W base args ds gs before hval0 hW _ hwt hL _
  have hval:∀ (j:Nat) t v,Tryd.f3.params[j]?=some t→args[j]?=some v→Value.okWide Tryd.prog W .any base t v:=hval0
  have hW2:=hW
  obtain ⟨p,q,hA0,hV0,rfl,_,_⟩:=hW
  have hA:DataW.TrodAll enc Tryd.prog W 0 (fun _=>true) true [22,26,3,3,3] args.toList ds p:=hA0
  obtain ⟨rfl,rfl⟩:gs=[]∧q=[]:=by
    cases gs with
    | nil=>exact ⟨rfl,hV0⟩
    | cons g r=>exact absurd hV0 (by intro h;cases h)
  generalize hargs:args.toList=vs at hA
  have hval2:∀ (j:Nat) t v,[22,26,3,3,3][j]?=some t→vs[j]?=some v→Value.okWide Tryd.prog W .any base t v:=fun j t v h1 h2=>hval j t v (by rw [Tryd.params3];simpa using h1) (by rw [← hargs] at h2;simpa using h2)
  obtain ⟨v0,vs0,d0,ds0,p0,q0,rfl,rfl,h0,hA⟩:=SX.trodAll_cons hA
  obtain ⟨v1,vs1,d1,ds1,p1,q1,rfl,rfl,h1,hA⟩:=SX.trodAll_cons hA
  obtain ⟨v2,vs2,d2,ds2,p2,q2,rfl,rfl,h2,hA⟩:=SX.trodAll_cons hA
  obtain ⟨v3,vs3,d3,ds3,p3,q3,rfl,rfl,h3,hA⟩:=SX.trodAll_cons hA
  obtain ⟨v4,vs4,d4,ds4,p4,q4,rfl,rfl,h4,hA⟩:=SX.trodAll_cons hA
  obtain ⟨rfl,rfl⟩:=SX.trodAll_nil hA
  have hw:(DataW.weightsEach Tryd.prog [22,26,3,3,3] [d0,d1,d2,d3,d4]).all (· ≤ reachBytes)=true:=hwt
  obtain ⟨l0,hw⟩:=SX.light_head hw
  obtain ⟨m0,s0,b0⟩:=ka rfl rfl op22 (fun _=>⟨_,rfl⟩) (hval2 0 22 v0 rfl rfl) h0 l0 (Nat.le_refl _)
  obtain ⟨l1,hw⟩:=SX.light_head hw
  obtain ⟨m1,r1,b1⟩:=arg_agg rfl rfl op26 (hval2 1 26 v1 rfl rfl) h1 l1 (Nat.le_refl _)
  have s1:=Rps.cons r1 .nil
  obtain ⟨l2,hw⟩:=SX.light_head hw
  obtain ⟨m2,s2,b2⟩:=ka rfl rfl op3 (fun _=>⟨_,rfl⟩) (hval2 2 3 v2 rfl rfl) h2 l2 (Nat.le_refl _)
  obtain ⟨l3,hw⟩:=SX.light_head hw
  obtain ⟨m3,s3,b3⟩:=ka rfl rfl op3 (fun _=>⟨_,rfl⟩) (hval2 3 3 v3 rfl rfl) h3 l3 (Nat.le_refl _)
  obtain ⟨l4,hw⟩:=SX.light_head hw
  obtain ⟨m4,s4,b4⟩:=ka rfl rfl op3 (fun _=>⟨_,rfl⟩) (hval2 4 3 v4 rfl rfl) h4 l4 (Nat.le_refl _)
  exact tv (readB (by kernel_rfl)) rfl (aF rfl) rfl (by simp [Rows.planChangedSpec]) hW2 (ol hL) (by rw [hargs];exact (s0.app (s1.app (s2.app (s3.app s4))))) (ij (jX m0 m1 m2 m3 m4 s0 s1 s2 s3 s4))
theorem planChanged_holds:Rows.PlanChangedSaid :=
 OpenClaim.holds_of_wide 3 Tryd.f3 rfl rfl rfl rfl rfl rfl rfl ⟨rfl,rfl,rfl,rfl,rfl⟩ rfl rfl rfl rfl rfl planChanged_named Tryd.func3 planChanged_closed
  (of_decide_eq_true (by kernel_rfl)) (by unfold Func.isWrapper;rw [if_neg (of_decide_eq_false (by kernel_rfl))];exact ⟨rfl,rfl⟩)
  (fun os started H enc _=>planChanged_lifted os started H enc)
theorem planChanged_card:Rows.PlanChangedCardSaid :=
 Claim7.holds_tied_plain_at .later [] [.data,.data,.pinned] true (true, "31b53dbd1f3c1ee1035887273c4f8b06d34360f0a0368b089ada07ce58b5abb1") false
  planChanged_holds (fun _ h=>by cases h) (by as_aux_lemma=>kernel_rfl) (fun _ h=>by cases h) planChanged_row_tie rfl ⟨rfl,rfl⟩ fp_main rfl
  (fun f fn hf hfn=>by
   obtain rfl:f=3:=Option.some.inj ((show Tryd.prog.funcNamed "customs/customslaw13.PlanChanged" = some 3 from planChanged_named).symm.trans hf) |>.symm
   obtain rfl:fn=Tryd.f3:=(Option.some.inj (Tryd.func3.symm.trans hfn)).symm
   exact ⟨fp_looks,fun j t ht=>by
    rw [Tryd.params3] at ht
    exact om (by as_aux_lemma=>kernel_rfl) ht⟩)
  planChanged_goes
#print axioms planChanged_card
end Go.Proofs.YthbphcbhedmnoaaDoor
