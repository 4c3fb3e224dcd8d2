/- PlanComponents: for every input the law returns true, and each argument reads afterwards as it read before. Conditions: the package variables are as the program's text lays them (the card ties them). -/
import Derived.Test.YtipjgkapcgpgbaaDoorM2
import Derived.Test.YtipjgkapcgpgbaaDoorL4q
set_option linter.unusedVariables false
set_option linter.unusedSimpArgs false
set_option maxHeartbeats 4000000
set_option maxRecDepth 100000
namespace Go.Proofs.YtipjgkapcgpgbaaDoor
namespace SX
open Go
section
variable {K V:Type} [DecidableEq K]
theorem ra {xs:List (K×V)} {k:K} (h:∀ p∈xs,p.1≠k):jQ xs k=xs:=by
 induction xs with
 | nil=>rfl
 | cons p r ih =>
  obtain ⟨a,v⟩:=p
  unfold jQ
  rw [if_neg (h (a,v) (by simp)),ih (fun p hp=>h p (by simp [hp]))]
theorem qr:∀ {xs:List (K×V)},MND xs→∀ {k:K} {v:V} {i:Nat},xs[i]?=some (k,v)→jQ xs k=xs.eraseIdx i
 | (a,w)::r,nd,k,v,0,h=>by
  simp only [List.getElem?_cons_zero,bG,Prod.mk.injEq] at h
  unfold jQ;rw [if_pos h.1,List.eraseIdx_cons_zero]
 | (a,w)::r,nd,k,v,i+1,h=>by
  simp only [List.getElem?_cons_succ] at h
  have nd':=List.pairwise_cons.1 nd
  have hne:a≠k:=nd'.1 (k,v) (List.mem_of_getElem? h)
  unfold jQ;rw [if_neg hne,List.eraseIdx_cons_succ,qr nd'.2 h]
end
theorem KVs.erase {κ:Kr}:∀ {kvs:List (Value×PV)} {es:List MapEntry} (i:Nat),KVs κ kvs es→KVs κ (kvs.eraseIdx i) (es.eraseIdx i)
 | _,_,_,.nil=>.nil
 | _,_,0,.cons _ hs=>hs
 | _,_,i+1,.cons h hs=>.cons h (KVs.erase i hs)
theorem MapWf.erase {es:List MapEntry} {clock:Nat} (h:MapWf es clock) (i:Nat):MapWf (es.eraseIdx i) clock where
 nd:=h.nd.sublist (List.eraseIdx_sublist es i)
 bn:=h.bn.sublist (List.eraseIdx_sublist es i)
 lt:=fun e he=>h.lt e ((List.eraseIdx_sublist es i).subset he)
theorem jL {α β:Type} (f:α→β):∀ (l:List α) (i:Nat),(l.map f).eraseIdx i=(l.eraseIdx i).map f
 | [],_=>rfl
 | _::_,0=>rfl
 | x::l,i+1=>congrArg (f x::·) (jL f l i)
theorem KVs.length {κ:Kr} {kvs:List (Value×PV)} {es:List MapEntry} (h:KVs κ kvs es):kvs.length=es.length:=by
 have:=congrArg List.length h.keys;simpa using this
theorem tp {t kt et ty b clock:Nat} (ht:bV t=some (.map kt et)) {es:List MapEntry} {w:World} (hb:w.heap[b]?=some (.map es.toArray clock)):(Builtin.len_ #[t] ty #[.map (some b)]).run Tryd.prog w=.ok (.int .i64 (es.length:Int)) w:=by
 simp [Builtin.len_,run_underlying (aO ht),fY hb,goInt]
theorem mN {t kt et ty:Nat} (ht:bV t=some (.map kt et)) {w:World}:(Builtin.len_ #[t] ty #[.map none]).run Tryd.prog w=.ok (.int .i64 0) w:=by
 simp [Builtin.len_,run_underlying (aO ht),goInt]
theorem oj {t kt et ty b clock:Nat} {ts:Array TypeId} {v:Value} {P:Value→Prop} (h0:ts[0]?=some t) (ht:bV t=some (.map kt et)) (L:KeyLaw kt P) (hv:P v) {es:List MapEntry} (hes:∀ e∈es,P e.key) {w:World} (hb:w.heap[b]?=some (.map es.toArray clock)):∃ r es',Found v es r∧(Builtin.delete_ ts ty #[.map (some b),v]).run Tryd.prog w=.ok (.tuple #[]) { w with heap:=w.heap.setIfInBounds b (.map es'.toArray clock) }∧((r=none∧es'=es)∨∃ i e,es[i]?=some e∧e.key=v∧r=some (i,e.val)∧es'=es.eraseIdx i):=by
 obtain ⟨r,h1,h2⟩:=L.find v es hv hes w
 have h2':=h2
 rcases h2 with ⟨rfl,h3⟩ | ⟨i,e,rfl,h3,h4⟩
 ·refine ⟨none,es,h2',?_,.inl ⟨rfl,rfl⟩⟩
  simp only [Builtin.delete_,h0,List.getElem?_toArray,List.getElem?_cons_zero,List.getElem?_cons_succ,Sem.run_bind,run_underlying (aO ht),Result.andThen_ok,fY hb,L.chk v hv,h1,iW _ hb]
  simp
 refine ⟨some (i,e.val),es.eraseIdx i,h2',?_,.inr ⟨i,e,h3,h4,rfl,rfl⟩⟩
 have hlt:i<es.length:=(List.getElem?_eq_some_iff.1 h3).1
 have hm:es.toArray.eraseIdxIfInBounds i=(es.eraseIdx i).toArray:=by
  simp [Array.eraseIdxIfInBounds,hlt]
 simp only [Builtin.delete_,h0,List.getElem?_toArray,List.getElem?_cons_zero,List.getElem?_cons_succ,Sem.run_bind,run_underlying (aO ht),Result.andThen_ok,fY hb,L.chk v hv,h1,hm,iW _ hb]
 simp
section
variable {K V:Type} [DecidableEq K] {ek:K→Value} {vv:V→PV} {xs:List (K×V)} {o:Oper} {σ:PEnv} {ρ ρ':List PRes} {c:Bool} {x y:Operand} {t kt et:Nat} {KK:PV→List PRes→Prop} {k:K} {b:Nat} {pk:PV} {mo:Option Nat}
omit [DecidableEq K] in
theorem pq_lenM (ho:o.op=.call { callee:=.builtin .len,args:=#[x],argTypes:=#[t] }) (ht:bV t=some (.map kt et)) (hx:PEv σ c x (.v (.map mo))) (hm:MapIs ρ mo (aZ ek vv xs)):POpQ c o σ ρ (.v (.int .i64 (xs.length:Int))):=fun κ σ' ρ' g hs hr=>by
 cases c with
 | false=>exact oH
 | true =>
  refine ⟨.int .i64 (xs.length:Int),fun _=>.v rfl,fun hc w hw=>?_⟩
  have e1:SX.ev σ' x=.map mo:=hs.ve hx hc
  obtain ⟨es,clock,h1,hn,h2,h3⟩:=hm κ ρ' hr
  have hl:es.length=xs.length:=by rw [← h3.length];simp [aZ]
  cases mo with
  | none =>
   have:=hn rfl;subst this
   have:xs.length=0:=hl.symm
   simp only [execOp,ho,resolve,invoke,builtin,Sem.run_bind,Sem.run_pure,Result.andThen_ok,List.map_toArray,List.map_cons,List.map_nil,e1,mN ht,this]
   rfl
  | some b =>
   have hb:w.heap[b]?=some (.map es.toArray clock):=hw.own _ h1
   simp only [execOp,ho,resolve,invoke,builtin,Sem.run_bind,Sem.run_pure,Result.andThen_ok,List.map_toArray,List.map_cons,List.map_nil,e1,tp ht hb,hl]
theorem tq {κ:Kr} {es es':List MapEntry} {clock:Nat} {r:Option (Nat×Value)} (hinj:∀ a b,ek a=ek b→a=b) (hw:MapWf es clock) (h:KVs κ (aZ ek vv xs) es) (hf:Found (ek k) es r)
    (hc:(r=none∧es'=es)∨∃ i e,es[i]?=some e∧e.key=ek k∧r=some (i,e.val)∧es'=es.eraseIdx i):MapWf es' clock∧KVs κ (aZ ek vv (jQ xs k)) es':=by
  rcases hc with ⟨rfl,rfl⟩ | ⟨i,e,h1,h2,rfl,rfl⟩
  · rcases fX hinj h hw hf with ⟨_,h3,h4⟩ | ⟨i,e,v,h3,_⟩
    · rw [ra h3];exact ⟨hw,h⟩
    cases h3
  rcases fX hinj h hw hf with ⟨h3,_⟩ | ⟨i',e',v',h3,h4,h5,h6,h7⟩
  · cases h3
  have hi:i'=i:=by injection h3 with h3;injection h3 with h3 _;exact h3.symm
  subst hi
  refine ⟨hw.erase _,?_⟩
  rw [qr (mF h hw) h6]
  have:=KVs.erase i' h
  rw [aZ,jL] at this
  exact this
theorem rb {ts:List Nat} (ho:o.op=.call { callee:=.builtin .delete,args:=#[x,y],argTypes:=ts.toArray }) (h0:ts[0]?=some t) (ht:bV t=some (.map kt et)) (L:KEnc kt ek) (hx:az σ x=.v (.map (some b))) (hy:az σ y=pk) (hk:∀ κ u,Rp κ pk u→u=ek k) (hu:PUpd ρ (.mp (some b) (aZ ek vv xs)) (.mp (some b) (aZ ek vv (jQ xs k))) ρ') (h:KK (.tup []) ρ'):POpL o σ ρ KK:=fun κ σ' rr g hs hr=>by
 obtain ⟨P,hL,hP⟩:=L.law
 obtain ⟨r0,l1,l2,rfl,h4,h5⟩:=hr.upd hu
 cases h4 with
 | mp hn hw hkv =>
  rename_i es clock
  intro β hi Nx hnx
  have hb:κ.w.heap[b]?=some (.map es.toArray clock):=hi.own (Res.mp (some b) es clock) (by simp)
  have e1:SX.ev σ' x=.map (some b):=hs.v1 hx
  have e2:SX.ev σ' y=ek k:=hk κ _ (by have:=hs.ev y;rwa [hy] at this)
  obtain ⟨r,es',f1,f2,f3⟩:=oj (ty:=o.type) (ts:=ts.toArray) (by simpa using h0) ht hL (hP k) (mG hP hkv) hb
  obtain ⟨w1,w2⟩:=tq (vv:=vv) L.inj hw hkv f1 f3
  obtain ⟨i1,i2⟩:=hi.mapTurn (es':=es') (clock':=clock)
  simp only [execOp,ho,resolve,invoke,builtin,Sem.run_bind,Sem.run_pure,Result.andThen_ok,List.map_toArray,List.map_cons,List.map_nil,e1,e2,f2,OutV]
  exact hnx _ _ _ i1 i2 ⟨.tup [],ρ',.tup .nil,h5 _ _ i2 (.mp (fun h=>by cases h) w1 (w2.mono i2)),h⟩
end
end SX
namespace SX
open Go
attribute [local irreducible] PWL PWC PWD POpL POpQ PEv PGuardIs PSub PPick PUpd PSplice PFill PLit PF PFV PCall FOk eK dn jB jC gU iM Cov PHolds aY idx app mk gd lb nz tG cat sub ms jP ior si qO gJ sk sm IntKind.wrap Int.tmod Int.tdiv Op.bytesLess strOfNums
def ef (p0:(List ByteArray)):Option Bool:=cond (decide (8<(p0.length:Int))) (some false) ((aY (S:=Int) (T:=(Unit)⊕(_)) (fun v2=>cond (decide (v2<(p0.length:Int))) ((idx p0 v2).bind fun m6=>(gC m6).bind fun x7=>(gd ((!(!x7))&&(decide (0<v2))) (idx p0 (IntKind.i64.wrap (v2 - 1)))).bind fun m8=>cond ((!x7)||((decide (0<v2))&&(Op.bytesLess m6.toList m8.toList||decide (m6=m8)))) (some (.inr (.inr false))) (some (.inl (IntKind.i64.wrap (v2+1))))) (some (.inr (.inl ())))) FUEL 0).bind fun q=>match q with | .inl _=>some true | .inr e=>some e)
theorem im {p0:(List ByteArray)} {r:Bool}  (h:ef p0=some r):PF 49 [pL eS p0] (pB r):=by
 unfold ef at h
 refine bN ?_
 refine aI Tryd.func49 rfl Tryd.ntmps49 Tryd.results49 rfl (ae (aH [2] (by kernel_rfl) (fp (ai [5,6] [(7,pB (decide (8<(p0.length:Int))))] (by kernel_rfl) (da rfl h (fun hc1 h=>?_) fun hc1 h=>?_)))))
 ·refine ae ?_
  refine ah [(2,pB false)] (by kernel_rfl) (dh (ar ?_))
  exact zz r h rfl
 refine aj ?_
 refine fp (ah [(8,pL eS p0),(9,pI (p0.length:Int)),(10,pI 0)] (by kernel_rfl) (au (aa h fun q4 hq4 h=>?_)))
 refine aA (Y:=Unit×Unit) (fun (_,_)=>[]) (fun (_,_)=>[]) (fun (_,_)=>q4=Sum.inl ()) ?_ ?_
 ·refine ak ?_
  refine aC (Y:=Unit) (S:=Int) _ hq4 (fun _ v2=>[(0,pL eS p0),(8,pL eS p0),(9,pI (p0.length:Int)),(10,pI v2)]) (fun _ v2=>[]) () (jc rfl) dX ?_
  rintro _ v2 o τ hb3;(try dsimp only at hb3);dsimp only [aw]
  refine ae (ah [(11,pB (decide (v2<(p0.length:Int))))] (by kernel_rfl) (bw (qf rfl hb3 (fun hc5 hb3=>?_) fun hc5 hb3=>?_)))
  ·refine aj ?_
   refine bw (ak (ae (aa hb3 fun m6 hm6 hb3=>aK [] [12,13,14] [(3,pI v2),(4,pS m6)] (cT 1 eS hm6 cb) (by kernel_rfl) (bw (aa hb3 fun x7 hx7 hb3=>aa hb3 fun m8 hm8 hb3=>aK [] (rg 15 15) [(30,pB ((!x7)||((decide (0<v2))&&(Op.bytesLess m6.toList m8.toList||decide (m6=m8)))))] (dQ 1 (jR hx7) (iU 11 eS (cX hm8) cb)) (by kernel_rfl) (da rfl hb3 (fun hc9 hb3=>?_) fun hc9 hb3=>?_))))))
   ·refine ae ?_
    refine ah [(2,pB false)] (by kernel_rfl) (dh (am (ar ?_)))
    refine ba hb3 (fun ht=>?_);subst ht
    refine am (aT ?_)
    exact zz r h rfl
   refine aj ?_
   refine al (au (ai [31] [(10,pI (IntKind.i64.wrap (v2+1)))] (by kernel_rfl) ?_))
   exact aR hb3 () (jc rfl) dX
  refine aE ?_
  refine ap (an hb3 (fun ht=>aq rfl ?_))
  exact aM ((),()) lg dX ht.symm
 rintro ⟨_,_⟩ τ hz;(try dsimp only at hz);subst q4;(try dsimp only at h);dsimp only [aw]
 refine ae (ah [(2,pB true)] (by kernel_rfl) (dh ?_))
 exact zz r h rfl
def bZ (p0:Za):Option Int:=(fk p0.Code).bind fun x2=>(gd (!((x2 != 6)&&(x2 != 8))) (cE p0.Country)).bind fun x3=>(gd (!(((x2 != 6)&&(x2 != 8))||(!x3))) (ef p0.Processes)).bind fun x4=>cond ((((x2 != 6)&&(x2 != 8))||(!x3))||(!x4)) (some (1:Int)) (cond ((decide (p0.Price<1))||(decide (1000000000000<p0.Price))) (some (2:Int)) (cond (decide (8<(p0.Inputs.length:Int))) (some (8:Int)) (cond (p0.Obtained&&(decide (0<(p0.Inputs.length:Int)))) (some (1:Int)) (some (0:Int)))))
theorem eC {p0:Za} {r:Int}  (h:bZ p0=some r):PF 27 [.agg (aG p0)] (pI r):=by
 unfold bZ at h
 refine bN ?_
 refine aI Tryd.func27 rfl Tryd.ntmps27 Tryd.results27 rfl (ae (af (av rfl (gW (cs:=(aG p0)) rfl rfl (fun b1=>fZ [2] (by kernel_rfl) (bw (aa h fun x2 hx2 h=>aK [0] [4,5,6] [(3,pI x2)] (dQ 2 (gO hx2) cb) (by kernel_rfl) (fp (aa h fun x3 hx3 h=>aa h fun x4 hx4 h=>aK [0,0] (rg 7 17) [(24,pB ((((x2 != 6)&&(x2 != 8))||(!x3))||(!x4)))] (fV 9 (fun hc=>fi (cX hx3 hc)) (fV 15 (fun hc=>im (cX hx4 hc)) cb)) (by kernel_rfl) (da rfl h (fun hc5 h=>?_) fun hc5 h=>?_))))))))))
 ·refine ae ?_
  refine ah [(2,pI 1)] (by kernel_rfl) (dh (ar ?_))
  exact zz r h rfl
 refine aj ?_
 refine fp (fh [0,0] (rg 25 7) [(32,pB ((decide (p0.Price<1))||(decide (1000000000000<p0.Price))))] (by kernel_rfl) (da rfl h (fun hc6 h=>?_) fun hc6 h=>?_))
 ·refine ae ?_
  refine ah [(2,pI 2)] (by kernel_rfl) (dh (ar ?_))
  exact zz r h rfl
 refine aj ?_
 refine fp (fh [0] [33,34,35] [(36,pB (decide (8<(p0.Inputs.length:Int))))] (by kernel_rfl) (da rfl h (fun hc7 h=>?_) fun hc7 h=>?_))
 ·refine ae ?_
  refine ah [(2,pI 8)] (by kernel_rfl) (dh (ar ?_))
  exact zz r h rfl
 refine aj ?_
 refine fp (fh [0,0] (rg 37 7) [(44,pB (p0.Obtained&&(decide (0<(p0.Inputs.length:Int)))))] (by kernel_rfl) (da rfl h (fun hc8 h=>?_) fun hc8 h=>?_))
 ·refine ae ?_
  refine ah [(2,pI 1)] (by kernel_rfl) (dh (ar ?_))
  exact zz r h rfl
 refine aj ?_
 refine bw (ah [(2,pI 0)] (by kernel_rfl) (dh ?_))
 exact zz r h rfl
def de (p0:(List Za)):Option Int:=cond (decide (64<(p0.length:Int))) (some (8:Int)) ((aY (S:=Int) (T:=(Unit)⊕(_)) (fun v2=>cond (decide (v2<(p0.length:Int))) ((idx p0 v2).bind fun m6=>cond ((decide (m6.ID<1))||(decide (1000000<m6.ID))) (some (.inr (.inr (2:Int)))) ((gd (decide (0<v2)) (idx p0 (IntKind.i64.wrap (v2 - 1)))).bind fun m9=>cond ((decide (0<v2))&&(decide (m6.ID≤m9.ID))) (some (.inr (.inr (9:Int)))) ((bZ m6).bind fun x11=>cond (x11 != 0) (some (.inr (.inr x11))) ((cf p0 m6.Inputs).bind fun x13=>cond (x13 != 0) (some (.inr (.inr x13))) (some (.inl (IntKind.i64.wrap (v2+1)))))))) (some (.inr (.inl ())))) FUEL 0).bind fun q=>match q with | .inl _=>some (0:Int) | .inr e=>some e)
theorem gD {p0:(List Za)} {r:Int}  (h:de p0=some r):PF 10 [pL Za.enc p0] (pI r):=by
 unfold de at h
 refine bN ?_
 refine aI Tryd.func10 rfl Tryd.ntmps10 Tryd.results10 rfl (ae (aH [2] (by kernel_rfl) (fp (ai [7,8] [(9,pB (decide (64<(p0.length:Int))))] (by kernel_rfl) (da rfl h (fun hc1 h=>?_) fun hc1 h=>?_)))))
 ·refine ae ?_
  refine ah [(2,pI 8)] (by kernel_rfl) (dh (ar ?_))
  exact zz r h rfl
 refine aj ?_
 refine fp (ah [(10,pL Za.enc p0),(11,pI (p0.length:Int)),(12,pI 0)] (by kernel_rfl) (au (aa h fun q4 hq4 h=>?_)))
 refine aA (Y:=Unit×Unit) (fun (_,_)=>[]) (fun (_,_)=>[]) (fun (_,_)=>q4=Sum.inl ()) ?_ ?_
 ·refine ak ?_
  refine aC (Y:=Unit) (S:=Int) _ hq4 (fun _ v2=>[(0,pL Za.enc p0),(10,pL Za.enc p0),(11,pI (p0.length:Int)),(12,pI v2)]) (fun _ v2=>[]) () (jc rfl) dX ?_
  rintro _ v2 o τ hb3;(try dsimp only at hb3);dsimp only [aw]
  refine ae (ah [(13,pB (decide (v2<(p0.length:Int))))] (by kernel_rfl) (bw (qf rfl hb3 (fun hc5 hb3=>?_) fun hc5 hb3=>?_)))
  ·refine aj ?_
   refine bw (ak (ae (aa hb3 fun m6 hm6 hb3=>af (bk 3 [] [15] [(14,pI v2),(16,.agg (aG m6))] (cT 1 Za.enc hm6 cb) (by kernel_rfl) (av rfl (ey (cs:=[pI 0,pS ByteArray.empty,pS ByteArray.empty,pI 0,pB false,pN,pN]) rfl rfl rfl rfl (fun b7=>aQ 1 [(3,pI v2)] (by kernel_rfl) (dZ rfl rfl (cC (vs:=(aG m6)) rfl rfl rfl rfl rfl ll zl7 (bA (fp (fh [0,0] (rg 17 7) [(24,pB ((decide (m6.ID<1))||(decide (1000000<m6.ID))))] (by kernel_rfl) (da rfl hb3 (fun hc8 hb3=>?_) fun hc8 hb3=>?_)))))))))))))
   ·refine ae ?_
    refine ah [(2,pI 2)] (by kernel_rfl) (dh (ar (am (ar ?_))))
    refine ba hb3 (fun ht=>?_);subst ht
    refine am (aT ?_)
    exact zz r h rfl
   refine aj ?_
   refine fp (cW (ρd:=[]) [(0,0),(1,0),(2,0),(3,0),(4,0),(5,0),(6,0),(7,0),(8,0),(9,0),(10,0),(11,0),(12,0)] _ (List.Perm.refl _) (by kernel_rfl) rfl (aa hb3 fun m9 hm9 hb3=>cR 13 [0] (rg 25 12) [(37,pB ((decide (0<v2))&&(decide (m6.ID≤m9.ID))))] (iU 8 Za.enc (cX hm9) cb) (by kernel_rfl) (dI (da rfl hb3 (fun hc10 hb3=>?_) fun hc10 hb3=>?_))))
   ·refine ae ?_
    refine ah [(2,pI 9)] (by kernel_rfl) (dh (ar (am (ar ?_))))
    refine ba hb3 (fun ht=>?_);subst ht
    refine am (aT ?_)
    exact zz r h rfl
   refine aj ?_
   refine fp (aa hb3 fun x11 hx11 hb3=>aK [0] [38,39] [(5,pI x11)] (dQ 1 (eC hx11) cb) (by kernel_rfl) (bw (ai [40] [(41,pB (x11 != 0))] (by kernel_rfl) (da rfl hb3 (fun hc12 hb3=>?_) fun hc12 hb3=>?_))))
   ·refine ae ?_
    refine ai [42] [(2,pI x11)] (by kernel_rfl) (dh (ar (am (ar ?_))))
    refine ba hb3 (fun ht=>?_);subst ht
    refine am (aT ?_)
    exact zz r h rfl
   refine aj ?_
   refine bw (aa hb3 fun x13 hx13 hb3=>aK [0] [43,44,45,46] [(6,pI x13)] (dQ 3 (eG hx13) cb) (by kernel_rfl) (bw (ai [47] [(48,pB (x13 != 0))] (by kernel_rfl) (da rfl hb3 (fun hc14 hb3=>?_) fun hc14 hb3=>?_))))
   ·refine ae ?_
    refine ai [49] [(2,pI x13)] (by kernel_rfl) (dh (am (ar ?_)))
    refine ba hb3 (fun ht=>?_);subst ht
    refine am (aT ?_)
    exact zz r h rfl
   refine aj ?_
   refine al (au (ai [50] [(12,pI (IntKind.i64.wrap (v2+1)))] (by kernel_rfl) ?_))
   exact aR hb3 () (jc rfl) dX
  refine aE ?_
  refine ap (an hb3 (fun ht=>aq rfl ?_))
  exact aM ((),()) lg dX ht.symm
 rintro ⟨_,_⟩ τ hz;(try dsimp only at hz);subst q4;(try dsimp only at h);dsimp only [aw]
 refine ae (ah [(2,pI 0)] (by kernel_rfl) (dh ?_))
 exact zz r h rfl
def bp (p0:(List Za)) (p1:Int):Option (List Int):=(aY (S:=(List Int)×(List (Int×Bool))) (T:=((List (Int×Bool)))) (fun (l5,l8)=>cond (decide (0<((l5.length:Nat):Int))) ((idx l5 (IntKind.i64.wrap (((l5.length:Nat):Int) - 1))).bind fun m13=>(cr p0 m13).bind fun x14=>(sub l5 0 (IntKind.i64.wrap (((l5.length:Nat):Int) - 1))).bind fun l15=>cond (!x14.2) (some (.inl (l15,l8))) ((idx p0 x14.1).bind fun m18=>(aY (S:=(List Int)×Int×(List (Int×Bool))) (T:=((List Int)×(List (Int×Bool)))) (fun (l20,v23,l24)=>cond (decide (v23<(m18.Inputs.length:Int))) (((idx m18.Inputs v23).bind fun m39=>cond (!((bd l24 m39.Product).getD false)) ((app 8 l20 [m39.Product]).bind fun l44=>some (l44,(dR l24 m39.Product true))) (some (l20,l24))).bind fun (l36,l37)=>some (.inl (l36,(IntKind.i64.wrap (v23+1)),l37))) (some (.inr (l20,l24)))) FUEL (l15,0,l8)).bind fun (l28,l29)=>some (.inl (l28,l29)))) (some (.inr l8))) FUEL ([p1],([]:List (Int×Bool)))).bind fun l9=>(oh l9).bind fun l50=>some l50
theorem eM {p0:(List Za)} {p1:Int} {r:(List Int)}  (h:bp p0 p1=some r):PF 19 [pL Za.enc p0,pI p1] (pL eI r):=by
 unfold bp at h
 refine bN ?_
 refine aI Tryd.func19 rfl Tryd.ntmps19 Tryd.results19 rfl (ae (aH [4] (by kernel_rfl) (bw (af (av rfl (fx kI vT rfl (fun b1=>aN [(5,.v (.map (some b1)))] (by kernel_rfl) (bw (af (aQ 1 [(12,pI p1)] (by kernel_rfl) (av rfl (bX rfl rfl rfl rfl rfl (gy rfl jD) rfl rfl rfl rfl (fun b2=>aN [(6,pO (some ⟨b2,0,none⟩) 1 1)] (by kernel_rfl) (bw (aa h fun q11 hq11 h=>?_)))))))))))))))
 refine aA (Y:=Unit×((List (Int×Bool)))) (fun (_,l9)=>[(5,.v (.map (some b1)))]) (fun (_,l9)=>[PRes.mp (some b1) (aZ kI vT l9)]) (fun (_,l9)=>q11=l9) ?_ ?_
 ·refine ak ?_
  refine aC (Y:=Option Addr×Nat) (S:=(List Int)×(List (Int×Bool))) _ hq11 (fun (a6,c7) (l5,l8)=>[(0,pL Za.enc p0),(5,.v (.map (some b1))),(6,pO a6 l5.length c7)]) (fun (a6,c7) (l5,l8)=>[PRes.mp (some b1) (aZ kI vT l8),PRes.row a6 l5.length c7 3 1 (List.map eI l5)]) ((some ⟨b2,0,none⟩),1) (lE rfl) (ck (aX bf) cY) ?_
  rintro ⟨a6,c7⟩ ⟨l5,l8⟩ o τ hb10;(try dsimp only at hb10);dsimp only [aw]
  refine ae (ae (ai [14,15] [(16,pB (decide (0<((l5.length:Nat):Int))))] (by kernel_rfl) (da rfl hb10 (fun hc12 hb10=>?_) fun hc12 hb10=>?_)))
  ·refine aj ?_
   refine au (ak (ae (aa hb10 fun m13 hm13 hb10=>af (dL 5 [20,21] [(18,pL Za.enc p0),(19,pO a6 l5.length c7),(22,pI (IntKind.i64.wrap (((l5.length:Nat):Int) - 1)))] (by kernel_rfl) (bW rfl rfl rfl (d8 (enc:=eI) (xs:=l5) rfl rfl rfl (.p rfl) rz (.p rfl) (fun _=>hm13)) (bW rfl rfl rfl (e8 (sz:=1) (p:=pI m13) (enc:=eI) (xs:=l5) (a:=a6) (IntKind.i64.wrap (((l5.length:Nat):Int) - 1)) 0 m13 rfl (.p rfl) rfl rz (fun _=>hm13) rfl) (aa hb10 fun x14 hx14 hb10=>eo [] [25,17,26,27] [(7,pI x14.1),(8,pB x14.2)] (dQ 0 (hC hx14) cb) (by kernel_rfl) (bw (aa hb10 fun l15 hl15 hb10=>af (dL 4 [29,30] [(28,pO a6 l5.length c7),(31,pI (IntKind.i64.wrap (((l5.length:Nat):Int) - 1)))] (by kernel_rfl) ?_))))))))))
   refine av rfl (qZ (enc:=eI) (xs:=l5) rfl rfl rfl rfl rfl (by exact aX bf) hl15 ?_)
   refine aN [(6,pO a6 l15.length c7)] (by kernel_rfl) (fp (ai [33] [(34,pB (!x14.2))] (by kernel_rfl) (da rfl hb10 (fun hc17 hb10=>?_) fun hc17 hb10=>?_)))
   ·refine aE ?_
    refine ap (aq rfl ?_)
    exact aR hb10 (a6,c7) (lE rfl) (ck (aX bf) cY)
   refine aj ?_
   refine bw (aa hb10 fun m18 hm18 hb10=>aK [] [35,36,37,38] [(39,pL Zb.enc m18.Inputs),(40,pI (m18.Inputs.length:Int)),(41,pI 0)] (cT 2 Za.enc hm18 cb) (by kernel_rfl) (au (aa hb10 fun q31 hq31 hb10=>?_)))
   refine fQ (Y:=(Option Addr×Nat)×((List Int)×(List (Int×Bool)))) (fun ((a26,c27),(l28,l29))=>[(0,pL Za.enc p0),(5,.v (.map (some b1))),(6,pO a26 l28.length c27)]) (fun ((a26,c27),(l28,l29))=>[PRes.mp (some b1) (aZ kI vT l29),PRes.row a26 l28.length c27 3 1 (List.map eI l28)]) (fun ((a26,c27),(l28,l29))=>q31=(l28,l29)) ?_ ?_
   ·refine ak ?_
    refine aC (Y:=Option Addr×Nat) (S:=(List Int)×Int×(List (Int×Bool))) _ hq31 (fun (a21,c22) (l20,v23,l24)=>[(0,pL Za.enc p0),(5,.v (.map (some b1))),(6,pO a21 l20.length c22),(39,pL Zb.enc m18.Inputs),(40,pI (m18.Inputs.length:Int)),(41,pI v23)]) (fun (a21,c22) (l20,v23,l24)=>[PRes.mp (some b1) (aZ kI vT l24),PRes.row a21 l20.length c22 3 1 (List.map eI l20)]) (a6,c7) (oI rfl) (ck (aX bf) cY) ?_
    rintro ⟨a21,c22⟩ ⟨l20,v23,l24⟩ o τ hb30;(try dsimp only at hb30);dsimp only [aw]
    refine ae (ah [(42,pB (decide (v23<(m18.Inputs.length:Int))))] (by kernel_rfl) (bw (qf rfl hb30 (fun hc32 hb30=>?_) fun hc32 hb30=>?_)))
    ·refine aj ?_
     refine bw (aa hb30 fun q38 hq38 hb30=>?_)
     refine aA (Y:=(Option Addr×Nat)×((List Int)×(List (Int×Bool)))) (fun ((a34,c35),(l36,l37))=>[(0,pL Za.enc p0),(5,.v (.map (some b1))),(6,pO a34 l36.length c35),(39,pL Zb.enc m18.Inputs),(40,pI (m18.Inputs.length:Int)),(41,pI v23)]) (fun ((a34,c35),(l36,l37))=>[PRes.mp (some b1) (aZ kI vT l37),PRes.row a34 l36.length c35 3 1 (List.map eI l36)]) (fun ((a34,c35),(l36,l37))=>q38=(l36,l37)) ?_ ?_
     ·skip
      refine ak (ae (aa hq38 fun m39 hm39 hq38=>af (bk 2 [] [43] [(44,.agg [pI m39.Product,pI m39.Value])] (cT 0 Zb.enc hm39 cb) (by kernel_rfl) (av rfl (ey (cs:=[pI 0,pI 0]) rfl rfl rfl rfl (fun b40=>dZ rfl rfl (cC (vs:=[pI m39.Product,pI m39.Value]) rfl rfl rfl rfl rfl ll zl2 (bA (bw (af (cM 3 [0] [46] [(45,.v (.map (some b1))),(47,pI m39.Product)] (by kernel_rfl) (bW rfl rfl rfl (show POpQ _ _ _ _ (pB ((bd l24 m39.Product).getD false)) from d9 (xs:=l24) (k:=m39.Product) (ek:=kI) (vv:=vT) (z0:=false) rfl rfl rfl (fun _=>.v rfl) (fw rfl) (.p rfl) (.p rfl) dK (dg rz)) (aN [(49,pB (!((bd l24 m39.Product).getD false)))] (by kernel_rfl) (da rfl hq38 (fun hc41 hq38=>?_) fun hc41 hq38=>?_))))))))))))))
      ·refine ae ?_
       refine af (cM 3 [0] [51] [(50,.v (.map (some b1))),(52,pI m39.Product)] (by kernel_rfl) (dZ rfl rfl (eQ (xs:=l24) (k:=m39.Product) (ek:=kI) (vv:=vT) (v:=true) rfl rfl (fw rfl) rfl rfl dK rfl (mn ll) (bA (au (af (cM 3 [0] [54] [(53,pO a21 l20.length c22),(55,pI m39.Product)] (by kernel_rfl) (av rfl (bX rfl rfl rfl rfl rfl (gy rfl jD) rfl rfl rfl rfl (fun b42=>aa hq38 fun l44 hl44 hq38=>?_))))))))))
       refine av rfl (co (enc:=eI) rfl rfl rfl rfl rfl rfl rfl rfl rfl iR (by exact aX (aX (aX bf))) hl44 (fun a45 c46=>?_))
       refine aN [(6,pO a45 l44.length c46)] (by kernel_rfl) (al ?_)
       obtain rfl:=osi hq38
       exact aM ((a45,c46),(l44,(dR l24 m39.Product true))) (oI rfl) (ck (aX (aX (aX bf))) cY) rfl
      refine aj ?_
      refine al ?_
      obtain rfl:=osi hq38
      exact aM ((a21,c22),(l20,l24)) (oI rfl) (ck (aX bf) (ck (aX bf) dX)) rfl
     rintro ⟨⟨a34,c35⟩,⟨l36,l37⟩⟩ τ hz;(try dsimp only at hz);subst q38;(try dsimp only at hb30);dsimp only [aw]
     refine ai [58] [(41,pI (IntKind.i64.wrap (v23+1)))] (by kernel_rfl) ?_
     exact aR hb30 (a34,c35) (oI rfl) jE
    refine aE ?_
    refine ap (an hb30 (fun ht=>aq rfl ?_))
    exact gt ((a21,c22),(l20,l24)) (lE rfl) jE ht.symm
   rintro ⟨⟨a26,c27⟩,⟨l28,l29⟩⟩ τ ρ1 hsub48 hz;(try dsimp only at hz hsub48);subst q31;(try dsimp only at hb10);dsimp only [aw]
   refine al ?_
   exact aR hb10 (a26,c27) (lE rfl) (PSub.trans jE hsub48)
  refine aE ?_
  refine ap (an hb10 (fun ht=>aq rfl ?_))
  exact aM ((),l8) (sw rfl) cY ht.symm
 rintro ⟨_,l9⟩ τ hz;(try dsimp only at hz);subst q11;(try dsimp only at h);dsimp only [aw]
 refine ae (af (aQ 1 [(59,.v (.map (some b1)))] (by kernel_rfl) ?_))
 refine av rfl (bq rfl rfl (ρ1:=[]) (List.Perm.refl _) (tm Tryd.lKeys rfl rfl rfl (rQ Tryd.func43 rfl)) ?_);rintro _ _ ⟨b49,rfl,rfl⟩
 refine aa h fun l50 hl50 h=>?_
 refine av rfl (bq rfl rfl (ρ1:=[_,_]) (aL (by exact bf) (aL (by exact bf) (List.Perm.refl _))) (pD Tryd.lKeys Tryd.lSorted Tryd.lSortI rfl rfl rfl rfl rfl rfl (rQ Tryd.func42 rfl) (rQ Tryd.func61 rfl) (rQ Tryd.func60 rfl) rfl hl50) ?_);rintro _ _ ⟨a51,c52,rfl,rfl⟩
 refine aN [(4,pO a51 l50.length c52)] (by kernel_rfl) (au ?_)
 refine df (enc:=eI) (xs:=l50) 4 rfl (by exact bf) ?_
 refine cJ ?_
 exact zz r h rfl
def bh (p0:(List Za)):Option (List (List Int)):=cond (decide (64<(p0.length:Int))) (some []) ((aY (S:=Int×(List (Int×(List Int)))) (T:=((List (Int×(List Int))))) (fun (v3,l4)=>cond (decide (v3<(p0.length:Int))) ((idx p0 v3).bind fun m9=>(bp p0 m9.ID).bind fun x11=>some (.inl ((IntKind.i64.wrap (v3+1)),(dR l4 m9.ID x11)))) (some (.inr l4))) FUEL (0,([]:List (Int×(List Int))))).bind fun l5=>(aY (S:=Int×(List (Int×Int))×(List (Int×(List Int)))) (T:=((List (Int×Int))×(List (Int×(List Int))))) (fun (v14,l15,l16)=>cond (decide (v14<(p0.length:Int))) (((idx p0 v14).bind fun m25=>(bB p0 l5 m25.ID).bind fun x27=>(idx x27 0).bind fun m28=>(idx x27 0).bind fun m29=>cond (m29 == m25.ID) (some ((dR l15 m25.ID m28),(dR l16 m25.ID x27))) (some ((dR l15 m25.ID m28),l16))).bind fun (l22,l23)=>some (.inl ((IntKind.i64.wrap (v14+1)),l22,l23))) (some (.inr (l15,l16)))) FUEL (0,([]:List (Int×Int)),([]:List (Int×(List Int))))).bind fun (l17,l18)=>(aY (S:=(List (List Int))×(List (Int×(List Int)))) (T:=((List (List Int)))) (fun (l32,l35)=>cond (decide (0<(l35.length:Int))) ((bu p0 l5 l17 l35).bind fun x44=>cond (!x44.2) (some (.inr l32)) ((app 24 l32 [((bd l35 x44.1).getD [])]).bind fun l48=>some (.inl (l48,(jQ l35 x44.1))))) (some (.inr l32))) FUEL (([]:List (List Int)),l18)).bind fun l39=>some l39)
theorem dl {p0:(List Za)} {r:(List (List Int))}  (h:bh p0=some r):PF 16 [pL Za.enc p0] (pL (eL eI) r):=by
 unfold bh at h
 refine bN ?_
 refine aI Tryd.func16 rfl Tryd.ntmps16 Tryd.results16 rfl (ae (aH [2] (by kernel_rfl) (fp (ai [14,15] [(16,pB (decide (64<(p0.length:Int))))] (by kernel_rfl) (da rfl h (fun hc1 h=>?_) fun hc1 h=>?_)))))
 ·refine ae ?_
  refine ah [(2,pN)] (by kernel_rfl) (au (pwc_nil 2 rfl (cJ (ar ?_))))
  exact zz r h rfl
 refine aj ?_
 refine bw (af (av rfl (fx kI (vL eI) rfl (fun b2=>aN [(3,.v (.map (some b2)))] (by kernel_rfl) (fp (ah [(18,pL Za.enc p0),(19,pI (p0.length:Int)),(20,pI 0)] (by kernel_rfl) (au (aa h fun q7 hq7 h=>?_))))))))
 refine aA (Y:=Unit×((List (Int×(List Int))))) (fun (_,l5)=>[(0,pL Za.enc p0),(3,.v (.map (some b2)))]) (fun (_,l5)=>[PRes.mp (some b2) (aZ kI (vL eI) l5)]) (fun (_,l5)=>q7=l5) ?_ ?_
 ·refine ak ?_
  refine aC (Y:=Unit) (S:=Int×(List (Int×(List Int)))) _ hq7 (fun _ (v3,l4)=>[(0,pL Za.enc p0),(3,.v (.map (some b2))),(18,pL Za.enc p0),(19,pI (p0.length:Int)),(20,pI v3)]) (fun _ (v3,l4)=>[PRes.mp (some b2) (aZ kI (vL eI) l4)]) () (lp rfl) cY ?_
  rintro _ ⟨v3,l4⟩ o τ hb6;(try dsimp only at hb6);dsimp only [aw]
  refine ae (ah [(21,pB (decide (v3<(p0.length:Int))))] (by kernel_rfl) (bw (qf rfl hb6 (fun hc8 hb6=>?_) fun hc8 hb6=>?_)))
  ·refine aj ?_
   refine bw (ak (ae (aa hb6 fun m9 hm9 hb6=>af (bk 2 [] [22] [(23,.agg (aG m9))] (cT 0 Za.enc hm9 cb) (by kernel_rfl) (av rfl (ey (cs:=[pI 0,pS ByteArray.empty,pS ByteArray.empty,pI 0,pB false,pN,pN]) rfl rfl rfl rfl (fun b10=>dZ rfl rfl (cC (vs:=(aG m9)) rfl rfl rfl rfl rfl ll zl7 (bA (au (cW (ρd:=[PRes.mp (some b2) _]) [(0,0),(1,0),(2,0),(3,0),(4,0),(5,0),(6,1),(7,1)] _ (aL (aX bf) (List.Perm.refl _)) (by kernel_rfl) rfl (aa hb6 fun x11 hx11 hb6=>cR 7 [0,0] [25,27,28,29] [(24,.v (.map (some b2))),(26,pI m9.ID),(30,pL eI x11)] (dQ 6 (eM hx11) cb) (by kernel_rfl) (o5 rfl rfl (eQ (xs:=l4) (k:=m9.ID) (ek:=kI) (vv:=(vL eI)) (v:=x11) rfl rfl (fw rfl) rfl rfl dK rfl ll (dI (al (au (ai [31] [(20,pI (IntKind.i64.wrap (v3+1)))] (by kernel_rfl) ?_))))))))))))))))))
   exact aR hb6 () (lp rfl) cY
  refine aE ?_
  refine ap (an hb6 (fun ht=>aq rfl ?_))
  exact aM ((),l4) (zh2 rfl) cY ht.symm
 rintro ⟨_,l5⟩ τ hz;(try dsimp only at hz);subst q7;(try dsimp only at h);dsimp only [aw]
 refine ae (af (av rfl (fx kI vI rfl (fun b12=>aN [(6,.v (.map (some b12)))] (by kernel_rfl) (bw (af (av rfl (fx kI (vL eI) rfl (fun b13=>aN [(7,.v (.map (some b13)))] (by kernel_rfl) (fp (ah [(34,pL Za.enc p0),(35,pI (p0.length:Int)),(36,pI 0)] (by kernel_rfl) (au (aa h fun q20 hq20 h=>?_)))))))))))))
 refine aA (Y:=Unit×((List (Int×Int))×(List (Int×(List Int))))) (fun (_,(l17,l18))=>[(0,pL Za.enc p0),(3,.v (.map (some b2))),(6,.v (.map (some b12))),(7,.v (.map (some b13)))]) (fun (_,(l17,l18))=>[PRes.mp (some b12) (aZ kI vI l17),PRes.mp (some b13) (aZ kI (vL eI) l18),PRes.mp (some b2) (aZ kI (vL eI) l5)]) (fun (_,(l17,l18))=>q20=(l17,l18)) ?_ ?_
 ·refine ak ?_
  refine aC (Y:=Unit) (S:=Int×(List (Int×Int))×(List (Int×(List Int)))) _ hq20 (fun _ (v14,l15,l16)=>[(0,pL Za.enc p0),(3,.v (.map (some b2))),(6,.v (.map (some b12))),(7,.v (.map (some b13))),(34,pL Za.enc p0),(35,pI (p0.length:Int)),(36,pI v14)]) (fun _ (v14,l15,l16)=>[PRes.mp (some b12) (aZ kI vI l15),PRes.mp (some b13) (aZ kI (vL eI) l16),PRes.mp (some b2) (aZ kI (vL eI) l5)]) () (pa rfl) (ck (aX bf) jE) ?_
  rintro _ ⟨v14,l15,l16⟩ o τ hb19;(try dsimp only at hb19);dsimp only [aw]
  refine ae (ah [(37,pB (decide (v14<(p0.length:Int))))] (by kernel_rfl) (bw (qf rfl hb19 (fun hc21 hb19=>?_) fun hc21 hb19=>?_)))
  ·refine aj ?_
   refine bw (aa hb19 fun q24 hq24 hb19=>?_)
   refine aA (Y:=Unit×((List (Int×Int))×(List (Int×(List Int))))) (fun (_,(l22,l23))=>[(0,pL Za.enc p0),(3,.v (.map (some b2))),(6,.v (.map (some b12))),(7,.v (.map (some b13))),(34,pL Za.enc p0),(35,pI (p0.length:Int)),(36,pI v14)]) (fun (_,(l22,l23))=>[PRes.mp (some b12) (aZ kI vI l22),PRes.mp (some b13) (aZ kI (vL eI) l23),PRes.mp (some b2) (aZ kI (vL eI) l5)]) (fun (_,(l22,l23))=>q24=(l22,l23)) ?_ ?_
   ·skip
    refine ak (ae (aa hq24 fun m25 hm25 hq24=>af (bk 2 [] [38] [(39,.agg (aG m25))] (cT 0 Za.enc hm25 cb) (by kernel_rfl) (av rfl (ey (cs:=[pI 0,pS ByteArray.empty,pS ByteArray.empty,pI 0,pB false,pN,pN]) rfl rfl rfl rfl (fun b26=>dZ rfl rfl (cC (vs:=(aG m25)) rfl rfl rfl rfl rfl ll zl7 (bA (bw (aa hq24 fun x27 hx27 hq24=>af (cM 4 [0] [42] [(40,pL Za.enc p0),(41,.v (.map (some b2))),(43,pI m25.ID)] (by kernel_rfl) ?_)))))))))))
    refine av rfl (bq rfl rfl (ρ1:=[_]) (aL (by exact aX (aX (aX bf))) (List.Perm.refl _)) (ft hx27) ?_);rintro _ _ ⟨rfl,rfl⟩
    refine aN [(10,pL eI x27)] (by kernel_rfl) (bw (cW (ρd:=[PRes.mp (some b12) _]) [(0,0),(1,0),(2,0),(3,0),(4,0),(5,0),(6,1)] _ (aL (aX (aX bf)) (List.Perm.refl _)) (by kernel_rfl) rfl (aa hq24 fun m28 hm28 hq24=>cR 6 [1] [46,48,49] [(45,.v (.map (some b12))),(47,pI m25.ID),(50,pI m28)] (cT 4 eI hm28 cb) (by kernel_rfl) (o5 rfl rfl (eQ (xs:=l15) (k:=m25.ID) (ek:=kI) (vv:=vI) (v:=m28) rfl rfl (fw rfl) rfl rfl dK rfl ll (dI (bw (cW (ρd:=[]) [(0,0),(1,0),(2,0),(3,0),(4,0),(5,0)] _ (List.Perm.refl _) (by kernel_rfl) rfl (aa hq24 fun m29 hm29 hq24=>cR 6 [2] (rg 51 5) [(56,pB (m29 == m25.ID))] (cT 1 eI hm29 cb) (by kernel_rfl) (dI (da rfl hq24 (fun hc30 hq24=>?_) fun hc30 hq24=>?_)))))))))))
    ·refine af ?_
     refine cM 4 [2] [58] [(57,.v (.map (some b13))),(59,pI m25.ID),(60,pL eI x27)] (by kernel_rfl) (dZ rfl rfl (eQ (xs:=l16) (k:=m25.ID) (ek:=kI) (vv:=(vL eI)) (v:=x27) rfl rfl (fw rfl) rfl rfl dK rfl (mn (mn (mn ll))) (bA (al ?_))))
     obtain rfl:=osi hq24
     exact aM ((),((dR l15 m25.ID m28),(dR l16 m25.ID x27))) (pa rfl) (ck bf (ck (aX (aX bf)) cY)) rfl
    refine aj ?_
    refine al ?_
    obtain rfl:=osi hq24
    exact aM ((),((dR l15 m25.ID m28),l16)) (pa rfl) (ck bf (ck (aX (aX bf)) cY)) rfl
   rintro ⟨_,⟨l22,l23⟩⟩ τ hz;(try dsimp only at hz);subst q24;(try dsimp only at hb19);dsimp only [aw]
   refine ai [61] [(36,pI (IntKind.i64.wrap (v14+1)))] (by kernel_rfl) ?_
   exact aR hb19 () (pa rfl) zs3
  refine aE ?_
  refine ap (an hb19 (fun ht=>aq rfl ?_))
  exact aM ((),(l15,l16)) (jc rfl) zs3 ht.symm
 rintro ⟨_,⟨l17,l18⟩⟩ τ hz;(try dsimp only at hz);subst q20;(try dsimp only at h);dsimp only [aw]
 refine ae (ah [(11,pN)] (by kernel_rfl) (bw (cu 23 1 (aa h fun q41 hq41 h=>?_))))
 refine aA (Y:=(Option Addr×Nat)×((List (List Int)))) (fun ((a37,c38),l39)=>[(11,pO a37 l39.length c38)]) (fun ((a37,c38),l39)=>[PRes.row a37 l39.length c38 23 1 (List.map (eL eI) l39)]) (fun ((a37,c38),l39)=>q41=l39) ?_ ?_
 ·refine ak ?_
  refine aC (Y:=Option Addr×Nat) (S:=(List (List Int))×(List (Int×(List Int)))) _ hq41 (fun (a33,c34) (l32,l35)=>[(0,pL Za.enc p0),(3,.v (.map (some b2))),(6,.v (.map (some b12))),(7,.v (.map (some b13))),(11,pO a33 l32.length c34)]) (fun (a33,c34) (l32,l35)=>[PRes.mp (some b12) (aZ kI vI l17),PRes.mp (some b13) (aZ kI (vL eI) l35),PRes.mp (some b2) (aZ kI (vL eI) l5),PRes.row a33 l32.length c34 23 1 (List.map (eL eI) l32)]) (none,0) (lp rfl) (ck (aX bf) (ck (aX bf) (ck (aX bf) cY))) ?_
  rintro ⟨a33,c34⟩ ⟨l32,l35⟩ o τ hb40;(try dsimp only at hb40);dsimp only [aw]
  refine ae (ae (af (aQ 1 [(62,.v (.map (some b13)))] (by kernel_rfl) (bW rfl rfl rfl (show POpQ _ _ _ _ (.v (.int .i64 (l35.length:Int))) from pq_lenM (ek:=kI) (vv:=(vL eI)) (xs:=l35) rfl rfl (.p rfl) (dg rz)) (aN [(64,pB (decide (0<(l35.length:Int))))] (by kernel_rfl) (da rfl hb40 (fun hc43 hb40=>?_) fun hc43 hb40=>?_))))))
  ·refine aj ?_
   refine au (ak (ae (aa hb40 fun x44 hx44 hb40=>af (aQ 4 [(66,pL Za.enc p0),(67,.v (.map (some b2))),(68,.v (.map (some b12))),(69,.v (.map (some b13)))] (by kernel_rfl) ?_))))
   refine av rfl (bq rfl rfl (ρ1:=[_,_,_]) (aL (by exact aX (aX bf)) (aL (by exact bf) (aL (by exact bf) (List.Perm.refl _)))) (eR hx44) ?_);rintro _ _ ⟨rfl,rfl⟩
   refine f0 [65,71,72] [(12,pI x44.1),(13,pB x44.2)] (by kernel_rfl) (fp (ai [73] [(74,pB (!x44.2))] (by kernel_rfl) (da rfl hb40 (fun hc45 hb40=>?_) fun hc45 hb40=>?_)))
   ·refine aE ?_
    refine ap (gT rfl (an hb40 (fun ht=>aq rfl ?_)))
    exact aM ((a33,c34),l32) (sw rfl) (ck (aX (aX (aX bf))) dX) ht.symm
   refine aj ?_
   refine bw (af (aQ 3 [(75,pO a33 l32.length c34),(76,.v (.map (some b13))),(77,pI x44.1)] (by kernel_rfl) (bW rfl rfl rfl (show POpQ _ _ _ _ (pL eI ((bd l35 x44.1).getD [])) from d9 (xs:=l35) (k:=x44.1) (ek:=kI) (vv:=(vL eI)) (z0:=[]) rfl rfl rfl (fun _=>gV) (fw rfl) (.p rfl) (.p rfl) dK (dg zm2)) (av rfl (bX rfl rfl rfl rfl rfl (gy rfl jD) rfl rfl rfl rfl (fun b46=>aa hb40 fun l48 hl48 hb40=>?_))))))
   refine av rfl (co (enc:=(eL eI)) rfl rfl rfl rfl rfl rfl rfl rfl rfl iR (by exact aX (aX (aX (aX bf)))) hl48 (fun a49 c50=>?_))
   refine aN [(11,pO a49 l48.length c50)] (by kernel_rfl) (au (af (aQ 2 [(81,.v (.map (some b13))),(82,pI x44.1)] (by kernel_rfl) (dZ rfl rfl (rb (xs:=l35) (k:=x44.1) (ek:=kI) (vv:=(vL eI)) rfl rfl rfl (fw rfl) rfl rfl dK (mn (mn (mn (mn ll)))) (bA (al ?_)))))))
   exact aR hb40 (a49,c50) (lp rfl) (ck (aX (aX (aX bf))) (ck (aX (aX (aX bf))) (ck (aX (aX bf)) cY)))
  refine aE ?_
  refine ap (an hb40 (fun ht=>aq rfl ?_))
  exact aM ((a33,c34),l32) (sw rfl) (ck (aX (aX (aX bf))) dX) ht.symm
 rintro ⟨⟨a37,c38⟩,l39⟩ τ hz;(try dsimp only at hz);subst q41;(try dsimp only at h);dsimp only [aw]
 refine ae (ai [83] [(2,pO a37 l39.length c38)] (by kernel_rfl) (au ?_))
 refine df (enc:=(eL eI)) (xs:=l39) 2 rfl (by exact bf) ?_
 refine cJ ?_
 exact zz r h rfl
def fA  : Option Bool:=(dA).bind fun x1=>(bh x1).bind fun x2=>(dA).bind fun x3=>(de x3).bind fun x4=>(gd ((x4 == 0)&&((x2.length:Int) == 2)) (idx x2 0)).bind fun m5=>(gd ((x4 == 0)&&((x2.length:Int) == 2)) (cx m5 [3])).bind fun x7=>(gd (((x4 == 0)&&((x2.length:Int) == 2))&&x7) (idx x2 1)).bind fun m8=>(gd (((x4 == 0)&&((x2.length:Int) == 2))&&x7) (cx m8 [1,2])).bind fun x10=>(gd ((((x4 == 0)&&((x2.length:Int) == 2))&&x7)&&x10) (dA)).bind fun x11=>(gd ((((x4 == 0)&&((x2.length:Int) == 2))&&x7)&&x10) (bp x11 2)).bind fun x12=>(gd ((((x4 == 0)&&((x2.length:Int) == 2))&&x7)&&x10) (cx x12 [1,2,3])).bind fun x14=>(gd (((((x4 == 0)&&((x2.length:Int) == 2))&&x7)&&x10)&&x14) (dA)).bind fun x15=>(gd (((((x4 == 0)&&((x2.length:Int) == 2))&&x7)&&x10)&&x14) (ee x15 3)).bind fun x16=>(gd (((((x4 == 0)&&((x2.length:Int) == 2))&&x7)&&x10)&&x14) (cx x16 [1])).bind fun x18=>some ((((((x4 == 0)&&((x2.length:Int) == 2))&&x7)&&x10)&&x14)&&x18)
theorem kU  {r:Bool}  (h:fA  = some r):PF 14 [] (pB r):=by
 unfold fA at h
 refine bN ?_
 refine aI Tryd.func14 rfl Tryd.ntmps14 Tryd.results14 rfl (ae (aH [0] (by kernel_rfl) (bw (aa h fun x1 hx1 h=>aa h fun x2 hx2 h=>aK [] [2,3] [(1,pL (eL eI) x2)] (dQ 0 (dN hx1) (dQ 1 (dl hx2) cb)) (by kernel_rfl) (bw (aa h fun x3 hx3 h=>aa h fun x4 hx4 h=>aa h fun m5 hm5 h=>af (bk 12 [] ((rg 4 8)++[13,14]) [(12,pB ((x4 == 0)&&((x2.length:Int) == 2))),(15,pgv ((x4 == 0)&&((x2.length:Int) == 2)) (pL eI m5))] (dQ 0 (dN hx3) (dQ 1 (gD hx4) (iU 10 (eL eI) (cX hm5) cb))) (by kernel_rfl) ?_)))))))
 refine iZ (bJ rfl rfl rfl) rfl rfl rfl rfl rfl rfl (fun _=>by (repeat (first | exact jD | apply gy rfl))) rfl rfl rfl rfl ?_
 refine aa h fun x7 hx7 h=>eZ (bJ rfl rfl rfl) rfl rfl rfl (bt (.g rfl) (bt (.g rfl) dx)) (fun hc=>dj (cX hx7 hc)) (bW rfl rfl rfl (fG rfl (.p rfl) (.p rfl) (.g rfl)) (aa h fun m8 hm8 h=>bk 4 [] [20,21] [(19,pB (((x4 == 0)&&((x2.length:Int) == 2))&&x7)),(22,pgv (((x4 == 0)&&((x2.length:Int) == 2))&&x7) (pL eI m8))] (iU 2 (eL eI) (cX hm8) cb) (by kernel_rfl) ?_))
 refine iZ (bJ rfl rfl rfl) rfl rfl rfl rfl rfl rfl (fun _=>by (repeat (first | exact jD | apply gy rfl))) rfl rfl rfl rfl ?_
 refine aa h fun x10 hx10 h=>eZ (bJ rfl rfl rfl) rfl rfl rfl (bt (.g rfl) (bt (.g rfl) dx)) (fun hc=>dj (cX hx10 hc)) (bW rfl rfl rfl (fG rfl (.p rfl) (.p rfl) (.g rfl)) (aa h fun x11 hx11 h=>aa h fun x12 hx12 h=>bk 3 [] [27] [(26,pB ((((x4 == 0)&&((x2.length:Int) == 2))&&x7)&&x10)),(28,pgv ((((x4 == 0)&&((x2.length:Int) == 2))&&x7)&&x10) (pL eI x12))] (fV 1 (fun hc=>dN (cX hx11 hc)) (fV 2 (fun hc=>eM (cX hx12 hc)) cb)) (by kernel_rfl) ?_))
 refine iZ (bJ rfl rfl rfl) rfl rfl rfl rfl rfl rfl (fun _=>by (repeat (first | exact jD | apply gy rfl))) rfl rfl rfl rfl ?_
 refine aa h fun x14 hx14 h=>eZ (bJ rfl rfl rfl) rfl rfl rfl (bt (.g rfl) (bt (.g rfl) dx)) (fun hc=>dj (cX hx14 hc)) (bW rfl rfl rfl (fG rfl (.p rfl) (.p rfl) (.g rfl)) (aa h fun x15 hx15 h=>aa h fun x16 hx16 h=>bk 3 [] [33] [(32,pB (((((x4 == 0)&&((x2.length:Int) == 2))&&x7)&&x10)&&x14)),(34,pgv (((((x4 == 0)&&((x2.length:Int) == 2))&&x7)&&x10)&&x14) (pL eI x16))] (fV 1 (fun hc=>dN (cX hx15 hc)) (fV 2 (fun hc=>ik (cX hx16 hc)) cb)) (by kernel_rfl) ?_))
 refine iZ (bJ rfl rfl rfl) rfl rfl rfl rfl rfl rfl (fun _=>by (repeat (first | exact jD | apply gy rfl))) rfl rfl rfl rfl ?_
 refine aa h fun x18 hx18 h=>eZ (bJ rfl rfl rfl) rfl rfl rfl (bt (.g rfl) (bt (.g rfl) dx)) (fun hc=>dj (cX hx18 hc)) (bW rfl rfl rfl (fG rfl (.p rfl) (.p rfl) (.g rfl)) (aN [(0,pB ((((((x4 == 0)&&((x2.length:Int) == 2))&&x7)&&x10)&&x14)&&x18))] (by kernel_rfl) (dh ?_)))
 exact zz r h rfl
def bL (p0:(List Int)):Option Bool:=(f9 p0).bind fun x1=>(bh x1).bind fun x5=>(bU x1).bind fun x6=>cond ((x5.length:Int) != (x6.length:Int)) (some false) ((aY (S:=Int×Int) (T:=(Int)⊕(_)) (fun (v8,v9)=>cond (decide (v9<(x5.length:Int))) ((idx x5 v9).bind fun m14=>(idx x6 v9).bind fun m15=>(cx m14 m15).bind fun x16=>cond (!x16) (some (.inr (.inr false))) ((idx x5 v9).bind fun m18=>some (.inl ((IntKind.i64.wrap (v8+(m18.length:Int))),(IntKind.i64.wrap (v9+1)))))) (some (.inr (.inl v8)))) FUEL (0,0)).bind fun q=>match q with | .inl v10=>(gd (v10 == (x1.length:Int)) (fA)).bind (fun x19=>some ((v10 == (x1.length:Int))&&x19)) | .inr e=>some e)
theorem gf {p0:(List Int)} {r:Bool}  (h:bL p0=some r):PF 5 [pL eI p0] (pB r):=by
 unfold bL at h
 refine bN ?_
 refine aI Tryd.func5 rfl Tryd.ntmps5 Tryd.results5 rfl (ae (aH [2] (by kernel_rfl) (bw (aa h fun x1 hx1 h=>af (aQ 1 [(8,pL eI p0)] (by kernel_rfl) ?_)))))
 refine av rfl (bq rfl rfl (ρ1:=[]) (List.Perm.refl _) (mJ hx1) ?_);rintro _ _ ⟨a2,c3,rfl,rfl⟩
 refine aN [(3,pO a2 x1.length c3)] (by kernel_rfl) (bw (af (aQ 1 [(10,pO a2 x1.length c3)] (by kernel_rfl) ?_)))
 refine iN (enc:=Za.enc) (xs:=x1) 10 rfl (by exact bf) ?_
 refine aa h fun x5 hx5 h=>bk 2 [] [] [(11,pL (eL eI) x5),(12,pO a2 x1.length c3)] (dQ 0 (dl hx5) cb) (by kernel_rfl) (ku (enc:=Za.enc) (xs:=x1) 12 rfl iR (aa h fun x6 hx6 h=>eo [] [13] [(4,pL (eL eI) x5),(5,pL (eL eI) x6)] (dQ 0 (il hx6) cb) (by kernel_rfl) (fp (ai [14,15,16,17] [(18,pB ((x5.length:Int) != (x6.length:Int)))] (by kernel_rfl) (da rfl h (fun hc7 h=>?_) fun hc7 h=>?_)))))
 ·refine ae ?_
  refine ah [(2,pB false)] (by kernel_rfl) (dh (ar ?_))
  exact zz r h rfl
 refine aj ?_
 refine bw (ah [(6,pI 0)] (by kernel_rfl) (fp (ah [(7,pI 0)] (by kernel_rfl) (au (nx (enc:=Za.enc) (xs:=x1) 3 rfl iR (aa h fun q12 hq12 h=>?_))))))
 refine aA (Y:=Unit×Int) (fun (_,v10)=>[(3,pL Za.enc x1),(6,pI v10)]) (fun (_,v10)=>[]) (fun (_,v10)=>q12=Sum.inl v10) ?_ ?_
 ·refine ak ?_
  refine aC (Y:=Unit) (S:=Int×Int) _ hq12 (fun _ (v8,v9)=>[(3,pL Za.enc x1),(4,pL (eL eI) x5),(5,pL (eL eI) x6),(6,pI v8),(7,pI v9)]) (fun _ (v8,v9)=>[]) () (lp rfl) dX ?_
  rintro _ ⟨v8,v9⟩ o τ hb11;(try dsimp only at hb11);dsimp only [aw]
  refine ae (ae (ai [19,20,21] [(22,pB (decide (v9<(x5.length:Int))))] (by kernel_rfl) (da rfl hb11 (fun hc13 hb11=>?_) fun hc13 hb11=>?_)))
  ·refine aj ?_
   refine bw (ak (ae (ae (cW (ρd:=[]) [(0,0),(1,0),(2,0),(3,0),(4,0),(5,0),(6,0),(7,0),(8,1),(9,0)] _ (List.Perm.refl _) (by kernel_rfl) rfl (aa hb11 fun m14 hm14 hb11=>aa hb11 fun m15 hm15 hb11=>aa hb11 fun x16 hx16 hb11=>cR 10 [] (rg 25 9) [(34,pB (!x16))] (cT 2 (eL eI) hm14 (cT 6 (eL eI) hm15 (dQ 8 (dj hx16) cb))) (by kernel_rfl) (dI (da rfl hb11 (fun hc17 hb11=>?_) fun hc17 hb11=>?_)))))))
   ·refine ae ?_
    refine ah [(2,pB false)] (by kernel_rfl) (dh (ar (am (ar ?_))))
    refine ba hb11 (fun ht=>?_);subst ht
    refine am (aT ?_)
    exact zz r h rfl
   refine aj ?_
   refine au (aa hb11 fun m18 hm18 hb11=>aK [] (rg 35 7) [(6,pI (IntKind.i64.wrap (v8+(m18.length:Int))))] (cT 3 (eL eI) hm18 cb) (by kernel_rfl) (al (au (ai [23,24] [(7,pI (IntKind.i64.wrap (v9+1)))] (by kernel_rfl) ?_))))
   exact aR hb11 () (lp rfl) dX
  refine aE ?_
  refine ap (an hb11 (fun ht=>aq rfl ?_))
  exact aM ((),v8) (zh2 rfl) dX ht.symm
 rintro ⟨_,v10⟩ τ hz;(try dsimp only at hz);subst q12;(try dsimp only at h);dsimp only [aw]
 refine ae (aa h fun x19 hx19 h=>aK [] (rg 42 7) [(2,pB ((v10 == (x1.length:Int))&&x19))] (fV 5 (fun hc=>kU (cX hx19 hc)) cb) (by kernel_rfl) (dh ?_))
 exact zz r h rfl
end SX
end Go.Proofs.YtipjgkapcgpgbaaDoor
set_option maxRecDepth 100000
namespace Go.Proofs.YtipjgkapcgpgbaaDoor
namespace SX
open Go
section
variable {γ:Type} [Inhabited γ]
end
def tr (a b:ByteArray):Bool:=Op.bytesLess a.toList b.toList
theorem ltS_eq (a b:ByteArray):tr a b=decide (a.data.toList<b.data.toList):=by
 unfold tr;rw [bytesLess_eq,ByteArray.toList_eq,ByteArray.toList_eq]
end SX
end Go.Proofs.YtipjgkapcgpgbaaDoor
set_option maxRecDepth 100000
namespace Go.Proofs.YtipjgkapcgpgbaaDoor
namespace SX
open Go
theorem cmpI (a b:Int):cN a b=some (if a<b then -1 else if b<a then 1 else 0):=by
 unfold cN di
 simp only [bne_self_eq_false,cQ,eW]
 by_cases h:a<b
 ·rw [det h,if_pos h];rfl
 rw [oM h,if_neg h]
 by_cases h2:b<a
 ·rw [det h2,if_pos h2];rfl
 rw [oM h2,if_neg h2];rfl
end SX
end Go.Proofs.YtipjgkapcgpgbaaDoor
set_option maxRecDepth 100000
namespace Go.Proofs.YtipjgkapcgpgbaaDoor
namespace SX
open Go
theorem rc {S T:Type} {body:S→Option (S⊕T)} (P:S→Prop) (μ:S→Nat) (Q:T→Prop) (step:∀ s,P s→(∃ s',body s=some (.inl s')∧P s'∧μ s'<μ s)∨∃ t,body s=some (.inr t)∧Q t):∀ (N:Nat) (s:S),P s→μ s<N→∃ t,aY body N s=some t∧Q t:=by
 intro N
 induction N with
 | zero=>intro s _ h;exact absurd h (Nat.not_lt_zero _)
 | succ N ih =>
  intro s hp hm
  rw [gw]
  rcases step s hp with ⟨s',h1,h2,h3⟩ | ⟨t,h1,h2⟩
  ·rw [h1];exact ih s' h2 (by omega)
  rw [h1];exact ⟨t,rfl,h2⟩
def ctry (s:ByteArray):Bool:=match s.data.toList with | [a,b]=>decide (65≤(a.toNat:Int))&&decide ((a.toNat:Int)≤90)&&decide (65≤(b.toNat:Int))&&decide ((b.toNat:Int)≤90) | _=>false
def letter (c:UInt8):Bool:=decide (97≤c.toNat)&&decide (c.toNat≤122)
def tu (s:ByteArray):Bool:=decide (1≤s.size)&&decide (s.size≤12)&&s.data.toList.all letter
def ol (lt:ByteArray→ByteArray→Bool):List ByteArray→Bool
 | []=>true
 | [_]=>true
 | a::b::l=>lt a b&&ol lt (b::l)
def kV (l:List ByteArray):Bool:=decide (l.length≤8)&&(l.all tu&&ol tr l)
def StrsOk (l:List ByteArray):Prop:=l.length≤140737488355328∧∀ s∈l,s.size≤140737488355328
end SX
end Go.Proofs.YtipjgkapcgpgbaaDoor
set_option maxRecDepth 100000
namespace Go.Proofs.YtipjgkapcgpgbaaDoor
namespace SX
open Go
end SX
end Go.Proofs.YtipjgkapcgpgbaaDoor
set_option maxRecDepth 100000
namespace Go.Proofs.YtipjgkapcgpgbaaDoor
namespace SX
open Go
end SX
end Go.Proofs.YtipjgkapcgpgbaaDoor
set_option maxRecDepth 100000
namespace Go.Proofs.YtipjgkapcgpgbaaDoor
namespace SX
open Go
def Y {α:Type} (x:Option α) (P:α→Prop):Prop:=∃ a,x=some a∧P a
section
variable {α β S T:Type} {x y:Option α} {P P':α→Prop} {Q:β→Prop} {f:α→Option β} {a:α} {c:Bool}
theorem Y.bind (h:Y x P) (k:∀ a,P a→Y (f a) Q):Y (x.bind f) Q:=by
 obtain ⟨a,h1,h2⟩:=h;rw [h1];exact k a h2
theorem Y.ret (h:P a):Y (some a) P:=⟨a,rfl,h⟩
theorem Y.mono (h:Y x P) (k:∀ a,P a→P' a):Y x P':=by obtain ⟨a,h1,h2⟩:=h;exact ⟨a,h1,k a h2⟩
theorem Y.cond (h:c=true→Y x P) (k:c=false→Y y P):Y (cond c x y) P:=by cases c;exact k rfl;exact h rfl
theorem Y.eq {r:α} (h:x=some r) (k:Y (f r) Q):Y (x.bind f) Q:=by rw [h];exact k
theorem Y.loop {body:S→Option (S⊕T)} {R:T→Prop} {s:S} (I:S→Prop) (μ:S→Nat) (h0:I s) (hm:μ s≤1267650600228229401496703205000) (step:∀ s,I s→Y (body s) (fun o=>match o with | .inl s'=>I s'∧μ s'<μ s | .inr t=>R t)):Y (aY body FUEL s) R:=by
 obtain ⟨t,h1,h2⟩:=rc (body:=body) I μ R (fun s hs=>by
  obtain ⟨o,k1,k2⟩:=step s hs
  cases o with
  | inl s'=>exact .inl ⟨s',k1,k2⟩
  | inr t=>exact .inr ⟨t,k1,k2⟩) FUEL s h0 (nX hm)
 exact ⟨t,h1,h2⟩
theorem Y.idx {xs:List α} {i:Int} {n:Nat} (h:i=(n:Int)) (hn:n<xs.length) (k:Y (f xs[n]) Q):Y ((idx xs i).bind f) Q:=by subst h;rw [bm hn];exact k
theorem Y.gdp [Inhabited α] {z:Option (α×β)} {m:β} {R:α×β→Prop} (h:c=true→Y z R) (k:c=false→R (default,m)):Y (gdp c z m) R:=by
 cases c
 ·exact ⟨_,rfl,k rfl⟩
 exact h rfl
end
theorem re (a n:Int) (h1:1≤n) (h2:n≤4611686018427387904):∃ r,ez a n=some r∧0≤r∧r<n:=by
 have hl:=Int.tmod_lt_of_pos a (show 0<n by omega)
 have hl2:=Int.tmod_lt_of_pos (-a) (show 0<n by omega)
 rw [Int.neg_tmod] at hl2
 unfold ez nz lb
 rw [if_neg (by omega),fg (by omega) (by omega)]
 exact ⟨_,rfl,Int.tmod_nonneg _ (by omega),Int.tmod_lt_of_pos _ (by omega)⟩
def SOK (p:Zc):Prop:=0≤p.I∧p.I≤p.L.length∧p.L.length≤1000000000000000
theorem next_ok {p:Zc} (hp:SOK p) (n:Int) (h1:1≤n) (h2:n≤4611686018427387904):∃ r q,aF p n=some (r,q)∧0≤r∧r<n∧SOK q:=by
 obtain ⟨a1,a2,a3⟩:=hp
 unfold aF
 by_cases h:(p.L.length:Int)≤p.I
 ·rw [det h];exact ⟨_,_,rfl,by omega,by omega,a1,a2,a3⟩
 rw [oM h,fg (r:=p.I+1) (by omega) (by omega),fg (by omega) (by omega)]
 simp only [eW]
 have e:idx p.L (p.I+1 - 1)=some (p.L[p.I.toNat]'(by omega)):=by
  unfold idx;rw [if_pos (by omega)]
  have:(p.I+1 - 1).toNat=p.I.toNat:=by omega
  rw [this];exact List.getElem?_eq_getElem _
 rw [bnd e]
 obtain ⟨r,h3,h4,h5⟩:=re (p.L[p.I.toNat]'(by omega)) n h1 h2
 rw [bnd h3]
 exact ⟨_,_,rfl,h4,h5,by simp only;omega,by simp only;omega,a3⟩
theorem cut_ok (l:List Int) (n:Int) (h:0≤n) (h2:n≤1000):∃ m,f4 l n=some m∧(m.length:Int)≤n:=by
 unfold f4
 by_cases h1:n<(l.length:Int)
 ·rw [det h1]
  have e:sub l 0 n=some ((l.take n.toNat).drop 0):=by unfold sub;rw [if_pos (by omega)];rfl
  simp only [dd];rw [bnd e];exact ⟨_,rfl,by simp;omega⟩
 rw [oM h1];exact ⟨_,rfl,by omega⟩
theorem fm {p:Zc} (hp:SOK p) (n:Int) (h1:1≤n) (h2:n≤4611686018427387904):Y (aF p n) (fun r=>0≤r.1∧r.1<n∧SOK r.2):=by
 obtain ⟨r,q,h3,h4,h5,h6⟩:=next_ok hp n h1 h2;exact ⟨(r,q),h3,h4,h5,h6⟩
theorem cut_Y (l:List Int) (n:Int) (h:0≤n) (h2:n≤1000):Y (f4 l n) (fun m=>SOK ⟨m,0⟩):=by
 obtain ⟨m,h3,h4⟩:=cut_ok l n h h2
 exact ⟨m,h3,by dsimp only;omega,by dsimp only;omega,by dsimp only;omega⟩
end SX
end Go.Proofs.YtipjgkapcgpgbaaDoor
set_option maxRecDepth 100000
namespace Go.Proofs.YtipjgkapcgpgbaaDoor
namespace SX
open Go
theorem ltS_tr (x y z:ByteArray) (h1:tr x y=true) (h2:tr y z=true):tr x z=true:=by
 rw [ltS_eq] at *;exact det (List.lt_trans (of_decide_eq_true h1) (of_decide_eq_true h2))
theorem i4:∀ l:List ByteArray,ol tr l=true↔l.Pairwise (fun a b=>tr a b=true)
 | []=>by simp [ol]
 | [a]=>by simp [ol]
 | a::b::l=>by
  rw [ol,Bool.and_eq_true,i4 (b::l)]
  constructor
  ·rintro ⟨h1,h2⟩
   refine List.pairwise_cons.2 ⟨fun c hc=>?_,h2⟩
   rcases List.mem_cons.1 hc with rfl | hc
   ·exact h1
   exact ltS_tr _ _ _ h1 ((List.pairwise_cons.1 h2).1 c hc)
  intro h;obtain ⟨h1,h2⟩:=List.pairwise_cons.1 h;exact ⟨h1 b (by simp),h2⟩
theorem mO {α:Type} {l C:List α} {v:Nat} (h:l.Sublist (C.take v)) (hv:v<C.length):(l++[C[v]]).Sublist (C.take (v+1))∧l.Sublist (C.take (v+1)):=by
 have e:C.take (v+1)=C.take v++[C[v]]:=by rw [List.take_add_one,List.getElem?_eq_getElem hv];rfl
 rw [e]
 exact ⟨h.append (List.Sublist.refl _),h.trans (List.sublist_append_left _ _)⟩
def C6:List ByteArray:=[(⟨#[65,65]⟩:ByteArray),(⟨#[66,66]⟩:ByteArray),(⟨#[67,67]⟩:ByteArray),(⟨#[68,68]⟩:ByteArray),(⟨#[69,69]⟩:ByteArray),(⟨#[70,70]⟩:ByteArray)]
theorem C6_ok:C6.all ctry=true∧ol tr C6=true∧(C6.all fun s=>decide (s.size≤100))=true:=⟨by kernel_rfl,by kernel_rfl,by kernel_rfl⟩
theorem mP:dM=some C6:=rfl
theorem qt (v:Nat):tG (v:Int)=some ():=by unfold tG;rw [if_pos (by omega)]
end SX
end Go.Proofs.YtipjgkapcgpgbaaDoor
set_option maxRecDepth 100000
namespace Go.Proofs.YtipjgkapcgpgbaaDoor
namespace SX
open Go
end SX
end Go.Proofs.YtipjgkapcgpgbaaDoor
set_option maxRecDepth 100000
namespace Go.Proofs.YtipjgkapcgpgbaaDoor
namespace SX
open Go
end SX
end Go.Proofs.YtipjgkapcgpgbaaDoor
set_option maxRecDepth 100000
namespace Go.Proofs.YtipjgkapcgpgbaaDoor
namespace SX
open Go
end SX
end Go.Proofs.YtipjgkapcgpgbaaDoor
set_option maxRecDepth 100000
namespace Go.Proofs.YtipjgkapcgpgbaaDoor
namespace SX
open Go
theorem kW {α T:Type} (p:α→Bool) (f:Nat→T):∀ (l:List α) (i:Nat),(dS (fun k x=>cond (p x) (some (f k)) none) l i=none∧l.find? p=none)∨∃ j,∃ h:j<l.length,dS (fun k x=>cond (p x) (some (f k)) none) l i=some (f (i+j))∧l.find? p=some l[j]
 | [],_=>.inl ⟨rfl,rfl⟩
 | x::xs,i=>by
  rw [dS,List.find?_cons]
  cases hp:p x
  ·rcases kW p f xs (i+1) with ⟨h1,h2⟩ | ⟨j,hj,h1,h2⟩
   ·exact .inl ⟨h1,h2⟩
   exact .inr ⟨j+1,by simpa using hj,by rw [show i+(j+1)=i+1+j by omega];exact h1,h2⟩
  exact .inr ⟨0,by simp,rfl,rfl⟩
def om {α:Type} (R:α→α→Bool):List α→List α→Bool
 | [],_=>true
 | _::_,[]=>true
 | x::a,y::b=>R x y&&om R a b
def oo {α:Type} (R:α→α→Bool) (a b:List α):Bool:=a.length == b.length&&om R a b
theorem lN {α T:Type} (R:α→α→Bool) (t:T) (B:List α):∀ (a b:List α) (i:Nat),B.drop i=b→a.length=b.length→dS (fun k x=>cond (R x (B.getD k x)) none (some t)) a i=cond (om R a b) none (some t)
 | [],b,_,_,_=>by cases b <;> rfl
 | x::a,[],_,_,h=>by simp at h
 | x::a,y::b,i,hd,h=>by
  have hi:i<B.length:=by
   rcases Nat.lt_or_ge i B.length with h | h
   ·exact h
   rw [List.drop_of_length_le h] at hd;cases hd
  rw [List.drop_eq_getElem_cons hi] at hd
  injection hd with h1 h2
  rw [dS,om,qm hi,h1,lN R t B a b (i+1) h2 (by simpa using h)]
  cases R x y <;> rfl
theorem oq {α:Type} {R:α→α→Bool}:∀ {a b:List α},(∀ x∈a,∀ y∈b,R x y=true↔x=y)→(oo R a b=true↔a=b)
 | [],[],_=>by simp [oo,om]
 | [],y::b,_=>by simp [oo]
 | x::a,[],_=>by simp [oo]
 | x::a,y::b,h=>by
  have ih:=oq (R:=R) (a:=a) (b:=b) fun u hu v hv=>h u (by simp [hu]) v (by simp [hv])
  have h0:=h x (by simp) y (by simp)
  unfold oo at ih ⊢
  rw [om]
  simp only [List.length_cons,Bool.and_eq_true,beq_iff_eq,Nat.add_right_cancel_iff,List.cons.injEq] at ih ⊢
  constructor
  ·rintro ⟨h1,h2,h3⟩;exact ⟨h0.1 h2,ih.1 ⟨h1,h3⟩⟩
  rintro ⟨h1,h2⟩;exact ⟨(ih.2 h2).1,h0.2 h1,(ih.2 h2).2⟩
theorem len_beq {α:Type} (a b:List α):((a.length:Int) != (b.length:Int)) = !(a.length == b.length):=by
 by_cases h:a.length=b.length
 ·rw [h];simp
 have h2:¬ (a.length:Int)=(b.length:Int):=by omega
 have e1:(a.length == b.length)=false:=by simpa using h
 have e2:((a.length:Int) == (b.length:Int))=false:=by simpa using h2
 rw [e1,bne,e2]
theorem eq_loop {α:Type} {a b:List α} (ha:a.length≤140737488355328) (R:α→α→Bool) {body:Int→Option (Int⊕(Unit⊕Bool))} {k:Unit⊕Bool→Option Bool} (hk:k (.inl ())=some true∧k (.inr false)=some false) (hab:a.length=b.length)
    (hstep:∀ (k:Nat) (hk:k<a.length) (hk2:k<b.length),body (k:Int)=some (outg k (cond (R a[k] b[k]) none (some (.inr false))))) (hend:body (a.length:Int)=some (.inr (.inl ()))):Option.bind (aY body FUEL 0) k=some (om R a b):=by
  refine (eb (l:=a) (by omega) (fun i x=>cond (R x (b.getD i x)) none (some (.inr false))) (.inl ()) (fun i hi=>?_) hend).trans ?_
  · rw [hstep i hi (by omega),qm (show i<b.length by omega)]
  rw [lN R (Sum.inr false:Unit⊕Bool) b a b 0 rfl hab]
  cases om R a b
  · exact hk.2
  exact hk.1
theorem ot (a b:List Int) (ha:a.length≤140737488355328):cx a b=some (decide (a=b)):=by
 have hiff:oo (fun x y:Int=>x == y) a b=decide (a=b):=by
  have:=oq (R:=fun x y:Int=>x == y) (a:=a) (b:=b) (fun x _ y _=>by simp)
  cases h:oo (fun x y:Int=>x == y) a b
  ·rw [h] at this;exact (oM fun e=>by have:=this.2 e;cases this).symm
  exact (det (this.1 h)).symm
 rw [← hiff]
 unfold cx oo
 rw [len_beq]
 cases h:(a.length == b.length)
 ·rfl
 simp only [Bool.not_true,eW,Bool.true_and]
 refine eq_loop ha _ ⟨rfl,rfl⟩ (eq_of_beq h) (fun k hk hk2=>?_) (by simp only [gM,eW])
 simp only [mT hk,dd,bm hk,bm hk2,cQ,dy hk (show a.length≤4611686018427387904 by omega),bne]
 cases (a[k] == b[k]) <;> rfl
end SX
end Go.Proofs.YtipjgkapcgpgbaaDoor
set_option maxRecDepth 100000
namespace Go.Proofs.YtipjgkapcgpgbaaDoor
namespace SX
open Go
def Digs (l:List Int):Prop:=∀ x∈l,48≤x∧x≤57
theorem code_Y {p:Zc} (hp:SOK p) (n:Nat) (hn:n=6∨n=8):Y (cF p (n:Int)) (fun r=>(∃ l:List Int,r.1=strOfNums l∧l.length=n∧Digs l)∧SOK r.2):=by
 unfold cF
 refine (fm hp 2 (by omega) (by omega)).bind fun a ⟨a1,a2,a3⟩=>?_
 rw [fg (by omega) (by omega),p4 (by omega)]
 refine Y.bind (P:=fun t:List Int×List Int×Int=>t.1.length=n∧Digs t.1∧SOK ⟨t.2.1,t.2.2⟩) ?_ fun t ⟨t1,t2,t3⟩=>?_
 ·refine Y.loop (fun s:List Int×List Int×Int=>(s.1.length % 2=0∧s.1.length≤n)∧Digs s.1∧SOK ⟨s.2.1,s.2.2⟩) (fun s=>n - s.1.length) ⟨⟨by simp,by simp;omega⟩,fun x hx=>by simp at hx;omega,a3⟩ (by dsimp only;omega) fun s hs=>?_
  obtain ⟨l,m,i⟩:=s
  obtain ⟨⟨s0,s1⟩,s2,s3⟩:=hs
  dsimp only at s0 s1 s2 s3 ⊢
  refine Y.cond (fun hc=>?_) (fun hc=>Y.ret ⟨by have:=of_decide_eq_false hc;dsimp only;omega,s2,s3⟩)
  have hc:=of_decide_eq_true hc
  refine (fm s3 3 (by omega) (by omega)).bind fun x ⟨x1,x2,x3⟩=>?_
  rw [eF (by simp;omega) (by simp;omega),cQ,fg (by omega) (by omega),p4 (by omega)]
  refine Y.ret ⟨⟨⟨by simp;omega,by simp;omega⟩,fun z hz=>?_,x3⟩,by simp;omega⟩
  rcases List.mem_append.1 hz with hz | hz
  ·exact s2 z hz
  simp only [List.mem_cons,List.not_mem_nil,or_false] at hz;omega
 obtain ⟨l,m,i⟩:=t
 exact Y.ret ⟨⟨l,rfl,t1,t2⟩,t3⟩
theorem tv {l:List Int} {n:Nat} (hn:n=6∨n=8) (h1:l.length=n) (h2:Digs l):gc (strOfNums l)=(n:Int)∧(strOfNums l).size=n:=by
 have hs:(strOfNums l).size=n:=by
  unfold strOfNums
  show (Array.mk _).size=n
  simp [h1]
 have hd:hT (strOfNums l)=true:=by
  unfold hT bl strOfNums
  rw [List.all_eq_true]
  intro c hc
  simp only [List.mem_map] at hc
  obtain ⟨x,hx,rfl⟩:=hc
  have:=h2 x hx
  have h3:(UInt8.ofNat x.toNat).toNat=x.toNat:=by
   rw [UInt8.toNat_ofNat'];omega
  simp only [fj,h3,decide_eq_true_eq]
  omega
 refine ⟨?_,hs⟩
 unfold gc
 rw [if_pos ⟨by omega,hd⟩,hs]
def W5:List ByteArray:=[(⟨#[97,110,100]⟩:ByteArray),(⟨#[99,117,116]⟩:ByteArray),(⟨#[111,114]⟩:ByteArray),(⟨#[115,101,119]⟩:ByteArray),(⟨#[115,112,105,110]⟩:ByteArray)]
theorem W5_ok:W5.all tu=true∧ol tr W5=true∧(W5.all fun s=>decide (s.size≤100))=true:=⟨by kernel_rfl,by kernel_rfl,by kernel_rfl⟩
theorem ou {p:Zc} (hp:SOK p):Y (bF p) (fun r=>r.1.Sublist W5∧SOK r.2):=by
 unfold bF
 refine (fm hp 32 (by omega) (by omega)).bind fun a ⟨a1,a2,a3⟩=>?_
 refine Y.bind (P:=fun l:List ByteArray=>l.Sublist W5) ?_ fun l hl=>Y.ret ⟨hl,a3⟩
 refine Y.loop (fun s=>∃ v:Nat,s.2=(v:Int)∧v≤5∧s.1.Sublist (W5.take v)) (fun s=>(5 - s.2).toNat) ⟨0,rfl,by omega,List.Sublist.refl _⟩ (by dsimp only;omega) fun s hs=>?_
 obtain ⟨l,i⟩:=s
 obtain ⟨v,rfl,h1,h2⟩:=hs
 dsimp only at h2 ⊢
 have hlen:l.length≤5:=by have:=h2.length_le;have h6:W5.length=5:=rfl;rw [List.length_take] at this;omega
 refine Y.cond (fun hc=>?_) (fun hc=>Y.ret (h2.trans (List.take_sublist _ _)))
 have hv:v<5:=by have:=of_decide_eq_true hc;omega
 have hs:=mO h2 (show v<W5.length from hv)
 refine Y.bind (P:=fun m:List ByteArray=>m.Sublist (W5.take (v+1))) (Y.eq (qt v) (Y.cond (fun _=>?_) fun _=>Y.ret hs.2)) fun m hm=>Y.ret ⟨⟨v+1,?_,by omega,hm⟩,?_⟩
 ·refine Y.idx (xs:=W5) rfl (show v<W5.length from hv) ?_
  rw [eF (by simp;omega) (by simp;omega)];exact Y.ret hs.1
 ·show IntKind.i64.wrap ((v:Int)+1)=_;rw [fg (by omega) (by omega)];omega
 show (5 - IntKind.i64.wrap ((v:Int)+1)).toNat<(5 - (v:Int)).toNat;rw [fg (by omega) (by omega)];omega
theorem codeN {x:Int} (h1:0≤x) (h2:x<2):∃ n:Nat,(n=6∨n=8)∧IntKind.i64.wrap (6+IntKind.i64.wrap (2*x))=(n:Int):=by
 rw [fg (r:=2*x) (by omega) (by omega),fg (by omega) (by omega)]
 exact ⟨(6+2*x).toNat,by omega,by omega⟩
end SX
end Go.Proofs.YtipjgkapcgpgbaaDoor
set_option maxRecDepth 100000
namespace Go.Proofs.YtipjgkapcgpgbaaDoor
namespace SX
open Go
structure MProd (n:Nat) (i:Nat) (p:Za):Prop where
 id:p.ID=3*((i:Int)+1)
 lvl:(gc p.Code=6∨gc p.Code=8)∧6≤p.Code.size∧p.Code.size≤8
 ctr:p.Country∈C6
 price:1≤p.Price∧p.Price≤200
 proc:p.Processes.Sublist W5
 few:p.Inputs.length≤4
 asc:p.Inputs.Pairwise fun a b=>a.Product<b.Product
 inp:∀ x∈p.Inputs,(∃ k:Nat,k<n∧x.Product=3*((k:Int)+1))∧0≤x.Value∧x.Value<100
 obt:p.Obtained=true→p.Inputs=[]
structure MPs (l:List Za):Prop where
 len:1≤l.length∧l.length≤10
 all:∀ (i:Nat) (p:Za),l[i]?=some p→MProd l.length i p
theorem plan_Y (p0:List Int):Y (f9 p0) MPs:=by
 unfold f9
 refine (cut_Y p0 300 (by omega) (by omega)).bind fun x1 hx1=>?_
 refine (fm hx1 10 (by omega) (by omega)).bind fun x3 ⟨a1,a2,a3⟩=>?_
 rw [fg (r:=1+x3.1) (by omega) (by omega)]
 obtain ⟨n,hn⟩:∃ n:Nat,1+x3.1=(n:Int):=⟨(1+x3.1).toNat,by omega⟩
 rw [hn]
 have hn1:1≤n∧n≤10:=by omega
 refine Y.bind (P:=MPs) ?_ fun l hl=>Y.ret hl
 refine Y.loop (fun s:List Za×Int×List Int×Int=>(s.2.1=(s.1.length:Int)+1∧s.1.length≤n)∧SOK ⟨s.2.2.1,s.2.2.2⟩∧∀ i p,s.1[i]?=some p→MProd n i p) (fun s=>n - s.1.length) ⟨⟨rfl,by simp⟩,a3,by simp⟩ (by dsimp only;omega) fun s hs=>?_
 obtain ⟨l5,v8,l9,v10⟩:=s
 obtain ⟨⟨h1,h2⟩,h3,h4⟩:=hs
 dsimp only at h1 h2 h3 h4 ⊢
 refine Y.cond (fun hc=>?_) (fun hc=>Y.ret ?_)
 rotate_left
 ·have hc:=of_decide_eq_false hc
  have e:l5.length=n:=by omega
  exact ⟨by omega,by rw [e];exact h4⟩
 have hc:=of_decide_eq_true hc
 refine (fm h3 2 (by omega) (by omega)).bind fun x19 ⟨b1,b2,b3⟩=>?_
 obtain ⟨w,hw,e⟩:=codeN b1 b2
 rw [e]
 refine (code_Y b3 w hw).bind fun x20 ⟨⟨cl,hc1,hc2,hc3⟩,hx20⟩=>?_
 have hcode:=tv hw hc2 hc3
 refine Y.eq mP ?_
 refine (fm hx20 4 (by omega) (by omega)).bind fun x22 ⟨c1,c2,c3⟩=>?_
 obtain ⟨j,hj⟩:∃ j:Nat,x22.1=(j:Int):=⟨x22.1.toNat,by omega⟩
 refine Y.idx hj (show j<C6.length by have h6:C6.length=6:=rfl;omega) ?_
 refine (fm c3 200 (by omega) (by omega)).bind fun x24 ⟨d1,d2,d3⟩=>?_
 refine (ou d3).bind fun x25 ⟨hpr,hx25⟩=>?_
 refine (fm hx25 4 (by omega) (by omega)).bind fun x26 ⟨_,_,h26⟩=>?_
 refine (fm h26 1024 (by omega) (by omega)).bind fun x28 ⟨_,_,h28⟩=>?_
 refine Y.bind (P:=fun t:List Int×Int×List Zb=>SOK ⟨t.1,t.2.1⟩∧t.2.2.length≤4∧(t.2.2.Pairwise fun a b=>a.Product<b.Product)∧(∀ x∈t.2.2,(∃ k:Nat,k<n∧x.Product=3*((k:Int)+1))∧0≤x.Value∧x.Value<100)∧((x26.1 == 1)=true→t.2.2=[])) ?_ fun t ⟨t1,t2,t3,t4,t5⟩=>?_
 ·refine Y.loop (fun s:Int×List Int×Int×List Zb=>∃ v:Nat,s.1=(v:Int)+1∧v≤n∧SOK ⟨s.2.1,s.2.2.1⟩∧s.2.2.2.length≤4∧(s.2.2.2.Pairwise fun a b=>a.Product<b.Product)∧(∀ x∈s.2.2.2,(∃ k:Nat,k<v∧x.Product=3*((k:Int)+1))∧0≤x.Value∧x.Value<100)∧((x26.1 == 1)=true→s.2.2.2=[])) (fun s=>(n+1 - s.1).toNat) ⟨0,rfl,by omega,h28,by simp,List.Pairwise.nil,by simp,fun _=>rfl⟩ (by dsimp only;omega) fun s hs=>?_
  obtain ⟨i,l,k,m⟩:=s
  obtain ⟨v,rfl,s1,s2,s3,s4,s5,s6⟩:=hs
  dsimp only at s2 s3 s4 s5 s6 ⊢
  refine Y.cond (fun hc3=>?_) (fun hc3=>Y.ret ⟨s2,s3,s4,fun x hx=>?_,s6⟩)
  rotate_left
  ·obtain ⟨⟨k,h5,h6⟩,h7⟩:=s5 x hx;exact ⟨⟨k,by omega,h6⟩,h7⟩
  simp only [Bool.and_eq_true,decide_eq_true_eq,Bool.not_eq_true'] at hc3
  obtain ⟨⟨hc4,hc5⟩,hc6⟩:=hc3
  rw [fg (r:=(v:Int)+1 - 1) (by omega) (by omega),fg (r:=(v:Int)+1+1) (by omega) (by omega),fg (r:=3*((v:Int)+1)) (by omega) (by omega)]
  refine Y.bind (P:=fun t:List Int×Int×List Zb=>SOK ⟨t.1,t.2.1⟩∧t.2.2.length≤4∧(t.2.2.Pairwise fun a b=>a.Product<b.Product)∧(∀ x∈t.2.2,(∃ k:Nat,k<v+1∧x.Product=3*((k:Int)+1))∧0≤x.Value∧x.Value<100)) ?_ fun t ⟨t1,t2,t3,t4⟩=>Y.ret ⟨⟨v+1,by dsimp only;omega,by omega,t1,t2,t3,t4,fun h=>by rw [hc6] at h;cases h⟩,by dsimp only;omega⟩
  rw [show (v:Int)+1 - 1=(v:Int) by omega]
  refine Y.eq (qt v) ?_
  refine Y.bind (P:=fun r:Int×Zc=>SOK r.2) (Y.gdp (fun _=>(fm s2 3 (by omega) (by omega)).mono fun r hr=>hr.2.2) fun _=>s2) fun x56 hx56=>?_
  refine Y.cond (fun _=>?_) (fun _=>Y.ret ⟨hx56,s3,s4,fun x hx=>?_⟩)
  rotate_left
  ·obtain ⟨⟨k,h5,h6⟩,h7⟩:=s5 x hx;exact ⟨⟨k,by omega,h6⟩,h7⟩
  refine (fm hx56 100 (by omega) (by omega)).bind fun x58 ⟨e1,e2,e3⟩=>?_
  rw [eF (by simp;omega) (by simp;omega),cQ]
  refine Y.ret ⟨e3,by simp;omega,?_,fun x hx=>?_⟩
  ·rw [List.pairwise_append]
   refine ⟨s4,List.pairwise_singleton _ _,fun a ha b hb=>?_⟩
   rw [List.mem_singleton.1 hb]
   obtain ⟨⟨k,h5,h6⟩,_⟩:=s5 a ha
   dsimp only;omega
  rcases List.mem_append.1 hx with hx | hx
  ·obtain ⟨⟨k,h5,h6⟩,h7⟩:=s5 x hx;exact ⟨⟨k,by omega,h6⟩,h7⟩
  rw [List.mem_singleton.1 hx];exact ⟨⟨v,by omega,rfl⟩,e1,e2⟩
 obtain ⟨l37,v38,l42⟩:=t
 dsimp only at t1 t2 t3 t4 t5 ⊢
 rw [eF (by simp;omega) (by simp;omega),cQ,fg (r:=v8+1) (by omega) (by omega),fg (r:=1+x24.1) (by omega) (by omega),fg (r:=3*v8) (by omega) (by omega)]
 refine Y.ret ⟨⟨⟨by simp;omega,by simp;omega⟩,t1,fun i p hp=>?_⟩,by simp;omega⟩
 rw [List.getElem?_append] at hp
 split at hp
 ·exact h4 i p hp
 rename_i hi
 have hi0:i - l5.length=0:=by have:=(List.getElem?_eq_some_iff.1 hp).1;simp at this;omega
 rw [hi0] at hp
 simp only [List.getElem?_cons_zero,bG] at hp
 subst hp
 refine ⟨by dsimp only;omega,?_,List.getElem_mem _,⟨by dsimp only;omega,by dsimp only;omega⟩,hpr,t2,t3,t4,t5⟩
 dsimp only;rw [hc1,hcode.1,hcode.2];omega
structure Sorted (l:List Za):Prop where
 len:l.length≤1000000
 asc:l.Pairwise fun a b=>a.ID<b.ID
 small:∀ p∈l,p.Processes.length≤1000000∧p.Inputs.length≤1000000
def eD (l:List Za) (id:Int):Option Za:=l.find? fun p=>p.ID == id
theorem half_u (x:Nat) (h:x≤10000000):IntKind.i64.wrap (gJ .u64 (IntKind.u64.wrap (IntKind.i64.wrap (x:Int))) 1)=((x / 2:Nat):Int):=by
 rw [fg (r:=(x:Int)) (by omega) (by omega),u64s (by omega) (by omega)]
 have:gJ .u64 (x:Int) 1=(x:Int) / 2:=Int.fdiv_eq_ediv_of_nonneg _ (by decide)
 rw [this,fg (by omega) (by omega)];omega
theorem rh (l:List Za) (id:Int) (h:Sorted l):∃ j:Nat,cr l id=some ((j:Int),(eD l id).isSome)∧(∀ p,eD l id=some p→∃ hj:j<l.length,l[j]=p):=by
 have hl:=h.len
 have cmp:∀ p:Za,bD p id=some (if p.ID<id then -1 else if id<p.ID then 1 else 0):=fun p=>by unfold bD;rw [cmpI];rfl
 unfold cr aD
 have hloop:Y (aY (S:=Int×Int) (T:=(Int)) (fun (v1,v2)=>cond (decide (v1<v2)) (lb ((IntKind.i64.wrap (gJ .u64 (IntKind.u64.wrap (IntKind.i64.wrap (v1+v2))) 1))) (fun w8=>Option.bind (idx l w8) (fun m9=>Option.bind (bD m9 id) (fun x10=>cond (decide (x10<0)) (some (.inl ((IntKind.i64.wrap (w8+1)),v2))) (some (.inl (v1,w8))))))) (some (.inr v1))) FUEL (0,(l.length:Int))) (fun t=>∃ j:Nat,t=(j:Int)∧j≤l.length∧(∀ (k:Nat) (p:Za),l[k]?=some p→k<j→p.ID<id)∧(∀ (k:Nat) (p:Za),l[k]?=some p→j≤k→id≤p.ID)):=by
  refine Y.loop (fun s:Int×Int=>∃ i j:Nat,s.1=(i:Int)∧s.2=(j:Int)∧i≤j∧j≤l.length∧(∀ (k:Nat) (p:Za),l[k]?=some p→k<i→p.ID<id)∧(∀ (k:Nat) (p:Za),l[k]?=some p→j≤k→id≤p.ID)) (fun s=>(s.2 - s.1).toNat) ⟨0,l.length,rfl,rfl,by omega,by omega,fun k p _ hk=>absurd hk (Nat.not_lt_zero _),fun k p hp hk=>by have:=(List.getElem?_eq_some_iff.1 hp).1;omega⟩ (by dsimp only;omega) fun s hs=>?_
  obtain ⟨a,b⟩:=s
  obtain ⟨i,j,rfl,rfl,h1,h2,h3,h4⟩:=hs
  dsimp only
  refine Y.cond (fun hc=>?_) (fun hc=>Y.ret ⟨i,rfl,by omega,h3,fun k p hp hk=>h4 k p hp (by have:=of_decide_eq_false hc;omega)⟩)
  have hc:i<j:=by have:=of_decide_eq_true hc;omega
  unfold lb
  rw [show (i:Int)+(j:Int)=((i+j:Nat):Int) by omega,half_u _ (by omega)]
  have hm:(i+j) / 2<l.length:=by omega
  have pw:=List.pairwise_iff_getElem.1 h.asc
  refine Y.idx rfl hm (Y.eq (cmp _) ?_)
  by_cases hlt:l[(i+j) / 2].ID<id
  ·rw [if_pos hlt]
   refine Y.ret ⟨⟨(i+j) / 2+1,j,?_,rfl,by omega,h2,fun k p hp hk=>?_,h4⟩,?_⟩
   ·show IntKind.i64.wrap _=_;rw [fg (by omega) (by omega)];omega
   ·obtain ⟨hk2,rfl⟩:=List.getElem?_eq_some_iff.1 hp
    rcases Nat.lt_or_ge k ((i+j) / 2) with h5 | h5
    ·have:=pw k ((i+j) / 2) hk2 hm h5;omega
    have e:k=(i+j) / 2:=by omega
    subst e;exact hlt
   show ((j:Int) - IntKind.i64.wrap _).toNat<_;rw [fg (by omega) (by omega)];omega
  rw [if_neg hlt]
  have hd:decide ((if id<l[(i+j) / 2].ID then (1:Int) else 0)<0)=false:=by split <;> rfl
  rw [hd]
  refine Y.ret ⟨⟨i,(i+j) / 2,rfl,rfl,by omega,by omega,h3,fun k p hp hk=>?_⟩,by dsimp only;omega⟩
  obtain ⟨hk2,rfl⟩:=List.getElem?_eq_some_iff.1 hp
  rcases Nat.lt_or_ge ((i+j) / 2) k with h5 | h5
  ·have:=pw ((i+j) / 2) k hm hk2 h5;omega
  have e:k=(i+j) / 2:=by omega
  subst e;omega
 obtain ⟨t2,e,j,hj,h1,h2,h3⟩:=hloop
 subst hj
 rw [e]
 simp only [cQ]
 by_cases hjl:j<l.length
 ·rw [det (show (j:Int)<(l.length:Int) by omega),gH,bm hjl,cQ,gH,cmp,cQ]
  have h4:=h3 j _ (List.getElem?_eq_getElem hjl) (Nat.le_refl _)
  rw [if_neg (by omega)]
  by_cases heq:id<l[j].ID
  ·have hn:eD l id=none:=by
    unfold eD;rw [List.find?_eq_none]
    intro p hp
    obtain ⟨k,hk,rfl⟩:=List.getElem_of_mem hp
    have:l[k].ID≠id:=by
     rcases Nat.lt_or_ge k j with h5 | h5
     ·have:=h2 k _ (List.getElem?_eq_getElem hk) h5;omega
     rcases Nat.lt_or_ge j k with h6 | h6
     ·have:=List.pairwise_iff_getElem.1 h.asc j k hjl hk h6;omega
     have e:k=j:=by omega
     subst e;omega
    simpa using this
   rw [if_pos heq,hn];exact ⟨j,rfl,fun p hp=>by cases hp⟩
  ·have hid:l[j].ID=id:=by omega
   have hs:eD l id=some l[j]:=by
    unfold eD
    rw [List.find?_eq_some_iff_getElem]
    refine ⟨by simpa using hid,j,hjl,rfl,fun k hk=>?_⟩
    have:=h2 k _ (List.getElem?_eq_getElem (by omega)) hk
    have:l[k].ID≠id:=by omega
    simpa using this
   rw [if_neg heq,hs];exact ⟨j,rfl,fun p hp=>by injection hp with hp;exact ⟨hjl,hp⟩⟩
 rw [oM (show ¬ (j:Int)<(l.length:Int) by omega),iX,cQ,iX,cQ]
 have hn:eD l id=none:=by
  unfold eD;rw [List.find?_eq_none]
  intro p hp
  obtain ⟨k,hk,rfl⟩:=List.getElem_of_mem hp
  have:=h2 k _ (List.getElem?_eq_getElem hk) (by omega)
  have:l[k].ID≠id:=by omega
  simpa using this
 rw [hn];exact ⟨j,rfl,fun p hp=>by cases hp⟩
theorem MPs.sorted {l:List Za} (h:MPs l):Sorted l:=by
 refine ⟨by have:=h.len;omega,?_,fun p hp=>?_⟩
 ·rw [List.pairwise_iff_getElem]
  intro i j hi hj hij
  have h1:=(h.all i _ (List.getElem?_eq_getElem hi)).id
  have h2:=(h.all j _ (List.getElem?_eq_getElem hj)).id
  omega
 obtain ⟨i,hi,rfl⟩:=List.getElem_of_mem hp
 have hm:=h.all i _ (List.getElem?_eq_getElem hi)
 have h1:=hm.proc.length_le;have h2:=hm.few;have h6:W5.length=5:=rfl
 omega
end SX
end Go.Proofs.YtipjgkapcgpgbaaDoor
set_option maxRecDepth 100000
set_option linter.unusedSectionVars false
namespace Go.Proofs.YtipjgkapcgpgbaaDoor
namespace SX
open Go
section
variable {α:Type} [DecidableEq α]
variable {lt:α→α→Bool}
def Strict (lt:α→α→Bool) (l:List α):Prop:=l.Pairwise fun a b=>lt a b=true
end
section
variable {α:Type} [DecidableEq α]
end
end SX
end Go.Proofs.YtipjgkapcgpgbaaDoor
set_option maxRecDepth 100000
namespace Go.Proofs.YtipjgkapcgpgbaaDoor
namespace SX
open Go
structure VProd (l:List Za) (p:Za):Prop where
 price:1≤p.Price∧p.Price≤1000000000000
 lvl:6≤gc p.Code
 ctr:ctry p.Country=true
 proc:kV p.Processes=true
 few:p.Inputs.length≤8
 asc:p.Inputs.Pairwise fun a b=>a.Product<b.Product
 inp:∀ x∈p.Inputs,(eD l x.Product).isSome=true∧0≤x.Value∧x.Value≤1000000000000
 obt:p.Obtained=true→p.Inputs=[]
structure VPs (l:List Za):Prop where
 len:l.length≤64
 asc:l.Pairwise fun a b=>a.ID<b.ID
 all:∀ p∈l,VProd l p
theorem mQ {l:List ByteArray} (h:kV l=true):l.length≤8∧(∀ s∈l,tu s=true)∧Strict tr l:=by
 unfold kV at h
 simp only [Bool.and_eq_true,decide_eq_true_eq] at h
 exact ⟨h.1,fun s hs=>List.all_eq_true.1 h.2.1 s hs,(i4 _).1 h.2.2⟩
theorem VPs.sorted {l:List Za} (h:VPs l):Sorted l:=⟨by have:=h.len;omega,h.asc,fun p hp=>by have h1:=(mQ (h.all p hp).proc).1;have h2:=(h.all p hp).few;omega⟩
theorem fa {l:List Za} {id:Int} {p:Za} (h:eD l id=some p):p∈l∧p.ID=id:=⟨List.mem_of_find?_eq_some h,by have:=List.find?_some h;simpa using this⟩
end SX
end Go.Proofs.YtipjgkapcgpgbaaDoor
set_option maxRecDepth 100000
namespace Go.Proofs.YtipjgkapcgpgbaaDoor
namespace SX
open Go
theorem C6_ctry {s:ByteArray} (h:s∈C6):ctry s=true:=List.all_eq_true.1 C6_ok.1 s h
theorem W5_words {l:List ByteArray} (h:l.Sublist W5):kV l=true:=by
 unfold kV
 have h1:=h.length_le
 have h5:W5.length=5:=rfl
 simp only [Bool.and_eq_true,decide_eq_true_eq]
 exact ⟨by omega,List.all_eq_true.2 fun s hs=>List.all_eq_true.1 W5_ok.1 s (h.subset hs),(i4 _).2 (List.Pairwise.sublist h ((i4 _).1 W5_ok.2.1))⟩
theorem MPs.found {l:List Za} (h:MPs l) {k:Nat} (hk:k<l.length):(eD l (3*((k:Int)+1))).isSome=true:=by
 unfold eD
 rw [List.find?_isSome]
 exact ⟨l[k],List.getElem_mem hk,by have:=(h.all k _ (List.getElem?_eq_getElem hk)).id;simpa using this⟩
theorem MPs.vps {l:List Za} (h:MPs l):VPs l:=by
 refine ⟨by have:=h.len;omega,h.sorted.asc,fun p hp=>?_⟩
 obtain ⟨i,hi,rfl⟩:=List.getElem_of_mem hp
 have hm:=h.all i _ (List.getElem?_eq_getElem hi)
 refine ⟨by have:=hm.price;omega,by have:=hm.lvl.1;omega,C6_ctry hm.ctr,W5_words hm.proc,by have:=hm.few;omega,hm.asc,fun x hx=>?_,hm.obt⟩
 obtain ⟨⟨k,hk,e⟩,h1,h2⟩:=hm.inp x hx
 exact ⟨by rw [e];exact h.found hk,h1,by omega⟩
end SX
end Go.Proofs.YtipjgkapcgpgbaaDoor
set_option maxRecDepth 100000
namespace Go.Proofs.YtipjgkapcgpgbaaDoor
namespace SX
open Go
theorem mR {α:Type} {f:α→Int} {l:List α} (h:l.Pairwise fun a b=>f a<f b) {a b:α} (ha:a∈l) (hb:b∈l) (e:f a=f b):a=b:=by
 induction l with
 | nil=>cases ha
 | cons x l ih =>
  obtain ⟨h1,h2⟩:=List.pairwise_cons.1 h
  rcases List.mem_cons.1 ha with e1 | ha'
  ·rcases List.mem_cons.1 hb with e2 | hb'
   ·rw [e1,e2]
   have:=h1 b hb';rw [← e1] at this;omega
  rcases List.mem_cons.1 hb with e2 | hb'
  ·have:=h1 a ha';rw [← e2] at this;omega
  exact ih h2 ha' hb'
end SX
end Go.Proofs.YtipjgkapcgpgbaaDoor
set_option maxRecDepth 100000
namespace Go.Proofs.YtipjgkapcgpgbaaDoor
namespace SX
open Go
structure VIds (l:List Za):Prop where
 id:∀ p∈l,1≤p.ID∧p.ID≤1000000
 lvl:∀ p∈l,gc p.Code=6∨gc p.Code=8
theorem MPs.vids {l:List Za} (h:MPs l):VIds l:=by
 have hlen:=h.len
 refine ⟨fun p hp=>?_,fun p hp=>?_⟩
 ·obtain ⟨i,hi,rfl⟩:=List.getElem_of_mem hp
  have:=(h.all i _ (List.getElem?_eq_getElem hi)).id;omega
 obtain ⟨i,hi,rfl⟩:=List.getElem_of_mem hp
 exact (h.all i _ (List.getElem?_eq_getElem hi)).lvl.1
end SX
end Go.Proofs.YtipjgkapcgpgbaaDoor
set_option maxRecDepth 100000
namespace Go.Proofs.YtipjgkapcgpgbaaDoor
namespace SX
open Go
end SX
end Go.Proofs.YtipjgkapcgpgbaaDoor
set_option maxRecDepth 100000
namespace Go.Proofs.YtipjgkapcgpgbaaDoor
namespace SX
open Go
end SX
end Go.Proofs.YtipjgkapcgpgbaaDoor
set_option maxRecDepth 100000
namespace Go.Proofs.YtipjgkapcgpgbaaDoor
namespace SX
open Go
structure POk (p:Za):Prop where
 code:p.Code.size≤140737488355328
 proc:StrsOk p.Processes
 len:p.Inputs.length≤140737488355328
structure PSOk (l:List Za):Prop where
 len:l.length≤140737488355328
 all:∀ p∈l,POk p
end SX
end Go.Proofs.YtipjgkapcgpgbaaDoor
set_option maxRecDepth 100000
namespace Go.Proofs.YtipjgkapcgpgbaaDoor
namespace SX
open Go
end SX
end Go.Proofs.YtipjgkapcgpgbaaDoor
set_option maxRecDepth 100000
namespace Go.Proofs.YtipjgkapcgpgbaaDoor
namespace SX
open Go
end SX
end Go.Proofs.YtipjgkapcgpgbaaDoor
namespace Go.Proofs.YtipjgkapcgpgbaaDoor
namespace SX
open Go
def ri (id pid:Int) (acc:List Int) (x:Zb):List Int:=cond (x.Product == id) (acc++[pid]) acc
theorem qu (id pid:Int):∀ (l:List Zb) (acc:List Int) (n:Int),n∈l.foldl (ri id pid) acc↔n∈acc∨(n=pid∧∃ x∈l,x.Product=id)
 | [],acc,n=>by simp
 | x::l,acc,n=>by
  rw [List.foldl_cons,qu id pid l]
  unfold ri
  cases h:(x.Product == id)
  ·have h:¬ x.Product=id:=by simpa using h
   simp only [eW,List.mem_cons]
   constructor
   ·rintro (h1 | ⟨h1,y,hy,e⟩)
    ·exact .inl h1
    exact .inr ⟨h1,y,.inr hy,e⟩
   rintro (h1 | ⟨h1,y,rfl | hy,e⟩)
   ·exact .inl h1
   ·exact absurd e h
   exact .inr ⟨h1,y,hy,e⟩
  have h:x.Product=id:=by simpa using h
  simp only [dd,List.mem_append,List.mem_cons,List.not_mem_nil,or_false]
  constructor
  ·rintro ((h1 | h1) | ⟨h1,y,hy,e⟩)
   ·exact .inl h1
   ·exact .inr ⟨h1,x,.inl rfl,h⟩
   exact .inr ⟨h1,y,.inr hy,e⟩
  rintro (h1 | ⟨h1,y,rfl | hy,e⟩)
  ·exact .inl (.inl h1)
  ·exact .inl (.inr h1)
  exact .inr ⟨h1,y,hy,e⟩
theorem qv (id pid:Int):∀ (l:List Zb) (acc:List Int),(l.foldl (ri id pid) acc).length≤acc.length+l.length
 | [],acc=>by simp
 | x::l,acc=>by
  rw [List.foldl_cons]
  have:=qv id pid l (ri id pid acc x)
  have h2:(ri id pid acc x).length≤acc.length+1:=by unfold ri;cases (x.Product == id) <;> simp
  rw [List.length_cons];omega
def ca (plan:List Za) (id:Int):List Int:=plan.foldl (fun acc p=>p.Inputs.foldl (ri id p.ID) acc) []
theorem kX (plan:List Za) (id n:Int):n∈ca plan id↔∃ p∈plan,n=p.ID∧∃ x∈p.Inputs,x.Product=id:=by
 have key:∀ (l:List Za) (acc:List Int),n∈l.foldl (fun acc p=>p.Inputs.foldl (ri id p.ID) acc) acc↔n∈acc∨∃ p∈l,n=p.ID∧∃ x∈p.Inputs,x.Product=id:=by
  intro l
  induction l with
  | nil=>intro acc;simp
  | cons p l ih =>
   intro acc
   rw [List.foldl_cons,ih,qu]
   simp only [List.mem_cons]
   constructor
   ·rintro ((h | h) | ⟨q,hq,h⟩)
    ·exact .inl h
    ·exact .inr ⟨p,.inl rfl,h⟩
    exact .inr ⟨q,.inr hq,h⟩
   rintro (h | ⟨q,rfl | hq,h⟩)
   ·exact .inl (.inl h)
   ·exact .inl (.inr h)
   exact .inr ⟨q,hq,h⟩
 have:=key plan []
 unfold ca;rw [this];simp
theorem lO {plan:List Za} (hv:VPs plan) (id:Int):dC plan id=some (ca plan id)∧(ca plan id).length≤1000:=by
 have hlen:=hv.len
 unfold dC
 have main:=e9 (β:=List Int) (l:=plan) (by omega) (body:=fun (l2,v5)=>cond (decide (v5<(plan.length:Int))) (Option.bind (aY (S:=(List Int)×Int) (T:=((List Int))) (fun (l15,v18)=>Option.bind (idx plan v5) (fun m25=>cond (decide (v18<(m25.Inputs.length:Int))) (Option.bind (Option.bind (idx plan v5) (fun m32=>Option.bind (idx m32.Inputs v18) (fun m33=>cond (m33.Product == id) (Option.bind (idx plan v5) (fun m35=>Option.bind (app 8 l15 [m35.ID]) (fun l38=>some l38))) (some l15)))) (fun l30=>some (.inl (l30,(IntKind.i64.wrap (v18+1)))))) (some (.inr l15)))) FUEL (l2,0)) (fun l22=>some (.inl (l22,(IntKind.i64.wrap (v5+1)))))) (some (.inr l2))) (k:=fun l9=>some l9)
  (fun i (s:List Int)=>(s,i)) (fun acc p=>p.Inputs.foldl (ri id p.ID) acc) (fun s=>s) (fun k s=>s.length≤8*k) [] (by simp) (fun k hk s hs=>?_) (fun s _=>by simp only [gM,eW])
 ·exact ⟨main.1,by have:=main.2;unfold ca;omega⟩
 have hf:=(hv.all _ (List.getElem_mem hk)).few
 have h8:=qv id plan[k].ID plan[k].Inputs s
 refine ⟨?_,by omega⟩
 simp only [mT hk,dd,bm hk,cQ,dy hk (show plan.length≤4611686018427387904 by omega)]
 refine (e9 (l:=plan[k].Inputs) (by omega) (fun i (s:List Int)=>(s,i)) (ri id plan[k].ID) (fun s=>s) (fun j t=>t.length≤8*k+j) s (by omega) (fun j hj t ht=>?_) (fun t _=>by simp only [gM,eW])).1
 have hu:(ri id plan[k].ID t plan[k].Inputs[j]).length≤t.length+1:=by unfold ri;cases (plan[k].Inputs[j].Product == id) <;> simp
 refine ⟨?_,by omega⟩
 simp only [mT hj,dd,bm hj,cQ,dy hj (show plan[k].Inputs.length≤4611686018427387904 by omega)]
 unfold ri
 cases (plan[k].Inputs[j].Product == id)
 ·rfl
 simp only [dd]
 rw [eF (by simp;omega) (by simp;omega)];rfl
def i5 (plan:List Za) (id:Int) (r:List Bool) (m:Nat) (u:List Int):Bool:=match plan[m]? with
 | none=>false
 | some p=>((p.ID == id)||r.getD m false)&&u.any fun x=>x == p.ID
def eH (r:List Bool):Nat:=(r.filter fun b => !b).length
theorem kY:∀ (r:List Bool) (i:Nat),r[i]?=some false→eH (r.set i true)<eH r
 | b::r,0,h=>by simp at h;subst h;simp [eH]
 | b::r,i+1,h=>by
  have:=kY r i (by simpa using h)
  unfold eH at this ⊢
  cases b <;> simp [List.filter_cons] <;> omega
theorem pE (l:List Int) (n:Int) (hl:l.length≤140737488355328):cO l n=some (l.any fun x=>x == n):=by
 unfold cO
 refine (eb (l:=l) (by omega) (fun _ x=>cond (x == n) (some (.inr true)) none) (.inl ()) (fun k hk=>?_) (by simp only [gM,eW])).trans ?_
 ·simp only [mT hk,dd,bm hk,cQ,dy hk (show l.length≤4611686018427387904 by omega)]
  cases (l[k] == n) <;> rfl
 rw [jq (fun x=>x == n)]
 cases (l.any fun x=>x == n) <;> rfl
theorem lP (l:List Int) (n:Int) (hl:l.length≤140737488355328):dB l n=some (l.any fun x=>x == n):=by
 unfold dB
 refine (eb (l:=l) (by omega) (fun _ x=>cond (x == n) (some (.inr true)) none) (.inl ()) (fun k hk=>?_) (by simp only [gM,eW])).trans ?_
 ·simp only [mT hk,dd,bm hk,cQ,dy hk (show l.length≤4611686018427387904 by omega)]
  cases (l[k] == n) <;> rfl
 rw [jq (fun x=>x == n)]
 cases (l.any fun x=>x == n) <;> rfl
def Nd (plan:List Za) (a b:Int):Prop:=∃ p∈plan,p.ID=a∧∃ x∈p.Inputs,x.Product=b
inductive Ze (plan:List Za) (a:Int):Int→Prop
 | one {b:Int}:Nd plan a b→Ze plan a b
 | step {b c:Int}:Ze plan a b→Nd plan b c→Ze plan a c
structure RS (plan:List Za) (id:Int) (r:List Int):Prop where
 asc:r.Pairwise (· < ·)
 mem:∀ n,n∈r↔Ze plan id n
theorem ow {r s:List Int} (h1:r.Pairwise (· < ·)) (h2:s.Pairwise (· < ·)) (h:∀ n,n∈r↔n∈s):r=s :=
 List.Perm.eq_of_pairwise (le:=fun a b:Int=>a<b) (fun a b _ _ h1 h2=>by omega) h1 h2 ((List.perm_ext_iff_of_nodup (h1.imp fun h e=>by omega) (h2.imp fun h e=>by omega)).2 h)
theorem RS.uniq {plan:List Za} {id:Int} {r s:List Int} (h1:RS plan id r) (h2:RS plan id s):r=s:=ow h1.asc h2.asc fun n=>(h1.mem n).trans (h2.mem n).symm
def Snd (plan:List Za) (id:Int) (r:List Bool):Prop:=∀ i p,plan[i]?=some p→r.getD i false=true→Ze plan id p.ID
theorem Snd.hit {plan:List Za} {id:Int} {r:List Bool} (h:Snd plan id r) {m:Nat} {b:Int} (hh:i5 plan id r m (ca plan b)=true):Ze plan id b:=by
 unfold i5 at hh
 cases hm:plan[m]? with
 | none=>rw [hm] at hh;cases hh
 | some q =>
  rw [hm] at hh
  simp only [Bool.and_eq_true,Bool.or_eq_true,List.any_eq_true] at hh
  obtain ⟨h1,u,hu,e⟩:=hh
  have e:u=q.ID:=by simpa using e
  subst e
  obtain ⟨p,hp,e1,hx⟩:=(kX _ _ _).1 hu
  have hnd:Nd plan q.ID b:=⟨p,hp,e1.symm,hx⟩
  rcases h1 with h1 | h1
  ·have:q.ID=id:=by simpa using h1
   rw [← this];exact .one hnd
  exact .step (h m q hm h1) hnd
theorem Snd.set {plan:List Za} {id:Int} {r:List Bool} (h:Snd plan id r) {k:Nat} (hk:k<plan.length) (ht:Ze plan id plan[k].ID):Snd plan id (r.set k true):=fun i p hp hr=>by
 rcases Nat.lt_trichotomy i k with h1 | h1 | h1
 ·rw [List.getD_eq_getElem?_getD,List.getElem?_set_ne (by omega)] at hr;exact h i p hp (by rw [List.getD_eq_getElem?_getD];exact hr)
 ·subst h1;rw [List.getElem?_eq_getElem hk] at hp;injection hp with hp;subst hp;exact ht
 rw [List.getD_eq_getElem?_getD,List.getElem?_set_ne (by omega)] at hr;exact h i p hp (by rw [List.getD_eq_getElem?_getD];exact hr)
structure PassI (plan:List Za) (id:Int) (r:List Bool) (k:Nat) (r':List Bool) (ag:Bool):Prop where
 len:r'.length=plan.length
 le:k≤plan.length
 no:ag=false→r'=r∧∀ i,i<k→∀ p,plan[i]?=some p→r.getD i false=true∨∀ m,i5 plan id r m (ca plan p.ID)=false
 yes:ag=true→eH r'<eH r
 snd:Snd plan id r'
theorem pF {plan:List Za} (hv:VPs plan) (id:Int) (r:List Bool) (hr:r.length=plan.length) (hS:Snd plan id r) :
    Y (aY (S:=(List Bool)×Bool×Int) (T:=((List Bool)×Bool)) (fun (l13,v14,v15)=>cond (decide (v15<(plan.length:Int))) (Option.bind (idx plan v15) (fun m22=>Option.bind (dC plan m22.ID) (fun x23=>Option.bind (aY (S:=(List Bool)×Bool×Int) (T:=((List Bool)×Bool)) (fun (l25,v26,v27)=>Option.bind (gd (decide (v27<(plan.length:Int))) (idx l25 v15)) (fun m33=>cond ((decide (v27<(plan.length:Int)))&&(!m33)) (Option.bind (Option.bind (idx plan v27) (fun m39=>Option.bind (gd (!(m39.ID == id)) (idx l25 v27)) (fun m40=>Option.bind (gd ((m39.ID == id)||m40) (idx plan v27)) (fun m41=>Option.bind (gd ((m39.ID == id)||m40) (cO x23 m41.ID)) (fun x42=>cond (((m39.ID == id)||m40)&&x42) (Option.bind (idx l25 v15) (fun m44=>some ((l25.set v15.toNat true),true))) (some (l25,v26))))))) (fun (l36,v37)=>some (.inl (l36,v37,(IntKind.i64.wrap (v27+1)))))) (some (.inr (l25,v26))))) FUEL (l13,v14,0)) (fun (l29,v30)=>some (.inl (l29,v30,(IntKind.i64.wrap (v15+1)))))))) (some (.inr (l13,v14)))) FUEL (r,false,0)) (fun t=>PassI plan id r plan.length t.1 t.2):=by
  have hlen:=hv.len
  refine Y.loop (fun s:List Bool×Bool×Int=>∃ k:Nat,s.2.2=(k:Int)∧PassI plan id r k s.1 s.2.1) (fun s=>(plan.length - s.2.2).toNat) ⟨0,rfl,hr,by omega,fun _=>⟨rfl,fun i h=>by omega⟩,fun h=>(by cases h),hS⟩ (by show ((plan.length:Int) - 0).toNat≤_;omega) (fun s hs=>?_)
  obtain ⟨r1,ag,v⟩:=s
  obtain ⟨k,hvk,hI⟩:=hs
  dsimp only at hvk hI ⊢
  subst hvk
  rcases Nat.lt_or_ge k plan.length with hk | hk
  rotate_left
  · have e:k=plan.length:=by have:=hI.le;omega
    subst e
    rw [gM,eW]
    exact Y.ret hI
  rw [mT hk,dd,bm hk,cQ,(lO hv plan[k].ID).1,cQ]
  have hU:=(lO hv plan[k].ID).2
  have hk1:k<r1.length:=by rw [hI.len];exact hk
  have inner:Y (aY (S:=(List Bool)×Bool×Int) (T:=((List Bool)×Bool)) (fun (l25,v26,v27)=>Option.bind (gd (decide (v27<(plan.length:Int))) (idx l25 (k:Int))) (fun m33=>cond ((decide (v27<(plan.length:Int)))&&(!m33)) (Option.bind (Option.bind (idx plan v27) (fun m39=>Option.bind (gd (!(m39.ID == id)) (idx l25 v27)) (fun m40=>Option.bind (gd ((m39.ID == id)||m40) (idx plan v27)) (fun m41=>Option.bind (gd ((m39.ID == id)||m40) (cO (ca plan plan[k].ID) m41.ID)) (fun x42=>cond (((m39.ID == id)||m40)&&x42) (Option.bind (idx l25 (k:Int)) (fun m44=>some ((l25.set (k:Int).toNat true),true))) (some (l25,v26))))))) (fun (l36,v37)=>some (.inl (l36,v37,(IntKind.i64.wrap (v27+1)))))) (some (.inr (l25,v26))))) FUEL (r1,ag,0)) (fun t=>(t.1=r1∧t.2=ag∧(r1.getD k false=true∨∀ m,i5 plan id r1 m (ca plan plan[k].ID)=false))∨(t.1=r1.set k true∧t.2=true∧r1[k]?=some false∧Ze plan id plan[k].ID)):=by
    refine Y.loop (fun s:List Bool×Bool×Int=>∃ j:Nat,s.2.2=(j:Int)∧j≤plan.length∧((s.1=r1∧s.2.1=ag∧∀ m,m<j→i5 plan id r1 m (ca plan plan[k].ID)=false)∨(s.1=r1.set k true∧s.2.1=true∧r1[k]?=some false∧Ze plan id plan[k].ID))) (fun s=>(plan.length - s.2.2).toNat) ⟨0,rfl,by omega,.inl ⟨rfl,rfl,fun m h=>by omega⟩⟩ (by show ((plan.length:Int) - 0).toNat≤_;omega) (fun s hs=>?_)
    obtain ⟨r2,ag2,v2⟩:=s
    obtain ⟨j,hvj,hj,hJ⟩:=hs
    dsimp only at hvj hJ ⊢
    subst hvj
    have hr2:r2.length=r1.length:=by rcases hJ with ⟨rfl,_⟩ | ⟨rfl,_⟩ <;> simp
    have hk2:k<r2.length:=by omega
    rcases Nat.lt_or_ge j plan.length with hjl | hjl
    rotate_left
    · have e:j=plan.length:=by omega
      subst e
      rw [gM,iX,cQ]
      simp only [Bool.false_and,eW]
      refine Y.ret ?_
      rcases hJ with ⟨h1,h2,h3⟩ | h
      · refine .inl ⟨h1,h2,.inr fun m=>?_⟩
        rcases Nat.lt_or_ge m plan.length with hm | hm
        · exact h3 m hm
        unfold i5;rw [List.getElem?_eq_none hm]
      exact .inr h
    rw [mT hjl,gH,bm hk2,cQ,Bool.true_and]
    cases hb:r2[k] with
    | true =>
      simp only [Bool.not_true,eW]
      refine Y.ret ?_
      rcases hJ with ⟨h1,h2,h3⟩ | h
      · subst h1
        exact .inl ⟨rfl,h2,.inl (by rw [List.getD_eq_getElem?_getD,List.getElem?_eq_getElem hk2,hb];rfl)⟩
      · exact .inr h
    | false =>
      simp only [Bool.not_false,dd]
      rcases hJ with ⟨h1,h2,h3⟩ | ⟨h1,_⟩
      rotate_left
      · subst h1;simp at hb
      subst h1;subst h2
      have hj2:j<r2.length:=by have:=hI.len;omega
      rw [bm hjl,cQ]
      have hin:cO (ca plan plan[k].ID) plan[j].ID=some ((ca plan plan[k].ID).any fun x=>x == plan[j].ID):=pE _ _ (by omega)
      have hget:r2.getD j false=r2[j]:=by rw [List.getD_eq_getElem?_getD,List.getElem?_eq_getElem hj2];rfl
      have hhit:i5 plan id r2 j (ca plan plan[k].ID)=(((plan[j].ID == id)||r2[j])&&(ca plan plan[k].ID).any fun x=>x == plan[j].ID):=by unfold i5;rw [List.getElem?_eq_getElem hjl];dsimp only;rw [hget]
      have body:Y (Option.bind (gd (!(plan[j].ID == id)) (idx r2 (j:Int))) (fun m40=>Option.bind (gd ((plan[j].ID == id)||m40) (some plan[j])) (fun m41=>Option.bind (gd ((plan[j].ID == id)||m40) (cO (ca plan plan[k].ID) m41.ID)) (fun x42=>cond (((plan[j].ID == id)||m40)&&x42) (Option.bind (some false) (fun m44=>some ((r2.set (k:Int).toNat true),true))) (some (r2,ag2)))))) (fun t=>(t=(r2,ag2)∧i5 plan id r2 j (ca plan plan[k].ID)=false)∨(t=(r2.set k true,true)∧i5 plan id r2 j (ca plan plan[k].ID)=true)):=by
        rw [hhit,bm hj2]
        cases h1:(plan[j].ID == id)
        · simp only [Bool.not_false,gH,cQ,Bool.false_or]
          cases h2:r2[j]
          · simp only [iX,cQ,Bool.false_and,eW];exact Y.ret (.inl ⟨rfl,trivial⟩)
          simp only [gH,cQ,hin,Bool.true_and]
          cases h3:((ca plan plan[k].ID).any fun x=>x == plan[j].ID)
          · exact Y.ret (.inl ⟨rfl,rfl⟩)
          exact Y.ret (.inr ⟨rfl,rfl⟩)
        simp only [Bool.not_true,iX,cQ,Bool.true_or,gH,hin,Bool.true_and]
        cases h3:((ca plan plan[k].ID).any fun x=>x == plan[j].ID)
        · exact Y.ret (.inl ⟨rfl,rfl⟩)
        exact Y.ret (.inr ⟨rfl,rfl⟩)
      refine Y.bind body fun t ht=>Y.ret ⟨⟨j+1,?_,by omega,?_⟩,?_⟩
      · show IntKind.i64.wrap ((j:Int)+1)=_;rw [dy hjl (by omega)]
      · rcases ht with ⟨rfl,h⟩ | ⟨rfl,hh⟩
        · refine .inl ⟨rfl,rfl,fun m hm=>?_⟩
          rcases Nat.lt_or_ge m j with h4 | h4
          · exact h3 m h4
          have:m=j:=by omega
          subst this;exact h
        exact .inr ⟨rfl,rfl,by rw [List.getElem?_eq_getElem hk2,hb],hI.snd.hit hh⟩
      show ((plan.length:Int) - IntKind.i64.wrap ((j:Int)+1)).toNat<((plan.length:Int) - (j:Int)).toNat
      rw [dy hjl (by omega)];omega
  refine Y.bind inner fun t ht=>Y.ret ⟨⟨k+1,?_,?_⟩,?_⟩
  · show IntKind.i64.wrap ((k:Int)+1)=_;rw [dy hk (by omega)]
  · obtain ⟨t1,t2⟩:=t
    dsimp only at ht ⊢
    rcases ht with ⟨h1,h2,h3⟩ | ⟨h1,h2,h3,h4⟩
    · subst h1;subst h2
      refine ⟨hI.len,hk,fun ha=>?_,hI.yes,hI.snd⟩
      obtain ⟨h4,h5⟩:=hI.no ha
      subst h4
      refine ⟨rfl,fun i hi p hp=>?_⟩
      rcases Nat.lt_or_ge i k with h6 | h6
      · exact h5 i h6 p hp
      have:i=k:=by omega
      subst this
      rw [List.getElem?_eq_getElem hk] at hp;injection hp with hp;subst hp;exact h3
    subst h1;subst h2
    refine ⟨by rw [List.length_set];exact hI.len,hk,(fun h=>by cases h),fun _=>?_,hI.snd.set hk h4⟩
    have:=kY r1 k h3
    cases hag:ag with
    | false=>have:=(hI.no hag).1;subst this;omega
    | true=>have:=hI.yes hag;omega
  show ((plan.length:Int) - IntKind.i64.wrap ((k:Int)+1)).toNat<((plan.length:Int) - (k:Int)).toNat
  rw [dy hk (by omega)];omega
theorem rj {plan:List Za} (hv:VPs plan) (id:Int):Y (cI plan id) (fun need=>need.length≤64∧RS plan id need):=by
 have hlen:=hv.len
 unfold cI
 rw [show mk 1 false (plan.length:Int)=some (List.replicate plan.length false) by unfold mk;rw [if_pos (by simp;omega)];simp,cQ]
 refine Y.bind (P:=fun r:List Bool=>r.length=plan.length∧Snd plan id r∧∀ i,∀ p,plan[i]?=some p→r.getD i false=true∨∀ m,i5 plan id r m (ca plan p.ID)=false) ?_ fun r ⟨h1,hS,h2⟩=>?_
 ·refine Y.loop (fun s:List Bool×Bool=>s.1.length=plan.length∧Snd plan id s.1∧(s.2=false→∀ i,∀ p,plan[i]?=some p→s.1.getD i false=true∨∀ m,i5 plan id s.1 m (ca plan p.ID)=false)) (fun s=>2*eH s.1+cond s.2 1 0) ⟨by simp,fun i p hp hr=>(by dsimp only at hr;rw [List.getD_eq_getElem?_getD,List.getElem?_replicate] at hr;split at hr <;> cases hr),fun h=>by cases h⟩ ?_ (fun s hs=>?_)
  ·show 2*eH (List.replicate plan.length false)+1≤_
   have:eH (List.replicate plan.length false)≤plan.length:=by unfold eH;refine Nat.le_trans (List.length_filter_le _ _) ?_;simp
   omega
  obtain ⟨r,ag⟩:=s
  obtain ⟨h1,hS,h2⟩:=hs
  dsimp only at h1 hS h2 ⊢
  cases ag with
  | false=>exact Y.ret ⟨h1,hS,h2 rfl⟩
  | true =>
   simp only [dd]
   refine Y.bind (pF hv id r h1 hS) fun t ht=>Y.ret ⟨⟨ht.len,ht.snd,fun ha=>?_⟩,?_⟩
   ·obtain ⟨h3,h4⟩:=ht.no ha
    rw [h3]
    exact fun i p hp=>h4 i (List.getElem?_eq_some_iff.1 hp).1 p hp
   show 2*eH t.1+cond t.2 1 0<2*eH r+1
   cases ha:t.2 with
   | false=>rw [(ht.no ha).1];simp
   | true=>have:=ht.yes ha;simp only [dd];omega
 refine Y.bind (P:=fun out:List Int=>out.length≤64∧out.Pairwise (· < ·)∧∀ n,n∈out↔∃ i p,plan[i]?=some p∧r.getD i false=true∧n=p.ID) ?_ fun out ⟨k1,k0,k2⟩=>Y.ret ⟨k1,k0,?_⟩
 ·refine Y.loop (fun s:List Int×Int=>∃ k:Nat,s.2=(k:Int)∧k≤plan.length∧s.1.length≤k∧s.1.Pairwise (· < ·)∧∀ n,n∈s.1↔∃ i p,i<k∧plan[i]?=some p∧r.getD i false=true∧n=p.ID) (fun s=>(plan.length - s.2).toNat) ⟨0,rfl,by omega,by simp,by simp,fun n=>by simp⟩ (by show ((plan.length:Int) - 0).toNat≤_;omega) (fun s hs=>?_)
  obtain ⟨out,v⟩:=s
  obtain ⟨k,hvk,hk,hl,hpw,hm⟩:=hs
  dsimp only at hvk hl hpw hm ⊢
  subst hvk
  rcases Nat.lt_or_ge k plan.length with hk2 | hk2
  rotate_left
  ·have e:k=plan.length:=by omega
   subst e
   rw [gM,eW]
   refine Y.ret ⟨by omega,hpw,fun n=>(hm n).trans ⟨fun ⟨i,p,_,h⟩=>⟨i,p,h⟩,fun ⟨i,p,h⟩=>⟨i,p,(List.getElem?_eq_some_iff.1 h.1).1,h⟩⟩⟩
  have hkr:k<r.length:=by omega
  have hg:r.getD k false=r[k]:=by rw [List.getD_eq_getElem?_getD,List.getElem?_eq_getElem hkr];rfl
  rw [mT hk2,dd,bm hkr,cQ,bm hk2,cQ,dy hk2 (by omega)]
  cases hb:r[k] with
  | false =>
   refine Y.ret ⟨⟨k+1,rfl,by omega,by dsimp only;omega,hpw,fun n=>(hm n).trans ⟨fun ⟨i,p,h,h2⟩=>⟨i,p,by omega,h2⟩,fun ⟨i,p,h,h2,h3,h4⟩=>?_⟩⟩,?_⟩
   ·rcases Nat.lt_or_ge i k with h5 | h5
    ·exact ⟨i,p,h5,h2,h3,h4⟩
    have:i=k:=by omega
    subst this;rw [hg,hb] at h3;cases h3
   ·show ((plan.length:Int) - ((k+1:Nat):Int)).toNat<((plan.length:Int) - (k:Int)).toNat;omega
  | true =>
   simp only [dd]
   rw [eF (by simp;omega) (by simp;omega),cQ,cQ]
   have hnew:∀ a∈out,a<plan[k].ID:=fun a ha=>by
    obtain ⟨i,p,h,h2,_,h4⟩:=(hm a).1 ha
    have hi:=(List.getElem?_eq_some_iff.1 h2).1
    have:=List.pairwise_iff_getElem.1 hv.asc i k hi hk2 h
    rw [(List.getElem?_eq_some_iff.1 h2).2] at this;omega
   refine Y.ret ⟨⟨k+1,rfl,by omega,by dsimp only;simp;omega,List.pairwise_append.2 ⟨hpw,by simp,fun a ha b hb=>by rw [List.mem_singleton] at hb;subst hb;exact hnew a ha⟩,fun n=>?_⟩,?_⟩
   ·dsimp only
    rw [List.mem_append,hm,List.mem_singleton]
    constructor
    ·rintro (⟨i,p,h,h2⟩ | h)
     ·exact ⟨i,p,by omega,h2⟩
     exact ⟨k,plan[k],by omega,List.getElem?_eq_getElem hk2,by rw [hg,hb],h⟩
    rintro ⟨i,p,h,h2,h3,h4⟩
    rcases Nat.lt_or_ge i k with h5 | h5
    ·exact .inl ⟨i,p,h5,h2,h3,h4⟩
    have:i=k:=by omega
    subst this
    rw [List.getElem?_eq_getElem hk2] at h2;injection h2 with h2;subst h2;exact .inr h4
   show ((plan.length:Int) - ((k+1:Nat):Int)).toNat<((plan.length:Int) - (k:Int)).toNat;omega
 have close:∀ p∈plan,((p.ID == id)||out.any fun n=>n == p.ID)=true→∀ y∈p.Inputs,((out.any fun n=>n == y.Product)=true):=by
  intro p hp hR y hy
  obtain ⟨m,hm,rfl⟩:=List.getElem_of_mem hp
  have hq:=((hv.all _ hp).inp y hy).1
  obtain ⟨q,hq⟩:=Option.isSome_iff_exists.1 hq
  obtain ⟨hq1,hq2⟩:=fa hq
  obtain ⟨j,hj,rfl⟩:=List.getElem_of_mem hq1
  have hu:plan[m].ID∈ca plan plan[j].ID:=(kX _ _ _).2 ⟨_,hp,rfl,y,hy,hq2.symm⟩
  have hrm:((plan[m].ID == id)||r.getD m false)=true:=by
   rw [Bool.or_eq_true] at hR ⊢
   rcases hR with h | h
   ·exact .inl h
   rw [List.any_eq_true] at h
   obtain ⟨n,hn,e⟩:=h
   obtain ⟨i,p',h3,h4,h5⟩:=(k2 n).1 hn
   have hi:=(List.getElem?_eq_some_iff.1 h3).1
   have hpe:=(List.getElem?_eq_some_iff.1 h3).2
   have e:n=plan[m].ID:=by simpa using e
   have heq:plan[i]=plan[m]:=mR hv.asc (List.getElem_mem hi) (List.getElem_mem hm) (by rw [hpe,← h5,e])
   have him:i=m:=by
    rcases Nat.lt_trichotomy i m with h6 | h6 | h6
    ·have:=List.pairwise_iff_getElem.1 hv.asc i m hi hm h6;rw [heq] at this;omega
    ·exact h6
    have:=List.pairwise_iff_getElem.1 hv.asc m i hm hi h6;rw [heq] at this;omega
   subst him;exact .inr h4
  have hhit:i5 plan id r m (ca plan plan[j].ID)=true:=by
   unfold i5;rw [List.getElem?_eq_getElem hm]
   dsimp only
   rw [hrm,Bool.true_and,List.any_eq_true]
   exact ⟨_,hu,by simp⟩
  rcases h2 j plan[j] (List.getElem?_eq_getElem hj) with h | h
  ·rw [List.any_eq_true]
   exact ⟨y.Product,(k2 _).2 ⟨j,plan[j],List.getElem?_eq_getElem hj,h,hq2.symm⟩,by simp⟩
  rw [h m] at hhit;cases hhit
 intro n
 constructor
 ·intro hn
  obtain ⟨i,p,h3,h4,rfl⟩:=(k2 n).1 hn
  exact hS i p h3 h4
 intro ht
 induction ht with
 | one h =>
  obtain ⟨p,hp,e,x,hx,rfl⟩:=h
  have:=close p hp (by rw [e];simp) x hx
  rw [List.any_eq_true] at this
  obtain ⟨m,hm,e⟩:=this
  have e:m=x.Product:=by simpa using e
  exact e ▸ hm
 | step _ h ih =>
  obtain ⟨p,hp,e,x,hx,rfl⟩:=h
  have:=close p hp (by rw [Bool.or_eq_true];right;rw [List.any_eq_true];exact ⟨_,ih,by simp [e]⟩) x hx
  rw [List.any_eq_true] at this
  obtain ⟨m,hm,e⟩:=this
  have e:m=x.Product:=by simpa using e
  exact e ▸ hm
theorem awake13:fA=some true:=by kernel_rfl
theorem hY:∀ (ks l:List Int),ks.Nodup→(∀ n∈ks,n∈l)→ks.length≤l.length
 | [],l,_,_=>Nat.zero_le _
 | n::ks,l,h1,h2=>by
  have h3:=List.nodup_cons.1 h1
  have hn:n∈l:=h2 n (by simp)
  have:=hY ks (l.erase n) h3.2 fun m hm=>(List.mem_erase_of_ne (by rintro rfl;exact h3.1 hm)).2 (h2 m (by simp [hm]))
  rw [List.length_erase_of_mem hn] at this
  have hpos:0<l.length:=List.length_pos_of_mem hn
  rw [List.length_cons];omega
def pG (ks:List Int):List (Int×Bool):=ks.map fun n=>(n,true)
theorem ox (n:Int):∀ ks:List Int,(bd (pG ks) n).getD false=decide (n∈ks)
 | []=>rfl
 | a::ks=>by
  have ih:=ox n ks
  unfold pG at ih ⊢
  rw [List.map_cons]
  unfold bd
  by_cases h:a=n
  ·rw [if_pos h];subst h;simp
  rw [if_neg h,ih]
  have h':¬ n=a:=fun e=>h e.symm
  simp [h']
theorem tw {n:Int} {ks:List Int} (h:n ∉ ks):dR (pG ks) n true=pG (ks++[n]):=by
 unfold pG
 rw [jo (fun p hp=>by obtain ⟨m,hm,rfl⟩:=List.mem_map.1 hp;rintro rfl;exact h hm),List.map_append];rfl
def inF (s:List Int×List Int) (x:Zb):List Int×List Int:=cond (!decide (x.Product∈s.2)) (s.1++[x.Product],s.2++[x.Product]) s
theorem kZ:∀ (inp:List Zb) (td ks:List Int),∃ new:List Int,inp.foldl inF (td,ks)=(td++new,ks++new)∧new.Nodup∧(∀ n∈new,n ∉ ks∧∃ x∈inp,x.Product=n)∧∀ x∈inp,x.Product∈ks++new
 | [],td,ks=>⟨[],(by simp),List.nodup_nil,fun _ h=>(by cases h),fun _ h=>(by cases h)⟩
 | x::inp,td,ks=>by
  rw [List.foldl_cons]
  by_cases h:x.Product∈ks
  ·have e:inF (td,ks) x=(td,ks):=by unfold inF;simp [h]
   rw [e]
   obtain ⟨new,h1,h2,h3,h4⟩:=kZ inp td ks
   refine ⟨new,h1,h2,fun n hn=>⟨(h3 n hn).1,?_⟩,fun y hy=>?_⟩
   ·obtain ⟨y,hy,e⟩:=(h3 n hn).2;exact ⟨y,by simp [hy],e⟩
   rcases List.mem_cons.1 hy with rfl | hy
   ·simp [h]
   exact h4 y hy
  have e:inF (td,ks) x=(td++[x.Product],ks++[x.Product]):=by unfold inF;simp [h]
  rw [e]
  obtain ⟨new,h1,h2,h3,h4⟩:=kZ inp (td++[x.Product]) (ks++[x.Product])
  refine ⟨x.Product::new,by rw [h1];simp,List.nodup_cons.2 ⟨fun hn=>(h3 _ hn).1 (by simp),h2⟩,fun n hn=>?_,fun y hy=>?_⟩
  ·rcases List.mem_cons.1 hn with rfl | hn
   ·exact ⟨h,x,by simp,rfl⟩
   obtain ⟨h5,y,hy,e⟩:=h3 n hn
   exact ⟨fun hk=>h5 (by simp [hk]),y,by simp [hy],e⟩
  rcases List.mem_cons.1 hy with rfl | hy
  ·simp
  have:=h4 y hy;rw [List.append_assoc] at this;exact this
structure RI (plan:List Za) (id:Int) (td ks:List Int):Prop where
 nd:ks.Nodup
 sub:∀ n∈ks,Ze plan id n∧(eD plan n).isSome=true
 tds:∀ t∈td,t=id∨t∈ks
 cl:∀ a,a=id∨a∈ks→a∈td∨∀ b,Nd plan a b→b∈ks
 len:td.length≤ks.length+1
theorem RI.few {plan:List Za} {id:Int} {td ks:List Int} (h:RI plan id td ks):ks.length≤plan.length:=by
 have:=hY ks (plan.map (·.ID)) h.nd fun n hn=>by
  obtain ⟨p,hp⟩:=Option.isSome_iff_exists.1 (h.sub n hn).2
  obtain ⟨h1,h2⟩:=fa hp
  exact List.mem_map.2 ⟨p,h1,h2⟩
 rwa [List.length_map] at this
theorem RI.step {plan:List Za} (hv:VPs plan) {id a:Int} {td ks:List Int} (h:RI plan id (td++[a]) ks) {p:Za} (hp:eD plan a=some p) {new:List Int} (h2:new.Nodup) (h3:∀ n∈new,n ∉ ks∧∃ x∈p.Inputs,x.Product=n) (h4:∀ x∈p.Inputs,x.Product∈ks++new):RI plan id (td++new) (ks++new):=by
 obtain ⟨hm,hid⟩:=fa hp
 have hnd:∀ n∈new,Nd plan a n:=fun n hn=>by obtain ⟨x,hx,e⟩:=(h3 n hn).2;exact ⟨p,hm,hid,x,hx,e⟩
 have ha:=h.tds a (by simp)
 refine ⟨List.nodup_append.2 ⟨h.nd,h2,fun x hx y hy e=>(h3 y hy).1 (e ▸ hx)⟩,fun n hn=>?_,fun t ht=>?_,fun c hc=>?_,?_⟩
 ·rcases List.mem_append.1 hn with hn | hn
  ·exact h.sub n hn
  refine ⟨?_,?_⟩
  ·rcases ha with rfl | ha
   ·exact .one (hnd n hn)
   exact .step (h.sub a ha).1 (hnd n hn)
  obtain ⟨x,hx,e⟩:=(h3 n hn).2
  rw [← e];exact ((hv.all p hm).inp x hx).1
 ·rcases List.mem_append.1 ht with ht | ht
  ·rcases h.tds t (by simp [ht]) with h5 | h5
   ·exact .inl h5
   exact .inr (by simp [h5])
  exact .inr (by simp [ht])
 ·have hold:c=id∨c∈ks→c∈td++new∨∀ b,Nd plan c b→b∈ks++new:=fun hc=>by
   by_cases hca:c=a
   ·subst hca
    refine .inr fun b hb=>?_
    obtain ⟨q,hq,e,x,hx,rfl⟩:=hb
    have:q=p:=mR hv.asc hq hm (by rw [e,hid])
    subst this;exact h4 x hx
   rcases h.cl c hc with h5 | h5
   ·rcases List.mem_append.1 h5 with h5 | h5
    ·exact .inl (by simp [h5])
    simp at h5;exact absurd h5 hca
   exact .inr fun b hb=>by simp [h5 b hb]
  rcases hc with hc | hc
  ·exact hold (.inl hc)
  rcases List.mem_append.1 hc with hc | hc
  ·exact hold (.inr hc)
  exact .inl (by simp [hc])
 ·have:=h.len;simp at this ⊢;omega
theorem RI.drop {plan:List Za} {id a:Int} {td ks:List Int} (h:RI plan id (td++[a]) ks) (hn:eD plan a=none):RI plan id td ks:=by
 refine ⟨h.nd,h.sub,fun t ht=>h.tds t (by simp [ht]),fun c hc=>?_,by have:=h.len;simp at this;omega⟩
 rcases h.cl c hc with h5 | h5
 ·rcases List.mem_append.1 h5 with h5 | h5
  ·exact .inl h5
  simp at h5;subst h5
  refine .inr fun b hb=>?_
  obtain ⟨q,hq,e,_⟩:=hb
  unfold eD at hn
  have:=List.find?_eq_none.1 hn q hq
  exact absurd e (by simpa using this)
 exact .inr h5
theorem RI.done {plan:List Za} {id:Int} {ks:List Int} (h:RI plan id [] ks):∀ n,n∈ks↔Ze plan id n:=fun n=>by
 have cl:∀ a,a=id∨a∈ks→∀ b,Nd plan a b→b∈ks:=fun a ha=>by
  rcases h.cl a ha with h1 | h1
  ·cases h1
  exact h1
 constructor
 ·exact fun hn=>(h.sub n hn).1
 intro ht
 induction ht with
 | one hb=>exact cl id (.inl rfl) _ hb
 | step _ hb ih=>exact cl _ (.inr ih) _ hb
theorem rk {plan:List Za} (hi:VIds plan) (hl:plan.length≤64) {id:Int} {ks:List Int} (h:RI plan id [] ks):∃ r,oh (pG ks)=some r∧r.length≤64∧RS plan id r:=by
 have hk:=h.few
 have hin:((pG ks).all (fun p=>inI p.1)&&decide ((pG ks).length≤1000000000000))=true:=by
  rw [Bool.and_eq_true,List.all_eq_true,decide_eq_true_eq]
  refine ⟨fun p hp=>?_,by unfold pG;rw [List.length_map];omega⟩
  obtain ⟨n,hn,rfl⟩:=List.mem_map.1 hp
  obtain ⟨q,hq⟩:=Option.isSome_iff_exists.1 (h.sub n hn).2
  obtain ⟨h1,h2⟩:=fa hq
  have:=hi.id q h1
  unfold inI;simp only [Bool.and_eq_true,decide_eq_true_eq];omega
 refine ⟨kM lM ks,?_,by rw [ea.length_eq];omega,?_,fun n=>?_⟩
 ·unfold oh;rw [hin,dd]
  congr 2;unfold pG;rw [List.map_map];simp [Function.comp_def]
 ·have h1:=gA ltI_t ltI_n ltI_i ks
  have h2:(kM lM ks).Nodup:=ea.nodup_iff.2 h.nd
  refine h1.imp₂ (fun a b hab hne=>?_) h2
  unfold lM at hab
  have:=of_decide_eq_false hab
  omega
 exact ea.mem_iff.trans (h.done n)
theorem pH {plan:List Za} (hv:VPs plan) (hi:VIds plan) (id:Int):Y (bp plan id) (fun r=>r.length≤64∧RS plan id r):=by
 have hlen:=hv.len
 unfold bp
 refine Y.bind (P:=fun l:List (Int×Bool)=>∃ ks,l=pG ks∧RI plan id [] ks) (Y.loop (fun s:List Int×List (Int×Bool)=>∃ ks,s.2=pG ks∧RI plan id s.1 ks) (fun s=>s.1.length+2*(64 - s.2.length)) ⟨[],rfl,List.nodup_nil,fun _ h=>(by cases h),fun t ht=>(by simp at ht;exact .inl ht),fun a ha=>(by rcases ha with rfl | h;exact .inl (by simp);cases h),(by simp)⟩ (by simp) fun s hs=>?_) fun l ⟨ks,e,h⟩=>by
  subst e
  obtain ⟨r,h1,h2,h3⟩:=rk hi hlen h
  rw [h1,cQ];exact Y.ret ⟨h2,h3⟩
 obtain ⟨todo,F⟩:=s
 obtain ⟨ks,rfl,hI⟩:=hs
 dsimp only at hI ⊢
 have hkl:=hI.few
 rcases List.eq_nil_or_concat todo with rfl | ⟨td,a,rfl⟩
 ·rw [show decide ((0:Int)<(([]:List Int).length:Int))=false from rfl,eW]
  exact Y.ret ⟨ks,rfl,hI⟩
 rw [List.concat_eq_append] at hI ⊢
 have htl:=hI.len
 have hl:(td++[a]).length=td.length+1:=by simp
 rw [hl] at htl ⊢
 have hw:IntKind.i64.wrap (((td.length+1:Nat):Int) - 1)=(td.length:Int):=by rw [fg (by omega) (by omega)];omega
 rw [show decide ((0:Int)<((td.length+1:Nat):Int))=true by rw [decide_eq_true_eq];omega,dd,hw,bm (show td.length<(td++[a]).length by simp),cQ]
 have hg:(td++[a])[td.length]=a:=by simp
 rw [hg]
 obtain ⟨j,e1,e2⟩:=rh plan a hv.sorted
 rw [e1,cQ,show (0:Int)=((0:Nat):Int) from rfl,sub_ok (by omega) (by rw [hl];omega),cQ]
 have hinit:((td++[a]).take td.length).drop 0=td:=by simp
 rw [hinit]
 dsimp only
 cases hf:eD plan a with
 | none =>
  simp only [Option.isSome_none,Bool.not_false,dd]
  exact Y.ret ⟨⟨ks,rfl,hI.drop hf⟩,by dsimp only;omega⟩
 | some p =>
  obtain ⟨hj,e3⟩:=e2 p hf
  have hpm:=(fa hf).1
  have hfew:=(hv.all p hpm).few
  simp only [Option.isSome_some,Bool.not_true,eW,bm hj,e3,cQ]
  obtain ⟨new,n1,n2,n3,n4⟩:=kZ p.Inputs td ks
  have hstep:=hI.step hv hf n2 n3 n4
  have hfold:=e9 (l:=p.Inputs) (by omega) (k:=fun (t:List Int×List (Int×Bool))=>some (Sum.inl (t.1,t.2):(List Int×List (Int×Bool))⊕List (Int×Bool)))
   (body:=fun (l20,v23,l24)=>cond (decide (v23<(p.Inputs.length:Int))) (Option.bind (Option.bind (idx p.Inputs v23) (fun m39=>cond (!((bd l24 m39.Product).getD false)) (Option.bind (app 8 l20 [m39.Product]) (fun l44=>some (l44,(dR l24 m39.Product true)))) (some (l20,l24)))) (fun (l36,l37)=>some (.inl (l36,(IntKind.i64.wrap (v23+1)),l37)))) (some (.inr (l20,l24))))
   (fun i (s:List Int×List Int)=>(s.1,i,pG s.2)) inF (fun s=>(s.1,pG s.2)) (fun k s=>s.1.length≤td.length+k) (td,ks) (by simp) (fun k hk s hs=>?_) (fun s hs=>?_)
  ·refine (show Y _ _ from ?_)
   have:=hfold.1
   refine ⟨_,this,?_⟩
   rw [n1]
   refine ⟨⟨ks++new,rfl,hstep⟩,?_⟩
   have:=hstep.few
   simp only [pG,List.length_map,List.length_append] at this ⊢
   simp
   omega
  ·dsimp only
   rw [mT hk,dd,bm hk,cQ,ox,dy hk (by omega)]
   unfold inF
   cases hc:decide (p.Inputs[k].Product∈s.2)
   ·simp only [Bool.not_false,dd]
    rw [eF (by simp;omega) (by simp;omega),cQ,cQ,tw (of_decide_eq_false hc)]
    exact ⟨rfl,by simp;omega⟩
   simp only [Bool.not_true,eW,cQ]
   exact ⟨trivial,by omega⟩
  dsimp only;rw [gM,eW]
theorem oy {α:Type} {l:List α} {p:α→Bool} (h:l.find? p=none):l.any p=false:=by
 rw [List.any_eq_false];exact fun x hx=>by have:=List.find?_eq_none.1 h x hx;simpa using this
theorem lQ {α:Type} {l:List α} {p:α→Bool} {x:α} (h:l.find? p=some x):l.any p=true:=by
 rw [List.any_eq_true];exact ⟨x,List.mem_of_find?_eq_some h,List.find?_some h⟩
theorem lR (l:List Int) (n:Int) (hl:l.length≤140737488355328):bj l n=some (l.any fun x=>x == n):=by
 unfold bj
 have e:bK l n=some (match dS (fun k (p:Int)=>cond (p == n) (some (Sum.inr (k:Int):Unit⊕Int)) none) l 0 with | some (.inr k)=>k | _ => -1):=by
  unfold bK
  refine (eb (l:=l) (by omega) (fun k (p:Int)=>cond (p == n) (some (.inr (k:Int))) none) (.inl ()) (fun k hk=>?_) (by rw [gM,eW])).trans ?_
  ·have e:(n == l[k])=(l[k] == n):=by
    by_cases h:n=l[k]
    ·rw [← h]
    rw [beq_eq_false_iff_ne.2 h,beq_eq_false_iff_ne.2 (fun e=>h e.symm)]
   rw [mT hk,dd,bm hk,cQ,dy hk (show l.length≤4611686018427387904 by omega),e]
   cases (l[k] == n) <;> rfl
  ·cases dS (fun k (p:Int)=>cond (p == n) (some (Sum.inr (k:Int):Unit⊕Int)) none) l 0 with
   | none=>rfl
   | some t=>cases t <;> rfl
 rw [e,cQ]
 rcases kW (fun p:Int=>p == n) (fun k=>(Sum.inr (k:Int):Unit⊕Int)) l 0 with ⟨h1,h2⟩ | ⟨j,hj,h1,h2⟩
 ·rw [h1,oy h2];rfl
 rw [h1,lQ h2]
 show some (decide (0≤((0+j:Nat):Int)))=_
 rw [det (by omega)]
theorem pJ {plan:List Za} (hv:VPs plan) (hi:VIds plan) (id:Int):∃ r,bp plan id=some r∧cI plan id=some r∧r.length≤64∧RS plan id r:=by
 obtain ⟨r,e1,h1,h2⟩:=pH hv hi id
 obtain ⟨s,e2,h3,h4⟩:=rj hv id
 have:=h2.uniq h4
 subst this
 exact ⟨r,e1,e2,h1,h2⟩
theorem rm {l:List Int} (h:l.length≤140737488355328):cx l l=some true:=by rw [ot _ _ h];simp
theorem Ze.cons {plan:List Za} {a b n:Int} (h:Nd plan a b) (ht:Ze plan b n):Ze plan a n:=by
 induction ht with
 | one h2=>exact .step (.one h) h2
 | step _ h2 ih=>exact .step ih h2
theorem Ze.trans {plan:List Za} {a b n:Int} (h:Ze plan a b) (ht:Ze plan b n):Ze plan a n:=by
 induction ht with
 | one h2=>exact .step h h2
 | step _ h2 ih=>exact .step ih h2
theorem Ze.head {plan:List Za} {a n:Int} (h:Ze plan a n):∃ b,Nd plan a b∧(n=b∨Ze plan b n):=by
 induction h with
 | one h=>exact ⟨_,h,.inl rfl⟩
 | step _ h2 ih =>
  obtain ⟨b,h3,h4⟩:=ih
  refine ⟨b,h3,.inr ?_⟩
  rcases h4 with rfl | h4
  ·exact .one h2
  exact .step h4 h2
def rl (plan:List Za) (id:Int):List Int:=(bp plan id).getD []
structure GP (plan:List Za):Prop where
 v:VPs plan
 i:VIds plan
section
variable {plan:List Za}
theorem gI (h:GP plan) (id:Int):bp plan id=some (rl plan id)∧cI plan id=some (rl plan id)∧(rl plan id).length≤64∧RS plan id (rl plan id):=by
 obtain ⟨r,e1,e2,h1,h2⟩:=pJ h.v h.i id
 have:rl plan id=r:=by unfold rl;rw [e1];rfl
 rw [this];exact ⟨e1,e2,h1,h2⟩
def hZ (plan:List Za) (n:Int):Prop:=∃ q∈plan,q.ID=n
theorem tc_id (h:GP plan) {a n:Int} (ht:Ze plan a n):hZ plan n:=by
 have:∀ b,Nd plan b n→hZ plan n:=fun b ⟨p,hp,_,x,hx,e⟩=>by
  obtain ⟨q,hq⟩:=Option.isSome_iff_exists.1 ((h.v.all p hp).inp x hx).1
  obtain ⟨h1,h2⟩:=fa hq
  exact ⟨q,h1,h2.trans e⟩
 cases ht with
 | one h1=>exact this _ h1
 | step _ h1=>exact this _ h1
def eJ (l:List Int) (n:Int):Bool:=l.any fun x=>x == n
theorem dm {l:List Int} {n:Int}:eJ l n=true↔n∈l:=by
 unfold eJ;rw [List.any_eq_true]
 constructor
 ·rintro ⟨x,hx,e⟩;have e:x=n:=by simpa using e
  subst e;exact hx
 intro h;exact ⟨n,h,by simp⟩
theorem cy {l:List Int} {n:Int}:eJ l n=false↔n ∉ l:=by
 rw [← Bool.not_eq_true,dm]
def oJ (plan:List Za) (a b:Int):Bool:=eJ (rl plan a) b
theorem fB (h:GP plan) {a b:Int}:oJ plan a b=true↔Ze plan a b:=dm.trans ((gI h a).2.2.2.mem b)
def bo (plan:List Za) (a b:Int):Bool:=(b == a)||(oJ plan a b&&oJ plan b a)
theorem ia (h:GP plan) {a b:Int}:bo plan a b=true↔a=b∨(Ze plan a b∧Ze plan b a):=by
 unfold bo
 rw [Bool.or_eq_true,Bool.and_eq_true,fB h,fB h,beq_iff_eq]
 exact or_congr eq_comm Iff.rfl
theorem fC (h:GP plan) (a:Int):bo plan a a=true:=(ia h).2 (.inl rfl)
theorem gE (h:GP plan) {a b:Int} (k:bo plan a b=true):bo plan b a=true:=by
 rcases (ia h).1 k with rfl | ⟨k1,k2⟩
 ·exact fC h a
 exact (ia h).2 (.inr ⟨k2,k1⟩)
theorem k7 (h:GP plan) {a b c:Int} (k:bo plan a b=true) (l:bo plan b c=true):bo plan a c=true:=by
 rcases (ia h).1 k with rfl | ⟨k1,k2⟩
 ·exact l
 rcases (ia h).1 l with rfl | ⟨l1,l2⟩
 ·exact k
 exact (ia h).2 (.inr ⟨k1.trans l1,l2.trans k2⟩)
theorem oz (h:GP plan) {a b:Int} (k:bo plan a b=true) (c:Int):bo plan a c=bo plan b c:=by
 rw [Bool.eq_iff_iff];exact ⟨k7 h (gE h k),k7 h k⟩
theorem tx (h:GP plan) {a b:Int} (k:bo plan a b=true):rl plan a=rl plan b:=by
 rcases (ia h).1 k with rfl | ⟨k1,k2⟩
 ·rfl
 have h1:=(gI h a).2.2.2;have h2:=(gI h b).2.2.2
 exact ow h1.asc h2.asc fun n=>(h1.mem n).trans ((show Ze plan a n↔Ze plan b n from ⟨fun t=>k2.trans t,fun t=>k1.trans t⟩).trans (h2.mem n).symm)
def cz (plan:List Za) (a:Int):List Int:=(plan.filter fun q=>bo plan a q.ID).map (·.ID)
theorem dp {a n:Int}:n∈cz plan a↔hZ plan n∧bo plan a n=true:=by
 unfold cz hZ
 rw [List.mem_map]
 constructor
 ·rintro ⟨q,hq,rfl⟩;have:=List.mem_filter.1 hq;exact ⟨⟨q,this.1,rfl⟩,this.2⟩
 rintro ⟨⟨q,hq,rfl⟩,hb⟩;exact ⟨q,List.mem_filter.2 ⟨hq,hb⟩,rfl⟩
theorem rn (h:GP plan) {a b:Int} (k:bo plan a b=true):cz plan a=cz plan b:=by
 unfold cz;rw [List.filter_congr fun q _=>oz h k q.ID]
theorem qw (h:GP plan) (a:Int):(cz plan a).Pairwise (· < ·):=List.pairwise_map.2 (h.v.asc.sublist List.filter_sublist)
theorem qy (h:GP plan) (a:Int):(cz plan a).length≤64:=by
 unfold cz;rw [List.length_map];have:=List.length_filter_le (fun q:Za=>bo plan a q.ID) plan;have:=h.v.len;omega
def ld (plan:List Za) (a:Int):Int:=(cz plan a).headD 0
theorem i6 (h:GP plan) {a:Int} (ha:hZ plan a):∃ r,cz plan a=ld plan a::r∧hZ plan (ld plan a)∧bo plan a (ld plan a)=true∧∀ b,hZ plan b→bo plan a b=true→ld plan a≤b:=by
 have hm:a∈cz plan a:=dp.2 ⟨ha,fC h a⟩
 unfold ld
 cases hc:cz plan a with
 | nil=>rw [hc] at hm;cases hm
 | cons x r =>
  have hx:x∈cz plan a:=by rw [hc];simp
  obtain ⟨h1,h2⟩:=dp.1 hx
  refine ⟨r,rfl,h1,h2,fun b hb hbo=>?_⟩
  have hbm:b∈cz plan a:=dp.2 ⟨hb,hbo⟩
  have:=qw h a
  rw [hc] at hbm this
  rcases List.mem_cons.1 hbm with rfl | hbm
  ·exact Int.le_refl _
  have:=(List.pairwise_cons.1 this).1 b hbm;exact Int.le_of_lt this
theorem i7 (h:GP plan) {a b:Int} (k:bo plan a b=true):ld plan a=ld plan b:=by unfold ld;rw [rn h k]
def tz (plan:List Za) (done:List Int) (a:Int):Bool:=plan.all fun q=>bo plan a q.ID||(!(oJ plan a q.ID)||eJ done q.ID)
def i9 (plan:List Za) (done:List Int) (p:Za):Bool := !(eJ done p.ID)&&tz plan done p.ID
def oK (plan:List Za) (done:List Int):Option Za:=plan.find? (i9 plan done)
def stp (plan:List Za) (s:List (List Int)×List Int):List (List Int)×List Int:=match oK plan s.2 with
 | some p=>(s.1++[cz plan p.ID],s.2++cz plan p.ID)
 | none=>s
def c6 (plan:List Za):Nat→List (List Int)×List Int
 | 0=>([],[])
 | n+1=>stp plan (c6 plan n)
theorem ro (h:GP plan) {a b:Int} (k:bo plan a b=true) (done:List Int):tz plan done a=tz plan done b:=by
 unfold tz;congr 1;funext q;rw [oz h k q.ID];unfold oJ;rw [tx h k]
structure CI (plan:List Za) (s:List (List Int)×List Int):Prop where
 cl:∀ a b,a∈s.2→hZ plan b→bo plan a b=true→b∈s.2
 sub:∀ a∈s.2,hZ plan a
 nd:s.2.Nodup
 fl:s.2=s.1.flatten
 ord:∀ (i:Nat) (hi:i<s.1.length),∃ a,hZ plan a∧s.1[i]=cz plan a∧∀ x∈rl plan a,x∈(s.1.take (i+1)).flatten
theorem ja {done:List Int} {p:Za} (h:oK plan done=some p):p∈plan∧p.ID ∉ done∧tz plan done p.ID=true:=by
 have h1:=List.mem_of_find?_eq_some h
 have h2:=List.find?_some h
 unfold i9 at h2
 rw [Bool.and_eq_true,Bool.not_eq_true',cy] at h2
 exact ⟨h1,h2.1,h2.2⟩
theorem CI.stp (h:GP plan) {s:List (List Int)×List Int} (hc:CI plan s):CI plan (stp plan s):=by
 unfold SX.stp
 cases hn:oK plan s.2 with
 | none=>exact hc
 | some p =>
  obtain ⟨hp,hnd,hr⟩:=ja hn
  have hid:hZ plan p.ID:=⟨p,hp,rfl⟩
  refine ⟨fun a b ha hb k=>?_,fun a ha=>?_,?_,?_,fun i hi=>?_⟩
  ·rcases List.mem_append.1 ha with ha | ha
   ·exact List.mem_append.2 (.inl (hc.cl a b ha hb k))
   exact List.mem_append.2 (.inr (dp.2 ⟨hb,k7 h (dp.1 ha).2 k⟩))
  ·rcases List.mem_append.1 ha with ha | ha
   ·exact hc.sub a ha
   exact (dp.1 ha).1
  ·refine List.nodup_append.2 ⟨hc.nd,(qw h _).imp fun h e=>by omega,fun a ha b hb e=>?_⟩
   subst e
   exact hnd (hc.cl a p.ID ha hid (gE h (dp.1 hb).2))
  ·show s.2++_=(s.1++[_]).flatten
   rw [hc.fl,List.flatten_append];simp
  have hi:i<s.1.length+1:=by simpa using hi
  rcases Nat.lt_or_ge i s.1.length with h1 | h1
  ·obtain ⟨a,k1,k2,k3⟩:=hc.ord i h1
   refine ⟨a,k1,?_,fun x hx=>?_⟩
   ·show (s.1++[_])[i]=_
    rw [List.getElem_append_left h1];exact k2
   show x∈((s.1++[_]).take (i+1)).flatten
   rw [List.take_append_of_le_length (by omega)];exact k3 x hx
  have:i=s.1.length:=by omega
  subst this
  refine ⟨p.ID,hid,?_,fun x hx=>?_⟩
  ·show (s.1++[_])[s.1.length]=_
   simp
  show x∈((s.1++[cz plan p.ID]).take (s.1.length+1)).flatten
  rw [List.take_of_length_le (by simp),List.flatten_append,← hc.fl,List.mem_append]
  have hxt:Ze plan p.ID x:=((gI h _).2.2.2.mem x).1 hx
  obtain ⟨q,hq,rfl⟩:=tc_id h hxt
  unfold tz at hr
  have:=List.all_eq_true.1 hr q hq
  rw [Bool.or_eq_true,Bool.or_eq_true,Bool.not_eq_true'] at this
  rcases this with k | k | k
  ·right;simp only [List.flatten_cons,List.flatten_nil,List.append_nil];exact dp.2 ⟨⟨q,hq,rfl⟩,k⟩
  ·rw [(fB h).2 hxt] at k;cases k
  left;exact dm.1 k
theorem CI.itr (h:GP plan):∀ n,CI plan (c6 plan n)
 | 0=>⟨fun _ _ h=>(by cases h),fun _ h=>(by cases h),List.nodup_nil,rfl,fun i hi=>absurd hi (Nat.not_lt_zero _)⟩
 | n+1=>(CI.itr h n).stp h
theorem jr {α:Type} {f g:α→Bool}:∀ {l:List α},(∀ x∈l,f x=true→g x=true)→(∃ x∈l,g x=true∧f x=false)→(l.filter f).length<(l.filter g).length
 | [],_,⟨_,h,_⟩=>by cases h
 | x::l,h1,⟨y,hy,h2,h3⟩=>by
  have hle:∀ l:List α,(∀ x∈l,f x=true→g x=true)→(l.filter f).length≤(l.filter g).length:=fun l=>by
   induction l with
   | nil=>intro _;exact Nat.le_refl _
   | cons z l ih =>
    intro h
    have:=ih fun x hx=>h x (by simp [hx])
    rw [List.filter_cons,List.filter_cons]
    cases hf:f z with
    | true=>rw [h z (by simp) hf];simp;omega
    | false=>cases g z <;> simp <;> omega
  rw [List.filter_cons,List.filter_cons]
  rcases List.mem_cons.1 hy with rfl | hy
  ·rw [h2,h3];have:=hle l fun x hx=>h1 x (by simp [hx]);simp;omega
  have ih:=jr (fun x hx=>h1 x (by simp [hx])) ⟨y,hy,h2,h3⟩
  cases hf:f x with
  | true=>rw [h1 x (by simp) hf];simp;omega
  | false=>cases g x <;> simp <;> omega
theorem oA (h:GP plan) {done:List Int}:∀ n,∀ p∈plan,p.ID ∉ done→(plan.filter fun x=>(x.ID == p.ID)||oJ plan p.ID x.ID).length≤n→∃ q∈plan,i9 plan done q=true
 | 0,p,hp,_,hl=>by
  have:p∈plan.filter fun x=>(x.ID == p.ID)||oJ plan p.ID x.ID:=List.mem_filter.2 ⟨hp,by simp⟩
  have:=List.length_pos_of_mem this;omega
 | n+1,p,hp,hd,hl=>by
  cases hr:tz plan done p.ID with
  | true=>exact ⟨p,hp,by unfold i9;rw [hr,cy.2 hd];rfl⟩
  | false =>
   unfold tz at hr
   obtain ⟨q,hq,hb⟩:=List.all_eq_false.1 hr
   rw [Bool.not_eq_true,Bool.or_eq_false_iff,Bool.or_eq_false_iff,Bool.not_eq_false',cy] at hb
   obtain ⟨h1,h2,h3⟩:=hb
   have hpq:Ze plan p.ID q.ID:=(fB h).1 h2
   refine oA h n q hq h3 ?_
   have:=jr (l:=plan) (f:=fun x=>(x.ID == q.ID)||oJ plan q.ID x.ID) (g:=fun x=>(x.ID == p.ID)||oJ plan p.ID x.ID) (fun x _ hx=>?_) ⟨p,hp,by simp,?_⟩
   ·omega
   ·rw [Bool.or_eq_true] at hx ⊢
    right
    rcases hx with hx | hx
    ·have:x.ID=q.ID:=by simpa using hx
     rw [this];exact h2
    exact (fB h).2 (hpq.trans ((fB h).1 hx))
   rw [Bool.or_eq_false_iff]
   constructor
   ·cases hx:(p.ID == q.ID) with
    | false=>rfl
    | true =>
     have:p.ID=q.ID:=by simpa using hx
     rw [this,fC h] at h1;cases h1
   cases hx:oJ plan q.ID p.ID with
   | false=>rfl
   | true=>rw [(ia h).2 (.inr ⟨hpq,(fB h).1 hx⟩)] at h1;cases h1
def Dn (plan:List Za) (s:List (List Int)×List Int):Prop:=∀ p∈plan,p.ID∈s.2
theorem tA {done:List Int} (hd:∀ p∈plan,p.ID∈done):oK plan done=none:=by
 unfold oK;rw [List.find?_eq_none]
 intro p hp;unfold i9;rw [dm.2 (hd p hp)];simp
theorem tB (h:GP plan) {done:List Int} (hd:¬ ∀ p∈plan,p.ID∈done):∃ p,oK plan done=some p:=by
 rcases Classical.not_forall.1 hd with ⟨p,hp⟩
 rcases Classical.not_imp.1 hp with ⟨hp,hn⟩
 obtain ⟨q,hq,hb⟩:=oA h _ p hp hn (Nat.le_refl _)
 have:(oK plan done).isSome=true:=by unfold oK;rw [List.find?_isSome];exact ⟨q,hq,hb⟩
 exact Option.isSome_iff_exists.1 this
theorem js {n:Nat} (hd:Dn plan (c6 plan n)):∀ k,c6 plan (n+k)=c6 plan n
 | 0=>rfl
 | k+1=>by
  show stp plan (c6 plan (n+k))=_
  rw [js hd k];unfold stp;rw [tA hd]
theorem rp {n m:Nat} (h1:Dn plan (c6 plan n)) (h2:Dn plan (c6 plan m)):c6 plan n=c6 plan m:=by
 rcases Nat.le_total n m with h | h
 ·obtain ⟨k,rfl⟩:=Nat.le.dest h;exact (js h1 k).symm
 obtain ⟨k,rfl⟩:=Nat.le.dest h;exact js h2 k
theorem CI.len (h:GP plan) {s:List (List Int)×List Int} (hc:CI plan s):s.2.length≤plan.length:=by
 have:=hY s.2 (plan.map (·.ID)) hc.nd fun n hn=>by obtain ⟨q,hq,e⟩:=hc.sub n hn;exact List.mem_map.2 ⟨q,hq,e⟩
 rwa [List.length_map] at this
theorem rq (h:GP plan):(plan.map (·.ID)).Nodup:=List.pairwise_map.2 (h.v.asc.imp fun h e=>by omega)
theorem CI.full (h:GP plan) {s:List (List Int)×List Int} (hc:CI plan s) (hl:plan.length≤s.2.length):Dn plan s:=fun p hp=>by
 by_cases hn:p.ID∈s.2
 ·exact hn
 have:=hY (p.ID::s.2) (plan.map (·.ID)) (List.nodup_cons.2 ⟨hn,hc.nd⟩) fun n hn=>by
  rcases List.mem_cons.1 hn with rfl | hn
  ·exact List.mem_map.2 ⟨p,hp,rfl⟩
  obtain ⟨q,hq,e⟩:=hc.sub n hn;exact List.mem_map.2 ⟨q,hq,e⟩
 rw [List.length_map,List.length_cons] at this;omega
theorem Dn.len (h:GP plan) {s:List (List Int)×List Int} (hd:Dn plan s):plan.length≤s.2.length:=by
 have:=hY (plan.map (·.ID)) s.2 (rq h) fun n hn=>by obtain ⟨q,hq,e⟩:=List.mem_map.1 hn;subst e;exact hd q hq
 rwa [List.length_map] at this
theorem tC (h:GP plan) {s:List (List Int)×List Int} (hc:CI plan s) {p:Za} (hn:oK plan s.2=some p):ld plan p.ID=p.ID:=by
 obtain ⟨hp,hd,hr⟩:=ja hn
 obtain ⟨r,h1,h2,h3,h4⟩:=i6 h ⟨p,hp,rfl⟩
 obtain ⟨q,hq,e⟩:=h2
 have hle:=h4 p.ID ⟨p,hp,rfl⟩ (fC h _)
 unfold oK at hn
 obtain ⟨_,i,hi,rfl,hfirst⟩:=List.find?_eq_some_iff_getElem.1 hn
 obtain ⟨j,hj,rfl⟩:=List.getElem_of_mem hq
 have hb:i9 plan s.2 plan[j]=true:=by
  unfold i9
  rw [cy.2 (fun hm=>hd (hc.cl _ _ hm ⟨_,List.getElem_mem hi,rfl⟩ (by rw [e];exact gE h h3))),ro h (show bo plan plan[j].ID plan[i].ID=true by rw [e];exact gE h h3),hr];rfl
 rcases Nat.lt_trichotomy j i with k | k | k
 ·have:=hfirst j k;rw [hb] at this;cases this
 ·subst k;exact e.symm
 have:=List.pairwise_iff_getElem.1 h.v.asc i j hi hj k;omega
end
section
variable {plan:List Za}
theorem gF {V:Type} (g:Za→V):∀ (l:List Za) (acc:List (Int×V)),(∀ p∈l,∀ q∈acc,q.1≠p.ID)→(l.Pairwise fun a b=>a.ID<b.ID)→l.foldl (fun acc p=>dR acc p.ID (g p)) acc=acc++l.map fun p=>(p.ID,g p)
 | [],acc,_,_=>by simp
 | p::l,acc,h,hp=>by
  have h2:=List.pairwise_cons.1 hp
  rw [List.foldl_cons,jo (h p (by simp)),gF g l _ (fun q hq r hr=>?_) h2.2]
  ·simp
  rcases List.mem_append.1 hr with hr | hr
  ·exact h q (by simp [hq]) r hr
  rw [List.mem_singleton.1 hr];have:=h2.1 q hq;dsimp only;omega
theorem jb {V:Type} (g:Za→V) (a:Int):∀ l:List Za,(l.Pairwise fun a b=>a.ID<b.ID)→∀ p∈l,p.ID=a→bd (l.map fun p=>(p.ID,g p)) a=some (g p)
 | q::l,h,p,hp,e=>by
  have h2:=List.pairwise_cons.1 h
  rw [List.map_cons];unfold bd
  rcases List.mem_cons.1 hp with rfl | hp
  ·rw [if_pos e]
  rw [if_neg (by have:=h2.1 p hp;omega)];exact jb g a l h2.2 p hp e
theorem lu {V:Type} (g:Za→V) (a:Int) (l:List Za) (h:∀ p∈l,p.ID≠a):bd (l.map fun p=>(p.ID,g p)) a=none :=
 lI fun q hq=>by obtain ⟨p,hp,rfl⟩:=List.mem_map.1 hq;exact h p hp
def k8 (plan:List Za):List (Int×List Int):=plan.map fun p=>(p.ID,rl plan p.ID)
def dP (plan:List Za):List (Int×Int):=plan.map fun p=>(p.ID,ld plan p.ID)
def lh (plan:List Za) (p:Za):Bool:=ld plan p.ID == p.ID
def k9 (plan:List Za) (done:List Int):List Za:=plan.filter fun p=>lh plan p && !(eJ done p.ID)
def cP (plan:List Za) (done:List Int):List (Int×List Int):=(k9 plan done).map fun p=>(p.ID,cz plan p.ID)
theorem iB (h:GP plan) {a:Int} (ha:hZ plan a):(bd (k8 plan) a).getD []=rl plan a:=by
 obtain ⟨p,hp,rfl⟩:=ha
 unfold k8;rw [jb (fun p=>rl plan p.ID) _ plan h.v.asc p hp rfl];rfl
theorem lS (h:GP plan) {a:Int} (ha:hZ plan a):(bd (dP plan) a).getD 0=ld plan a:=by
 obtain ⟨p,hp,rfl⟩:=ha
 unfold dP;rw [jb (fun p=>ld plan p.ID) _ plan h.v.asc p hp rfl];rfl
theorem lT (h:GP plan) (done:List Int):(k9 plan done).Pairwise fun a b=>a.ID<b.ID:=h.v.asc.sublist List.filter_sublist
theorem ii (h:GP plan) (done:List Int) {p:Za} (hp:p∈plan):bd (cP plan done) p.ID=cond (lh plan p && !(eJ done p.ID)) (some (cz plan p.ID)) none:=by
 cases hc:lh plan p && !(eJ done p.ID) with
 | true=>unfold cP;rw [jb (fun p=>cz plan p.ID) _ _ (lT h done) p (List.mem_filter.2 ⟨hp,hc⟩) rfl];rfl
 | false =>
  unfold cP
  rw [lu (fun p=>cz plan p.ID) _ _ fun q hq e=>?_];rfl
  have:=List.mem_filter.1 hq
  have e2:q=p:=mR h.v.asc this.1 hp e
  subst e2;rw [hc] at this;cases this.2
theorem oB {V:Type} (g:Za→V) (a:Int):∀ l:List Za,(l.Pairwise fun a b=>a.ID<b.ID)→jQ (l.map fun p=>(p.ID,g p)) a=(l.filter fun p => !(p.ID == a)).map fun p=>(p.ID,g p)
 | [],_=>rfl
 | q::l,h=>by
  have h2:=List.pairwise_cons.1 h
  rw [List.map_cons];unfold jQ
  by_cases e:q.ID=a
  ·rw [if_pos e,List.filter_cons,if_neg (by simp [e])]
   congr 1
   symm
   rw [List.filter_eq_self]
   intro p hp;have:=h2.1 p hp
   simp;omega
  rw [if_neg e,List.filter_cons,if_pos (by simp [e]),List.map_cons,oB g a l h2.2]
theorem rt (h:GP plan) (done:List Int) {p:Za} (hp:p∈plan) (hl:ld plan p.ID=p.ID):jQ (cP plan done) p.ID=cP plan (done++cz plan p.ID):=by
 unfold cP
 rw [oB (fun p=>cz plan p.ID) _ _ (lT h done)]
 congr 1
 unfold k9
 rw [List.filter_filter]
 refine List.filter_congr fun q hq=>?_
 cases hql:lh plan q with
 | false=>simp
 | true =>
  have hql:ld plan q.ID=q.ID:=by unfold lh at hql;simpa using hql
  have:eJ (done++cz plan p.ID) q.ID=(eJ done q.ID||(q.ID == p.ID)):=by
   rw [Bool.eq_iff_iff,dm,Bool.or_eq_true,dm,List.mem_append,beq_iff_eq,dp]
   refine or_congr Iff.rfl ⟨fun ⟨_,hb⟩=>?_,fun e=>?_⟩
   ·have:=i7 h hb;rw [hl,hql] at this;exact this.symm
   rw [e];exact ⟨⟨p,hp,rfl⟩,fC h _⟩
  rw [this];cases (q.ID == p.ID) <;> cases eJ done q.ID <;> rfl
theorem ru (h:GP plan) {a:Int} (ha:hZ plan a):bB plan (k8 plan) a=some (cz plan a):=by
 have hlen:=h.v.len
 unfold bB
 refine ((e9 (l:=plan) (by omega) (k:=fun l9=>some l9) (fun i (s:List Int)=>(s,i)) (fun acc q=>cond (bo plan a q.ID) (acc++[q.ID]) acc) (fun s=>s) (fun k s=>s.length≤k) [] (by simp) (fun k hk s hs=>?_) (fun s _=>by dsimp only;rw [gM,eW])).1).trans ?_
 ·dsimp only
  have hid:hZ plan plan[k].ID:=⟨_,List.getElem_mem hk,rfl⟩
  have h1:=(gI h a).2.2.1;have h2:=(gI h plan[k].ID).2.2.1
  rw [mT hk,dd,bm hk,cQ,iB h ha,iB h hid,lR _ _ (by omega),lR _ _ (by omega),dy hk (by omega)]
  have hb:bo plan a plan[k].ID=((plan[k].ID == a)||(((rl plan a).any fun x=>x == plan[k].ID)&&((rl plan plan[k].ID).any fun x=>x == a))):=rfl
  have fin:∀ c:Bool,Option.bind (cond c (Option.bind (app 8 s [plan[k].ID]) (fun l26=>some l26)) (some s)) (fun l17=>some (Sum.inl (l17,((k+1:Nat):Int)):(List Int×Int)⊕List Int))=some (.inl (cond c (s++[plan[k].ID]) s,((k+1:Nat):Int)))∧(cond c (s++[plan[k].ID]) s).length≤k+1:=fun c=>by
   cases c with
   | false=>exact ⟨rfl,by simp only [eW];omega⟩
   | true=>simp only [dd];rw [eF (by simp;omega) (by simp;omega)];exact ⟨rfl,by simp;omega⟩
  rw [hb]
  cases hx:(plan[k].ID == a) with
  | true=>simp only [Bool.not_true,iX,cQ,Bool.false_and,Bool.true_or];exact fin true
  | false =>
   simp only [Bool.not_false,gH,cQ,Bool.true_and,Bool.false_or]
   cases hy:((rl plan a).any fun x=>x == plan[k].ID) with
   | true=>simp only [gH,cQ,Bool.true_and];exact fin _
   | false=>simp only [iX,cQ,Bool.false_and];exact fin false
 congr 1
 have:∀ (l:List Za) (acc:List Int),l.foldl (fun acc q=>cond (bo plan a q.ID) (acc++[q.ID]) acc) acc=acc++(l.filter fun q=>bo plan a q.ID).map (·.ID):=fun l=>by
  induction l with
  | nil=>intro acc;simp
  | cons q l ih=>intro acc;rw [List.foldl_cons,ih,List.filter_cons];cases bo plan a q.ID <;> simp
 rw [this];simp [cz]
def tD (plan:List Za) (done:List Int) (p:Za):Bool:=(rl plan p.ID).any fun x=>(bd (cP plan done) ((bd (dP plan) x).getD 0)).isSome&&(((bd (dP plan) x).getD 0) != p.ID)
theorem tE (h:GP plan) (done:List Int) (p:Za):bc (rl plan p.ID) (cP plan done) (dP plan) p=some (tD plan done p):=by
 have hl:=(gI h p.ID).2.2.1
 unfold bc
 have e:bi (rl plan p.ID) (cP plan done) (dP plan) p=some (match dS (fun k (x:Int)=>cond ((bd (cP plan done) ((bd (dP plan) x).getD 0)).isSome&&(((bd (dP plan) x).getD 0) != p.ID)) (some (Sum.inr (k:Int):Unit⊕Int)) none) (rl plan p.ID) 0 with | some (.inr k)=>k | _ => -1):=by
  unfold bi
  refine (eb (l:=rl plan p.ID) (by omega) (fun k (x:Int)=>cond ((bd (cP plan done) ((bd (dP plan) x).getD 0)).isSome&&(((bd (dP plan) x).getD 0) != p.ID)) (some (.inr (k:Int))) none) (.inl ()) (fun k hk=>?_) (by rw [gM,eW])).trans ?_
  ·rw [mT hk,dd,bm hk,cQ,dy hk (by omega)]
   unfold bC
   rw [cQ]
   cases ((bd (cP plan done) ((bd (dP plan) (rl plan p.ID)[k]).getD 0)).isSome&&(((bd (dP plan) (rl plan p.ID)[k]).getD 0) != p.ID)) <;> rfl
  cases dS (fun k (x:Int)=>cond ((bd (cP plan done) ((bd (dP plan) x).getD 0)).isSome&&(((bd (dP plan) x).getD 0) != p.ID)) (some (Sum.inr (k:Int):Unit⊕Int)) none) (rl plan p.ID) 0 with
  | none=>rfl
  | some t=>cases t <;> rfl
 rw [e,cQ]
 unfold tD
 rcases kW (fun x:Int=>(bd (cP plan done) ((bd (dP plan) x).getD 0)).isSome&&(((bd (dP plan) x).getD 0) != p.ID)) (fun k=>(Sum.inr (k:Int):Unit⊕Int)) (rl plan p.ID) 0 with ⟨h1,h2⟩ | ⟨j,hj,h1,h2⟩
 ·rw [h1,oy h2];rfl
 rw [h1,lQ h2]
 show some (decide (0≤((0+j:Nat):Int)))=_
 rw [det (by omega)]
def oC (plan:List Za) (done:List Int) (p:Za):Bool:=(bd (cP plan done) p.ID).isSome && !(tD plan done p)
theorem rx (h:GP plan) (done:List Int):bu plan (k8 plan) (dP plan) (cP plan done)=some (match plan.find? (oC plan done) with | some p=>(p.ID,true) | none=>(0,false)):=by
 have hlen:=h.v.len
 unfold bu
 refine (eb (l:=plan) (by omega) (fun k (p:Za)=>cond (oC plan done p) (some (.inr (p.ID,true))) none) (.inl ()) (fun k hk=>?_) (by rw [gM,eW])).trans ?_
 ·have hid:hZ plan plan[k].ID:=⟨_,List.getElem_mem hk,rfl⟩
  rw [mT hk,dd,bm hk,cQ,iB h hid,tE h,dy hk (by omega)]
  unfold oC
  cases (bd (cP plan done) plan[k].ID).isSome with
  | false=>rfl
  | true =>
   simp only [Bool.not_true,eW,cQ,Bool.true_and]
   cases tD plan done plan[k] <;> rfl
 rw [iy (oC plan done) (fun p=>(Sum.inr (p.ID,true):Unit⊕(Int×Bool))) plan 0]
 cases plan.find? (oC plan done) <;> rfl
theorem lc (h:GP plan) {s:List (List Int)×List Int} (hc:CI plan s) {p:Za} (hp:p∈plan):oC plan s.2 p=(lh plan p&&i9 plan s.2 p):=by
 unfold oC i9
 rw [ii h s.2 hp]
 cases hl:lh plan p with
 | false=>rfl
 | true =>
  have hld:ld plan p.ID=p.ID:=by unfold lh at hl;simpa using hl
  cases hd:eJ s.2 p.ID with
  | true=>rfl
  | false =>
   simp only [Bool.not_false,Bool.and_self,dd,Option.isSome_some,Bool.true_and]
   rw [Bool.eq_iff_iff,Bool.not_eq_true',← Bool.not_eq_true]
   unfold tD tz
   rw [List.any_eq_true,List.all_eq_true]
   constructor
   ·intro hn q hq
    cases hb:bo plan p.ID q.ID with
    | true=>rfl
    | false =>
     cases hr:oJ plan p.ID q.ID with
     | false=>rfl
     | true =>
      rw [Bool.false_or,Bool.not_true,Bool.false_or]
      cases hm:eJ s.2 q.ID with
      | true=>rfl
      | false =>
       refine absurd ⟨q.ID,dm.1 hr,?_⟩ hn
       rw [lS h ⟨q,hq,rfl⟩]
       obtain ⟨r,_,⟨w,hw,e⟩,k3,_⟩:=i6 h ⟨q,hq,rfl⟩
       rw [← e,ii h s.2 hw]
       have hwl:lh plan w=true:=by unfold lh;rw [e,← i7 h k3,beq_self_eq_true]
       have hwd:eJ s.2 w.ID=false:=cy.2 fun hm2=>cy.1 hm (hc.cl _ _ hm2 ⟨q,hq,rfl⟩ (by rw [e];exact gE h k3))
       rw [hwl,hwd]
       simp only [Bool.not_false,Bool.and_self,dd,Option.isSome_some,Bool.true_and,bne_iff_ne,ne_eq]
       intro e2
       rw [← e2,e,gE h k3] at hb
       cases hb
   rintro hall ⟨x,hx,hk⟩
   have hxt:Ze plan p.ID x:=((gI h _).2.2.2.mem x).1 hx
   obtain ⟨q,hq,rfl⟩:=tc_id h hxt
   have:=hall q hq
   rw [lS h ⟨q,hq,rfl⟩,Bool.and_eq_true] at hk
   obtain ⟨r,_,⟨w,hw,e⟩,k3,_⟩:=i6 h ⟨q,hq,rfl⟩
   rw [Bool.or_eq_true,Bool.or_eq_true,Bool.not_eq_true'] at this
   rcases this with k | k | k
   ·have:=i7 h k
    rw [hld] at this
    rw [← this] at hk;simp at hk
   ·rw [(fB h).2 hxt] at k;cases k
   rw [← e,ii h s.2 hw,dm.2 (hc.cl _ _ (dm.1 k) ⟨w,hw,rfl⟩ (by rw [e];exact k3))] at hk
   simp at hk
theorem ry (h:GP plan) {s:List (List Int)×List Int} (hc:CI plan s):plan.find? (oC plan s.2)=oK plan s.2:=by
 cases hn:oK plan s.2 with
 | none =>
  rw [List.find?_eq_none]
  intro p hp
  have:=List.find?_eq_none.1 hn p hp
  rw [lc h hc hp];simp at this ⊢;intro _;exact this
 | some p =>
  have hl:=tC h hc hn
  unfold oK at hn
  obtain ⟨hb,i,hi,rfl,hfirst⟩:=List.find?_eq_some_iff_getElem.1 hn
  rw [List.find?_eq_some_iff_getElem]
  refine ⟨?_,i,hi,rfl,fun j hj=>?_⟩
  ·rw [lc h hc (List.getElem_mem hi),hb];unfold lh;rw [hl];simp
  have:=hfirst j hj
  rw [lc h hc (List.getElem_mem _)]
  simp at this ⊢;exact .inr this
end
theorem Y.fold {S T α A β:Type} {l:List α} (hl:l.length≤4611686018427387904) {body:S→Option (S⊕T)} {k:T→Option β} {Q:β→Prop} (pack:Int→A→S) (f:A→α→A) (fin:A→T) (P:Nat→A→Prop) (a:A) (h0:P 0 a)
    (hstep:∀ (k:Nat) (hk:k<l.length) (a:A),P k a→body (pack (k:Int) a)=some (.inl (pack ((k+1:Nat):Int) (f a l[k])))∧P (k+1) (f a l[k]))
    (hend:∀ a,P l.length a→body (pack (l.length:Int) a)=some (.inr (fin a))) (hk:P l.length (l.foldl f a)→Y (k (fin (l.foldl f a))) Q):Y (Option.bind (aY body FUEL (pack 0 a)) k) Q:=by
  have:=e9 (k:=k) hl pack f fin P a h0 hstep hend
  rw [this.1];exact hk this.2
theorem lU {A B α:Type} (f:A→α→A) (g:B→α→B):∀ (l:List α) (a:A) (b:B),l.foldl (fun s x=>(f s.1 x,g s.2 x)) (a,b)=(l.foldl f a,l.foldl g b)
 | [],_,_=>rfl
 | x::l,a,b=>by rw [List.foldl_cons,lU f g l];rfl
theorem jM {A α:Type} (c:α→Bool) (f:A→α→A):∀ (l:List α) (a:A),l.foldl (fun s x=>cond (c x) (f s x) s) a=(l.filter c).foldl f a
 | [],_=>rfl
 | x::l,a=>by rw [List.foldl_cons,jM c f l,List.filter_cons];cases c x <;> rfl
theorem oD:∀ l:List (List Int),(∀ x∈l,x≠[])→l.length≤l.flatten.length
 | [],_=>Nat.le_refl _
 | x::l,h=>by
  have:=oD l fun y hy=>h y (by simp [hy])
  have h2:0<x.length:=List.length_pos_iff.2 (h x (by simp))
  rw [List.flatten_cons,List.length_append,List.length_cons];omega
section
variable {plan:List Za}
theorem CI.out (h:GP plan) {s:List (List Int)×List Int} (hc:CI plan s):s.1.length≤64∧s.2.length≤64:=by
 have h1:=hc.len h;have h2:=h.v.len
 have:=oD s.1 fun x hx e=>by
  obtain ⟨i,hi,rfl⟩:=List.getElem_of_mem hx
  obtain ⟨a,ha,k,_⟩:=hc.ord i hi
  have:a∈cz plan a:=dp.2 ⟨ha,fC h a⟩
  rw [← k,e] at this;cases this
 rw [← hc.fl] at this
 omega
theorem oE {s:List (List Int)×List Int} {p:Za} (hn:oK plan s.2=some p):stp plan s=(s.1++[cz plan p.ID],s.2++cz plan p.ID):=by
 unfold stp;rw [hn]
theorem jT (h:GP plan):Y (bh plan) (fun r=>∃ n,r=(c6 plan n).1∧Dn plan (c6 plan n)):=by
 have hlen:=h.v.len
 unfold bh
 rw [oM (show ¬ (64:Int)<(plan.length:Int) by omega),eW]
 refine Y.fold (S:=Int×(List (Int×(List Int)))) (l:=plan) (by omega) (fun i s=>(i,s)) (fun acc p=>dR acc p.ID (rl plan p.ID)) (fun s=>s) (fun _ _=>True) ([]:List (Int×List Int)) trivial (fun k hk s _=>⟨?_,trivial⟩) (fun s _=>by dsimp only;rw [gM,eW]) fun _=>?_
 ·dsimp only
  rw [mT hk,dd,bm hk,cQ,(gI h _).1,cQ,dy hk (by omega)]
 have e1:plan.foldl (fun acc p=>dR acc p.ID (rl plan p.ID)) []=k8 plan:=gF (fun p=>rl plan p.ID) plan [] (by simp) h.v.asc
 rw [e1]
 refine Y.fold (S:=Int×(List (Int×Int))×(List (Int×(List Int)))) (l:=plan) (by omega) (fun i s=>(i,s.1,s.2)) (fun s p=>(dR s.1 p.ID (ld plan p.ID),cond (lh plan p) (dR s.2 p.ID (cz plan p.ID)) s.2)) (fun s=>s) (fun _ _=>True) (([]:List (Int×Int)),([]:List (Int×List Int))) trivial (fun k hk s _=>⟨?_,trivial⟩) (fun s _=>?_) fun _=>?_
 ·dsimp only
  have hid:hZ plan plan[k].ID:=⟨_,List.getElem_mem hk,rfl⟩
  obtain ⟨r,e,_⟩:=i6 h hid
  have e0:idx (cz plan plan[k].ID) 0=some (ld plan plan[k].ID):=by rw [e];exact bm (k:=0) (by simp)
  rw [mT hk,dd,bm hk,cQ,ru h hid,cQ,e0,cQ,cQ,dy hk (by omega)]
  show Option.bind (cond (lh plan plan[k]) _ _) _=_
  cases lh plan plan[k] <;> rfl
 ·dsimp only;rw [gM,eW]
 have e2:plan.foldl (fun s p=>(dR s.1 p.ID (ld plan p.ID),cond (lh plan p) (dR s.2 p.ID (cz plan p.ID)) s.2)) (([]:List (Int×Int)),([]:List (Int×List Int)))=(dP plan,cP plan []):=by
  rw [lU (fun acc p=>dR acc p.ID (ld plan p.ID)) (fun acc p=>cond (lh plan p) (dR acc p.ID (cz plan p.ID)) acc),gF (fun p=>ld plan p.ID) plan [] (by simp) h.v.asc,jM,gF (fun p=>cz plan p.ID) _ [] (by simp) (h.v.asc.sublist List.filter_sublist)]
  have:k9 plan []=plan.filter (lh plan):=List.filter_congr fun p _=>by rw [show eJ [] p.ID=false from rfl];simp
  unfold cP dP;rw [this];rfl
 rw [e2]
 refine Y.bind (P:=fun r=>∃ n,r=(c6 plan n).1∧Dn plan (c6 plan n)) (Y.loop (fun s:List (List Int)×List (Int×List Int)=>∃ n,s=((c6 plan n).1,cP plan (c6 plan n).2)) (fun s=>s.2.length) ⟨0,rfl⟩ (by show (cP plan []).length≤_;unfold cP k9;rw [List.length_map];have:=List.length_filter_le (fun p=>lh plan p && !(eJ [] p.ID)) plan;omega) fun s hs=>?_) fun r hr=>Y.ret hr
 obtain ⟨n,rfl⟩:=hs
 have hc:=CI.itr h n
 dsimp only
 refine Y.cond (fun _=>?_) fun hz=>?_
 ·rw [rx h,cQ,ry h hc]
  cases hn:oK plan (c6 plan n).2 with
  | none =>
   refine Y.ret ⟨n,rfl,?_⟩
   by_cases hd:Dn plan (c6 plan n)
   ·exact hd
   ·obtain ⟨p,hp⟩:=tB h hd;rw [hn] at hp;cases hp
  | some p =>
   obtain ⟨hp,hnd,_⟩:=ja hn
   have hl:=tC h hc hn
   have hil:lh plan p=true:=by unfold lh;rw [hl];simp
   have ho:=hc.out h
   dsimp only
   rw [Bool.not_true,eW,ii h _ hp,hil,cy.2 hnd]
   simp only [Bool.not_false,Bool.and_self,dd,Option.getD_some]
   rw [eF (by simp;omega) (by simp;omega),cQ,rt h _ hp hl]
   refine Y.ret ⟨⟨n+1,?_⟩,?_⟩
   ·show _=((stp plan (c6 plan n)).1,cP plan (stp plan (c6 plan n)).2)
    rw [oE hn]
   dsimp only
   unfold cP k9
   rw [List.length_map,List.length_map]
   refine jr (fun q _ hq=>?_) ⟨p,hp,by rw [hil,cy.2 hnd];rfl,?_⟩
   ·rw [Bool.and_eq_true,Bool.not_eq_true',cy] at hq ⊢
    exact ⟨hq.1,fun hm=>hq.2 (List.mem_append.2 (.inl hm))⟩
   rw [dm.2 (List.mem_append.2 (.inr (dp.2 ⟨⟨p,hp,rfl⟩,fC h _⟩)))];simp
 refine Y.ret ⟨n,rfl,fun p hp=>?_⟩
 have hz:=of_decide_eq_false hz
 by_cases hm:p.ID∈(c6 plan n).2
 ·exact hm
 obtain ⟨r,_,⟨w,hw,e⟩,k3,_⟩:=i6 h ⟨p,hp,rfl⟩
 have hwl:lh plan w=true:=by unfold lh;rw [e,← i7 h k3,beq_self_eq_true]
 have hwd:eJ (c6 plan n).2 w.ID=false:=cy.2 fun hm2=>hm (hc.cl _ _ hm2 ⟨p,hp,rfl⟩ (by rw [e];exact gE h k3))
 have:w∈k9 plan (c6 plan n).2:=List.mem_filter.2 ⟨hw,by rw [hwl,hwd];rfl⟩
 have:=List.length_pos_of_mem this
 unfold cP at hz;rw [List.length_map] at hz;omega
def rfF (plan:List Za) (done:List Int) (a:Int) (s:List Int×Bool) (q:Za):List Int×Bool:=cond (bo plan a q.ID) (s.1++[q.ID],s.2) (cond (oJ plan a q.ID && !(eJ done q.ID)) (s.1,false) (s.1,s.2))
theorem oF (done:List Int) (a:Int):∀ (l:List Za) (s:List Int×Bool),l.foldl (rfF plan done a) s=(s.1++(l.filter fun q=>bo plan a q.ID).map (·.ID),s.2&&l.all fun q=>bo plan a q.ID||(!(oJ plan a q.ID)||eJ done q.ID))
 | [],s=>by simp
 | q::l,s=>by
  rw [List.foldl_cons,oF done a l,List.filter_cons,List.all_cons]
  unfold rfF
  cases bo plan a q.ID <;> cases oJ plan a q.ID <;> cases eJ done q.ID <;> simp
theorem lf (h:GP plan):Y (bU plan) (fun r=>∃ n,r=(c6 plan n).1∧Dn plan (c6 plan n)):=by
 have hlen:=h.v.len
 unfold bU
 refine Y.bind (P:=fun r=>∃ n,r=(c6 plan n).1∧Dn plan (c6 plan n)) (Y.loop (fun s:List (List Int)×List Int=>∃ n,s=c6 plan n) (fun s=>plan.length - s.2.length) ⟨0,rfl⟩ (by dsimp only;omega) fun s hs=>?_) fun r hr=>Y.ret hr
 obtain ⟨n,rfl⟩:=hs
 have hc:=CI.itr h n
 have ho:=hc.out h
 generalize hs:c6 plan n=s at *
 obtain ⟨out,done⟩:=s
 dsimp only at ho ⊢
 refine Y.cond (fun hlt=>?_) fun hge=>?_
 rotate_left
 ·have hge:=of_decide_eq_false hge
  exact Y.ret ⟨n,by rw [hs],by rw [hs];exact hc.full h (by dsimp only;omega)⟩
 have hlt:=of_decide_eq_true hlt
 have key:∀ {k:(List (List Int))×(List Int)→Option (((List (List Int))×(List Int))⊕(List (List Int)))} {body:Int→Option (Int⊕((List (List Int))×(List Int)))} (hb:∀ (k:Nat) (hk:k<plan.length),body (k:Int)=some (outg k (cond (i9 plan done plan[k]) (some (out++[cz plan plan[k].ID],done++cz plan plan[k].ID)) none))) (he:body (plan.length:Int)=some (.inr (out,done))),Option.bind (aY body FUEL 0) k=k (stp plan (out,done)):=fun {k body} hb he=>by
  refine (eb (l:=plan) (by omega) (fun _ p=>cond (i9 plan done p) (some (out++[cz plan p.ID],done++cz plan p.ID)) none) (out,done) hb he).trans ?_
  rw [iy (i9 plan done) (fun p=>(out++[cz plan p.ID],done++cz plan p.ID)) plan 0]
  unfold stp oK
  cases plan.find? (i9 plan done) <;> rfl
 rw [key (fun k hk=>?_) (by rw [gM,eW])]
 ·obtain ⟨p,hp⟩:=tB (done:=done) h fun hd=>by have:=Dn.len (s:=(out,done)) h hd;dsimp only at this;omega
  have e:stp plan (out,done)=_:=oE (s:=(out,done)) hp
  refine Y.ret ⟨⟨n+1,?_⟩,?_⟩
  ·show _=stp plan (c6 plan n);rw [hs]
  rw [e];dsimp only
  obtain ⟨hpm,_,_⟩:=ja hp
  have:p.ID∈cz plan p.ID:=dp.2 ⟨⟨p,hpm,rfl⟩,fC h _⟩
  have:=List.length_pos_of_mem this
  rw [List.length_append];omega
 rw [mT hk,dd,bm hk,cQ,lP _ _ (by omega),cQ,dy hk (by omega)]
 show cond (eJ done plan[k].ID) _ _=_
 unfold i9
 cases hm:eJ done plan[k].ID with
 | true=>rfl
 | false =>
  rw [eW,cQ,(gI h _).2.1,cQ,Bool.not_false,Bool.true_and]
  refine ((e9 (S:=(List Int)×Bool×Int) (l:=plan) (by omega) (fun i (s:List Int×Bool)=>(s.1,s.2,i)) (rfF plan done plan[k].ID) (fun s=>s) (fun k s=>s.1.length≤k) (([]:List Int),true) (by simp) (fun j hj s hs=>?_) (fun s _=>by dsimp only;rw [gM,eW])).1).trans ?_
  ·dsimp only
   have hq:=gI h plan[j].ID;have hp:=gI h plan[k].ID
   rw [mT hj,dd,bm hj,cQ,cQ,dy hj (by omega),pE _ _ (by omega),lP _ _ (by omega),hq.2.1]
   have hb:bo plan plan[k].ID plan[j].ID=((plan[j].ID == plan[k].ID)||(((rl plan plan[k].ID).any fun x=>x == plan[j].ID)&&((rl plan plan[j].ID).any fun x=>x == plan[k].ID))):=rfl
   have hi:oJ plan plan[k].ID plan[j].ID=((rl plan plan[k].ID).any fun x=>x == plan[j].ID):=rfl
   have hd:eJ done plan[j].ID=(done.any fun x=>x == plan[j].ID):=rfl
   have ha:app 8 s.1 [plan[j].ID]=some (s.1++[plan[j].ID]):=eF (by simp;omega) (by simp;omega)
   have hr:=pE (rl plan plan[j].ID) plan[k].ID (by omega)
   unfold rfF
   rw [hb,hi,hd]
   cases hx:(plan[j].ID == plan[k].ID) with
   | true=>simp [iX,ha];omega
   | false =>
    cases hy:((rl plan plan[k].ID).any fun x=>x == plan[j].ID) with
    | true =>
     cases hz:((rl plan plan[j].ID).any fun x=>x == plan[k].ID) with
     | true=>simp [gH,ha,hr,hz];omega
     | false=>cases hw:(done.any fun x=>x == plan[j].ID) <;> simp [gH,hr,hz] <;> omega
    | false=>simp [iX,gH];omega
  rw [oF]
  have e1:([]:List Int)++(plan.filter fun q=>bo plan plan[k].ID q.ID).map (·.ID)=cz plan plan[k].ID:=rfl
  have e2:(true&&plan.all fun q=>bo plan plan[k].ID q.ID||(!(oJ plan plan[k].ID q.ID)||eJ done q.ID))=tz plan done plan[k].ID:=rfl
  have hcl:=qy h plan[k].ID
  dsimp only
  rw [e1,e2]
  cases tz plan done plan[k].ID with
  | false=>rfl
  | true=>rw [dd,eF (by simp;omega) (by simp;omega),cQ,eF (by omega) (by omega),cQ];rfl
theorem jU (h:GP plan):∃ n,bh plan=some (c6 plan n).1∧bU plan=some (c6 plan n).1∧Dn plan (c6 plan n):=by
 obtain ⟨r,e,n,rfl,h1⟩:=jT h
 obtain ⟨s,e2,m,rfl,h2⟩:=lf h
 refine ⟨n,e,?_,h1⟩
 rw [rp h1 h2];exact e2
end
theorem iC (m0:List Int) {κ:Kr} {v0:List Value} (_:Rps κ (eL eI m0) v0):bL m0=some true:=by
 have key:Y (bL m0) (fun r=>r=true):=by
  unfold bL
  refine (plan_Y m0).bind fun p hp=>?_
  have h:GP p:=⟨hp.vps,hp.vids⟩
  obtain ⟨n,e1,e2,hd⟩:=jU h
  have hc:=CI.itr h n
  have ho:=hc.out h
  have hl:(c6 p n).1.flatten.length=p.length:=by
   have:=hc.len h;have:=hd.len h;rw [← hc.fl];omega
  generalize c6 p n=s at *
  obtain ⟨out,done⟩:=s
  dsimp only at ho hl e1 e2
  rw [e1,cQ,e2,cQ,show ((out.length:Int) != (out.length:Int))=false by simp,eW]
  refine Y.bind (P:=fun t=>t=.inl (p.length:Int)) (Y.loop (fun s:Int×Int=>∃ k:Nat,s.2=(k:Int)∧k≤out.length∧s.1=((out.take k).flatten.length:Int)) (fun s=>(out.length - s.2).toNat) ⟨0,rfl,by omega,by simp⟩ (by show ((out.length:Int) - 0).toNat≤_;omega) fun s hs=>?_) fun t ht=>?_
  ·obtain ⟨v,i⟩:=s
   obtain ⟨k,hi,hk,hv⟩:=hs
   dsimp only at hi hv ⊢
   subst hi hv
   rcases Nat.lt_or_ge k out.length with hk2 | hk2
   rotate_left
   ·have e:k=out.length:=by omega
    subst e
    rw [gM,eW,List.take_length,hl]
    exact Y.ret rfl
   have hlen:=h.v.len
   obtain ⟨a,_,hcm,_⟩:=hc.ord k hk2
   have hb:=qy h a
   dsimp only at hcm
   rw [← hcm] at hb
   have hle:(out.take k).flatten.length+out[k].length=(out.take (k+1)).flatten.length:=by
    rw [List.take_add_one,List.getElem?_eq_getElem hk2,List.flatten_append,List.length_append];simp
   have hle2:(out.take k).flatten.length≤64:=by
    have:out.flatten.length=(out.take k).flatten.length+(out.drop k).flatten.length:=by rw [← List.length_append,← List.flatten_append,List.take_append_drop]
    omega
   rw [mT hk2,dd,bm hk2,cQ,cQ,rm (by omega),cQ,Bool.not_true,eW,cQ,dy hk2 (by omega),fg (by omega) (by omega)]
   exact Y.ret ⟨⟨k+1,rfl,hk2,by rw [← hle];omega⟩,by dsimp only;omega⟩
  subst ht
  dsimp only
  rw [show ((p.length:Int) == (p.length:Int))=true by simp,gH,awake13,cQ]
  exact Y.ret rfl
 obtain ⟨r,e,rfl⟩:=key
 exact e
def bd3:Nat→Int→Prop:=fun _ _=>True
theorem op3 {H:Type} {eh:TypeId×Value→H} {nb:Nat}:Opens eh nb 3 eI (bd3 nb):=q8 rfl
def bd23:Nat→(List Int)→Prop:=fun n l=>l.length*8≤140737488355328∧l.length≤n∧∀ x∈l,bd3 n x
theorem op23 {H:Type} {eh:TypeId×Value→H} {nb:Nat}:Opens eh nb 23 (eL eI) (bd23 nb):=nZ rfl rfl rfl rfl op3
end SX
end Go.Proofs.YtipjgkapcgpgbaaDoor
set_option maxRecDepth 100000
namespace Go.Proofs.YtipjgkapcgpgbaaDoor
open Go Go.ChangeShapes Go.WideShapes Go.RowKit
open SX
theorem planComponents_lifted (os:Os) (started:os.Started) (H:Type) (enc:TypeId×Value→H) :
    ReturnsInHanded {} Tryd.checked os 5 .any (fun w args=>(Rows.planComponentsSpec.pre enc Tryd.prog Tryd.f5 [] false w args∧laidMetH Tryd.prog lK w)∧sizedMet enc Tryd.prog Tryd.f5 (OpenSpec.ofChange Rows.planComponentsSpec) false w args)
      (Rows.planComponentsSpec.post enc Tryd.prog Tryd.f5 false true false false):=by
  refine returnsInHanded_of_change_and (C:=Tryd.checked) (X:=fun w _=>laidMetH Tryd.prog lK w) (fun _ _ _ hh h=>h.of_heap hh) own_ok started (by kernel_rfl) Tryd.func5
    (ChangeSpec.witness_at (enc:=enc) (C:=Tryd.checked) (os:=os) (X:=fun w _=>laidMetH Tryd.prog lK w) false (laidWorld os) #[.slice none 0 0] 8 rfl (by kernel_rfl) (by kernel_rfl) (by kernel_rfl) (by kernel_rfl) (by kernel_rfl) (lr os _)) ?_
  intro W base args ds gs before hval0 hW _ hwt hL _
  have hval:∀ (j:Nat) t v,Tryd.f5.params[j]?=some t→args[j]?=some v→Value.okWide Tryd.prog W .any base t v:=hval0
  have hW2:=hW
  obtain ⟨p,q,hA0,hV0,rfl,_,_⟩:=hW
  have hA:DataW.TrodAll enc Tryd.prog W 0 (fun _=>true) true [23] args.toList ds p:=hA0
  obtain ⟨rfl,rfl⟩:gs=[]∧q=[]:=by
    cases gs with
    | nil=>exact ⟨rfl,hV0⟩
    | cons g r=>exact absurd hV0 (by intro h;cases h)
  generalize hargs:args.toList=vs at hA
  have hval2:∀ (j:Nat) t v,[23][j]?=some t→vs[j]?=some v→Value.okWide Tryd.prog W .any base t v:=fun j t v h1 h2=>hval j t v (by rw [Tryd.params5];simpa using h1) (by rw [← hargs] at h2;simpa using h2)
  obtain ⟨v0,vs0,d0,ds0,p0,q0,rfl,rfl,h0,hA⟩:=SX.trodAll_cons hA
  obtain ⟨rfl,rfl⟩:=SX.trodAll_nil hA
  have hw:(DataW.weightsEach Tryd.prog [23] [d0]).all (· ≤ reachBytes)=true:=hwt
  obtain ⟨l0,hw⟩:=SX.light_head hw
  obtain ⟨m0,s0,b0⟩:=arg_one rfl rfl op23 (fun _=>⟨_,rfl⟩) (hval2 0 23 v0 rfl rfl) h0 l0 (Nat.le_refl _)
  exact tf (readB (by kernel_rfl)) rfl (aO rfl) rfl (by simp [Rows.planComponentsSpec]) hW2 (n9 hL) (by rw [hargs];exact s0) (gf (iC m0 s0))
theorem planComponents_holds:Rows.PlanComponentsSaid :=
 OpenClaim.holds_of_wide 5 Tryd.f5 rfl rfl rfl rfl rfl rfl rfl ⟨rfl,rfl,rfl,rfl,rfl⟩ rfl rfl rfl rfl rfl planComponents_named Tryd.func5 planComponents_closed
  (of_decide_eq_true (by kernel_rfl)) (by unfold Func.isWrapper;rw [if_neg (of_decide_eq_false (by kernel_rfl))];exact ⟨rfl,rfl⟩)
  (fun os started H enc _=>planComponents_lifted os started H enc)
theorem planComponents_card:Rows.PlanComponentsCardSaid :=
 Claim7.holds_tied_plain_at .later [] [.data,.data,.pinned] true (true, "bd0888e3d54737700e71017b2812dab827b3a3f36104f0d145c5211c566f5e81") false
  planComponents_holds (fun _ h=>by cases h) (by as_aux_lemma=>kernel_rfl) (fun _ h=>by cases h) planComponents_row_tie rfl ⟨rfl,rfl⟩ fp_main rfl
  (fun f fn hf hfn=>by
   obtain rfl:f=5:=Option.some.inj ((show Tryd.prog.funcNamed "customs/customslaw13.PlanComponents" = some 5 from planComponents_named).symm.trans hf) |>.symm
   obtain rfl:fn=Tryd.f5:=(Option.some.inj (Tryd.func5.symm.trans hfn)).symm
   exact ⟨fp_looks,fun j t ht=>by
    rw [Tryd.params5] at ht
    exact oa (by as_aux_lemma=>kernel_rfl) ht⟩)
  planComponents_goes
#print axioms planComponents_card
end Go.Proofs.YtipjgkapcgpgbaaDoor
