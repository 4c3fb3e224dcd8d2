/- PlanValidate: for every input the law returns true, and each argument reads afterwards as it read before. Conditions: the package variables are as the program's text lays them (the card ties them). -/
import Derived.Test.YtipjgkapcgpgbaaDoorM2
import Derived.Test.YtipjgkapcgpgbaaDoorL1q
set_option linter.unusedVariables false
set_option linter.unusedSimpArgs false
set_option maxHeartbeats 4000000
set_option maxRecDepth 100000
namespace Go.Proofs.YtipjgkapcgpgbaaDoor
namespace SX
open Go
section
variable {K V:Type} [DecidableEq K]
theorem qE {xs:List (K×V)} {k:K} (h:∀ p∈xs,p.1≠k):lY xs k=xs:=by
 induction xs with
 | nil=>rfl
 | cons p r ih =>
  obtain ⟨a,v⟩:=p
  unfold lY
  rw [if_neg (h (a,v) (by simp)),ih (fun p hp=>h p (by simp [hp]))]
theorem p4:∀ {xs:List (K×V)},MND xs→∀ {k:K} {v:V} {i:Nat},xs[i]?=some (k,v)→lY xs k=xs.eraseIdx i
 | (a,w)::r,nd,k,v,0,h=>by
  simp only [List.getElem?_cons_zero,bC,Prod.mk.injEq] at h
  unfold lY;rw [if_pos h.1,List.eraseIdx_cons_zero]
 | (a,w)::r,nd,k,v,i+1,h=>by
  simp only [List.getElem?_cons_succ] at h
  have nd':=List.pairwise_cons.1 nd
  have hne:a≠k:=nd'.1 (k,v) (List.mem_of_getElem? h)
  unfold lY;rw [if_neg hne,List.eraseIdx_cons_succ,p4 nd'.2 h]
end
theorem KVs.erase {κ:Kr}:∀ {kvs:List (Value×PV)} {es:List MapEntry} (i:Nat),KVs κ kvs es→KVs κ (kvs.eraseIdx i) (es.eraseIdx i)
 | _,_,_,.nil=>.nil
 | _,_,0,.cons _ hs=>hs
 | _,_,i+1,.cons h hs=>.cons h (KVs.erase i hs)
theorem MapWf.erase {es:List MapEntry} {clock:Nat} (h:MapWf es clock) (i:Nat):MapWf (es.eraseIdx i) clock where
 nd:=h.nd.sublist (List.eraseIdx_sublist es i)
 bn:=h.bn.sublist (List.eraseIdx_sublist es i)
 lt:=fun e he=>h.lt e ((List.eraseIdx_sublist es i).subset he)
theorem jr {α β:Type} (f:α→β):∀ (l:List α) (i:Nat),(l.map f).eraseIdx i=(l.eraseIdx i).map f
 | [],_=>rfl
 | _::_,0=>rfl
 | x::l,i+1=>congrArg (f x::·) (jr f l i)
theorem KVs.length {κ:Kr} {kvs:List (Value×PV)} {es:List MapEntry} (h:KVs κ kvs es):kvs.length=es.length:=by
 have:=congrArg List.length h.keys;simpa using this
theorem sX {t kt et ty b clock:Nat} (ht:bQ t=some (.map kt et)) {es:List MapEntry} {w:World} (hb:w.heap[b]?=some (.map es.toArray clock)):(Builtin.len_ #[t] ty #[.map (some b)]).run Tryd.prog w=.ok (.int .i64 (es.length:Int)) w:=by
 simp [Builtin.len_,run_underlying (aI ht),fY hb,goInt]
theorem mu {t kt et ty:Nat} (ht:bQ t=some (.map kt et)) {w:World}:(Builtin.len_ #[t] ty #[.map none]).run Tryd.prog w=.ok (.int .i64 0) w:=by
 simp [Builtin.len_,run_underlying (aI ht),goInt]
theorem nP {t kt et ty b clock:Nat} {ts:Array TypeId} {v:Value} {P:Value→Prop} (h0:ts[0]?=some t) (ht:bQ t=some (.map kt et)) (L:KeyLaw kt P) (hv:P v) {es:List MapEntry} (hes:∀ e∈es,P e.key) {w:World} (hb:w.heap[b]?=some (.map es.toArray clock)):∃ r es',Found v es r∧(Builtin.delete_ ts ty #[.map (some b),v]).run Tryd.prog w=.ok (.tuple #[]) { w with heap:=w.heap.setIfInBounds b (.map es'.toArray clock) }∧((r=none∧es'=es)∨∃ i e,es[i]?=some e∧e.key=v∧r=some (i,e.val)∧es'=es.eraseIdx i):=by
 obtain ⟨r,h1,h2⟩:=L.find v es hv hes w
 have h2':=h2
 rcases h2 with ⟨rfl,h3⟩ | ⟨i,e,rfl,h3,h4⟩
 ·refine ⟨none,es,h2',?_,.inl ⟨rfl,rfl⟩⟩
  simp only [Builtin.delete_,h0,List.getElem?_toArray,List.getElem?_cons_zero,List.getElem?_cons_succ,Sem.run_bind,run_underlying (aI ht),Result.andThen_ok,fY hb,L.chk v hv,h1,iC _ hb]
  simp
 refine ⟨some (i,e.val),es.eraseIdx i,h2',?_,.inr ⟨i,e,h3,h4,rfl,rfl⟩⟩
 have hlt:i<es.length:=(List.getElem?_eq_some_iff.1 h3).1
 have hm:es.toArray.eraseIdxIfInBounds i=(es.eraseIdx i).toArray:=by
  simp [Array.eraseIdxIfInBounds,hlt]
 simp only [Builtin.delete_,h0,List.getElem?_toArray,List.getElem?_cons_zero,List.getElem?_cons_succ,Sem.run_bind,run_underlying (aI ht),Result.andThen_ok,fY hb,L.chk v hv,h1,hm,iC _ hb]
 simp
section
variable {K V:Type} [DecidableEq K] {ek:K→Value} {vv:V→PV} {xs:List (K×V)} {o:Oper} {σ:PEnv} {ρ ρ':List PRes} {c:Bool} {x y:Operand} {t kt et:Nat} {KK:PV→List PRes→Prop} {k:K} {b:Nat} {pk:PV} {mo:Option Nat}
omit [DecidableEq K] in
theorem pq_lenM (ho:o.op=.call { callee:=.builtin .len,args:=#[x],argTypes:=#[t] }) (ht:bQ t=some (.map kt et)) (hx:PEv σ c x (.v (.map mo))) (hm:MapIs ρ mo (ba ek vv xs)):POpQ c o σ ρ (.v (.int .i64 (xs.length:Int))):=fun κ σ' ρ' g hs hr=>by
 cases c with
 | false=>exact nc
 | true =>
  refine ⟨.int .i64 (xs.length:Int),fun _=>.v rfl,fun hc w hw=>?_⟩
  have e1:SX.ev σ' x=.map mo:=hs.ve hx hc
  obtain ⟨es,clock,h1,hn,h2,h3⟩:=hm κ ρ' hr
  have hl:es.length=xs.length:=by rw [← h3.length];simp [ba]
  cases mo with
  | none =>
   have:=hn rfl;subst this
   have:xs.length=0:=hl.symm
   simp only [execOp,ho,resolve,invoke,builtin,Sem.run_bind,Sem.run_pure,Result.andThen_ok,List.map_toArray,List.map_cons,List.map_nil,e1,mu ht,this]
   rfl
  | some b =>
   have hb:w.heap[b]?=some (.map es.toArray clock):=hw.own _ h1
   simp only [execOp,ho,resolve,invoke,builtin,Sem.run_bind,Sem.run_pure,Result.andThen_ok,List.map_toArray,List.map_cons,List.map_nil,e1,sX ht hb,hl]
theorem sY {κ:Kr} {es es':List MapEntry} {clock:Nat} {r:Option (Nat×Value)} (hinj:∀ a b,ek a=ek b→a=b) (hw:MapWf es clock) (h:KVs κ (ba ek vv xs) es) (hf:Found (ek k) es r)
    (hc:(r=none∧es'=es)∨∃ i e,es[i]?=some e∧e.key=ek k∧r=some (i,e.val)∧es'=es.eraseIdx i):MapWf es' clock∧KVs κ (ba ek vv (lY xs k)) es':=by
  rcases hc with ⟨rfl,rfl⟩ | ⟨i,e,h1,h2,rfl,rfl⟩
  · rcases fX hinj h hw hf with ⟨_,h3,h4⟩ | ⟨i,e,v,h3,_⟩
    · rw [qE h3];exact ⟨hw,h⟩
    cases h3
  rcases fX hinj h hw hf with ⟨h3,_⟩ | ⟨i',e',v',h3,h4,h5,h6,h7⟩
  · cases h3
  have hi:i'=i:=by injection h3 with h3;injection h3 with h3 _;exact h3.symm
  subst hi
  refine ⟨hw.erase _,?_⟩
  rw [p4 (lZ h hw) h6]
  have:=KVs.erase i' h
  rw [ba,jr] at this
  exact this
theorem qF {ts:List Nat} (ho:o.op=.call { callee:=.builtin .delete,args:=#[x,y],argTypes:=ts.toArray }) (h0:ts[0]?=some t) (ht:bQ t=some (.map kt et)) (L:KEnc kt ek) (hx:aA σ x=.v (.map (some b))) (hy:aA σ y=pk) (hk:∀ κ u,Rp κ pk u→u=ek k) (hu:PUpd ρ (.mp (some b) (ba ek vv xs)) (.mp (some b) (ba ek vv (lY xs k))) ρ') (h:KK (.tup []) ρ'):POpL o σ ρ KK:=fun κ σ' rr g hs hr=>by
 obtain ⟨P,hL,hP⟩:=L.law
 obtain ⟨r0,l1,l2,rfl,h4,h5⟩:=hr.upd hu
 cases h4 with
 | mp hn hw hkv =>
  rename_i es clock
  intro β hi Nx hnx
  have hb:κ.w.heap[b]?=some (.map es.toArray clock):=hi.own (Res.mp (some b) es clock) (by simp)
  have e1:SX.ev σ' x=.map (some b):=hs.v1 hx
  have e2:SX.ev σ' y=ek k:=hk κ _ (by have:=hs.ev y;rwa [hy] at this)
  obtain ⟨r,es',f1,f2,f3⟩:=nP (ty:=o.type) (ts:=ts.toArray) (by simpa using h0) ht hL (hP k) (l6 hP hkv) hb
  obtain ⟨w1,w2⟩:=sY (vv:=vv) L.inj hw hkv f1 f3
  obtain ⟨i1,i2⟩:=hi.mapTurn (es':=es') (clock':=clock)
  simp only [execOp,ho,resolve,invoke,builtin,Sem.run_bind,Sem.run_pure,Result.andThen_ok,List.map_toArray,List.map_cons,List.map_nil,e1,e2,f2,OutV]
  exact hnx _ _ _ i1 i2 ⟨.tup [],ρ',.tup .nil,h5 _ _ i2 (.mp (fun h=>by cases h) w1 (w2.mono i2)),h⟩
end
end SX
namespace SX
open Go
attribute [local irreducible] PWL PWC PWD POpL POpQ PEv PGuardIs PSub PPick PUpd PSplice PFill PLit PF PFV PCall FOk eF dj jh ji gG iw Cov PHolds bi idx app mk gd lb nz tg cat sub lL ju ior rO qm ib lJ rR IntKind.wrap Int.tmod Int.tdiv Op.bytesLess strOfNums
def cu (p0:(List ByteArray)):Option Bool:=cond (decide (8<(p0.length:Int))) (some false) ((bi (S:=Int) (T:=(Unit)⊕(_)) (fun v2=>cond (decide (v2<(p0.length:Int))) ((idx p0 v2).bind fun m6=>(dO m6).bind fun x7=>(gd ((!(!x7))&&(decide (0<v2))) (idx p0 (IntKind.i64.wrap (v2 - 1)))).bind fun m8=>cond ((!x7)||((decide (0<v2))&&(Op.bytesLess m6.toList m8.toList||decide (m6=m8)))) (some (.inr (.inr false))) (some (.inl (IntKind.i64.wrap (v2+1))))) (some (.inr (.inl ())))) FUEL 0).bind fun q=>match q with | .inl _=>some true | .inr e=>some e)
theorem hQ {p0:(List ByteArray)} {r:Bool}  (h:cu p0=some r):PF 49 [pL eS p0] (pB r):=by
 unfold cu at h
 refine bz ?_
 refine aF Tryd.func49 rfl Tryd.ntmps49 Tryd.results49 rfl (ae (aH [2] (by kernel_rfl) (ff (ak [5,6] [(7,pB (decide (8<(p0.length:Int))))] (by kernel_rfl) (db rfl h (fun hc1 h=>?_) fun hc1 h=>?_)))))
 ·refine ae ?_
  refine ai [(2,pB false)] (by kernel_rfl) (cC (aj ?_))
  exact zz r h rfl
 refine al ?_
 refine ff (ai [(8,pL eS p0),(9,pI (p0.length:Int)),(10,pI 0)] (by kernel_rfl) (aq (aa h fun q4 hq4 h=>?_)))
 refine aM (Y:=Unit×Unit) (fun (_,_)=>[]) (fun (_,_)=>[]) (fun (_,_)=>q4=Sum.inl ()) ?_ ?_
 ·refine am ?_
  refine aN (Y:=Unit) (S:=Int) _ hq4 (fun _ v2=>[(0,pL eS p0),(8,pL eS p0),(9,pI (p0.length:Int)),(10,pI v2)]) (fun _ v2=>[]) () (lP rfl) dd ?_
  rintro _ v2 o τ hb3;(try dsimp only at hb3);dsimp only [aG]
  refine ae (ai [(11,pB (decide (v2<(p0.length:Int))))] (by kernel_rfl) (bx (oz rfl hb3 (fun hc5 hb3=>?_) fun hc5 hb3=>?_)))
  ·refine al ?_
   refine bx (am (ae (aa hb3 fun m6 hm6 hb3=>aK [] [12,13,14] [(3,pI v2),(4,pS m6)] (d8 1 eS hm6 ce) (by kernel_rfl) (bx (aa hb3 fun x7 hx7 hb3=>aa hb3 fun m8 hm8 hb3=>aK [] (rg 15 15) [(30,pB ((!x7)||((decide (0<v2))&&(Op.bytesLess m6.toList m8.toList||decide (m6=m8)))))] (dQ 1 (jx hx7) (fV 11 eS (ca hm8) ce)) (by kernel_rfl) (db rfl hb3 (fun hc9 hb3=>?_) fun hc9 hb3=>?_))))))
   ·refine ae ?_
    refine ai [(2,pB false)] (by kernel_rfl) (cC (af (aj ?_)))
    refine aw hb3 (fun ht=>?_);subst ht
    refine af (az ?_)
    exact zz r h rfl
   refine al ?_
   refine an (aq (ak [31] [(10,pI (IntKind.i64.wrap (v2+1)))] (by kernel_rfl) ?_))
   exact be hb3 () (lP rfl) dd
  refine aQ ?_
  refine ar (ap hb3 (fun ht=>au rfl ?_))
  exact aW ((),()) kY dd ht.symm
 rintro ⟨_,_⟩ τ hz;(try dsimp only at hz);subst q4;(try dsimp only at h);dsimp only [aG]
 refine ae (ai [(2,pB true)] (by kernel_rfl) (cC ?_))
 exact zz r h rfl
def aT (p0:Za):Option Int:=(fi p0.Code).bind fun x2=>(gd (!((x2 != 6)&&(x2 != 8))) (bg p0.Country)).bind fun x3=>(gd (!(((x2 != 6)&&(x2 != 8))||(!x3))) (cu p0.Processes)).bind fun x4=>cond ((((x2 != 6)&&(x2 != 8))||(!x3))||(!x4)) (some (1:Int)) (cond ((decide (p0.Price<1))||(decide (1000000000000<p0.Price))) (some (2:Int)) (cond (decide (8<(p0.Inputs.length:Int))) (some (8:Int)) (cond (p0.Obtained&&(decide (0<(p0.Inputs.length:Int)))) (some (1:Int)) (some (0:Int)))))
theorem ez {p0:Za} {r:Int}  (h:aT p0=some r):PF 27 [.agg (av p0)] (pI r):=by
 unfold aT at h
 refine bz ?_
 refine aF Tryd.func27 rfl Tryd.ntmps27 Tryd.results27 rfl (ae (ah (aD rfl (gI (cs:=(av p0)) rfl rfl (fun b1=>fc [2] (by kernel_rfl) (bx (aa h fun x2 hx2 h=>aK [0] [4,5,6] [(3,pI x2)] (dQ 2 (gz hx2) ce) (by kernel_rfl) (ff (aa h fun x3 hx3 h=>aa h fun x4 hx4 h=>aK [0,0] (rg 7 17) [(24,pB ((((x2 != 6)&&(x2 != 8))||(!x3))||(!x4)))] (fw 9 (fun hc=>cV (ca hx3 hc)) (fw 15 (fun hc=>hQ (ca hx4 hc)) ce)) (by kernel_rfl) (db rfl h (fun hc5 h=>?_) fun hc5 h=>?_))))))))))
 ·refine ae ?_
  refine ai [(2,pI 1)] (by kernel_rfl) (cC (aj ?_))
  exact zz r h rfl
 refine al ?_
 refine ff (cJ [0,0] (rg 25 7) [(32,pB ((decide (p0.Price<1))||(decide (1000000000000<p0.Price))))] (by kernel_rfl) (db rfl h (fun hc6 h=>?_) fun hc6 h=>?_))
 ·refine ae ?_
  refine ai [(2,pI 2)] (by kernel_rfl) (cC (aj ?_))
  exact zz r h rfl
 refine al ?_
 refine ff (cJ [0] [33,34,35] [(36,pB (decide (8<(p0.Inputs.length:Int))))] (by kernel_rfl) (db rfl h (fun hc7 h=>?_) fun hc7 h=>?_))
 ·refine ae ?_
  refine ai [(2,pI 8)] (by kernel_rfl) (cC (aj ?_))
  exact zz r h rfl
 refine al ?_
 refine ff (cJ [0,0] (rg 37 7) [(44,pB (p0.Obtained&&(decide (0<(p0.Inputs.length:Int)))))] (by kernel_rfl) (db rfl h (fun hc8 h=>?_) fun hc8 h=>?_))
 ·refine ae ?_
  refine ai [(2,pI 1)] (by kernel_rfl) (cC (aj ?_))
  exact zz r h rfl
 refine al ?_
 refine bx (ai [(2,pI 0)] (by kernel_rfl) (cC ?_))
 exact zz r h rfl
def bc (p0:(List Za)):Option Int:=cond (decide (64<(p0.length:Int))) (some (8:Int)) ((bi (S:=Int) (T:=(Unit)⊕(_)) (fun v2=>cond (decide (v2<(p0.length:Int))) ((idx p0 v2).bind fun m6=>cond ((decide (m6.ID<1))||(decide (1000000<m6.ID))) (some (.inr (.inr (2:Int)))) ((gd (decide (0<v2)) (idx p0 (IntKind.i64.wrap (v2 - 1)))).bind fun m9=>cond ((decide (0<v2))&&(decide (m6.ID≤m9.ID))) (some (.inr (.inr (9:Int)))) ((aT m6).bind fun x11=>cond (x11 != 0) (some (.inr (.inr x11))) ((aV p0 m6.Inputs).bind fun x13=>cond (x13 != 0) (some (.inr (.inr x13))) (some (.inl (IntKind.i64.wrap (v2+1)))))))) (some (.inr (.inl ())))) FUEL 0).bind fun q=>match q with | .inl _=>some (0:Int) | .inr e=>some e)
theorem cE {p0:(List Za)} {r:Int}  (h:bc p0=some r):PF 10 [pL Za.enc p0] (pI r):=by
 unfold bc at h
 refine bz ?_
 refine aF Tryd.func10 rfl Tryd.ntmps10 Tryd.results10 rfl (ae (aH [2] (by kernel_rfl) (ff (ak [7,8] [(9,pB (decide (64<(p0.length:Int))))] (by kernel_rfl) (db rfl h (fun hc1 h=>?_) fun hc1 h=>?_)))))
 ·refine ae ?_
  refine ai [(2,pI 8)] (by kernel_rfl) (cC (aj ?_))
  exact zz r h rfl
 refine al ?_
 refine ff (ai [(10,pL Za.enc p0),(11,pI (p0.length:Int)),(12,pI 0)] (by kernel_rfl) (aq (aa h fun q4 hq4 h=>?_)))
 refine aM (Y:=Unit×Unit) (fun (_,_)=>[]) (fun (_,_)=>[]) (fun (_,_)=>q4=Sum.inl ()) ?_ ?_
 ·refine am ?_
  refine aN (Y:=Unit) (S:=Int) _ hq4 (fun _ v2=>[(0,pL Za.enc p0),(10,pL Za.enc p0),(11,pI (p0.length:Int)),(12,pI v2)]) (fun _ v2=>[]) () (lP rfl) dd ?_
  rintro _ v2 o τ hb3;(try dsimp only at hb3);dsimp only [aG]
  refine ae (ai [(13,pB (decide (v2<(p0.length:Int))))] (by kernel_rfl) (bx (oz rfl hb3 (fun hc5 hb3=>?_) fun hc5 hb3=>?_)))
  ·refine al ?_
   refine bx (am (ae (aa hb3 fun m6 hm6 hb3=>ah (bp 3 [] [15] [(14,pI v2),(16,.agg (av m6))] (d8 1 Za.enc hm6 ce) (by kernel_rfl) (aD rfl (cU (cs:=[pI 0,pS ByteArray.empty,pS ByteArray.empty,pI 0,pB false,pN,pN]) rfl rfl rfl rfl (fun b7=>bd 1 [(3,pI v2)] (by kernel_rfl) (de rfl rfl (bG (vs:=(av m6)) rfl rfl rfl rfl rfl iP r8 (bL (ff (cJ [0,0] (rg 17 7) [(24,pB ((decide (m6.ID<1))||(decide (1000000<m6.ID))))] (by kernel_rfl) (db rfl hb3 (fun hc8 hb3=>?_) fun hc8 hb3=>?_)))))))))))))
   ·refine ae ?_
    refine ai [(2,pI 2)] (by kernel_rfl) (cC (aj (af (aj ?_))))
    refine aw hb3 (fun ht=>?_);subst ht
    refine af (az ?_)
    exact zz r h rfl
   refine al ?_
   refine ff (cI (ρd:=[]) [(0,0),(1,0),(2,0),(3,0),(4,0),(5,0),(6,0),(7,0),(8,0),(9,0),(10,0),(11,0),(12,0)] _ (List.Perm.refl _) (by kernel_rfl) rfl (aa hb3 fun m9 hm9 hb3=>cB 13 [0] (rg 25 12) [(37,pB ((decide (0<v2))&&(decide (m6.ID≤m9.ID))))] (fV 8 Za.enc (ca hm9) ce) (by kernel_rfl) (dk (db rfl hb3 (fun hc10 hb3=>?_) fun hc10 hb3=>?_))))
   ·refine ae ?_
    refine ai [(2,pI 9)] (by kernel_rfl) (cC (aj (af (aj ?_))))
    refine aw hb3 (fun ht=>?_);subst ht
    refine af (az ?_)
    exact zz r h rfl
   refine al ?_
   refine ff (aa hb3 fun x11 hx11 hb3=>aK [0] [38,39] [(5,pI x11)] (dQ 1 (ez hx11) ce) (by kernel_rfl) (bx (ak [40] [(41,pB (x11 != 0))] (by kernel_rfl) (db rfl hb3 (fun hc12 hb3=>?_) fun hc12 hb3=>?_))))
   ·refine ae ?_
    refine ak [42] [(2,pI x11)] (by kernel_rfl) (cC (aj (af (aj ?_))))
    refine aw hb3 (fun ht=>?_);subst ht
    refine af (az ?_)
    exact zz r h rfl
   refine al ?_
   refine bx (aa hb3 fun x13 hx13 hb3=>aK [0] [43,44,45,46] [(6,pI x13)] (dQ 3 (eC hx13) ce) (by kernel_rfl) (bx (ak [47] [(48,pB (x13 != 0))] (by kernel_rfl) (db rfl hb3 (fun hc14 hb3=>?_) fun hc14 hb3=>?_))))
   ·refine ae ?_
    refine ak [49] [(2,pI x13)] (by kernel_rfl) (cC (af (aj ?_)))
    refine aw hb3 (fun ht=>?_);subst ht
    refine af (az ?_)
    exact zz r h rfl
   refine al ?_
   refine an (aq (ak [50] [(12,pI (IntKind.i64.wrap (v2+1)))] (by kernel_rfl) ?_))
   exact be hb3 () (lP rfl) dd
  refine aQ ?_
  refine ar (ap hb3 (fun ht=>au rfl ?_))
  exact aW ((),()) kY dd ht.symm
 rintro ⟨_,_⟩ τ hz;(try dsimp only at hz);subst q4;(try dsimp only at h);dsimp only [aG]
 refine ae (ai [(2,pI 0)] (by kernel_rfl) (cC ?_))
 exact zz r h rfl
def dc (p0:(List Za)) (p1:Int):Option (List Int):=(bi (S:=(List Int)×(List (Int×Bool))) (T:=((List (Int×Bool)))) (fun (l5,l8)=>cond (decide (0<((l5.length:Nat):Int))) ((idx l5 (IntKind.i64.wrap (((l5.length:Nat):Int) - 1))).bind fun m13=>(dL p0 m13).bind fun x14=>(sub l5 0 (IntKind.i64.wrap (((l5.length:Nat):Int) - 1))).bind fun l15=>cond (!x14.2) (some (.inl (l15,l8))) ((idx p0 x14.1).bind fun m18=>(bi (S:=(List Int)×Int×(List (Int×Bool))) (T:=((List Int)×(List (Int×Bool)))) (fun (l20,v23,l24)=>cond (decide (v23<(m18.Inputs.length:Int))) (((idx m18.Inputs v23).bind fun m39=>cond (!((bH l24 m39.Product).getD false)) ((app 8 l20 [m39.Product]).bind fun l44=>some (l44,(gQ l24 m39.Product true))) (some (l20,l24))).bind fun (l36,l37)=>some (.inl (l36,(IntKind.i64.wrap (v23+1)),l37))) (some (.inr (l20,l24)))) FUEL (l15,0,l8)).bind fun (l28,l29)=>some (.inl (l28,l29)))) (some (.inr l8))) FUEL ([p1],([]:List (Int×Bool)))).bind fun l9=>(sU l9).bind fun l50=>some l50
theorem eG {p0:(List Za)} {p1:Int} {r:(List Int)}  (h:dc p0 p1=some r):PF 19 [pL Za.enc p0,pI p1] (pL eI r):=by
 unfold dc at h
 refine bz ?_
 refine aF Tryd.func19 rfl Tryd.ntmps19 Tryd.results19 rfl (ae (aH [4] (by kernel_rfl) (bx (ah (aD rfl (fz kI vT rfl (fun b1=>aS [(5,.v (.map (some b1)))] (by kernel_rfl) (bx (ah (bd 1 [(12,pI p1)] (by kernel_rfl) (aD rfl (cz rfl rfl rfl rfl rfl (gJ rfl kF) rfl rfl rfl rfl (fun b2=>aS [(6,pO (some ⟨b2,0,none⟩) 1 1)] (by kernel_rfl) (bx (aa h fun q11 hq11 h=>?_)))))))))))))))
 refine aM (Y:=Unit×((List (Int×Bool)))) (fun (_,l9)=>[(5,.v (.map (some b1)))]) (fun (_,l9)=>[PRes.mp (some b1) (ba kI vT l9)]) (fun (_,l9)=>q11=l9) ?_ ?_
 ·refine am ?_
  refine aN (Y:=Option Addr×Nat) (S:=(List Int)×(List (Int×Bool))) _ hq11 (fun (a6,c7) (l5,l8)=>[(0,pL Za.enc p0),(5,.v (.map (some b1))),(6,pO a6 l5.length c7)]) (fun (a6,c7) (l5,l8)=>[PRes.mp (some b1) (ba kI vT l8),PRes.row a6 l5.length c7 3 1 (List.map eI l5)]) ((some ⟨b2,0,none⟩),1) (qP rfl) (cL (bh bk) fm) ?_
  rintro ⟨a6,c7⟩ ⟨l5,l8⟩ o τ hb10;(try dsimp only at hb10);dsimp only [aG]
  refine ae (ae (ak [14,15] [(16,pB (decide (0<((l5.length:Nat):Int))))] (by kernel_rfl) (db rfl hb10 (fun hc12 hb10=>?_) fun hc12 hb10=>?_)))
  ·refine al ?_
   refine aq (am (ae (aa hb10 fun m13 hm13 hb10=>ah (fe 5 [20,21] [(18,pL Za.enc p0),(19,pO a6 l5.length c7),(22,pI (IntKind.i64.wrap (((l5.length:Nat):Int) - 1)))] (by kernel_rfl) (cT rfl rfl rfl (k7 (enc:=eI) (xs:=l5) rfl rfl rfl (.p rfl) th (.p rfl) (fun _=>hm13)) (cT rfl rfl rfl (eW (sz:=1) (p:=pI m13) (enc:=eI) (xs:=l5) (a:=a6) (IntKind.i64.wrap (((l5.length:Nat):Int) - 1)) 0 m13 rfl (.p rfl) rfl th (fun _=>hm13) rfl) (aa hb10 fun x14 hx14 hb10=>fx [] [25,17,26,27] [(7,pI x14.1),(8,pB x14.2)] (dQ 0 (gU hx14) ce) (by kernel_rfl) (bx (aa hb10 fun l15 hl15 hb10=>ah (fe 4 [29,30] [(28,pO a6 l5.length c7),(31,pI (IntKind.i64.wrap (((l5.length:Nat):Int) - 1)))] (by kernel_rfl) ?_))))))))))
   refine aD rfl (qz (enc:=eI) (xs:=l5) rfl rfl rfl rfl rfl (by exact bh bk) hl15 ?_)
   refine aS [(6,pO a6 l15.length c7)] (by kernel_rfl) (ff (ak [33] [(34,pB (!x14.2))] (by kernel_rfl) (db rfl hb10 (fun hc17 hb10=>?_) fun hc17 hb10=>?_)))
   ·refine aQ ?_
    refine ar (au rfl ?_)
    exact be hb10 (a6,c7) (qP rfl) (cL (bh bk) fm)
   refine al ?_
   refine bx (aa hb10 fun m18 hm18 hb10=>aK [] [35,36,37,38] [(39,pL Zb.enc m18.Inputs),(40,pI (m18.Inputs.length:Int)),(41,pI 0)] (d8 2 Za.enc hm18 ce) (by kernel_rfl) (aq (aa hb10 fun q31 hq31 hb10=>?_)))
   refine iv (Y:=(Option Addr×Nat)×((List Int)×(List (Int×Bool)))) (fun ((a26,c27),(l28,l29))=>[(0,pL Za.enc p0),(5,.v (.map (some b1))),(6,pO a26 l28.length c27)]) (fun ((a26,c27),(l28,l29))=>[PRes.mp (some b1) (ba kI vT l29),PRes.row a26 l28.length c27 3 1 (List.map eI l28)]) (fun ((a26,c27),(l28,l29))=>q31=(l28,l29)) ?_ ?_
   ·refine am ?_
    refine aN (Y:=Option Addr×Nat) (S:=(List Int)×Int×(List (Int×Bool))) _ hq31 (fun (a21,c22) (l20,v23,l24)=>[(0,pL Za.enc p0),(5,.v (.map (some b1))),(6,pO a21 l20.length c22),(39,pL Zb.enc m18.Inputs),(40,pI (m18.Inputs.length:Int)),(41,pI v23)]) (fun (a21,c22) (l20,v23,l24)=>[PRes.mp (some b1) (ba kI vT l24),PRes.row a21 l20.length c22 3 1 (List.map eI l20)]) (a6,c7) (oB rfl) (cL (bh bk) fm) ?_
    rintro ⟨a21,c22⟩ ⟨l20,v23,l24⟩ o τ hb30;(try dsimp only at hb30);dsimp only [aG]
    refine ae (ai [(42,pB (decide (v23<(m18.Inputs.length:Int))))] (by kernel_rfl) (bx (oz rfl hb30 (fun hc32 hb30=>?_) fun hc32 hb30=>?_)))
    ·refine al ?_
     refine bx (aa hb30 fun q38 hq38 hb30=>?_)
     refine aM (Y:=(Option Addr×Nat)×((List Int)×(List (Int×Bool)))) (fun ((a34,c35),(l36,l37))=>[(0,pL Za.enc p0),(5,.v (.map (some b1))),(6,pO a34 l36.length c35),(39,pL Zb.enc m18.Inputs),(40,pI (m18.Inputs.length:Int)),(41,pI v23)]) (fun ((a34,c35),(l36,l37))=>[PRes.mp (some b1) (ba kI vT l37),PRes.row a34 l36.length c35 3 1 (List.map eI l36)]) (fun ((a34,c35),(l36,l37))=>q38=(l36,l37)) ?_ ?_
     ·skip
      refine am (ae (aa hq38 fun m39 hm39 hq38=>ah (bp 2 [] [43] [(44,.agg [pI m39.Product,pI m39.Value])] (d8 0 Zb.enc hm39 ce) (by kernel_rfl) (aD rfl (cU (cs:=[pI 0,pI 0]) rfl rfl rfl rfl (fun b40=>de rfl rfl (bG (vs:=[pI m39.Product,pI m39.Value]) rfl rfl rfl rfl rfl iP zl2 (bL (bx (ah (cK 3 [0] [46] [(45,.v (.map (some b1))),(47,pI m39.Product)] (by kernel_rfl) (cT rfl rfl rfl (show POpQ _ _ _ _ (pB ((bH l24 m39.Product).getD false)) from d9 (xs:=l24) (k:=m39.Product) (ek:=kI) (vv:=vT) (z0:=false) rfl rfl rfl (fun _=>.v rfl) (fy rfl) (.p rfl) (.p rfl) dH (dh th)) (aS [(49,pB (!((bH l24 m39.Product).getD false)))] (by kernel_rfl) (db rfl hq38 (fun hc41 hq38=>?_) fun hc41 hq38=>?_))))))))))))))
      ·refine ae ?_
       refine ah (cK 3 [0] [51] [(50,.v (.map (some b1))),(52,pI m39.Product)] (by kernel_rfl) (de rfl rfl (eM (xs:=l24) (k:=m39.Product) (ek:=kI) (vv:=vT) (v:=true) rfl rfl (fy rfl) rfl rfl dH rfl (lH iP) (bL (aq (ah (cK 3 [0] [54] [(53,pO a21 l20.length c22),(55,pI m39.Product)] (by kernel_rfl) (aD rfl (cz rfl rfl rfl rfl rfl (gJ rfl kF) rfl rfl rfl rfl (fun b42=>aa hq38 fun l44 hl44 hq38=>?_))))))))))
       refine aD rfl (dg (enc:=eI) rfl rfl rfl rfl rfl rfl rfl rfl rfl kG (by exact bh (bh (bh bk))) hl44 (fun a45 c46=>?_))
       refine aS [(6,pO a45 l44.length c46)] (by kernel_rfl) (an ?_)
       obtain rfl:=osi hq38
       exact aW ((a45,c46),(l44,(gQ l24 m39.Product true))) (oB rfl) (cL (bh (bh (bh bk))) fm) rfl
      refine al ?_
      refine an ?_
      obtain rfl:=osi hq38
      exact aW ((a21,c22),(l20,l24)) (oB rfl) (cL (bh bk) (cL (bh bk) dd)) rfl
     rintro ⟨⟨a34,c35⟩,⟨l36,l37⟩⟩ τ hz;(try dsimp only at hz);subst q38;(try dsimp only at hb30);dsimp only [aG]
     refine ak [58] [(41,pI (IntKind.i64.wrap (v23+1)))] (by kernel_rfl) ?_
     exact be hb30 (a34,c35) (oB rfl) mB
    refine aQ ?_
    refine ar (ap hb30 (fun ht=>au rfl ?_))
    exact ia ((a21,c22),(l20,l24)) (qP rfl) mB ht.symm
   rintro ⟨⟨a26,c27⟩,⟨l28,l29⟩⟩ τ ρ1 hsub48 hz;(try dsimp only at hz hsub48);subst q31;(try dsimp only at hb10);dsimp only [aG]
   refine an ?_
   exact be hb10 (a26,c27) (qP rfl) (PSub.trans mB hsub48)
  refine aQ ?_
  refine ar (ap hb10 (fun ht=>au rfl ?_))
  exact aW ((),l8) (oA rfl) fm ht.symm
 rintro ⟨_,l9⟩ τ hz;(try dsimp only at hz);subst q11;(try dsimp only at h);dsimp only [aG]
 refine ae (ah (bd 1 [(59,.v (.map (some b1)))] (by kernel_rfl) ?_))
 refine aD rfl (bo rfl rfl (ρ1:=[]) (List.Perm.refl _) (sV Tryd.lKeys rfl rfl rfl (ri Tryd.func43 rfl)) ?_);rintro _ _ ⟨b49,rfl,rfl⟩
 refine aa h fun l50 hl50 h=>?_
 refine aD rfl (bo rfl rfl (ρ1:=[_,_]) (aO (by exact bk) (aO (by exact bk) (List.Perm.refl _))) (oW Tryd.lKeys Tryd.lSorted Tryd.lSortI rfl rfl rfl rfl rfl rfl (ri Tryd.func42 rfl) (ri Tryd.func61 rfl) (ri Tryd.func60 rfl) rfl hl50) ?_);rintro _ _ ⟨a51,c52,rfl,rfl⟩
 refine aS [(4,pO a51 l50.length c52)] (by kernel_rfl) (aq ?_)
 refine eu (enc:=eI) (xs:=l50) 4 rfl (by exact bk) ?_
 refine cO ?_
 exact zz r h rfl
def cN (p0:(List Za)):Option (List (List Int)):=cond (decide (64<(p0.length:Int))) (some []) ((bi (S:=Int×(List (Int×(List Int)))) (T:=((List (Int×(List Int))))) (fun (v3,l4)=>cond (decide (v3<(p0.length:Int))) ((idx p0 v3).bind fun m9=>(dc p0 m9.ID).bind fun x11=>some (.inl ((IntKind.i64.wrap (v3+1)),(gQ l4 m9.ID x11)))) (some (.inr l4))) FUEL (0,([]:List (Int×(List Int))))).bind fun l5=>(bi (S:=Int×(List (Int×Int))×(List (Int×(List Int)))) (T:=((List (Int×Int))×(List (Int×(List Int))))) (fun (v14,l15,l16)=>cond (decide (v14<(p0.length:Int))) (((idx p0 v14).bind fun m25=>(cD p0 l5 m25.ID).bind fun x27=>(idx x27 0).bind fun m28=>(idx x27 0).bind fun m29=>cond (m29 == m25.ID) (some ((gQ l15 m25.ID m28),(gQ l16 m25.ID x27))) (some ((gQ l15 m25.ID m28),l16))).bind fun (l22,l23)=>some (.inl ((IntKind.i64.wrap (v14+1)),l22,l23))) (some (.inr (l15,l16)))) FUEL (0,([]:List (Int×Int)),([]:List (Int×(List Int))))).bind fun (l17,l18)=>(bi (S:=(List (List Int))×(List (Int×(List Int)))) (T:=((List (List Int)))) (fun (l32,l35)=>cond (decide (0<(l35.length:Int))) ((ck p0 l5 l17 l35).bind fun x44=>cond (!x44.2) (some (.inr l32)) ((app 24 l32 [((bH l35 x44.1).getD [])]).bind fun l48=>some (.inl (l48,(lY l35 x44.1))))) (some (.inr l32))) FUEL (([]:List (List Int)),l18)).bind fun l39=>some l39)
theorem fL {p0:(List Za)} {r:(List (List Int))}  (h:cN p0=some r):PF 16 [pL Za.enc p0] (pL (eL eI) r):=by
 unfold cN at h
 refine bz ?_
 refine aF Tryd.func16 rfl Tryd.ntmps16 Tryd.results16 rfl (ae (aH [2] (by kernel_rfl) (ff (ak [14,15] [(16,pB (decide (64<(p0.length:Int))))] (by kernel_rfl) (db rfl h (fun hc1 h=>?_) fun hc1 h=>?_)))))
 ·refine ae ?_
  refine ai [(2,pN)] (by kernel_rfl) (aq (pwc_nil 2 rfl (cO (aj ?_))))
  exact zz r h rfl
 refine al ?_
 refine bx (ah (aD rfl (fz kI (vL eI) rfl (fun b2=>aS [(3,.v (.map (some b2)))] (by kernel_rfl) (ff (ai [(18,pL Za.enc p0),(19,pI (p0.length:Int)),(20,pI 0)] (by kernel_rfl) (aq (aa h fun q7 hq7 h=>?_))))))))
 refine aM (Y:=Unit×((List (Int×(List Int))))) (fun (_,l5)=>[(0,pL Za.enc p0),(3,.v (.map (some b2)))]) (fun (_,l5)=>[PRes.mp (some b2) (ba kI (vL eI) l5)]) (fun (_,l5)=>q7=l5) ?_ ?_
 ·refine am ?_
  refine aN (Y:=Unit) (S:=Int×(List (Int×(List Int)))) _ hq7 (fun _ (v3,l4)=>[(0,pL Za.enc p0),(3,.v (.map (some b2))),(18,pL Za.enc p0),(19,pI (p0.length:Int)),(20,pI v3)]) (fun _ (v3,l4)=>[PRes.mp (some b2) (ba kI (vL eI) l4)]) () (qQ rfl) fm ?_
  rintro _ ⟨v3,l4⟩ o τ hb6;(try dsimp only at hb6);dsimp only [aG]
  refine ae (ai [(21,pB (decide (v3<(p0.length:Int))))] (by kernel_rfl) (bx (oz rfl hb6 (fun hc8 hb6=>?_) fun hc8 hb6=>?_)))
  ·refine al ?_
   refine bx (am (ae (aa hb6 fun m9 hm9 hb6=>ah (bp 2 [] [22] [(23,.agg (av m9))] (d8 0 Za.enc hm9 ce) (by kernel_rfl) (aD rfl (cU (cs:=[pI 0,pS ByteArray.empty,pS ByteArray.empty,pI 0,pB false,pN,pN]) rfl rfl rfl rfl (fun b10=>de rfl rfl (bG (vs:=(av m9)) rfl rfl rfl rfl rfl iP r8 (bL (aq (cI (ρd:=[PRes.mp (some b2) _]) [(0,0),(1,0),(2,0),(3,0),(4,0),(5,0),(6,1),(7,1)] _ (aO (bh bk) (List.Perm.refl _)) (by kernel_rfl) rfl (aa hb6 fun x11 hx11 hb6=>cB 7 [0,0] [25,27,28,29] [(24,.v (.map (some b2))),(26,pI m9.ID),(30,pL eI x11)] (dQ 6 (eG hx11) ce) (by kernel_rfl) (ot rfl rfl (eM (xs:=l4) (k:=m9.ID) (ek:=kI) (vv:=(vL eI)) (v:=x11) rfl rfl (fy rfl) rfl rfl dH rfl iP (dk (an (aq (ak [31] [(20,pI (IntKind.i64.wrap (v3+1)))] (by kernel_rfl) ?_))))))))))))))))))
   exact be hb6 () (qQ rfl) fm
  refine aQ ?_
  refine ar (ap hb6 (fun ht=>au rfl ?_))
  exact aW ((),l4) (pE rfl) fm ht.symm
 rintro ⟨_,l5⟩ τ hz;(try dsimp only at hz);subst q7;(try dsimp only at h);dsimp only [aG]
 refine ae (ah (aD rfl (fz kI vI rfl (fun b12=>aS [(6,.v (.map (some b12)))] (by kernel_rfl) (bx (ah (aD rfl (fz kI (vL eI) rfl (fun b13=>aS [(7,.v (.map (some b13)))] (by kernel_rfl) (ff (ai [(34,pL Za.enc p0),(35,pI (p0.length:Int)),(36,pI 0)] (by kernel_rfl) (aq (aa h fun q20 hq20 h=>?_)))))))))))))
 refine aM (Y:=Unit×((List (Int×Int))×(List (Int×(List Int))))) (fun (_,(l17,l18))=>[(0,pL Za.enc p0),(3,.v (.map (some b2))),(6,.v (.map (some b12))),(7,.v (.map (some b13)))]) (fun (_,(l17,l18))=>[PRes.mp (some b12) (ba kI vI l17),PRes.mp (some b13) (ba kI (vL eI) l18),PRes.mp (some b2) (ba kI (vL eI) l5)]) (fun (_,(l17,l18))=>q20=(l17,l18)) ?_ ?_
 ·refine am ?_
  refine aN (Y:=Unit) (S:=Int×(List (Int×Int))×(List (Int×(List Int)))) _ hq20 (fun _ (v14,l15,l16)=>[(0,pL Za.enc p0),(3,.v (.map (some b2))),(6,.v (.map (some b12))),(7,.v (.map (some b13))),(34,pL Za.enc p0),(35,pI (p0.length:Int)),(36,pI v14)]) (fun _ (v14,l15,l16)=>[PRes.mp (some b12) (ba kI vI l15),PRes.mp (some b13) (ba kI (vL eI) l16),PRes.mp (some b2) (ba kI (vL eI) l5)]) () (r7 rfl) (cL (bh bk) mB) ?_
  rintro _ ⟨v14,l15,l16⟩ o τ hb19;(try dsimp only at hb19);dsimp only [aG]
  refine ae (ai [(37,pB (decide (v14<(p0.length:Int))))] (by kernel_rfl) (bx (oz rfl hb19 (fun hc21 hb19=>?_) fun hc21 hb19=>?_)))
  ·refine al ?_
   refine bx (aa hb19 fun q24 hq24 hb19=>?_)
   refine aM (Y:=Unit×((List (Int×Int))×(List (Int×(List Int))))) (fun (_,(l22,l23))=>[(0,pL Za.enc p0),(3,.v (.map (some b2))),(6,.v (.map (some b12))),(7,.v (.map (some b13))),(34,pL Za.enc p0),(35,pI (p0.length:Int)),(36,pI v14)]) (fun (_,(l22,l23))=>[PRes.mp (some b12) (ba kI vI l22),PRes.mp (some b13) (ba kI (vL eI) l23),PRes.mp (some b2) (ba kI (vL eI) l5)]) (fun (_,(l22,l23))=>q24=(l22,l23)) ?_ ?_
   ·skip
    refine am (ae (aa hq24 fun m25 hm25 hq24=>ah (bp 2 [] [38] [(39,.agg (av m25))] (d8 0 Za.enc hm25 ce) (by kernel_rfl) (aD rfl (cU (cs:=[pI 0,pS ByteArray.empty,pS ByteArray.empty,pI 0,pB false,pN,pN]) rfl rfl rfl rfl (fun b26=>de rfl rfl (bG (vs:=(av m25)) rfl rfl rfl rfl rfl iP r8 (bL (bx (aa hq24 fun x27 hx27 hq24=>ah (cK 4 [0] [42] [(40,pL Za.enc p0),(41,.v (.map (some b2))),(43,pI m25.ID)] (by kernel_rfl) ?_)))))))))))
    refine aD rfl (bo rfl rfl (ρ1:=[_]) (aO (by exact bh (bh (bh bk))) (List.Perm.refl _)) (fp hx27) ?_);rintro _ _ ⟨rfl,rfl⟩
    refine aS [(10,pL eI x27)] (by kernel_rfl) (bx (cI (ρd:=[PRes.mp (some b12) _]) [(0,0),(1,0),(2,0),(3,0),(4,0),(5,0),(6,1)] _ (aO (bh (bh bk)) (List.Perm.refl _)) (by kernel_rfl) rfl (aa hq24 fun m28 hm28 hq24=>cB 6 [1] [46,48,49] [(45,.v (.map (some b12))),(47,pI m25.ID),(50,pI m28)] (d8 4 eI hm28 ce) (by kernel_rfl) (ot rfl rfl (eM (xs:=l15) (k:=m25.ID) (ek:=kI) (vv:=vI) (v:=m28) rfl rfl (fy rfl) rfl rfl dH rfl iP (dk (bx (cI (ρd:=[]) [(0,0),(1,0),(2,0),(3,0),(4,0),(5,0)] _ (List.Perm.refl _) (by kernel_rfl) rfl (aa hq24 fun m29 hm29 hq24=>cB 6 [2] (rg 51 5) [(56,pB (m29 == m25.ID))] (d8 1 eI hm29 ce) (by kernel_rfl) (dk (db rfl hq24 (fun hc30 hq24=>?_) fun hc30 hq24=>?_)))))))))))
    ·refine ah ?_
     refine cK 4 [2] [58] [(57,.v (.map (some b13))),(59,pI m25.ID),(60,pL eI x27)] (by kernel_rfl) (de rfl rfl (eM (xs:=l16) (k:=m25.ID) (ek:=kI) (vv:=(vL eI)) (v:=x27) rfl rfl (fy rfl) rfl rfl dH rfl (lH (lH (lH iP))) (bL (an ?_))))
     obtain rfl:=osi hq24
     exact aW ((),((gQ l15 m25.ID m28),(gQ l16 m25.ID x27))) (r7 rfl) (cL bk (cL (bh (bh bk)) fm)) rfl
    refine al ?_
    refine an ?_
    obtain rfl:=osi hq24
    exact aW ((),((gQ l15 m25.ID m28),l16)) (r7 rfl) (cL bk (cL (bh (bh bk)) fm)) rfl
   rintro ⟨_,⟨l22,l23⟩⟩ τ hz;(try dsimp only at hz);subst q24;(try dsimp only at hb19);dsimp only [aG]
   refine ak [61] [(36,pI (IntKind.i64.wrap (v14+1)))] (by kernel_rfl) ?_
   exact be hb19 () (r7 rfl) zs3
  refine aQ ?_
  refine ar (ap hb19 (fun ht=>au rfl ?_))
  exact aW ((),(l15,l16)) (lP rfl) zs3 ht.symm
 rintro ⟨_,⟨l17,l18⟩⟩ τ hz;(try dsimp only at hz);subst q20;(try dsimp only at h);dsimp only [aG]
 refine ae (ai [(11,pN)] (by kernel_rfl) (bx (dZ 23 1 (aa h fun q41 hq41 h=>?_))))
 refine aM (Y:=(Option Addr×Nat)×((List (List Int)))) (fun ((a37,c38),l39)=>[(11,pO a37 l39.length c38)]) (fun ((a37,c38),l39)=>[PRes.row a37 l39.length c38 23 1 (List.map (eL eI) l39)]) (fun ((a37,c38),l39)=>q41=l39) ?_ ?_
 ·refine am ?_
  refine aN (Y:=Option Addr×Nat) (S:=(List (List Int))×(List (Int×(List Int)))) _ hq41 (fun (a33,c34) (l32,l35)=>[(0,pL Za.enc p0),(3,.v (.map (some b2))),(6,.v (.map (some b12))),(7,.v (.map (some b13))),(11,pO a33 l32.length c34)]) (fun (a33,c34) (l32,l35)=>[PRes.mp (some b12) (ba kI vI l17),PRes.mp (some b13) (ba kI (vL eI) l35),PRes.mp (some b2) (ba kI (vL eI) l5),PRes.row a33 l32.length c34 23 1 (List.map (eL eI) l32)]) (none,0) (qQ rfl) (cL (bh bk) (cL (bh bk) (cL (bh bk) fm))) ?_
  rintro ⟨a33,c34⟩ ⟨l32,l35⟩ o τ hb40;(try dsimp only at hb40);dsimp only [aG]
  refine ae (ae (ah (bd 1 [(62,.v (.map (some b13)))] (by kernel_rfl) (cT rfl rfl rfl (show POpQ _ _ _ _ (.v (.int .i64 (l35.length:Int))) from pq_lenM (ek:=kI) (vv:=(vL eI)) (xs:=l35) rfl rfl (.p rfl) (dh th)) (aS [(64,pB (decide (0<(l35.length:Int))))] (by kernel_rfl) (db rfl hb40 (fun hc43 hb40=>?_) fun hc43 hb40=>?_))))))
  ·refine al ?_
   refine aq (am (ae (aa hb40 fun x44 hx44 hb40=>ah (bd 4 [(66,pL Za.enc p0),(67,.v (.map (some b2))),(68,.v (.map (some b12))),(69,.v (.map (some b13)))] (by kernel_rfl) ?_))))
   refine aD rfl (bo rfl rfl (ρ1:=[_,_,_]) (aO (by exact bh (bh bk)) (aO (by exact bk) (aO (by exact bk) (List.Perm.refl _)))) (eN hx44) ?_);rintro _ _ ⟨rfl,rfl⟩
   refine gT [65,71,72] [(12,pI x44.1),(13,pB x44.2)] (by kernel_rfl) (ff (ak [73] [(74,pB (!x44.2))] (by kernel_rfl) (db rfl hb40 (fun hc45 hb40=>?_) fun hc45 hb40=>?_)))
   ·refine aQ ?_
    refine ar (jj rfl (ap hb40 (fun ht=>au rfl ?_)))
    exact aW ((a33,c34),l32) (oA rfl) (cL (bh (bh (bh bk))) dd) ht.symm
   refine al ?_
   refine bx (ah (bd 3 [(75,pO a33 l32.length c34),(76,.v (.map (some b13))),(77,pI x44.1)] (by kernel_rfl) (cT rfl rfl rfl (show POpQ _ _ _ _ (pL eI ((bH l35 x44.1).getD [])) from d9 (xs:=l35) (k:=x44.1) (ek:=kI) (vv:=(vL eI)) (z0:=[]) rfl rfl rfl (fun _=>gp) (fy rfl) (.p rfl) (.p rfl) dH (dh zm2)) (aD rfl (cz rfl rfl rfl rfl rfl (gJ rfl kF) rfl rfl rfl rfl (fun b46=>aa hb40 fun l48 hl48 hb40=>?_))))))
   refine aD rfl (dg (enc:=(eL eI)) rfl rfl rfl rfl rfl rfl rfl rfl rfl kG (by exact bh (bh (bh (bh bk)))) hl48 (fun a49 c50=>?_))
   refine aS [(11,pO a49 l48.length c50)] (by kernel_rfl) (aq (ah (bd 2 [(81,.v (.map (some b13))),(82,pI x44.1)] (by kernel_rfl) (de rfl rfl (qF (xs:=l35) (k:=x44.1) (ek:=kI) (vv:=(vL eI)) rfl rfl rfl (fy rfl) rfl rfl dH (lH (lH (lH (lH iP)))) (bL (an ?_)))))))
   exact be hb40 (a49,c50) (qQ rfl) (cL (bh (bh (bh bk))) (cL (bh (bh (bh bk))) (cL (bh (bh bk)) fm)))
  refine aQ ?_
  refine ar (ap hb40 (fun ht=>au rfl ?_))
  exact aW ((a33,c34),l32) (oA rfl) (cL (bh (bh (bh bk))) dd) ht.symm
 rintro ⟨⟨a37,c38⟩,l39⟩ τ hz;(try dsimp only at hz);subst q41;(try dsimp only at h);dsimp only [aG]
 refine ae (ak [83] [(2,pO a37 l39.length c38)] (by kernel_rfl) (aq ?_))
 refine eu (enc:=(eL eI)) (xs:=l39) 2 rfl (by exact bk) ?_
 refine cO ?_
 exact zz r h rfl
def fD  : Option Bool:=(dx).bind fun x1=>(cN x1).bind fun x2=>(dx).bind fun x3=>(bc x3).bind fun x4=>(gd ((x4 == 0)&&((x2.length:Int) == 2)) (idx x2 0)).bind fun m5=>(gd ((x4 == 0)&&((x2.length:Int) == 2)) (ec m5 [3])).bind fun x7=>(gd (((x4 == 0)&&((x2.length:Int) == 2))&&x7) (idx x2 1)).bind fun m8=>(gd (((x4 == 0)&&((x2.length:Int) == 2))&&x7) (ec m8 [1,2])).bind fun x10=>(gd ((((x4 == 0)&&((x2.length:Int) == 2))&&x7)&&x10) (dx)).bind fun x11=>(gd ((((x4 == 0)&&((x2.length:Int) == 2))&&x7)&&x10) (dc x11 2)).bind fun x12=>(gd ((((x4 == 0)&&((x2.length:Int) == 2))&&x7)&&x10) (ec x12 [1,2,3])).bind fun x14=>(gd (((((x4 == 0)&&((x2.length:Int) == 2))&&x7)&&x10)&&x14) (dx)).bind fun x15=>(gd (((((x4 == 0)&&((x2.length:Int) == 2))&&x7)&&x10)&&x14) (ed x15 3)).bind fun x16=>(gd (((((x4 == 0)&&((x2.length:Int) == 2))&&x7)&&x10)&&x14) (ec x16 [1])).bind fun x18=>some ((((((x4 == 0)&&((x2.length:Int) == 2))&&x7)&&x10)&&x14)&&x18)
theorem kA  {r:Bool}  (h:fD  = some r):PF 14 [] (pB r):=by
 unfold fD at h
 refine bz ?_
 refine aF Tryd.func14 rfl Tryd.ntmps14 Tryd.results14 rfl (ae (aH [0] (by kernel_rfl) (bx (aa h fun x1 hx1 h=>aa h fun x2 hx2 h=>aK [] [2,3] [(1,pL (eL eI) x2)] (dQ 0 (dM hx1) (dQ 1 (fL hx2) ce)) (by kernel_rfl) (bx (aa h fun x3 hx3 h=>aa h fun x4 hx4 h=>aa h fun m5 hm5 h=>ah (bp 12 [] ((rg 4 8)++[13,14]) [(12,pB ((x4 == 0)&&((x2.length:Int) == 2))),(15,pgv ((x4 == 0)&&((x2.length:Int) == 2)) (pL eI m5))] (dQ 0 (dM hx3) (dQ 1 (cE hx4) (fV 10 (eL eI) (ca hm5) ce))) (by kernel_rfl) ?_)))))))
 refine iH (cH rfl rfl rfl) rfl rfl rfl rfl rfl rfl (fun _=>by (repeat (first | exact kF | apply gJ rfl))) rfl rfl rfl rfl ?_
 refine aa h fun x7 hx7 h=>eV (cH rfl rfl rfl) rfl rfl rfl (bt (.g rfl) (bt (.g rfl) d7)) (fun hc=>em (ca hx7 hc)) (cT rfl rfl rfl (gH rfl (.p rfl) (.p rfl) (.g rfl)) (aa h fun m8 hm8 h=>bp 4 [] [20,21] [(19,pB (((x4 == 0)&&((x2.length:Int) == 2))&&x7)),(22,pgv (((x4 == 0)&&((x2.length:Int) == 2))&&x7) (pL eI m8))] (fV 2 (eL eI) (ca hm8) ce) (by kernel_rfl) ?_))
 refine iH (cH rfl rfl rfl) rfl rfl rfl rfl rfl rfl (fun _=>by (repeat (first | exact kF | apply gJ rfl))) rfl rfl rfl rfl ?_
 refine aa h fun x10 hx10 h=>eV (cH rfl rfl rfl) rfl rfl rfl (bt (.g rfl) (bt (.g rfl) d7)) (fun hc=>em (ca hx10 hc)) (cT rfl rfl rfl (gH rfl (.p rfl) (.p rfl) (.g rfl)) (aa h fun x11 hx11 h=>aa h fun x12 hx12 h=>bp 3 [] [27] [(26,pB ((((x4 == 0)&&((x2.length:Int) == 2))&&x7)&&x10)),(28,pgv ((((x4 == 0)&&((x2.length:Int) == 2))&&x7)&&x10) (pL eI x12))] (fw 1 (fun hc=>dM (ca hx11 hc)) (fw 2 (fun hc=>eG (ca hx12 hc)) ce)) (by kernel_rfl) ?_))
 refine iH (cH rfl rfl rfl) rfl rfl rfl rfl rfl rfl (fun _=>by (repeat (first | exact kF | apply gJ rfl))) rfl rfl rfl rfl ?_
 refine aa h fun x14 hx14 h=>eV (cH rfl rfl rfl) rfl rfl rfl (bt (.g rfl) (bt (.g rfl) d7)) (fun hc=>em (ca hx14 hc)) (cT rfl rfl rfl (gH rfl (.p rfl) (.p rfl) (.g rfl)) (aa h fun x15 hx15 h=>aa h fun x16 hx16 h=>bp 3 [] [33] [(32,pB (((((x4 == 0)&&((x2.length:Int) == 2))&&x7)&&x10)&&x14)),(34,pgv (((((x4 == 0)&&((x2.length:Int) == 2))&&x7)&&x10)&&x14) (pL eI x16))] (fw 1 (fun hc=>dM (ca hx15 hc)) (fw 2 (fun hc=>hM (ca hx16 hc)) ce)) (by kernel_rfl) ?_))
 refine iH (cH rfl rfl rfl) rfl rfl rfl rfl rfl rfl (fun _=>by (repeat (first | exact kF | apply gJ rfl))) rfl rfl rfl rfl ?_
 refine aa h fun x18 hx18 h=>eV (cH rfl rfl rfl) rfl rfl rfl (bt (.g rfl) (bt (.g rfl) d7)) (fun hc=>em (ca hx18 hc)) (cT rfl rfl rfl (gH rfl (.p rfl) (.p rfl) (.g rfl)) (aS [(0,pB ((((((x4 == 0)&&((x2.length:Int) == 2))&&x7)&&x10)&&x14)&&x18))] (by kernel_rfl) (cC ?_)))
 exact zz r h rfl
def bX (p0:(List Za)) (p1:(List Int)) (p2:ByteArray):Option Bool:=(fZ p0).bind fun x1=>(bc x1).bind fun x2=>(fh x1).bind fun x3=>(gd (x2 == x3) (eX p1)).bind fun x4=>(gd (x2 == x3) (bc x4)).bind fun x5=>(gd ((x2 == x3)&&(x5 == 0)) (bg p2)).bind fun x6=>(gd (((x2 == x3)&&(x5 == 0))&&((p2.size:Int) == 2)) (idx p2.data.toList 0)).bind fun c7=>(gd (((x2 == x3)&&(x5 == 0))&&(((p2.size:Int) == 2)&&(decide (65≤(c7.toNat:Int))))) (idx p2.data.toList 0)).bind fun c8=>(gd (((x2 == x3)&&(x5 == 0))&&((((p2.size:Int) == 2)&&(decide (65≤(c7.toNat:Int))))&&(decide ((c8.toNat:Int)≤90)))) (idx p2.data.toList 1)).bind fun c9=>(gd (((x2 == x3)&&(x5 == 0))&&(((((p2.size:Int) == 2)&&(decide (65≤(c7.toNat:Int))))&&(decide ((c8.toNat:Int)≤90)))&&(decide (65≤(c9.toNat:Int))))) (idx p2.data.toList 1)).bind fun c10=>(gd (((x2 == x3)&&(x5 == 0))&&(x6 == ((((((p2.size:Int) == 2)&&(decide (65≤(c7.toNat:Int))))&&(decide ((c8.toNat:Int)≤90)))&&(decide (65≤(c9.toNat:Int))))&&(decide ((c10.toNat:Int)≤90))))) (fD)).bind fun x11=>some ((((x2 == x3)&&(x5 == 0))&&(x6 == ((((((p2.size:Int) == 2)&&(decide (65≤(c7.toNat:Int))))&&(decide ((c8.toNat:Int)≤90)))&&(decide (65≤(c9.toNat:Int))))&&(decide ((c10.toNat:Int)≤90)))))&&x11)
theorem gA {p0:(List Za)} {p1:(List Int)} {p2:ByteArray} {r:Bool}  (h:bX p0 p1 p2=some r):PF 3 [pL Za.enc p0,pL eI p1,pS p2] (pB r):=by
 unfold bX at h
 refine bz ?_
 refine aF Tryd.func3 rfl Tryd.ntmps3 Tryd.results3 rfl (ae (aH [6] (by kernel_rfl) (bx (aa h fun x1 hx1 h=>aK [] [7,8] [(0,pL Za.enc x1)] (dQ 1 (mj hx1) ce) (by kernel_rfl) (bx (aa h fun x2 hx2 h=>aa h fun x3 hx3 h=>aa h fun x4 hx4 h=>aa h fun x5 hx5 h=>aa h fun x6 hx6 h=>aa h fun c7 hc7 h=>aa h fun c8 hc8 h=>aa h fun c9 hc9 h=>aa h fun c10 hc10 h=>aa h fun x11 hx11 h=>aK [] (rg 9 42) [(6,pB ((((x2 == x3)&&(x5 == 0))&&(x6 == ((((((p2.size:Int) == 2)&&(decide (65≤(c7.toNat:Int))))&&(decide ((c8.toNat:Int)≤90)))&&(decide (65≤(c9.toNat:Int))))&&(decide ((c10.toNat:Int)≤90)))))&&x11))] (dQ 1 (cE hx2) (dQ 3 (kP hx3) (fw 7 (fun hc=>mn (ca hx4 hc)) (fw 8 (fun hc=>cE (ca hx5 hc)) (fw 13 (fun hc=>cV (ca hx6 hc)) (gu 19 (ca hc7) (gu 24 (ca hc8) (gu 29 (ca hc9) (gu 34 (ca hc10) (fw 40 (fun hc=>kA (ca hx11 hc)) ce)))))))))) (by kernel_rfl) (cC ?_)))))))
 exact zz r h rfl
end SX
end Go.Proofs.YtipjgkapcgpgbaaDoor
set_option maxRecDepth 100000
namespace Go.Proofs.YtipjgkapcgpgbaaDoor
namespace SX
open Go
section
variable {γ:Type} [Inhabited γ]
end
def kH (a b:ByteArray):Bool:=Op.bytesLess a.toList b.toList
theorem ltS_eq (a b:ByteArray):kH a b=decide (a.data.toList<b.data.toList):=by
 unfold kH;rw [bytesLess_eq,ByteArray.toList_eq,ByteArray.toList_eq]
end SX
end Go.Proofs.YtipjgkapcgpgbaaDoor
set_option maxRecDepth 100000
namespace Go.Proofs.YtipjgkapcgpgbaaDoor
namespace SX
open Go
end SX
end Go.Proofs.YtipjgkapcgpgbaaDoor
set_option maxRecDepth 100000
namespace Go.Proofs.YtipjgkapcgpgbaaDoor
namespace SX
open Go
theorem lq {S T:Type} {body:S→Option (S⊕T)} (P:S→Prop) (μ:S→Nat) (Q:T→Prop) (step:∀ s,P s→(∃ s',body s=some (.inl s')∧P s'∧μ s'<μ s)∨∃ t,body s=some (.inr t)∧Q t):∀ (N:Nat) (s:S),P s→μ s<N→∃ t,bi body N s=some t∧Q t:=by
 intro N
 induction N with
 | zero=>intro s _ h;exact absurd h (Nat.not_lt_zero _)
 | succ N ih =>
  intro s hp hm
  rw [dY]
  rcases step s hp with ⟨s',h1,h2,h3⟩ | ⟨t,h1,h2⟩
  ·rw [h1];exact ih s' h2 (by omega)
  rw [h1];exact ⟨t,rfl,h2⟩
theorem ix0 {α:Type} {a b:α}:idx [a,b] 0=some a:=rfl
theorem ix1 {α:Type} {a b:α}:idx [a,b] 1=some b:=rfl
theorem cap_eq (c:Int):bI c=some (decide (65≤c)&&decide (c≤90)):=rfl
def i5 (s:ByteArray):Bool:=match s.data.toList with | [a,b]=>decide (65≤(a.toNat:Int))&&decide ((a.toNat:Int)≤90)&&decide (65≤(b.toNat:Int))&&decide ((b.toNat:Int)≤90) | _=>false
theorem kB {s:ByteArray} (h:((s.size:Int) == 2)=true):∃ a b,s.data.toList=[a,b]:=by
 have h2:s.data.toList.length=2:=by
  have:=eq_of_beq h
  rw [Array.length_toList];have e:s.size=s.data.size:=rfl;omega
 match hd:s.data.toList,h2 with
 | [a,b],_=>exact ⟨a,b,rfl⟩
theorem mv {s:ByteArray} (h:((s.size:Int) == 2)=false):i5 s=false:=by
 unfold i5
 split
 ·rename_i a b hd
  have e:s.size=s.data.toList.length:=by rw [Array.length_toList];rfl
  rw [hd] at e
  have e2:(s.size:Int)=2:=by rw [e];rfl
  rw [e2] at h;cases h
 rfl
theorem fM (s:ByteArray):bg s=some (i5 s):=by
 unfold bg
 cases h:((s.size:Int) == 2)
 ·rw [mv h];rfl
 obtain ⟨a,b,hd⟩:=kB h
 simp only [Bool.true_and,bM,cap_eq]
 rw [hd]
 simp only [i5,hd]
 rw [pQ ix0]
 simp only [dq]
 cases h1:(decide (65≤(a.toNat:Int))&&decide ((a.toNat:Int)≤90))
 ·rfl
 simp only [bM,Bool.true_and];rw [pQ ix1];rfl
theorem nQ (s:ByteArray):cM s=some (i5 s):=by
 unfold cM
 cases h:((s.size:Int) == 2)
 ·rw [mv h];rfl
 obtain ⟨a,b,hd⟩:=kB h
 simp only [Bool.true_and,bM]
 rw [hd]
 simp only [i5,hd]
 rw [pQ ix0]
 cases h1:decide (65≤(a.toNat:Int))
 ·rfl
 simp only [bM,Bool.true_and];rw [pQ ix0]
 cases h2:decide ((a.toNat:Int)≤90)
 ·rfl
 simp only [bM,Bool.true_and];rw [pQ ix1]
 cases h3:decide (65≤(b.toNat:Int))
 ·rfl
 simp only [bM,Bool.true_and];rw [pQ ix1]
theorem qG (s:ByteArray) (hs:s.size≤140737488355328):dv s=some (bJ s):=by
 have hz:s.size=s.data.toList.length:=by rw [Array.length_toList];rfl
 unfold dv
 obtain ⟨t,h5,h6⟩:=lq (body:=fun v1=>cond (decide (v1<(s.size:Int))) (Option.bind (idx s.data.toList v1) (fun c5=>Option.bind (gd (!(decide ((c5.toNat:Int)<48))) (idx s.data.toList v1)) (fun c6=>cond ((decide ((c5.toNat:Int)<48))||(decide (57<(c6.toNat:Int)))) (some (.inr (.inr 0))) (some (.inl (IntKind.i64.wrap (v1+1))))))) (some (.inr (.inl ()))))
  (fun v:Int=>0≤v∧v≤s.size∧∀ j,(h:j<s.data.toList.length)→(j:Int)<v→dN (s.data.toList[j]).toNat=true) (fun v=>(s.size:Int).toNat - v.toNat) (fun t:Unit⊕Int=>(t=.inl ()∧ee s=true)∨(t=.inr 0∧ee s=false))
  (fun v hv=>by
   obtain ⟨a1,a2,a3⟩:=hv
   by_cases hl:v<(s.size:Int)
   ·rw [det hl];simp only [dA]
    obtain ⟨k,rfl⟩:∃ k:Nat,v=(k:Int):=⟨v.toNat,by omega⟩
    have hk:k<s.data.toList.length:=by omega
    rw [pQ (cg hk)]
    by_cases hd:dN (s.data.toList[k]).toNat=true
    ·left
     have hd2:=hd
     simp only [dN,decide_eq_true_eq] at hd2
     rw [dS (show ¬ ((s.data.toList[k].toNat:Nat):Int)<48 by omega)]
     simp only [Bool.not_false,bM,Bool.false_or]
     rw [pQ (cg hk),dS (show ¬ 57<((s.data.toList[k].toNat:Nat):Int) by omega)]
     simp only [ef]
     rw [gr (by omega) (by omega)]
     refine ⟨_,rfl,⟨by omega,by omega,fun j h1 h2=>?_⟩,by omega⟩
     by_cases hj:j=k
     ·subst hj;exact hd
     exact a3 j h1 (by omega)
    right
    refine ⟨.inr 0,?_,.inr ⟨rfl,?_⟩⟩
    ·have hd2:=hd
     simp only [dN,decide_eq_true_eq] at hd2
     by_cases h48:((s.data.toList[k].toNat:Nat):Int)<48
     ·rw [det h48];rfl
     rw [dS h48]
     simp only [Bool.not_false,bM,Bool.false_or]
     rw [pQ (cg hk),det (show 57<((s.data.toList[k].toNat:Nat):Int) by omega)];rfl
    cases ha:ee s
    ·rfl
    exfalso;apply hd
    unfold ee bl at ha
    exact List.all_eq_true.1 ha _ (List.getElem_mem hk)
   right
   rw [dS hl]
   refine ⟨.inl (),rfl,.inl ⟨rfl,?_⟩⟩
   unfold ee bl
   rw [List.all_eq_true]
   intro c hc
   obtain ⟨j,hj,rfl⟩:=List.getElem_of_mem hc
   exact a3 j hj (by omega))
  FUEL 0 ⟨by omega,by omega,fun j _ h=>by omega⟩ (iE (by omega))
 rw [pQ h5]
 unfold bJ
 rcases h6 with ⟨rfl,h⟩ | ⟨rfl,h⟩
 ·simp only [h,and_true]
  by_cases h8:(8:Int)<(s.size:Int)
  ·rw [det h8,if_neg (by omega)];rfl
  rw [dS h8]
  simp only [Bool.false_or]
  have e:Int.tmod (s.size:Int) 2=(s.size:Int) % 2:=Int.tmod_eq_emod_of_nonneg (by omega)
  rw [e]
  by_cases hp:(s.size:Int) % 2=1
  ·rw [hp,if_neg (by omega)];rfl
  have:((s.size:Int) % 2 == 1)=false:=by simpa using hp
  rw [this]
  by_cases h0:s.size=0
  ·rw [if_neg (by omega),h0];rfl
  rw [if_pos (by omega)];rfl
 simp [h]
theorem i6 (s:ByteArray):s.size=s.data.toList.length:=by rw [Array.length_toList];rfl
def ik (c:UInt8):Bool:=decide (97≤c.toNat)&&decide (c.toNat≤122)
def fj (s:ByteArray):Bool:=decide (1≤s.size)&&decide (s.size≤12)&&s.data.toList.all ik
theorem sZ (s:ByteArray) (hs:s.size≤140737488355328):fg s=some (fj s):=by
 unfold fg fj
 have hz:=i6 s
 rw [hz] at hs ⊢
 generalize s.data.toList=l at hs ⊢
 refine (cq (l:=l) (by omega) (fun _ c=>cond (ik c) none (some (.inr false))) (.inl ()) (fun k hk=>?_) (by simp only [jv,ef])).trans ?_
 ·simp only [qR hk,dA,cg hk,dq,gw hk (show l.length≤4611686018427387904 by omega),ik]
  generalize l[k]=c
  by_cases h1:c.toNat<97
  ·rw [show decide ((c.toNat:Int)<97)=true from det (by omega),show decide (97≤c.toNat)=false from dS (by omega)];rfl
  rw [show decide ((c.toNat:Int)<97)=false from dS (by omega),show decide (97≤c.toNat)=true from det (by omega)]
  simp only [Bool.not_false,bM,dq,Bool.false_or,Bool.true_and]
  by_cases h2:122<c.toNat
  ·rw [show decide ((122:Int)<(c.toNat:Int))=true from det (by omega),show decide (c.toNat≤122)=false from dS (by omega)];rfl
  rw [show decide ((122:Int)<(c.toNat:Int))=false from dS (by omega),show decide (c.toNat≤122)=true from det (by omega)];rfl
 rw [ll]
 have i1:decide ((1:Int)≤(l.length:Int))=decide (1≤l.length):=decide_eq_decide.2 (by omega)
 have i2:decide ((l.length:Int)≤(12:Int))=decide (l.length≤12):=decide_eq_decide.2 (by omega)
 cases l.all ik
 ·simp
 simp [i1,i2]
theorem qH (s:ByteArray) (hs:s.size≤140737488355328):dO s=some (fj s):=by
 unfold dO fj
 have i1:decide ((s.size:Int)<1) = !decide (1≤s.size):=by rw [← decide_not];exact decide_eq_decide.2 (by omega)
 have i2:decide ((12:Int)<(s.size:Int)) = !decide (s.size≤12):=by rw [← decide_not];exact decide_eq_decide.2 (by omega)
 rw [i1,i2]
 cases h1:decide (1≤s.size)
 ·rfl
 cases h2:decide (s.size≤12)
 ·rfl
 simp only [Bool.not_true,Bool.or_self,ef,Bool.true_and]
 have key:∀ n pos N,s.size - pos=n→pos≤s.size→n<N→bi (dy s) N pos=some ((s.data.toList.drop pos).all ik):=by
  intro n
  induction n with
  | zero =>
   intro pos N hn hp hN
   obtain ⟨N,rfl⟩:∃ M,N=M+1:=⟨N - 1,by omega⟩
   have:Nat.blt pos s.size=false:=by cases hb:Nat.blt pos s.size;rfl;simp [Nat.blt] at hb;omega
   rw [dY,dy,this]
   rw [List.drop_of_length_le (by rw [← i6];omega)];rfl
  | succ n ih =>
   intro pos N hn hp hN
   obtain ⟨N,rfl⟩:∃ M,N=M+1:=⟨N - 1,by omega⟩
   have hlt:pos<s.size:=by omega
   have hb:Nat.blt pos s.size=true:=by simp [Nat.blt];omega
   have hlt2:pos<s.data.toList.length:=by rw [← i6];exact hlt
   have hget:s[pos]=s.data.toList[pos]:=by
    rw [Array.getElem_toList];rfl
   rw [dY,dy,hb,List.drop_eq_getElem_cons hlt2,List.all_cons,← hget]
   by_cases ha:(s[pos]'hlt).toNat<128
   ·rw [decode_ascii s pos hlt ha]
    simp only [dA,ik]
    by_cases h1:(s[pos]'hlt).toNat<97
    ·rw [show decide (((s[pos]'hlt).toNat:Int)<97)=true from det (by omega),show decide (97≤(s[pos]'hlt).toNat)=false from dS (by omega)];rfl
    by_cases h2:122<(s[pos]'hlt).toNat
    ·rw [show decide ((122:Int)<((s[pos]'hlt).toNat:Int))=true from det (by omega),show decide ((s[pos]'hlt).toNat≤122)=false from dS (by omega),Bool.or_true,Bool.and_false];rfl
    rw [dS (by omega),dS (by omega),det (Nat.not_lt.1 h1),det (Nat.not_lt.1 h2)]
    exact ih (pos+1) N (by omega) (by omega) (by omega)
   have hh:=decode_high s pos hlt (by omega)
   have h122:¬ (s[pos]'hlt).toNat≤122:=by omega
   have:decide (122<((Utf8.decode s pos).1:Int))=true:=det (by omega)
   simp [this,ik,h122]
 have:=key s.size 0 FUEL (by omega) (by omega) (iE (by omega))
 rw [this,List.drop_zero]
def gB (lt:ByteArray→ByteArray→Bool):List ByteArray→Bool
 | []=>true
 | [_]=>true
 | a::b::l=>lt a b&&gB lt (b::l)
def iJ (p:ByteArray→Bool) (l:List ByteArray) (k:Nat) (x:ByteArray):Bool:=p x&&(!decide (0<k)||kH (l.getD (k - 1) x) x)
theorem nR (p:ByteArray→Bool) (l:List ByteArray):(∀ i x,l[i]?=some x→iJ p l i x=true)↔(l.all p&&gB kH l)=true:=by
 have key:∀ (l:List ByteArray),(∀ i,(h:i+1<l.length)→kH l[i] l[i+1]=true)↔gB kH l=true:=by
  intro l
  induction l with
  | nil=>simp [gB]
  | cons a l ih =>
   cases l with
   | nil=>simp [gB]
   | cons b l =>
    rw [gB,Bool.and_eq_true,← ih]
    constructor
    ·intro h;exact ⟨h 0 (by simp),fun i hi=>h (i+1) (by simpa using hi)⟩
    rintro ⟨h1,h2⟩ i hi
    cases i with
    | zero=>exact h1
    | succ i=>exact h2 i (by simpa using hi)
 rw [Bool.and_eq_true,← key,List.all_eq_true]
 constructor
 ·intro h
  refine ⟨fun x hx=>?_,fun i hi=>?_⟩
  ·obtain ⟨i,hi,rfl⟩:=List.getElem_of_mem hx
   have:=h i _ (List.getElem?_eq_getElem hi)
   simp only [iJ,Bool.and_eq_true] at this
   exact this.1
  have:=h (i+1) _ (List.getElem?_eq_getElem hi)
  simp only [iJ,Bool.and_eq_true,Nat.zero_lt_succ,decide_true,Bool.not_true,Bool.false_or,Nat.add_sub_cancel] at this
  rw [fA (by omega)] at this
  exact this.2
 rintro ⟨h1,h2⟩ i x hx
 obtain ⟨hi,rfl⟩:=List.getElem?_eq_some_iff.1 hx
 simp only [iJ,h1 _ (List.getElem_mem hi),Bool.true_and]
 by_cases h0:0<i
 ·rw [det h0,Bool.not_true,Bool.false_or,fA (by omega)]
  obtain ⟨j,rfl⟩:∃ j,i=j+1:=⟨i - 1,by omega⟩
  exact h2 j hi
 simp [h0]
theorem lr {T:Type} (p:ByteArray→Bool) (l:List ByteArray) (t:T):bu (fun k x=>cond (iJ p l k x) none (some t)) l 0=cond (l.all p&&gB kH l) none (some t):=by
 have hn:=ii (g:=fun k x=>cond (iJ p l k x) none (some t)) (l:=l) (k:=0)
 cases h:(l.all p&&gB kH l)
 ·cases hf:bu (fun k x=>cond (iJ p l k x) none (some t)) l 0 with
  | none =>
   exfalso
   have:(l.all p&&gB kH l)=true:=by
    rw [← nR]
    intro i x hx
    have:=hn.1 hf i x hx
    rw [Nat.zero_add] at this
    cases hk:iJ p l i x
    ·rw [hk] at this;cases this
    rfl
   rw [h] at this;cases this
  | some u =>
   have:∀ (m:List ByteArray) (k:Nat) (u:T),bu (fun k x=>cond (iJ p l k x) none (some t)) m k=some u→u=t:=by
    intro m
    induction m with
    | nil=>intro k u h;cases h
    | cons x m ih =>
     intro k u h
     rw [bu] at h
     cases hk:iJ p l k x
     ·rw [hk] at h;injection h with h;exact h.symm
     rw [hk] at h;exact ih _ _ h
   rw [this _ _ _ hf];rfl
 rw [dA,hn]
 intro i x hx
 rw [Nat.zero_add,(nR p l).2 h i x hx];rfl
def eE (l:List ByteArray):Bool:=decide (l.length≤8)&&(l.all fj&&gB kH l)
def StrsOk (l:List ByteArray):Prop:=l.length≤140737488355328∧∀ s∈l,s.size≤140737488355328
theorem kC (l:List ByteArray) (hl:StrsOk l):cu l=some (eE l):=by
 obtain ⟨hl,hs⟩:=hl
 unfold cu eE
 have i2:decide ((8:Int)<(l.length:Int)) = !decide (l.length≤8):=by rw [← decide_not];exact decide_eq_decide.2 (by omega)
 rw [i2]
 cases decide (l.length≤8)
 ·rfl
 simp only [Bool.not_true,ef,Bool.true_and]
 refine (cq (l:=l) (by omega) (fun k x=>cond (iJ fj l k x) none (some (.inr false))) (.inl ()) (fun k hk=>?_) (by simp only [jv,ef])).trans ?_
 ·have h62:l.length≤4611686018427387904:=by omega
  simp only [qR hk,dA,cg hk,dq,qH _ (hs _ (List.getElem_mem hk)),d0k,gw hk h62,iJ]
  cases hw:fj l[k]
  ·rfl
  by_cases h0:0<k
  ·simp only [h0,decide_true,Bool.not_true,Bool.not_false,Bool.and_true,Bool.true_and,Bool.false_or,bM,ew h0 hk h62,dq,fA (show k - 1<l.length by omega),kH,str_tot]
   cases Op.bytesLess (l[k-1]'(by omega)).toList l[k].toList <;> rfl
  simp only [h0,decide_false,Bool.and_false,hU,dq,Bool.not_true,Bool.false_or,Bool.false_and,ef,Bool.not_false,Bool.true_and,Bool.true_or,Bool.or_false];rfl
 rw [lr]
 cases (l.all fj&&gB kH l) <;> rfl
end SX
end Go.Proofs.YtipjgkapcgpgbaaDoor
set_option maxRecDepth 100000
namespace Go.Proofs.YtipjgkapcgpgbaaDoor
namespace SX
open Go
theorem len0' {α:Type} (l:List α):decide (0<(l.length:Int)) = !l.isEmpty:=by cases l with
 | nil=>rfl
 | cons a l=>exact det (by rw [List.length_cons];omega)
end SX
end Go.Proofs.YtipjgkapcgpgbaaDoor
set_option maxRecDepth 100000
namespace Go.Proofs.YtipjgkapcgpgbaaDoor
namespace SX
open Go
theorem ga {α T U:Type} (f:T→U) (g:Nat→α→Option T):∀ (m:List α) (i:Nat),bu (fun k x=>(g k x).map f) m i=(bu g m i).map f
 | [],_=>rfl
 | x::m,i=>by rw [bu,bu];cases g i x with | none=>exact ga f g m _ | some t=>rfl
end SX
end Go.Proofs.YtipjgkapcgpgbaaDoor
set_option maxRecDepth 100000
namespace Go.Proofs.YtipjgkapcgpgbaaDoor
namespace SX
open Go
def Y {α:Type} (x:Option α) (P:α→Prop):Prop:=∃ a,x=some a∧P a
section
variable {α β S T:Type} {x y:Option α} {P P':α→Prop} {Q:β→Prop} {f:α→Option β} {a:α} {c:Bool}
theorem Y.bind (h:Y x P) (k:∀ a,P a→Y (f a) Q):Y (x.bind f) Q:=by
 obtain ⟨a,h1,h2⟩:=h;rw [h1];exact k a h2
theorem Y.ret (h:P a):Y (some a) P:=⟨a,rfl,h⟩
theorem Y.mono (h:Y x P) (k:∀ a,P a→P' a):Y x P':=by obtain ⟨a,h1,h2⟩:=h;exact ⟨a,h1,k a h2⟩
theorem Y.cond (h:c=true→Y x P) (k:c=false→Y y P):Y (cond c x y) P:=by cases c;exact k rfl;exact h rfl
theorem Y.eq {r:α} (h:x=some r) (k:Y (f r) Q):Y (x.bind f) Q:=by rw [h];exact k
theorem Y.loop {body:S→Option (S⊕T)} {R:T→Prop} {s:S} (I:S→Prop) (μ:S→Nat) (h0:I s) (hm:μ s≤1267650600228229401496703205000) (step:∀ s,I s→Y (body s) (fun o=>match o with | .inl s'=>I s'∧μ s'<μ s | .inr t=>R t)):Y (bi body FUEL s) R:=by
 obtain ⟨t,h1,h2⟩:=lq (body:=body) I μ R (fun s hs=>by
  obtain ⟨o,k1,k2⟩:=step s hs
  cases o with
  | inl s'=>exact .inl ⟨s',k1,k2⟩
  | inr t=>exact .inr ⟨t,k1,k2⟩) FUEL s h0 (iE hm)
 exact ⟨t,h1,h2⟩
theorem Y.idx {xs:List α} {i:Int} {n:Nat} (h:i=(n:Int)) (hn:n<xs.length) (k:Y (f xs[n]) Q):Y ((idx xs i).bind f) Q:=by subst h;rw [cg hn];exact k
theorem Y.gdp [Inhabited α] {z:Option (α×β)} {m:β} {R:α×β→Prop} (h:c=true→Y z R) (k:c=false→R (default,m)):Y (gdp c z m) R:=by
 cases c
 ·exact ⟨_,rfl,k rfl⟩
 exact h rfl
end
theorem qI (a n:Int) (h1:1≤n) (h2:n≤4611686018427387904):∃ r,ex a n=some r∧0≤r∧r<n:=by
 have hl:=Int.tmod_lt_of_pos a (show 0<n by omega)
 have hl2:=Int.tmod_lt_of_pos (-a) (show 0<n by omega)
 rw [Int.neg_tmod] at hl2
 unfold ex nz lb
 rw [if_neg (by omega),gr (by omega) (by omega)]
 exact ⟨_,rfl,Int.tmod_nonneg _ (by omega),Int.tmod_lt_of_pos _ (by omega)⟩
def SOK (p:Zc):Prop:=0≤p.I∧p.I≤p.L.length∧p.L.length≤1000000000000000
theorem next_ok {p:Zc} (hp:SOK p) (n:Int) (h1:1≤n) (h2:n≤4611686018427387904):∃ r q,aE p n=some (r,q)∧0≤r∧r<n∧SOK q:=by
 obtain ⟨a1,a2,a3⟩:=hp
 unfold aE
 by_cases h:(p.L.length:Int)≤p.I
 ·rw [det h];exact ⟨_,_,rfl,by omega,by omega,a1,a2,a3⟩
 rw [dS h,gr (r:=p.I+1) (by omega) (by omega),gr (by omega) (by omega)]
 simp only [ef]
 have e:idx p.L (p.I+1 - 1)=some (p.L[p.I.toNat]'(by omega)):=by
  unfold idx;rw [if_pos (by omega)]
  have:(p.I+1 - 1).toNat=p.I.toNat:=by omega
  rw [this];exact List.getElem?_eq_getElem _
 rw [pQ e]
 obtain ⟨r,h3,h4,h5⟩:=qI (p.L[p.I.toNat]'(by omega)) n h1 h2
 rw [pQ h3]
 exact ⟨_,_,rfl,h4,h5,by simp only;omega,by simp only;omega,a3⟩
theorem cut_ok (l:List Int) (n:Int) (h:0≤n) (h2:n≤1000):∃ m,f0 l n=some m∧(m.length:Int)≤n:=by
 unfold f0
 by_cases h1:n<(l.length:Int)
 ·rw [det h1]
  have e:sub l 0 n=some ((l.take n.toNat).drop 0):=by unfold sub;rw [if_pos (by omega)];rfl
  simp only [dA];rw [pQ e];exact ⟨_,rfl,by simp;omega⟩
 rw [dS h1];exact ⟨_,rfl,by omega⟩
theorem fk {p:Zc} (hp:SOK p) (n:Int) (h1:1≤n) (h2:n≤4611686018427387904):Y (aE p n) (fun r=>0≤r.1∧r.1<n∧SOK r.2):=by
 obtain ⟨r,q,h3,h4,h5,h6⟩:=next_ok hp n h1 h2;exact ⟨(r,q),h3,h4,h5,h6⟩
theorem cut_Y (l:List Int) (n:Int) (h:0≤n) (h2:n≤1000):Y (f0 l n) (fun m=>SOK ⟨m,0⟩):=by
 obtain ⟨m,h3,h4⟩:=cut_ok l n h h2
 exact ⟨m,h3,by dsimp only;omega,by dsimp only;omega,by dsimp only;omega⟩
end SX
end Go.Proofs.YtipjgkapcgpgbaaDoor
set_option maxRecDepth 100000
namespace Go.Proofs.YtipjgkapcgpgbaaDoor
namespace SX
open Go
theorem ltS_tr (x y z:ByteArray) (h1:kH x y=true) (h2:kH y z=true):kH x z=true:=by
 rw [ltS_eq] at *;exact det (List.lt_trans (of_decide_eq_true h1) (of_decide_eq_true h2))
theorem iK:∀ l:List ByteArray,gB kH l=true↔l.Pairwise (fun a b=>kH a b=true)
 | []=>by simp [gB]
 | [a]=>by simp [gB]
 | a::b::l=>by
  rw [gB,Bool.and_eq_true,iK (b::l)]
  constructor
  ·rintro ⟨h1,h2⟩
   refine List.pairwise_cons.2 ⟨fun c hc=>?_,h2⟩
   rcases List.mem_cons.1 hc with rfl | hc
   ·exact h1
   exact ltS_tr _ _ _ h1 ((List.pairwise_cons.1 h2).1 c hc)
  intro h;obtain ⟨h1,h2⟩:=List.pairwise_cons.1 h;exact ⟨h1 b (by simp),h2⟩
theorem mw {α:Type} {l C:List α} {v:Nat} (h:l.Sublist (C.take v)) (hv:v<C.length):(l++[C[v]]).Sublist (C.take (v+1))∧l.Sublist (C.take (v+1)):=by
 have e:C.take (v+1)=C.take v++[C[v]]:=by rw [List.take_add_one,List.getElem?_eq_getElem hv];rfl
 rw [e]
 exact ⟨h.append (List.Sublist.refl _),h.trans (List.sublist_append_left _ _)⟩
def C6:List ByteArray:=[(⟨#[65,65]⟩:ByteArray),(⟨#[66,66]⟩:ByteArray),(⟨#[67,67]⟩:ByteArray),(⟨#[68,68]⟩:ByteArray),(⟨#[69,69]⟩:ByteArray),(⟨#[70,70]⟩:ByteArray)]
theorem C6_ok:C6.all i5=true∧gB kH C6=true∧(C6.all fun s=>decide (s.size≤100))=true:=⟨by kernel_rfl,by kernel_rfl,by kernel_rfl⟩
theorem my:dK=some C6:=rfl
theorem p5 (v:Nat):tg (v:Int)=some ():=by unfold tg;rw [if_pos (by omega)]
end SX
end Go.Proofs.YtipjgkapcgpgbaaDoor
set_option maxRecDepth 100000
namespace Go.Proofs.YtipjgkapcgpgbaaDoor
namespace SX
open Go
end SX
end Go.Proofs.YtipjgkapcgpgbaaDoor
set_option maxRecDepth 100000
namespace Go.Proofs.YtipjgkapcgpgbaaDoor
namespace SX
open Go
theorem strs_of {κ:Kr} {ps:List PV} {vs:List Value} {k:Nat} {l:List ByteArray} (h:Rps κ ps vs) (hk:ps[k]?=some (pL eS l)):StrsOk l:=by
 refine ⟨by have:=mh h hk;simpa using this,fun s hs=>?_⟩
 obtain ⟨ds,hd⟩:=nK h hk (List.mem_map_of_mem (f:=eS) hs)
 exact pX (k:=0) hd rfl
end SX
end Go.Proofs.YtipjgkapcgpgbaaDoor
set_option maxRecDepth 100000
namespace Go.Proofs.YtipjgkapcgpgbaaDoor
namespace SX
open Go
def opt2 {α:Type} (z:α):Option α→α×Bool
 | some r=>(r,true)
 | none=>(z,false)
end SX
end Go.Proofs.YtipjgkapcgpgbaaDoor
set_option maxRecDepth 100000
namespace Go.Proofs.YtipjgkapcgpgbaaDoor
namespace SX
open Go
theorem nS {α T:Type} (p:α→Bool) (f:Nat→T):∀ (l:List α) (i:Nat),(bu (fun k x=>cond (p x) (some (f k)) none) l i=none∧l.find? p=none)∨∃ j,∃ h:j<l.length,bu (fun k x=>cond (p x) (some (f k)) none) l i=some (f (i+j))∧l.find? p=some l[j]
 | [],_=>.inl ⟨rfl,rfl⟩
 | x::xs,i=>by
  rw [bu,List.find?_cons]
  cases hp:p x
  ·rcases nS p f xs (i+1) with ⟨h1,h2⟩ | ⟨j,hj,h1,h2⟩
   ·exact .inl ⟨h1,h2⟩
   exact .inr ⟨j+1,by simpa using hj,by rw [show i+(j+1)=i+1+j by omega];exact h1,h2⟩
  exact .inr ⟨0,by simp,rfl,rfl⟩
end SX
end Go.Proofs.YtipjgkapcgpgbaaDoor
set_option maxRecDepth 100000
namespace Go.Proofs.YtipjgkapcgpgbaaDoor
namespace SX
open Go
def Digs (l:List Int):Prop:=∀ x∈l,48≤x∧x≤57
theorem code_Y {p:Zc} (hp:SOK p) (n:Nat) (hn:n=6∨n=8):Y (cr p (n:Int)) (fun r=>(∃ l:List Int,r.1=strOfNums l∧l.length=n∧Digs l)∧SOK r.2):=by
 unfold cr
 refine (fk hp 2 (by omega) (by omega)).bind fun a ⟨a1,a2,a3⟩=>?_
 rw [gr (by omega) (by omega),pr (by omega)]
 refine Y.bind (P:=fun t:List Int×List Int×Int=>t.1.length=n∧Digs t.1∧SOK ⟨t.2.1,t.2.2⟩) ?_ fun t ⟨t1,t2,t3⟩=>?_
 ·refine Y.loop (fun s:List Int×List Int×Int=>(s.1.length % 2=0∧s.1.length≤n)∧Digs s.1∧SOK ⟨s.2.1,s.2.2⟩) (fun s=>n - s.1.length) ⟨⟨by simp,by simp;omega⟩,fun x hx=>by simp at hx;omega,a3⟩ (by dsimp only;omega) fun s hs=>?_
  obtain ⟨l,m,i⟩:=s
  obtain ⟨⟨s0,s1⟩,s2,s3⟩:=hs
  dsimp only at s0 s1 s2 s3 ⊢
  refine Y.cond (fun hc=>?_) (fun hc=>Y.ret ⟨by have:=of_decide_eq_false hc;dsimp only;omega,s2,s3⟩)
  have hc:=of_decide_eq_true hc
  refine (fk s3 3 (by omega) (by omega)).bind fun x ⟨x1,x2,x3⟩=>?_
  rw [kp (by simp;omega) (by simp;omega),dq,gr (by omega) (by omega),pr (by omega)]
  refine Y.ret ⟨⟨⟨by simp;omega,by simp;omega⟩,fun z hz=>?_,x3⟩,by simp;omega⟩
  rcases List.mem_append.1 hz with hz | hz
  ·exact s2 z hz
  simp only [List.mem_cons,List.not_mem_nil,or_false] at hz;omega
 obtain ⟨l,m,i⟩:=t
 exact Y.ret ⟨⟨l,rfl,t1,t2⟩,t3⟩
theorem s7 {l:List Int} {n:Nat} (hn:n=6∨n=8) (h1:l.length=n) (h2:Digs l):bJ (strOfNums l)=(n:Int)∧(strOfNums l).size=n:=by
 have hs:(strOfNums l).size=n:=by
  unfold strOfNums
  show (Array.mk _).size=n
  simp [h1]
 have hd:ee (strOfNums l)=true:=by
  unfold ee bl strOfNums
  rw [List.all_eq_true]
  intro c hc
  simp only [List.mem_map] at hc
  obtain ⟨x,hx,rfl⟩:=hc
  have:=h2 x hx
  have h3:(UInt8.ofNat x.toNat).toNat=x.toNat:=by
   rw [UInt8.toNat_ofNat'];omega
  simp only [dN,h3,decide_eq_true_eq]
  omega
 refine ⟨?_,hs⟩
 unfold bJ
 rw [if_pos ⟨by omega,hd⟩,hs]
def W5:List ByteArray:=[(⟨#[97,110,100]⟩:ByteArray),(⟨#[99,117,116]⟩:ByteArray),(⟨#[111,114]⟩:ByteArray),(⟨#[115,101,119]⟩:ByteArray),(⟨#[115,112,105,110]⟩:ByteArray)]
theorem W5_ok:W5.all fj=true∧gB kH W5=true∧(W5.all fun s=>decide (s.size≤100))=true:=⟨by kernel_rfl,by kernel_rfl,by kernel_rfl⟩
theorem nT {p:Zc} (hp:SOK p):Y (bA p) (fun r=>r.1.Sublist W5∧SOK r.2):=by
 unfold bA
 refine (fk hp 32 (by omega) (by omega)).bind fun a ⟨a1,a2,a3⟩=>?_
 refine Y.bind (P:=fun l:List ByteArray=>l.Sublist W5) ?_ fun l hl=>Y.ret ⟨hl,a3⟩
 refine Y.loop (fun s=>∃ v:Nat,s.2=(v:Int)∧v≤5∧s.1.Sublist (W5.take v)) (fun s=>(5 - s.2).toNat) ⟨0,rfl,by omega,List.Sublist.refl _⟩ (by dsimp only;omega) fun s hs=>?_
 obtain ⟨l,i⟩:=s
 obtain ⟨v,rfl,h1,h2⟩:=hs
 dsimp only at h2 ⊢
 have hlen:l.length≤5:=by have:=h2.length_le;have h6:W5.length=5:=rfl;rw [List.length_take] at this;omega
 refine Y.cond (fun hc=>?_) (fun hc=>Y.ret (h2.trans (List.take_sublist _ _)))
 have hv:v<5:=by have:=of_decide_eq_true hc;omega
 have hs:=mw h2 (show v<W5.length from hv)
 refine Y.bind (P:=fun m:List ByteArray=>m.Sublist (W5.take (v+1))) (Y.eq (p5 v) (Y.cond (fun _=>?_) fun _=>Y.ret hs.2)) fun m hm=>Y.ret ⟨⟨v+1,?_,by omega,hm⟩,?_⟩
 ·refine Y.idx (xs:=W5) rfl (show v<W5.length from hv) ?_
  rw [kp (by simp;omega) (by simp;omega)];exact Y.ret hs.1
 ·show IntKind.i64.wrap ((v:Int)+1)=_;rw [gr (by omega) (by omega)];omega
 show (5 - IntKind.i64.wrap ((v:Int)+1)).toNat<(5 - (v:Int)).toNat;rw [gr (by omega) (by omega)];omega
theorem codeN {x:Int} (h1:0≤x) (h2:x<2):∃ n:Nat,(n=6∨n=8)∧IntKind.i64.wrap (6+IntKind.i64.wrap (2*x))=(n:Int):=by
 rw [gr (r:=2*x) (by omega) (by omega),gr (by omega) (by omega)]
 exact ⟨(6+2*x).toNat,by omega,by omega⟩
end SX
end Go.Proofs.YtipjgkapcgpgbaaDoor
set_option maxRecDepth 100000
namespace Go.Proofs.YtipjgkapcgpgbaaDoor
namespace SX
open Go
structure MProd (n:Nat) (i:Nat) (p:Za):Prop where
 id:p.ID=3*((i:Int)+1)
 lvl:(bJ p.Code=6∨bJ p.Code=8)∧6≤p.Code.size∧p.Code.size≤8
 ctr:p.Country∈C6
 price:1≤p.Price∧p.Price≤200
 proc:p.Processes.Sublist W5
 few:p.Inputs.length≤4
 asc:p.Inputs.Pairwise fun a b=>a.Product<b.Product
 inp:∀ x∈p.Inputs,(∃ k:Nat,k<n∧x.Product=3*((k:Int)+1))∧0≤x.Value∧x.Value<100
 obt:p.Obtained=true→p.Inputs=[]
structure MPs (l:List Za):Prop where
 len:1≤l.length∧l.length≤10
 all:∀ (i:Nat) (p:Za),l[i]?=some p→MProd l.length i p
theorem plan_Y (p0:List Int):Y (eX p0) MPs:=by
 unfold eX
 refine (cut_Y p0 300 (by omega) (by omega)).bind fun x1 hx1=>?_
 refine (fk hx1 10 (by omega) (by omega)).bind fun x3 ⟨a1,a2,a3⟩=>?_
 rw [gr (r:=1+x3.1) (by omega) (by omega)]
 obtain ⟨n,hn⟩:∃ n:Nat,1+x3.1=(n:Int):=⟨(1+x3.1).toNat,by omega⟩
 rw [hn]
 have hn1:1≤n∧n≤10:=by omega
 refine Y.bind (P:=MPs) ?_ fun l hl=>Y.ret hl
 refine Y.loop (fun s:List Za×Int×List Int×Int=>(s.2.1=(s.1.length:Int)+1∧s.1.length≤n)∧SOK ⟨s.2.2.1,s.2.2.2⟩∧∀ i p,s.1[i]?=some p→MProd n i p) (fun s=>n - s.1.length) ⟨⟨rfl,by simp⟩,a3,by simp⟩ (by dsimp only;omega) fun s hs=>?_
 obtain ⟨l5,v8,l9,v10⟩:=s
 obtain ⟨⟨h1,h2⟩,h3,h4⟩:=hs
 dsimp only at h1 h2 h3 h4 ⊢
 refine Y.cond (fun hc=>?_) (fun hc=>Y.ret ?_)
 rotate_left
 ·have hc:=of_decide_eq_false hc
  have e:l5.length=n:=by omega
  exact ⟨by omega,by rw [e];exact h4⟩
 have hc:=of_decide_eq_true hc
 refine (fk h3 2 (by omega) (by omega)).bind fun x19 ⟨b1,b2,b3⟩=>?_
 obtain ⟨w,hw,e⟩:=codeN b1 b2
 rw [e]
 refine (code_Y b3 w hw).bind fun x20 ⟨⟨cl,hc1,hc2,hc3⟩,hx20⟩=>?_
 have hcode:=s7 hw hc2 hc3
 refine Y.eq my ?_
 refine (fk hx20 4 (by omega) (by omega)).bind fun x22 ⟨c1,c2,c3⟩=>?_
 obtain ⟨j,hj⟩:∃ j:Nat,x22.1=(j:Int):=⟨x22.1.toNat,by omega⟩
 refine Y.idx hj (show j<C6.length by have h6:C6.length=6:=rfl;omega) ?_
 refine (fk c3 200 (by omega) (by omega)).bind fun x24 ⟨d1,d2,d3⟩=>?_
 refine (nT d3).bind fun x25 ⟨hpr,hx25⟩=>?_
 refine (fk hx25 4 (by omega) (by omega)).bind fun x26 ⟨_,_,h26⟩=>?_
 refine (fk h26 1024 (by omega) (by omega)).bind fun x28 ⟨_,_,h28⟩=>?_
 refine Y.bind (P:=fun t:List Int×Int×List Zb=>SOK ⟨t.1,t.2.1⟩∧t.2.2.length≤4∧(t.2.2.Pairwise fun a b=>a.Product<b.Product)∧(∀ x∈t.2.2,(∃ k:Nat,k<n∧x.Product=3*((k:Int)+1))∧0≤x.Value∧x.Value<100)∧((x26.1 == 1)=true→t.2.2=[])) ?_ fun t ⟨t1,t2,t3,t4,t5⟩=>?_
 ·refine Y.loop (fun s:Int×List Int×Int×List Zb=>∃ v:Nat,s.1=(v:Int)+1∧v≤n∧SOK ⟨s.2.1,s.2.2.1⟩∧s.2.2.2.length≤4∧(s.2.2.2.Pairwise fun a b=>a.Product<b.Product)∧(∀ x∈s.2.2.2,(∃ k:Nat,k<v∧x.Product=3*((k:Int)+1))∧0≤x.Value∧x.Value<100)∧((x26.1 == 1)=true→s.2.2.2=[])) (fun s=>(n+1 - s.1).toNat) ⟨0,rfl,by omega,h28,by simp,List.Pairwise.nil,by simp,fun _=>rfl⟩ (by dsimp only;omega) fun s hs=>?_
  obtain ⟨i,l,k,m⟩:=s
  obtain ⟨v,rfl,s1,s2,s3,s4,s5,s6⟩:=hs
  dsimp only at s2 s3 s4 s5 s6 ⊢
  refine Y.cond (fun hc3=>?_) (fun hc3=>Y.ret ⟨s2,s3,s4,fun x hx=>?_,s6⟩)
  rotate_left
  ·obtain ⟨⟨k,h5,h6⟩,h7⟩:=s5 x hx;exact ⟨⟨k,by omega,h6⟩,h7⟩
  simp only [Bool.and_eq_true,decide_eq_true_eq,Bool.not_eq_true'] at hc3
  obtain ⟨⟨hc4,hc5⟩,hc6⟩:=hc3
  rw [gr (r:=(v:Int)+1 - 1) (by omega) (by omega),gr (r:=(v:Int)+1+1) (by omega) (by omega),gr (r:=3*((v:Int)+1)) (by omega) (by omega)]
  refine Y.bind (P:=fun t:List Int×Int×List Zb=>SOK ⟨t.1,t.2.1⟩∧t.2.2.length≤4∧(t.2.2.Pairwise fun a b=>a.Product<b.Product)∧(∀ x∈t.2.2,(∃ k:Nat,k<v+1∧x.Product=3*((k:Int)+1))∧0≤x.Value∧x.Value<100)) ?_ fun t ⟨t1,t2,t3,t4⟩=>Y.ret ⟨⟨v+1,by dsimp only;omega,by omega,t1,t2,t3,t4,fun h=>by rw [hc6] at h;cases h⟩,by dsimp only;omega⟩
  rw [show (v:Int)+1 - 1=(v:Int) by omega]
  refine Y.eq (p5 v) ?_
  refine Y.bind (P:=fun r:Int×Zc=>SOK r.2) (Y.gdp (fun _=>(fk s2 3 (by omega) (by omega)).mono fun r hr=>hr.2.2) fun _=>s2) fun x56 hx56=>?_
  refine Y.cond (fun _=>?_) (fun _=>Y.ret ⟨hx56,s3,s4,fun x hx=>?_⟩)
  rotate_left
  ·obtain ⟨⟨k,h5,h6⟩,h7⟩:=s5 x hx;exact ⟨⟨k,by omega,h6⟩,h7⟩
  refine (fk hx56 100 (by omega) (by omega)).bind fun x58 ⟨e1,e2,e3⟩=>?_
  rw [kp (by simp;omega) (by simp;omega),dq]
  refine Y.ret ⟨e3,by simp;omega,?_,fun x hx=>?_⟩
  ·rw [List.pairwise_append]
   refine ⟨s4,List.pairwise_singleton _ _,fun a ha b hb=>?_⟩
   rw [List.mem_singleton.1 hb]
   obtain ⟨⟨k,h5,h6⟩,_⟩:=s5 a ha
   dsimp only;omega
  rcases List.mem_append.1 hx with hx | hx
  ·obtain ⟨⟨k,h5,h6⟩,h7⟩:=s5 x hx;exact ⟨⟨k,by omega,h6⟩,h7⟩
  rw [List.mem_singleton.1 hx];exact ⟨⟨v,by omega,rfl⟩,e1,e2⟩
 obtain ⟨l37,v38,l42⟩:=t
 dsimp only at t1 t2 t3 t4 t5 ⊢
 rw [kp (by simp;omega) (by simp;omega),dq,gr (r:=v8+1) (by omega) (by omega),gr (r:=1+x24.1) (by omega) (by omega),gr (r:=3*v8) (by omega) (by omega)]
 refine Y.ret ⟨⟨⟨by simp;omega,by simp;omega⟩,t1,fun i p hp=>?_⟩,by simp;omega⟩
 rw [List.getElem?_append] at hp
 split at hp
 ·exact h4 i p hp
 rename_i hi
 have hi0:i - l5.length=0:=by have:=(List.getElem?_eq_some_iff.1 hp).1;simp at this;omega
 rw [hi0] at hp
 simp only [List.getElem?_cons_zero,bC] at hp
 subst hp
 refine ⟨by dsimp only;omega,?_,List.getElem_mem _,⟨by dsimp only;omega,by dsimp only;omega⟩,hpr,t2,t3,t4,t5⟩
 dsimp only;rw [hc1,hcode.1,hcode.2];omega
structure Sorted (l:List Za):Prop where
 len:l.length≤1000000
 asc:l.Pairwise fun a b=>a.ID<b.ID
 small:∀ p∈l,p.Processes.length≤1000000∧p.Inputs.length≤1000000
def dR (l:List Za) (id:Int):Option Za:=l.find? fun p=>p.ID == id
def s8:Za:=⟨0,ByteArray.empty,ByteArray.empty,0,false,[],[]⟩
theorem qJ (l:List Za) (id:Int) (hl:l.length≤140737488355328):cW l id=some (opt2 s8 (dR l id)):=by
 unfold cW dR
 refine (cq (l:=l) (by omega) (fun _ x=>cond (x.ID == id) (some (.inr (x,true))) none) (.inl ()) (fun k hk=>?_) (by simp only [jv,ef])).trans ?_
 ·simp only [qR hk,dA,cg hk,dq,gw hk (show l.length≤4611686018427387904 by omega)]
  cases (l[k].ID == id) <;> rfl
 rw [kr (fun x:Za=>x.ID == id) (fun x=>(Sum.inr (x,true):Unit⊕(Za×Bool)))]
 cases l.find? (fun x:Za=>x.ID == id) <;> rfl
theorem MPs.sorted {l:List Za} (h:MPs l):Sorted l:=by
 refine ⟨by have:=h.len;omega,?_,fun p hp=>?_⟩
 ·rw [List.pairwise_iff_getElem]
  intro i j hi hj hij
  have h1:=(h.all i _ (List.getElem?_eq_getElem hi)).id
  have h2:=(h.all j _ (List.getElem?_eq_getElem hj)).id
  omega
 obtain ⟨i,hi,rfl⟩:=List.getElem_of_mem hp
 have hm:=h.all i _ (List.getElem?_eq_getElem hi)
 have h1:=hm.proc.length_le;have h2:=hm.few;have h6:W5.length=5:=rfl
 omega
end SX
end Go.Proofs.YtipjgkapcgpgbaaDoor
set_option maxRecDepth 100000
set_option linter.unusedSectionVars false
namespace Go.Proofs.YtipjgkapcgpgbaaDoor
namespace SX
open Go
section
variable {α:Type} [DecidableEq α]
variable {lt:α→α→Bool}
def Strict (lt:α→α→Bool) (l:List α):Prop:=l.Pairwise fun a b=>lt a b=true
end
section
variable {α:Type} [DecidableEq α]
end
end SX
end Go.Proofs.YtipjgkapcgpgbaaDoor
set_option maxRecDepth 100000
namespace Go.Proofs.YtipjgkapcgpgbaaDoor
namespace SX
open Go
structure VProd (l:List Za) (p:Za):Prop where
 price:1≤p.Price∧p.Price≤1000000000000
 lvl:6≤bJ p.Code
 ctr:i5 p.Country=true
 proc:eE p.Processes=true
 few:p.Inputs.length≤8
 asc:p.Inputs.Pairwise fun a b=>a.Product<b.Product
 inp:∀ x∈p.Inputs,(dR l x.Product).isSome=true∧0≤x.Value∧x.Value≤1000000000000
 obt:p.Obtained=true→p.Inputs=[]
structure VPs (l:List Za):Prop where
 len:l.length≤64
 asc:l.Pairwise fun a b=>a.ID<b.ID
 all:∀ p∈l,VProd l p
theorem iM {l:List ByteArray} (h:eE l=true):l.length≤8∧(∀ s∈l,fj s=true)∧Strict kH l:=by
 unfold eE at h
 simp only [Bool.and_eq_true,decide_eq_true_eq] at h
 exact ⟨h.1,fun s hs=>List.all_eq_true.1 h.2.1 s hs,(iK _).1 h.2.2⟩
theorem VPs.sorted {l:List Za} (h:VPs l):Sorted l:=⟨by have:=h.len;omega,h.asc,fun p hp=>by have h1:=(iM (h.all p hp).proc).1;have h2:=(h.all p hp).few;omega⟩
end SX
end Go.Proofs.YtipjgkapcgpgbaaDoor
set_option maxRecDepth 100000
namespace Go.Proofs.YtipjgkapcgpgbaaDoor
namespace SX
open Go
theorem C6_ctry {s:ByteArray} (h:s∈C6):i5 s=true:=List.all_eq_true.1 C6_ok.1 s h
theorem W5_words {l:List ByteArray} (h:l.Sublist W5):eE l=true:=by
 unfold eE
 have h1:=h.length_le
 have h5:W5.length=5:=rfl
 simp only [Bool.and_eq_true,decide_eq_true_eq]
 exact ⟨by omega,List.all_eq_true.2 fun s hs=>List.all_eq_true.1 W5_ok.1 s (h.subset hs),(iK _).2 (List.Pairwise.sublist h ((iK _).1 W5_ok.2.1))⟩
theorem MPs.found {l:List Za} (h:MPs l) {k:Nat} (hk:k<l.length):(dR l (3*((k:Int)+1))).isSome=true:=by
 unfold dR
 rw [List.find?_isSome]
 exact ⟨l[k],List.getElem_mem hk,by have:=(h.all k _ (List.getElem?_eq_getElem hk)).id;simpa using this⟩
theorem MPs.vps {l:List Za} (h:MPs l):VPs l:=by
 refine ⟨by have:=h.len;omega,h.sorted.asc,fun p hp=>?_⟩
 obtain ⟨i,hi,rfl⟩:=List.getElem_of_mem hp
 have hm:=h.all i _ (List.getElem?_eq_getElem hi)
 refine ⟨by have:=hm.price;omega,by have:=hm.lvl.1;omega,C6_ctry hm.ctr,W5_words hm.proc,by have:=hm.few;omega,hm.asc,fun x hx=>?_,hm.obt⟩
 obtain ⟨⟨k,hk,e⟩,h1,h2⟩:=hm.inp x hx
 exact ⟨by rw [e];exact h.found hk,h1,by omega⟩
theorem oX {s:ByteArray} (h:fj s=true):s.size≤12:=by
 unfold fj at h;simp only [Bool.and_eq_true,decide_eq_true_eq] at h;omega
end SX
end Go.Proofs.YtipjgkapcgpgbaaDoor
set_option maxRecDepth 100000
namespace Go.Proofs.YtipjgkapcgpgbaaDoor
namespace SX
open Go
end SX
end Go.Proofs.YtipjgkapcgpgbaaDoor
set_option maxRecDepth 100000
namespace Go.Proofs.YtipjgkapcgpgbaaDoor
namespace SX
open Go
theorem i7 {α T:Type}:∀ (m:List α) (i:Nat),bu (fun (_:Nat) (_:α)=>(none:Option T)) m i=none
 | [],_=>rfl
 | _::m,i=>i7 m (i+1)
theorem ls (l:List Za) (x:Zb) (hl:l.length≤140737488355328):aB l (fun y=>aZ y x)=some (dR l x.Product).isSome:=by
 unfold aB
 have e:aJ l (fun y=>aZ y x)=some (match bu (fun k p=>cond (p.ID == x.Product) (some (Sum.inr (k:Int):Unit⊕Int)) none) l 0 with | some (.inr k)=>k | _ => -1):=by
  unfold aJ
  refine (cq (l:=l) (by omega) (fun k (p:Za)=>cond (p.ID == x.Product) (some (.inr (k:Int))) none) (.inl ()) (fun k hk=>?_) (by simp only [jv,ef])).trans ?_
  ·simp only [qR hk,dA,cg hk,dq,gw hk (show l.length≤4611686018427387904 by omega)]
   unfold aZ
   rw [dq];cases (l[k].ID == x.Product) <;> rfl
  cases bu (fun k (p:Za)=>cond (p.ID == x.Product) (some (Sum.inr (k:Int):Unit⊕Int)) none) l 0 with
  | none=>rfl
  | some t=>cases t <;> rfl
 rw [e,dq]
 unfold dR
 rcases nS (fun p:Za=>p.ID == x.Product) (fun k=>(Sum.inr (k:Int):Unit⊕Int)) l 0 with ⟨h1,h2⟩ | ⟨j,hj,h1,h2⟩
 ·rw [h1,h2];rfl
 rw [h1,h2]
 show some (decide (0≤((0+j:Nat):Int)))=_
 rw [det (by omega)];rfl
structure VIds (l:List Za):Prop where
 id:∀ p∈l,1≤p.ID∧p.ID≤1000000
 lvl:∀ p∈l,bJ p.Code=6∨bJ p.Code=8
theorem p6 {α:Type} {f:α→Int} {l:List α} (h:l.Pairwise fun a b=>f a<f b) {k:Nat} (h0:0<k) (hk:k<l.length):f (l[k - 1]'(by omega))<f l[k]:=List.pairwise_iff_getElem.1 h (k - 1) k (by omega) hk (by omega)
theorem nU {plan:List Za} (hv:VPs plan) {p:Za} (hp:VProd plan p):aV plan p.Inputs=some 0:=by
 unfold aV
 have hlen:=hv.len
 have hfew:=hp.few
 refine (cq (l:=p.Inputs) (by omega) (fun _ _=>none) (.inl ()) (fun k hk=>?_) (by simp only [jv,ef])).trans ?_
 ·have hin:=hp.inp _ (List.getElem_mem hk)
  simp only [qR hk,dA,cg hk,dq,gw hk (show p.Inputs.length≤4611686018427387904 by omega),d0k]
  rw [ls _ _ (by omega),hin.1,dS (show ¬ p.Inputs[k].Value<0 by omega),dS (show ¬ 1000000000000<p.Inputs[k].Value by omega)]
  by_cases h0:0<k
  ·have hlt:=p6 hp.asc h0 hk
   rw [det h0,bM,ew h0 hk (by omega),dq,dS (by omega)];rfl
  rw [dS h0];rfl
 rw [i7];rfl
theorem mz {plan:List Za} {p:Za} (hp:VProd plan p) (hl:bJ p.Code=6∨bJ p.Code=8) (hw:StrsOk p.Processes):aT p=some 0:=by
 unfold aT
 show Option.bind (some (bJ p.Code)) _=_
 have hne:((bJ p.Code != 6)&&(bJ p.Code != 8))=false:=by rcases hl with h | h <;> rw [h] <;> rfl
 have hfew:=hp.few
 have hpr:=hp.price
 rw [dq,hne,Bool.not_false,bM,fM,hp.ctr,dq,Bool.not_true,Bool.or_self,Bool.not_false,bM,kC _ hw,hp.proc,dq]
 simp only [Bool.not_true,Bool.or_self,ef]
 rw [dS (show ¬ p.Price<1 by omega),dS (show ¬ 1000000000000<p.Price by omega),dS (show ¬ 8<(p.Inputs.length:Int) by omega)]
 simp only [Bool.or_self,ef]
 cases ho:p.Obtained
 ·rfl
 rw [hp.obt ho];rfl
theorem qK {plan:List Za} {p:Za} (hp:VProd plan p):StrsOk p.Processes:=by
 obtain ⟨h1,h2,_⟩:=iM hp.proc
 exact ⟨by omega,fun s hs=>by have:=oX (h2 s hs);omega⟩
theorem oY {plan:List Za} (hv:VPs plan) (hi:VIds plan):bc plan=some 0:=by
 unfold bc
 have hlen:=hv.len
 rw [dS (by omega),ef]
 refine (cq (l:=plan) (by omega) (fun _ _=>none) (.inl ()) (fun k hk=>?_) (by simp only [jv,ef])).trans ?_
 ·have hm:=List.getElem_mem hk
  have hp:=hv.all _ hm
  have hid:=hi.id _ hm
  simp only [qR hk,dA,cg hk,dq,gw hk (show plan.length≤4611686018427387904 by omega),d0k]
  rw [dS (show ¬ plan[k].ID<1 by omega),dS (show ¬ 1000000<plan[k].ID by omega),mz hp (hi.lvl _ hm) (qK hp),nU hv hp]
  by_cases h0:0<k
  ·have hlt:=p6 hv.asc h0 hk
   rw [det h0,bM,ew h0 hk (by omega),dq,dS (by omega)];rfl
  rw [dS h0];rfl
 rw [i7];rfl
theorem MPs.vids {l:List Za} (h:MPs l):VIds l:=by
 have hlen:=h.len
 refine ⟨fun p hp=>?_,fun p hp=>?_⟩
 ·obtain ⟨i,hi,rfl⟩:=List.getElem_of_mem hp
  have:=(h.all i _ (List.getElem?_eq_getElem hi)).id;omega
 obtain ⟨i,hi,rfl⟩:=List.getElem_of_mem hp
 exact (h.all i _ (List.getElem?_eq_getElem hi)).lvl.1
end SX
end Go.Proofs.YtipjgkapcgpgbaaDoor
set_option maxRecDepth 100000
namespace Go.Proofs.YtipjgkapcgpgbaaDoor
namespace SX
open Go
theorem qL (l:List ByteArray) (hl:StrsOk l):dw l=some (eE l):=by
 obtain ⟨hl,hs⟩:=hl
 unfold dw eE
 refine (cq (l:=l) (by omega) (fun k x=>cond (iJ fj l k x) none (some (.inr false))) (.inl ()) (fun k hk=>?_) (by simp only [jv,ef])).trans ?_
 ·have h62:l.length≤4611686018427387904:=by omega
  simp only [qR hk,dA,cg hk,dq,sZ _ (hs _ (List.getElem_mem hk)),d0k,gw hk h62,iJ]
  cases hw:fj l[k]
  ·rfl
  by_cases h0:0<k
  ·simp only [h0,decide_true,Bool.not_true,Bool.not_false,Bool.and_true,Bool.true_and,Bool.false_or,bM,ew h0 hk h62,dq,fA (show k - 1<l.length by omega),kH]
   cases Op.bytesLess (l[k-1]'(by omega)).toList l[k].toList <;> rfl
  simp only [h0,decide_false,Bool.and_false,hU,dq,Bool.not_true,Bool.false_or,Bool.false_and,ef,Bool.not_false,Bool.true_and,Bool.true_or,Bool.or_false];rfl
 rw [lr]
 have i2:decide ((l.length:Int)≤(8:Int))=decide (l.length≤8):=decide_eq_decide.2 (by omega)
 cases (l.all fj&&gB kH l)
 ·simp
 simp [i2]
end SX
end Go.Proofs.YtipjgkapcgpgbaaDoor
set_option maxRecDepth 100000
namespace Go.Proofs.YtipjgkapcgpgbaaDoor
namespace SX
open Go
end SX
end Go.Proofs.YtipjgkapcgpgbaaDoor
set_option maxRecDepth 100000
namespace Go.Proofs.YtipjgkapcgpgbaaDoor
namespace SX
open Go
structure POk (p:Za):Prop where
 code:p.Code.size≤140737488355328
 proc:StrsOk p.Processes
 len:p.Inputs.length≤140737488355328
structure PSOk (l:List Za):Prop where
 len:l.length≤140737488355328
 all:∀ p∈l,POk p
def qM (plan:List Za) (l:List Zb) (k:Nat) (x:Zb):Option Int :=
 cond (decide (0<k)&&decide (x.Product≤(l.getD (k - 1) x).Product)) (some 9) (cond (dR plan x.Product).isSome (cond (decide (x.Value<0)||decide (1000000000000<x.Value)) (some 2) none) (some 6))
def oZ (plan:List Za) (l:List Zb):Int:=(bu (qM plan l) l 0).getD 0
def iN (p:Za):Int:=cond (decide (6≤bJ p.Code)&&(i5 p.Country&&eE p.Processes)) (cond (decide (p.Price<1)||decide (1000000000000<p.Price)) 2 (cond (decide (8<p.Inputs.length)) 8 (cond (p.Obtained && !p.Inputs.isEmpty) 1 0))) 1
def kD (plan:List Za) (k:Nat) (p:Za):Option Int :=
 cond (decide (p.ID<1)||decide (1000000<p.ID)) (some 2) (cond (decide (0<k)&&decide (p.ID≤(plan.getD (k - 1) p).ID)) (some 9) (cond (iN p == 0) (cond (oZ plan p.Inputs == 0) none (some (oZ plan p.Inputs))) (some (iN p))))
def p7 (plan:List Za):Int:=cond (decide (plan.length≤64)) ((bu (kD plan) plan 0).getD 0) 8
theorem o7 (s:ByteArray):bJ s=0∨bJ s=2∨bJ s=4∨bJ s=6∨bJ s=8:=by
 unfold bJ
 split
 ·rename_i h;omega
 exact .inl rfl
theorem qN (s:ByteArray):((bJ s != 6)&&(bJ s != 8)) = !decide (6≤bJ s):=by
 rcases o7 s with h | h | h | h | h <;> rw [h] <;> rfl
theorem s9 (plan:List Za) (l:List Zb) (hp:plan.length≤140737488355328) (hl:l.length≤140737488355328):aV plan l=some (oZ plan l):=by
 unfold aV oZ
 have h62:l.length≤4611686018427387904:=by omega
 refine (cq (l:=l) h62 (fun k x=>(qM plan l k x).map .inr) (.inl ()) (fun k hk=>?_) (by simp only [jv,ef])).trans ?_
 ·simp only [qR hk,dA,cg hk,dq,gw hk h62,d0k,qM,ls _ _ hp]
  by_cases h0:0<k
  ·simp only [h0,decide_true,Bool.true_and,bM,ew h0 hk h62,dq,fA (show k - 1<l.length by omega)]
   cases decide (l[k].Product≤(l[k-1]'(by omega)).Product)
   ·cases (dR plan l[k].Product).isSome
    ·rfl
    cases (decide (l[k].Value<0)||decide (1000000000000<l[k].Value)) <;> rfl
   rfl
  simp only [h0,decide_false,Bool.false_and,hU,dq,ef]
  cases (dR plan l[k].Product).isSome
  ·rfl
  cases (decide (l[k].Value<0)||decide (1000000000000<l[k].Value)) <;> rfl
 rw [ga]
 cases bu (qM plan l) l 0 <;> rfl
theorem len_pos {α:Type} (l:List α):decide (0<l.length) = !l.isEmpty:=by cases l <;> rfl
theorem o8 (p:Za) (hp:POk p):aT p=some (iN p):=by
 unfold aT iN
 have e8:decide ((8:Int)<(p.Inputs.length:Int))=decide (8<p.Inputs.length):=decide_eq_decide.2 (by omega)
 show Option.bind (some (bJ p.Code)) _=_
 rw [dq,qN,e8]
 cases decide (6≤bJ p.Code)
 ·rfl
 simp only [Bool.not_true,Bool.not_false,bM,Bool.true_and,fM,dq,Bool.false_or]
 cases i5 p.Country
 ·rfl
 simp only [Bool.not_true,Bool.not_false,bM,kC _ hp.proc,dq,Bool.true_and,Bool.false_or]
 cases eE p.Processes
 ·rfl
 simp only [Bool.not_true,ef,dA]
 cases (decide (p.Price<1)||decide (1000000000000<p.Price))
 ·simp only [ef]
  cases decide (8<p.Inputs.length)
  ·simp only [ef,len0']
   cases (p.Obtained && !p.Inputs.isEmpty) <;> rfl
  rfl
 rfl
theorem o9 (plan:List Za) (h:PSOk plan):bc plan=some (p7 plan):=by
 unfold bc p7
 have h62:plan.length≤4611686018427387904:=by have:=h.len;omega
 have i1:decide ((64:Int)<(plan.length:Int)) = !decide (plan.length≤64):=by rw [← decide_not];exact decide_eq_decide.2 (by omega)
 rw [i1]
 cases decide (plan.length≤64)
 ·rfl
 simp only [Bool.not_true,ef,dA]
 refine (cq (l:=plan) h62 (fun k x=>(kD plan k x).map .inr) (.inl ()) (fun k hk=>?_) (by simp only [jv,ef])).trans ?_
 ·have ha:=h.all _ (List.getElem_mem hk)
  simp only [qR hk,dA,cg hk,dq,gw hk h62,d0k,kD,o8 _ ha,s9 _ _ h.len ha.len]
  cases (decide (plan[k].ID<1)||decide (1000000<plan[k].ID))
  ·by_cases h0:0<k
   ·simp only [h0,decide_true,Bool.true_and,bM,ew h0 hk h62,dq,fA (show k - 1<plan.length by omega),ef]
    cases decide (plan[k].ID≤(plan[k-1]'(by omega)).ID)
    ·simp only [ef,bne]
     cases hz:(iN plan[k] == 0)
     ·simp [oP]
     simp only [dA,Bool.not_true,ef]
     cases hy:(oZ plan plan[k].Inputs == 0) <;> simp [oP]
    rfl
   simp only [h0,decide_false,Bool.false_and,hU,dq,ef,bne]
   cases hz:(iN plan[k] == 0)
   ·simp [oP]
   simp only [dA,Bool.not_true,ef]
   cases hy:(oZ plan plan[k].Inputs == 0) <;> simp [oP]
  rfl
 rw [ga]
 cases bu (kD plan) plan 0 <;> rfl
theorem kE {α:Type} (g:Nat→α→Option Int) (hg:∀ k x,g k x≠some 0):∀ (l:List α) (i:Nat),(bu g l i).getD 0=0→bu g l i=none
 | [],_,_=>rfl
 | x::l,i,e=>by
  rw [bu] at e ⊢
  cases hx:g i x with
  | some t =>
   rw [hx] at e
   have:t=0:=e
   subst this
   exact absurd hx (hg i x)
  | none=>rw [hx] at e;exact kE g hg l (i+1) e
theorem gIn_nz (plan:List Za) (l:List Zb) (k:Nat) (x:Zb):qM plan l k x≠some 0:=by
 unfold qM
 cases (decide (0<k)&&decide (x.Product≤(l.getD (k - 1) x).Product))
 ·cases (dR plan x.Product).isSome
  ·simp
  cases (decide (x.Value<0)||decide (1000000000000<x.Value)) <;> simp
 simp
end SX
end Go.Proofs.YtipjgkapcgpgbaaDoor
set_option maxRecDepth 100000
namespace Go.Proofs.YtipjgkapcgpgbaaDoor
namespace SX
open Go
theorem ref_inE (plan:List Za) (l:List Zb) (hp:plan.length≤140737488355328) (hl:l.length≤140737488355328) {β:Type} (K:Unit⊕(Int⊕(Unit⊕Int))→Option β) :
    Option.bind (bi (S:=Int) (T:=(Unit)⊕(Int⊕(Unit⊕Int))) (fun v18=>cond (decide (v18<(l.length:Int))) (Option.bind (gd (decide (0<v18)) (idx l v18)) (fun m22=>Option.bind (gd (decide (0<v18)) (idx l (IntKind.i64.wrap (v18 - 1)))) (fun m23=>cond ((decide (0<v18))&&(decide (m22.Product≤m23.Product))) (some (.inr (.inr (.inr (.inr (9:Int)))))) (Option.bind (idx l v18) (fun m25=>Option.bind (cW plan m25.Product) (fun x26=>cond (!x26.2) (some (.inr (.inr (.inr (.inr (6:Int)))))) (Option.bind (idx l v18) (fun m29=>Option.bind (gd (!(decide (m29.Value<0))) (idx l v18)) (fun m30=>cond ((decide (m29.Value<0))||(decide (1000000000000<m30.Value))) (some (.inr (.inr (.inr (.inr (2:Int)))))) (some (.inl (IntKind.i64.wrap (v18+1))))))))))))) (some (.inr (.inl ())))) FUEL 0) K
    = K (match bu (qM plan l) l 0 with | none=>.inl () | some e=>.inr (.inr (.inr e))):=by
  have h62:l.length≤4611686018427387904:=by omega
  refine (cq (l:=l) h62 (fun k x=>(qM plan l k x).map fun e=>.inr (.inr (.inr e))) (.inl ()) (fun k hk=>?_) (by simp only [jv,ef])).trans ?_
  · have hf:cW plan l[k].Product=some (opt2 s8 (dR plan l[k].Product)):=qJ _ _ hp
    have hs:(opt2 s8 (dR plan l[k].Product)).2=(dR plan l[k].Product).isSome:=by cases dR plan l[k].Product <;> rfl
    have tl:(cond (!(dR plan l[k].Product).isSome) (some (.inr (.inr (.inr (.inr (6:Int)))))) (Option.bind (gd (!(decide (l[k].Value<0))) (some l[k])) (fun m30=>cond ((decide (l[k].Value<0))||(decide (1000000000000<m30.Value))) (some (.inr (.inr (.inr (.inr (2:Int)))))) (some (.inl ((k+1:Nat):Int))))):Option (Int⊕(Unit⊕(Int⊕(Unit⊕Int)))))=some (oP k ((cond (dR plan l[k].Product).isSome (cond (decide (l[k].Value<0)||decide (1000000000000<l[k].Value)) (some 2) none) (some 6)).map fun e=>.inr (.inr (.inr e)))):=by
      cases (dR plan l[k].Product).isSome
      · rfl
      cases decide (l[k].Value<0)
      · simp only [Bool.not_false,bM,dq,Bool.not_true,ef,dA,Bool.false_or]
        cases decide (1000000000000<l[k].Value) <;> rfl
      rfl
    simp only [qR hk,dA,cg hk,dq,gw hk h62,d0k,qM,hf,hs]
    by_cases h0:0<k
    · simp only [h0,decide_true,Bool.true_and,bM,ew h0 hk h62,dq,fA (show k - 1<l.length by omega)]
      cases decide (l[k].Product≤(l[k-1]'(by omega)).Product)
      · exact tl
      rfl
    simp only [h0,decide_false,Bool.false_and,hU,dq,ef]
    exact tl
  rw [ga]
  cases bu (qM plan l) l 0 <;> rfl
theorem tc {plan:List Za} {l:List Zb} {e:Int} (h:bu (qM plan l) l 0=some e):oZ plan l=e∧(oZ plan l == 0)=false:=by
 have h1:oZ plan l=e:=by unfold oZ;rw [h];rfl
 refine ⟨h1,?_⟩
 cases hz:(oZ plan l == 0) with
 | false=>rfl
 | true =>
  have:=kE _ (gIn_nz plan l) l 0 (beq_iff_eq.1 hz)
  rw [h] at this;cases this
theorem td {plan:List Za} {l:List Zb} (h:bu (qM plan l) l 0=none):(oZ plan l == 0)=true:=by unfold oZ;rw [h];rfl
theorem qO (plan:List Za) (h:PSOk plan):fh plan=some (p7 plan):=by
 unfold fh p7
 have h62:plan.length≤4611686018427387904:=by have:=h.len;omega
 have i1:decide ((64:Int)<(plan.length:Int)) = !decide (plan.length≤64):=by rw [← decide_not];exact decide_eq_decide.2 (by omega)
 rw [i1]
 cases decide (plan.length≤64)
 ·rfl
 simp only [Bool.not_true,ef,dA]
 refine (cq (l:=plan) h62 (fun k x=>(kD plan k x).map .inr) (.inl ()) (fun k hk=>?_) (by simp only [jv,ef])).trans ?_
 ·have ha:=h.all _ (List.getElem_mem hk)
  have e8:decide ((8:Int)<(plan[k].Inputs.length:Int))=decide (8<plan[k].Inputs.length):=decide_eq_decide.2 (by omega)
  have e6:decide (bJ plan[k].Code<6) = !decide (6≤bJ plan[k].Code):=by rw [← decide_not];exact decide_eq_decide.2 (by omega)
  simp only [qR hk,dA,cg hk,dq,gw hk h62,d0k,kD]
  cases (decide (plan[k].ID<1)||decide (1000000<plan[k].ID))
  ·have rest:(Option.bind (dv plan[k].Code) (fun x11=>Option.bind (gd (!(decide (x11<6))) (cM plan[k].Country)) (fun x12=>Option.bind (gd (!((decide (x11<6))||(!x12))) (dw plan[k].Processes)) (fun x13=>cond (((decide (x11<6))||(!x12))||(!x13)) (some (.inr (.inr (1:Int)))) (cond ((decide (plan[k].Price<1))||(decide (1000000000000<plan[k].Price))) (some (.inr (.inr (2:Int)))) (cond (decide (8<(plan[k].Inputs.length:Int))) (some (.inr (.inr (8:Int)))) (cond (plan[k].Obtained&&(decide (0<plan[k].Inputs.length))) (some (.inr (.inr (1:Int)))) (Option.bind (bi (S:=Int) (T:=(Unit)⊕(Int⊕(Unit⊕Int))) (fun v18=>cond (decide (v18<(plan[k].Inputs.length:Int))) (Option.bind (gd (decide (0<v18)) (idx plan[k].Inputs v18)) (fun m22=>Option.bind (gd (decide (0<v18)) (idx plan[k].Inputs (IntKind.i64.wrap (v18 - 1)))) (fun m23=>cond ((decide (0<v18))&&(decide (m22.Product≤m23.Product))) (some (.inr (.inr (.inr (.inr (9:Int)))))) (Option.bind (idx plan[k].Inputs v18) (fun m25=>Option.bind (cW plan m25.Product) (fun x26=>cond (!x26.2) (some (.inr (.inr (.inr (.inr (6:Int)))))) (Option.bind (idx plan[k].Inputs v18) (fun m29=>Option.bind (gd (!(decide (m29.Value<0))) (idx plan[k].Inputs v18)) (fun m30=>cond ((decide (m29.Value<0))||(decide (1000000000000<m30.Value))) (some (.inr (.inr (.inr (.inr (2:Int)))))) (some (.inl (IntKind.i64.wrap (v18+1))))))))))))) (some (.inr (.inl ())))) FUEL 0) (fun q=>match q with | .inl _=>some (.inl ((k+1:Nat):Int)) | .inr e=>some e)))))))):Option (Int⊕(Unit⊕Int)))=some (oP k ((cond (iN plan[k] == 0) (cond (oZ plan plan[k].Inputs == 0) none (some (oZ plan plan[k].Inputs))) (some (iN plan[k]))).map .inr)):=by
    simp only [qG _ ha.code,dq,e6,e8,iN,nQ,qL _ ha.proc,len_pos]
    cases decide (6≤bJ plan[k].Code)
    ·rfl
    simp only [Bool.not_true,Bool.not_false,bM,Bool.true_and,dq,Bool.false_or]
    cases i5 plan[k].Country
    ·rfl
    simp only [Bool.not_true,Bool.not_false,bM,dq,Bool.true_and,Bool.false_or]
    cases eE plan[k].Processes
    ·rfl
    simp only [Bool.not_true,ef,dA]
    cases (decide (plan[k].Price<1)||decide (1000000000000<plan[k].Price))
    ·simp only [ef]
     cases decide (8<plan[k].Inputs.length)
     ·simp only [ef]
      cases (plan[k].Obtained && !plan[k].Inputs.isEmpty)
      ·refine (ref_inE plan plan[k].Inputs h.len ha.len _).trans ?_
       cases hf:bu (qM plan plan[k].Inputs) plan[k].Inputs 0 with
       | none=>rw [td hf];rfl
       | some e=>obtain ⟨q1,q2⟩:=tc hf;rw [q2,q1];rfl
      rfl
     rfl
    rfl
   by_cases h0:0<k
   ·simp only [h0,decide_true,Bool.true_and,bM,ew h0 hk h62,dq,fA (show k - 1<plan.length by omega),ef]
    cases decide (plan[k].ID≤(plan[k-1]'(by omega)).ID)
    ·exact rest
    rfl
   simp only [h0,decide_false,Bool.false_and,hU,dq,ef]
   exact rest
  ·rfl
 rw [ga]
 cases bu (kD plan) plan 0 <;> rfl
end SX
end Go.Proofs.YtipjgkapcgpgbaaDoor
set_option maxRecDepth 100000
namespace Go.Proofs.YtipjgkapcgpgbaaDoor
namespace SX
open Go
theorem pa {κ:Kr} {p:Za} {ds:List Value} (h:Rps κ (Za.enc p) ds):POk p :=
 ⟨pX (k:=1) h rfl,strs_of (k:=5) h rfl,by have:=mh (k:=6) h rfl;simpa using this⟩
theorem nV {κ:Kr} {l:List Za} {ds:List Value} (h:Rps κ (eL Za.enc l) ds):PSOk l:=by
 refine ⟨by have:=mh (k:=0) h rfl;simpa using this,fun p hp=>?_⟩
 obtain ⟨ds,hd⟩:=nK (k:=0) h rfl (List.mem_map_of_mem (f:=Za.enc) hp)
 exact pa hd
end SX
end Go.Proofs.YtipjgkapcgpgbaaDoor
namespace Go.Proofs.YtipjgkapcgpgbaaDoor
namespace SX
open Go
def uIn (id pid:Int) (acc:List Int) (x:Zb):List Int:=cond (x.Product == id) (acc++[pid]) acc
theorem p8 (id pid:Int):∀ (l:List Zb) (acc:List Int) (n:Int),n∈l.foldl (uIn id pid) acc↔n∈acc∨(n=pid∧∃ x∈l,x.Product=id)
 | [],acc,n=>by simp
 | x::l,acc,n=>by
  rw [List.foldl_cons,p8 id pid l]
  unfold uIn
  cases h:(x.Product == id)
  ·have h:¬ x.Product=id:=by simpa using h
   simp only [ef,List.mem_cons]
   constructor
   ·rintro (h1 | ⟨h1,y,hy,e⟩)
    ·exact .inl h1
    exact .inr ⟨h1,y,.inr hy,e⟩
   rintro (h1 | ⟨h1,y,rfl | hy,e⟩)
   ·exact .inl h1
   ·exact absurd e h
   exact .inr ⟨h1,y,hy,e⟩
  have h:x.Product=id:=by simpa using h
  simp only [dA,List.mem_append,List.mem_cons,List.not_mem_nil,or_false]
  constructor
  ·rintro ((h1 | h1) | ⟨h1,y,hy,e⟩)
   ·exact .inl h1
   ·exact .inr ⟨h1,x,.inl rfl,h⟩
   exact .inr ⟨h1,y,.inr hy,e⟩
  rintro (h1 | ⟨h1,y,rfl | hy,e⟩)
  ·exact .inl (.inl h1)
  ·exact .inl (.inr h1)
  exact .inr ⟨h1,y,hy,e⟩
def mA (plan:List Za) (id:Int):List Int:=plan.foldl (fun acc p=>p.Inputs.foldl (uIn id p.ID) acc) []
theorem pb (plan:List Za) (id n:Int):n∈mA plan id↔∃ p∈plan,n=p.ID∧∃ x∈p.Inputs,x.Product=id:=by
 have key:∀ (l:List Za) (acc:List Int),n∈l.foldl (fun acc p=>p.Inputs.foldl (uIn id p.ID) acc) acc↔n∈acc∨∃ p∈l,n=p.ID∧∃ x∈p.Inputs,x.Product=id:=by
  intro l
  induction l with
  | nil=>intro acc;simp
  | cons p l ih =>
   intro acc
   rw [List.foldl_cons,ih,p8]
   simp only [List.mem_cons]
   constructor
   ·rintro ((h | h) | ⟨q,hq,h⟩)
    ·exact .inl h
    ·exact .inr ⟨p,.inl rfl,h⟩
    exact .inr ⟨q,.inr hq,h⟩
   rintro (h | ⟨q,rfl | hq,h⟩)
   ·exact .inl (.inl h)
   ·exact .inl (.inr h)
   exact .inr ⟨q,hq,h⟩
 have:=key plan []
 unfold mA;rw [this];simp
def hitB (plan:List Za) (id:Int) (r:List Bool) (m:Nat) (u:List Int):Bool:=match plan[m]? with
 | none=>false
 | some p=>((p.ID == id)||r.getD m false)&&u.any fun x=>x == p.ID
def te (r:List Bool):Nat:=(r.filter fun b => !b).length
def Nd (plan:List Za) (a b:Int):Prop:=∃ p∈plan,p.ID=a∧∃ x∈p.Inputs,x.Product=b
inductive Ze (plan:List Za) (a:Int):Int→Prop
 | one {b:Int}:Nd plan a b→Ze plan a b
 | step {b c:Int}:Ze plan a b→Nd plan b c→Ze plan a c
structure RS (plan:List Za) (id:Int) (r:List Int):Prop where
 asc:r.Pairwise (· < ·)
 mem:∀ n,n∈r↔Ze plan id n
def Snd (plan:List Za) (id:Int) (r:List Bool):Prop:=∀ i p,plan[i]?=some p→r.getD i false=true→Ze plan id p.ID
theorem Snd.hit {plan:List Za} {id:Int} {r:List Bool} (h:Snd plan id r) {m:Nat} {b:Int} (hh:hitB plan id r m (mA plan b)=true):Ze plan id b:=by
 unfold hitB at hh
 cases hm:plan[m]? with
 | none=>rw [hm] at hh;cases hh
 | some q =>
  rw [hm] at hh
  simp only [Bool.and_eq_true,Bool.or_eq_true,List.any_eq_true] at hh
  obtain ⟨h1,u,hu,e⟩:=hh
  have e:u=q.ID:=by simpa using e
  subst e
  obtain ⟨p,hp,e1,hx⟩:=(pb _ _ _).1 hu
  have hnd:Nd plan q.ID b:=⟨p,hp,e1.symm,hx⟩
  rcases h1 with h1 | h1
  ·have:q.ID=id:=by simpa using h1
   rw [← this];exact .one hnd
  exact .step (h m q hm h1) hnd
theorem Snd.set {plan:List Za} {id:Int} {r:List Bool} (h:Snd plan id r) {k:Nat} (hk:k<plan.length) (ht:Ze plan id plan[k].ID):Snd plan id (r.set k true):=fun i p hp hr=>by
 rcases Nat.lt_trichotomy i k with h1 | h1 | h1
 ·rw [List.getD_eq_getElem?_getD,List.getElem?_set_ne (by omega)] at hr;exact h i p hp (by rw [List.getD_eq_getElem?_getD];exact hr)
 ·subst h1;rw [List.getElem?_eq_getElem hk] at hp;injection hp with hp;subst hp;exact ht
 rw [List.getD_eq_getElem?_getD,List.getElem?_set_ne (by omega)] at hr;exact h i p hp (by rw [List.getD_eq_getElem?_getD];exact hr)
structure PassI (plan:List Za) (id:Int) (r:List Bool) (k:Nat) (r':List Bool) (ag:Bool):Prop where
 len:r'.length=plan.length
 le:k≤plan.length
 no:ag=false→r'=r∧∀ i,i<k→∀ p,plan[i]?=some p→r.getD i false=true∨∀ m,hitB plan id r m (mA plan p.ID)=false
 yes:ag=true→te r'<te r
 snd:Snd plan id r'
theorem iO:fD=some true:=by kernel_rfl
theorem few_Y (p0:List Za) (h:PSOk p0):Y (fZ p0) PSOk:=by
 unfold fZ
 refine Y.bind (P:=fun l:List Za=>l.length≤70∧∀ p∈l,p∈p0) (Y.cond (fun hc=>?_) fun hc=>?_) fun l ⟨h1,h2⟩=>?_
 ·have hpos:=of_decide_eq_true hc
  rw [show (70:Int)=((70:Nat):Int) from rfl,show (0:Int)=((0:Nat):Int) from rfl,sub_ok (by omega) (by omega),dq]
  exact Y.ret ⟨by simp;omega,fun p hp=>List.mem_of_mem_take (List.mem_of_mem_drop hp)⟩
 ·have hpos:=of_decide_eq_false hc
  exact Y.ret ⟨by omega,fun p hp=>hp⟩
 rw [kp (by simp;omega) (by simp;omega),dq,List.nil_append]
 refine Y.bind (P:=PSOk) (Y.loop (fun s:List Za×Int=>∃ k:Nat,s.2=(k:Int)∧k≤l.length∧s.1.length=l.length∧∀ p∈s.1,POk p) (fun s=>(l.length - s.2).toNat) ⟨0,rfl,by omega,rfl,fun p hp=>h.all p (h2 p hp)⟩ (by show ((l.length:Int) - 0).toNat≤_;omega) fun s hs=>?_) fun r hr=>Y.ret hr
 obtain ⟨r,v⟩:=s
 obtain ⟨k,hvk,hk,hl,hall⟩:=hs
 dsimp only at hvk hl hall ⊢
 subst hvk
 rcases Nat.lt_or_ge k l.length with hk2 | hk2
 rotate_left
 ·have e:k=l.length:=by omega
  subst e
  rw [jv,ef]
  exact Y.ret ⟨by omega,hall⟩
 have hkr:k<r.length:=by omega
 have hP:=hall _ (List.getElem_mem hkr)
 rw [qR hk2,dA,cg hkr,dq,dq,sub_pre _ _ (by omega),dq,dq,gw hk2 (by omega)]
 refine Y.ret ⟨⟨k+1,rfl,by omega,by dsimp only;rw [List.length_set];exact hl,fun p hp=>?_⟩,?_⟩
 ·rcases List.mem_or_eq_of_mem_set hp with hp | rfl
  ·exact hall p hp
  exact ⟨hP.code,hP.proc,by have:=hP.len;dsimp only;rw [List.length_take];omega⟩
 show ((l.length:Int) - ((k+1:Nat):Int)).toNat<((l.length:Int) - (k:Int)).toNat;omega
theorem i9 (m0:List Za) (m1:List Int) (m2:ByteArray) {κ:Kr} {v0 v1 v2:List Value} (s0:Rps κ (eL Za.enc m0) v0) (_:Rps κ (eL eI m1) v1) (_:Rps κ (eS m2) v2):bX m0 m1 m2=some true:=by
 have key:Y (bX m0 m1 m2) (fun r=>r=true):=by
  unfold bX
  refine (few_Y m0 (nV s0)).bind fun x hx=>?_
  rw [o9 x hx,dq,qO x hx,dq]
  simp only [beq_self_eq_true,bM]
  refine (plan_Y m1).bind fun p hp=>?_
  rw [oY hp.vps hp.vids,dq,fM]
  simp only [beq_self_eq_true,bM,dq,Bool.true_and]
  cases h:((m2.size:Int) == 2)
  ·rw [mv h]
   simp only [Bool.false_and,hU,dq,beq_self_eq_true,bM,iO,Bool.true_and]
   exact Y.ret rfl
  obtain ⟨a,b,hd⟩:=kB h
  simp only [i5,hd,ix0,ix1,Bool.true_and,bM,dq]
  cases h1:decide (65≤(a.toNat:Int))
  ·simp only [Bool.false_and,hU,dq,beq_self_eq_true,bM,iO,Bool.true_and];exact Y.ret rfl
  simp only [Bool.true_and,bM,dq]
  cases h2:decide ((a.toNat:Int)≤90)
  ·simp only [Bool.false_and,hU,dq,beq_self_eq_true,bM,iO,Bool.true_and];exact Y.ret rfl
  simp only [Bool.true_and,bM,dq]
  cases h3:decide (65≤(b.toNat:Int))
  ·simp only [Bool.false_and,hU,dq,beq_self_eq_true,bM,iO,Bool.true_and];exact Y.ret rfl
  simp only [Bool.true_and,bM,dq,beq_self_eq_true,iO]
  exact Y.ret rfl
 obtain ⟨r,e,rfl⟩:=key
 exact e
def bd3:Nat→Int→Prop:=fun _ _=>True
theorem op3 {H:Type} {eh:TypeId×Value→H} {nb:Nat}:Opens eh nb 3 eI (bd3 nb):=qB rfl
def bd9:Nat→ByteArray→Prop:=fun _ _=>True
theorem op9 {H:Type} {eh:TypeId×Value→H} {nb:Nat}:Opens eh nb 9 eS (bd9 nb):=qC rfl
def bd4:Nat→Bool→Prop:=fun _ _=>True
theorem op4 {H:Type} {eh:TypeId×Value→H} {nb:Nat}:Opens eh nb 4 eT (bd4 nb):=oQ rfl
def bd31:Nat→(List ByteArray)→Prop:=fun n l=>l.length*16≤140737488355328∧l.length≤n∧∀ x∈l,bd9 n x
theorem op31 {H:Type} {eh:TypeId×Value→H} {nb:Nat}:Opens eh nb 31 (eL eS) (bd31 nb):=fB rfl rfl rfl rfl op9
def bd38:Nat→Zb→Prop:=fun n m=>bd3 n m.Product∧bd3 n m.Value∧True
theorem op38 {H:Type} {eh:TypeId×Value→H} {nb:Nat}:Opens eh nb 38 Zb.enc (bd38 nb):=fun W fuel cs x hx hw hbk=>by
 obtain ⟨xs,n,rfl,rfl,hl,hlen,hf⟩:=DataW.trod_struct (aI (t:=38) rfl) hx
 obtain ⟨x0,x1,rfl⟩:∃ x0 x1,xs=[x0,x1]:=by
  match xs,hlen with
  | [a0,a1],_=>exact ⟨a0,a1,rfl⟩
 have hw2:∀ n∈DataW.weightsEach Tryd.prog [3,3] [x0.1,x1.1],n≤reachBytes:=fun n hn=>hw n (by simp only [DataW.weights,aI (t:=38) rfl];exact hn)
 simp only [DataW.weightsEach,List.mem_append] at hw2
 simp only [Rows.uptoBulk,List.map_cons,List.map_nil,Rows.uptoBulkAll] at hbk
 have g0:DataW.trod eh Tryd.prog W 0 (fun _=>true) true n 3 ((cs.drop 0).take (Tryd.prog.cellsOf 3))=some x0:=hf 0 _ rfl
 rw [(bv (t:=3) rfl).1] at g0
 obtain ⟨m0,r0,o0,c0⟩:=op3 (nb:=nb) W n _ _ g0 (fun n hn=>hw2 n (.inl hn)) (by omega)
 have g1:DataW.trod eh Tryd.prog W 0 (fun _=>true) true n 3 ((cs.drop 1).take (Tryd.prog.cellsOf 3))=some x1:=hf 1 _ rfl
 rw [(bv (t:=3) rfl).1] at g1
 obtain ⟨m1,r1,o1,c1⟩:=op3 (nb:=nb) W n _ _ g1 (fun n hn=>hw2 n (.inr (.inl hn))) (by omega)
 have hl2:cs.length=2:=hl.trans (bv (t:=38) rfl).1
 exact ⟨(⟨m0,m1⟩:Zb),(dI (off:=0) r0 (dI (off:=1) r1 (pT hl2))),(dJ (off:=0) o0 (dJ (off:=1) o1 (pU hl2))),⟨c0,c1,trivial⟩⟩
def bd32:Nat→(List Zb)→Prop:=fun n l=>l.length*16≤140737488355328∧l.length≤n∧∀ x∈l,bd38 n x
theorem op32 {H:Type} {eh:TypeId×Value→H} {nb:Nat}:Opens eh nb 32 (eL Zb.enc) (bd32 nb):=fB rfl rfl rfl rfl op38
def bd34:Nat→Za→Prop:=fun n m=>bd3 n m.ID∧bd9 n m.Code∧bd9 n m.Country∧bd3 n m.Price∧bd4 n m.Obtained∧bd31 n m.Processes∧bd32 n m.Inputs∧True
theorem op34 {H:Type} {eh:TypeId×Value→H} {nb:Nat}:Opens eh nb 34 Za.enc (bd34 nb):=fun W fuel cs x hx hw hbk=>by
 obtain ⟨xs,n,rfl,rfl,hl,hlen,hf⟩:=DataW.trod_struct (aI (t:=34) rfl) hx
 obtain ⟨x0,x1,x2,x3,x4,x5,x6,rfl⟩:∃ x0 x1 x2 x3 x4 x5 x6,xs=[x0,x1,x2,x3,x4,x5,x6]:=by
  match xs,hlen with
  | [a0,a1,a2,a3,a4,a5,a6],_=>exact ⟨a0,a1,a2,a3,a4,a5,a6,rfl⟩
 have hw2:∀ n∈DataW.weightsEach Tryd.prog [3,9,9,3,4,31,32] [x0.1,x1.1,x2.1,x3.1,x4.1,x5.1,x6.1],n≤reachBytes:=fun n hn=>hw n (by simp only [DataW.weights,aI (t:=34) rfl];exact hn)
 simp only [DataW.weightsEach,List.mem_append] at hw2
 simp only [Rows.uptoBulk,List.map_cons,List.map_nil,Rows.uptoBulkAll] at hbk
 have g0:DataW.trod eh Tryd.prog W 0 (fun _=>true) true n 3 ((cs.drop 0).take (Tryd.prog.cellsOf 3))=some x0:=hf 0 _ rfl
 rw [(bv (t:=3) rfl).1] at g0
 obtain ⟨m0,r0,o0,c0⟩:=op3 (nb:=nb) W n _ _ g0 (fun n hn=>hw2 n (.inl hn)) (by omega)
 have g1:DataW.trod eh Tryd.prog W 0 (fun _=>true) true n 9 ((cs.drop 1).take (Tryd.prog.cellsOf 9))=some x1:=hf 1 _ rfl
 rw [(bv (t:=9) rfl).1] at g1
 obtain ⟨m1,r1,o1,c1⟩:=op9 (nb:=nb) W n _ _ g1 (fun n hn=>hw2 n (.inr (.inl hn))) (by omega)
 have g2:DataW.trod eh Tryd.prog W 0 (fun _=>true) true n 9 ((cs.drop 2).take (Tryd.prog.cellsOf 9))=some x2:=hf 2 _ rfl
 rw [(bv (t:=9) rfl).1] at g2
 obtain ⟨m2,r2,o2,c2⟩:=op9 (nb:=nb) W n _ _ g2 (fun n hn=>hw2 n (.inr (.inr (.inl hn)))) (by omega)
 have g3:DataW.trod eh Tryd.prog W 0 (fun _=>true) true n 3 ((cs.drop 3).take (Tryd.prog.cellsOf 3))=some x3:=hf 3 _ rfl
 rw [(bv (t:=3) rfl).1] at g3
 obtain ⟨m3,r3,o3,c3⟩:=op3 (nb:=nb) W n _ _ g3 (fun n hn=>hw2 n (.inr (.inr (.inr (.inl hn))))) (by omega)
 have g4:DataW.trod eh Tryd.prog W 0 (fun _=>true) true n 4 ((cs.drop 4).take (Tryd.prog.cellsOf 4))=some x4:=hf 4 _ rfl
 rw [(bv (t:=4) rfl).1] at g4
 obtain ⟨m4,r4,o4,c4⟩:=op4 (nb:=nb) W n _ _ g4 (fun n hn=>hw2 n (.inr (.inr (.inr (.inr (.inl hn)))))) (by omega)
 have g5:DataW.trod eh Tryd.prog W 0 (fun _=>true) true n 31 ((cs.drop 5).take (Tryd.prog.cellsOf 31))=some x5:=hf 5 _ rfl
 rw [(bv (t:=31) rfl).1] at g5
 obtain ⟨m5,r5,o5,c5⟩:=op31 (nb:=nb) W n _ _ g5 (fun n hn=>hw2 n (.inr (.inr (.inr (.inr (.inr (.inl hn))))))) (by omega)
 have g6:DataW.trod eh Tryd.prog W 0 (fun _=>true) true n 32 ((cs.drop 6).take (Tryd.prog.cellsOf 32))=some x6:=hf 6 _ rfl
 rw [(bv (t:=32) rfl).1] at g6
 obtain ⟨m6,r6,o6,c6⟩:=op32 (nb:=nb) W n _ _ g6 (fun n hn=>hw2 n (.inr (.inr (.inr (.inr (.inr (.inr (.inl hn)))))))) (by omega)
 have hl2:cs.length=7:=hl.trans (bv (t:=34) rfl).1
 exact ⟨(⟨m0,m1,m2,m3,m4,m5,m6⟩:Za),(dI (off:=0) r0 (dI (off:=1) r1 (dI (off:=2) r2 (dI (off:=3) r3 (dI (off:=4) r4 (dI (off:=5) r5 (dI (off:=6) r6 (pT hl2)))))))),(dJ (off:=0) o0 (dJ (off:=1) o1 (dJ (off:=2) o2 (dJ (off:=3) o3 (dJ (off:=4) o4 (dJ (off:=5) o5 (dJ (off:=6) o6 (pU hl2)))))))),⟨c0,c1,c2,c3,c4,c5,c6,trivial⟩⟩
def bd22:Nat→(List Za)→Prop:=fun n l=>l.length*104≤140737488355328∧l.length≤n∧∀ x∈l,bd34 n x
theorem op22 {H:Type} {eh:TypeId×Value→H} {nb:Nat}:Opens eh nb 22 (eL Za.enc) (bd22 nb):=fB rfl rfl rfl rfl op34
def bd23:Nat→(List Int)→Prop:=fun n l=>l.length*8≤140737488355328∧l.length≤n∧∀ x∈l,bd3 n x
theorem op23 {H:Type} {eh:TypeId×Value→H} {nb:Nat}:Opens eh nb 23 (eL eI) (bd23 nb):=fB rfl rfl rfl rfl op3
end SX
end Go.Proofs.YtipjgkapcgpgbaaDoor
set_option maxRecDepth 100000
namespace Go.Proofs.YtipjgkapcgpgbaaDoor
open Go Go.ChangeShapes Go.WideShapes Go.RowKit
open SX
theorem planValidate_lifted (os:Os) (started:os.Started) (H:Type) (enc:TypeId×Value→H) :
    ReturnsInHanded {} Tryd.checked os 3 .any (fun w args=>(Rows.planValidateSpec.pre enc Tryd.prog Tryd.f3 [] false w args∧laidMetH Tryd.prog ln w)∧sizedMet enc Tryd.prog Tryd.f3 (OpenSpec.ofChange Rows.planValidateSpec) false w args)
      (Rows.planValidateSpec.post enc Tryd.prog Tryd.f3 false true false false):=by
  refine returnsInHanded_of_change_and (C:=Tryd.checked) (X:=fun w _=>laidMetH Tryd.prog ln w) (fun _ _ _ hh h=>h.of_heap hh) own_ok started (by kernel_rfl) Tryd.func3
    (ChangeSpec.witness_at (enc:=enc) (C:=Tryd.checked) (os:=os) (X:=fun w _=>laidMetH Tryd.prog ln w) false (laidWorld os) #[.slice none 0 0,.slice none 0 0,.string ByteArray.empty] 8 rfl (by kernel_rfl) (by kernel_rfl) (by kernel_rfl) (by kernel_rfl) (by kernel_rfl) (kL os _)) ?_
  intro W base args ds gs before hval0 hW _ hwt hL _
  have hval:∀ (j:Nat) t v,Tryd.f3.params[j]?=some t→args[j]?=some v→Value.okWide Tryd.prog W .any base t v:=hval0
  have hW2:=hW
  obtain ⟨p,q,hA0,hV0,rfl,_,_⟩:=hW
  have hA:DataW.TrodAll enc Tryd.prog W 0 (fun _=>true) true [22,23,9] args.toList ds p:=hA0
  obtain ⟨rfl,rfl⟩:gs=[]∧q=[]:=by
    cases gs with
    | nil=>exact ⟨rfl,hV0⟩
    | cons g r=>exact absurd hV0 (by intro h;cases h)
  generalize hargs:args.toList=vs at hA
  have hval2:∀ (j:Nat) t v,[22,23,9][j]?=some t→vs[j]?=some v→Value.okWide Tryd.prog W .any base t v:=fun j t v h1 h2=>hval j t v (by rw [Tryd.params3];simpa using h1) (by rw [← hargs] at h2;simpa using h2)
  obtain ⟨v0,vs0,d0,ds0,p0,q0,rfl,rfl,h0,hA⟩:=SX.trodAll_cons hA
  obtain ⟨v1,vs1,d1,ds1,p1,q1,rfl,rfl,h1,hA⟩:=SX.trodAll_cons hA
  obtain ⟨v2,vs2,d2,ds2,p2,q2,rfl,rfl,h2,hA⟩:=SX.trodAll_cons hA
  obtain ⟨rfl,rfl⟩:=SX.trodAll_nil hA
  have hw:(DataW.weightsEach Tryd.prog [22,23,9] [d0,d1,d2]).all (· ≤ reachBytes)=true:=hwt
  obtain ⟨l0,hw⟩:=SX.light_head hw
  obtain ⟨m0,s0,b0⟩:=mg rfl rfl op22 (fun _=>⟨_,rfl⟩) (hval2 0 22 v0 rfl rfl) h0 l0 (Nat.le_refl _)
  obtain ⟨l1,hw⟩:=SX.light_head hw
  obtain ⟨m1,s1,b1⟩:=mg rfl rfl op23 (fun _=>⟨_,rfl⟩) (hval2 1 23 v1 rfl rfl) h1 l1 (Nat.le_refl _)
  obtain ⟨l2,hw⟩:=SX.light_head hw
  obtain ⟨m2,s2,b2⟩:=mg rfl rfl op9 (fun _=>⟨_,rfl⟩) (hval2 2 9 v2 rfl rfl) h2 l2 (Nat.le_refl _)
  exact sN (readB (by kernel_rfl)) rfl (aI rfl) rfl (by simp [Rows.planValidateSpec]) hW2 (nI hL) (by rw [hargs];exact (s0.app (s1.app s2))) (gA (i9 m0 m1 m2 s0 s1 s2))
theorem planValidate_holds:Rows.PlanValidateSaid :=
 OpenClaim.holds_of_wide 3 Tryd.f3 rfl rfl rfl rfl rfl rfl rfl ⟨rfl,rfl,rfl,rfl,rfl⟩ rfl rfl rfl rfl rfl planValidate_named Tryd.func3 planValidate_closed
  (of_decide_eq_true (by kernel_rfl)) (by unfold Func.isWrapper;rw [if_neg (of_decide_eq_false (by kernel_rfl))];exact ⟨rfl,rfl⟩)
  (fun os started H enc _=>planValidate_lifted os started H enc)
theorem planValidate_card:Rows.PlanValidateCardSaid :=
 Claim7.holds_tied_plain_at .later [] [.data,.data,.pinned] true (true, "bd0888e3d54737700e71017b2812dab827b3a3f36104f0d145c5211c566f5e81") false
  planValidate_holds (fun _ h=>by cases h) (by as_aux_lemma=>kernel_rfl) (fun _ h=>by cases h) planValidate_row_tie rfl ⟨rfl,rfl⟩ fp_main rfl
  (fun f fn hf hfn=>by
   obtain rfl:f=3:=Option.some.inj ((show Tryd.prog.funcNamed "customs/customslaw13.PlanValidate" = some 3 from planValidate_named).symm.trans hf) |>.symm
   obtain rfl:fn=Tryd.f3:=(Option.some.inj (Tryd.func3.symm.trans hfn)).symm
   exact ⟨fp_looks,fun j t ht=>by
    rw [Tryd.params3] at ht
    exact nJ (by as_aux_lemma=>kernel_rfl) ht⟩)
  planValidate_goes
#print axioms planValidate_card
end Go.Proofs.YtipjgkapcgpgbaaDoor
