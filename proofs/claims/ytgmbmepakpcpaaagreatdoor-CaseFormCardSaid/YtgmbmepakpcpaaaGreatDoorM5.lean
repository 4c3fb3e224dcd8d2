/- CaseForm: for every input the law returns true, and each argument reads afterwards as it read before. Conditions: the package variables are as the program's text lays them (the card ties them). -/
import Derived.Test.YtgmbmepakpcpaaaGreatDoorM4
import Derived.Test.YtgmbmepakpcpaaaGreatDoorL13q
set_option linter.unusedVariables false
set_option linter.unusedSimpArgs false
set_option maxHeartbeats 4000000
set_option maxRecDepth 100000
namespace Go.Proofs.YtgmbmepakpcpaaaGreatDoor
namespace SX
open Go
theorem C6_ctry {s:ByteArray} (h:s∈C6):ctry s=true:=List.all_eq_true.1 C6_ok.1 s h
theorem W5_words {l:List ByteArray} (h:l.Sublist W5):i4 l=true:=by
 unfold i4
 have h1:=h.length_le
 have h5:W5.length=5:=rfl
 simp only [Bool.and_eq_true,decide_eq_true_eq]
 exact ⟨by omega,List.all_eq_true.2 fun s hs=>List.all_eq_true.1 W5_ok.1 s (h.subset hs),(iT _).2 (List.Pairwise.sublist h ((iT _).1 W5_ok.2.1))⟩
theorem MPs.found {l:List Ze} (h:MPs l) {k:Nat} (hk:k<l.length):(dA l (3*((k:Int)+1))).isSome=true:=by
 unfold dA
 rw [List.find?_isSome]
 exact ⟨l[k],List.getElem_mem hk,by have:=(h.all k _ (List.getElem?_eq_getElem hk)).id;simpa using this⟩
theorem MPs.vps {l:List Ze} (h:MPs l):VPs l:=by
 refine ⟨by have:=h.len;omega,h.sorted.asc,fun p hp=>?_⟩
 obtain ⟨i,hi,rfl⟩:=List.getElem_of_mem hp
 have hm:=h.all i _ (List.getElem?_eq_getElem hi)
 refine ⟨by have:=hm.price;omega,by have:=hm.lvl.1;omega,C6_ctry hm.ctr,W5_words hm.proc,by have:=hm.few;omega,hm.asc,fun x hx=>?_,hm.obt⟩
 obtain ⟨⟨k,hk,e⟩,h1,h2⟩:=hm.inp x hx
 exact ⟨by rw [e];exact h.found hk,h1,by omega⟩
theorem claim_Y {p:List Ze} {a:List Zb} (hp:1≤p.length∧p.length≤64) (ha:1≤a.length∧a.length≤1000) (x y:Int):Y (iO p a x y) (fun c=>(∃ q∈p,c.Product=q.ID)∧∃ b∈a,c.Agreement=b.ID):=by
 unfold iO
 refine (qR x (p.length:Int) (by omega) (by omega)).bind fun u ⟨u1,u2⟩=>?_
 obtain ⟨i,rfl⟩:∃ i:Nat,u=(i:Int):=⟨u.toNat,by omega⟩
 refine Y.idx rfl (show i<p.length by omega) ?_
 refine (qR y (a.length:Int) (by omega) (by omega)).bind fun w ⟨w1,w2⟩=>?_
 obtain ⟨j,rfl⟩:∃ j:Nat,w=(j:Int):=⟨w.toNat,by omega⟩
 exact Y.idx rfl (show j<a.length by omega) (Y.ret ⟨⟨_,List.getElem_mem _,rfl⟩,⟨_,List.getElem_mem _,rfl⟩⟩)
theorem AK (p:List Ze) (a:List Zb) (hp:p.length≤64) (ha:a.length≤1000) (l:List Int):Y (eG p a l) (fun s=>s.length≤64*1000):=by
 unfold eG
 refine Y.bind (P:=fun s:List Za=>s.length≤64*1000) ?_ fun s hs=>Y.ret hs
 refine Y.loop (fun s:List Za×Int=>∃ v:Nat,s.2=(v:Int)∧v≤p.length∧s.1.length≤v*1000) (fun s=>(p.length - s.2).toNat) ⟨0,rfl,by omega,by simp⟩ (by dsimp only;omega) fun s hs=>?_
 obtain ⟨q,i⟩:=s
 obtain ⟨v,rfl,h1,h2⟩:=hs
 dsimp only at h2 ⊢
 refine Y.cond (fun hc=>?_) (fun hc=>Y.ret (by dsimp only;omega))
 have hv:v<p.length:=by have:=of_decide_eq_true hc;omega
 refine Y.bind (P:=fun s:List Za=>s.length≤(v+1)*1000) ?_ fun s hs=>Y.ret ⟨⟨v+1,?_,by omega,hs⟩,?_⟩
 ·refine Y.loop (fun s:List Za×Int=>∃ u:Nat,s.2=(u:Int)∧u≤a.length∧s.1.length≤v*1000+u) (fun s=>(a.length - s.2).toNat) ⟨0,rfl,by omega,h2⟩ (by dsimp only;omega) fun s hs=>?_
  obtain ⟨t,j⟩:=s
  obtain ⟨u,rfl,g1,g2⟩:=hs
  dsimp only at g2 ⊢
  refine Y.cond (fun hc=>?_) (fun hc=>Y.ret (by dsimp only;omega))
  have hu:u<a.length:=by have:=of_decide_eq_true hc;omega
  have hm:v*a.length≤64*1000:=Nat.mul_le_mul (by omega) ha
  refine Y.bind (P:=fun s:List Za=>s.length≤v*1000+u+1) ?_ fun s hs=>Y.ret ⟨⟨u+1,?_,by omega,by omega⟩,?_⟩
  ·unfold lb
   have e:(v:Int)*(a.length:Int)=((v*a.length:Nat):Int):=by simp
   rw [e,cg (r:=((v*a.length:Nat):Int)) (by omega) (by omega),cg (by omega) (by omega),show ((v*a.length:Nat):Int)+(u:Int)=((v*a.length+u:Nat):Int) by omega]
   have hg:∃ m,gd (decide (((v*a.length+u:Nat):Int)<(l.length:Int))) (idx l ((v*a.length+u:Nat):Int))=some m:=by
    by_cases h:v*a.length+u<l.length
    ·rw [det (by omega),fF,bh h];exact ⟨_,rfl⟩
    rw [cq (by omega),lR];exact ⟨_,rfl⟩
   obtain ⟨m,hm⟩:=hg
   dsimp only
   rw [hm,bI]
   refine Y.cond (fun _=>?_) (fun _=>Y.ret (by omega))
   refine Y.idx rfl hv (Y.idx rfl hu ?_)
   rw [dy (by simp;omega) (by simp;omega)]
   exact Y.ret (by simp;omega)
  ·show IntKind.i64.wrap ((u:Int)+1)=_;rw [cg (by omega) (by omega)];omega
  show ((a.length:Int) - IntKind.i64.wrap ((u:Int)+1)).toNat<((a.length:Int) - (u:Int)).toNat;rw [cg (by omega) (by omega)];omega
 ·show IntKind.i64.wrap ((v:Int)+1)=_;rw [cg (by omega) (by omega)];omega
 show ((p.length:Int) - IntKind.i64.wrap ((v:Int)+1)).toNat<((p.length:Int) - (v:Int)).toNat;rw [cg (by omega) (by omega)];omega
theorem AL (ps:List Int) (S:CSet) (q:Ze) (v:Int):(ez ps S q v).1.Code=q.Code∧(ez ps S q v).1.Value=v∧(ez ps S q v).1.Originating=(ez ps S q v).2.isSome:=by
 unfold ez;split <;> exact ⟨rfl,rfl,rfl⟩
theorem wq {plan:List Ze} (hv:VPs plan) (a:Zb) (ps:List Int) (S:CSet) {p:Ze} (hp:VProd plan p) (P:Zi×Option Za→Prop) (h:∀ q∈plan,∀ v,0≤v→v≤1000000000000→P (ez ps S q v)):∀ t∈dL plan a ps S p,P t:=by
 intro t ht
 unfold dL at ht
 obtain ⟨x,hx,ht⟩:=List.mem_flatMap.1 ht
 obtain ⟨h1,h2,h3⟩:=hp.inp x hx
 obtain ⟨hq1,hq2,_⟩:=hR hv h1
 unfold ep at ht
 cases hc:((ez ps S (bC plan x.Product) x.Value).2.isSome || !oQ a (bC plan x.Product)||(bC plan x.Product).Inputs.isEmpty)
 ·rw [hc,cT] at ht
  obtain ⟨y,hy,rfl⟩:=List.mem_map.1 ht
  obtain ⟨g1,g2,g3⟩:=hq2.inp y hy
  have hr:=ri h2 g2 hq2.price.1
  exact h _ (hR hv g1).1 _ hr.1 hr.2
 rw [hc,dn] at ht
 rw [List.mem_singleton.1 ht]
 exact h _ hq1 _ h2 h3
theorem vh {a b:List ByteArray} (ha:∀ s∈a,gj s=true) (hb:∀ s∈b,gj s=true):(∀ s∈kp a b,gj s=true)∧Strict ib (kp a b):=by
 refine ⟨fun s hs=>?_,su wh _⟩
 have:=(Aw (lt:=ib) (a++b) s).1 hs
 rcases List.mem_append.1 this with h | h
 ·exact ha s h
 exact hb s h
theorem rk {plan:List Ze} (hv:VPs plan) (a:Zb):∀ (xs:List Zg) (acc:List ByteArray),(∀ x∈xs,(dA plan x.Product).isSome=true)→(∀ s∈acc,gj s=true)→Strict ib acc→(∀ s∈xs.foldl (iU plan a) acc,gj s=true)∧Strict ib (xs.foldl (iU plan a) acc)
 | [],acc,_,h1,h2=>⟨h1,h2⟩
 | x::xs,acc,h,h1,h2=>by
  have hx:=hR hv (h x (by simp))
  rw [List.foldl_cons]
  have:(∀ s∈iU plan a acc x,gj s=true)∧Strict ib (iU plan a acc x):=by
   unfold iU
   cases oQ a (bC plan x.Product)
   ·exact ⟨h1,h2⟩
   exact vh h1 (jr hx.2.1.proc).2.1
  exact rk hv a xs _ (fun y hy=>h y (by simp [hy])) this.1 this.2
theorem wr {s:ByteArray} (h:gj s=true):s.size≤12:=by
 unfold gj at h;simp only [Bool.and_eq_true,decide_eq_true_eq] at h;omega
theorem wt {l:List ByteArray} (h1:∀ s∈l,gj s=true) (h2:Strict ib l):i4 (l.take 8)=true∧StrsOk (l.take 8):=by
 refine ⟨?_,by rw [List.length_take];omega,fun s hs=>by have:=wr (h1 s (List.mem_of_mem_take hs));omega⟩
 unfold i4
 simp only [Bool.and_eq_true,decide_eq_true_eq]
 exact ⟨by rw [List.length_take];omega,List.all_eq_true.2 fun s hs=>h1 s (List.mem_of_mem_take hs),(iT _).2 (List.Pairwise.sublist (List.take_sublist _ _) h2)⟩
structure VCase (x:Zp):Prop where
 lvl:6≤gY x.Code
 price:1≤x.Price∧x.Price≤1000000000000
 proc:i4 x.Processes=true∧StrsOk x.Processes
 few:x.Inputs.length≤100
 inp:∀ y∈x.Inputs,6≤gY y.Code∧0≤y.Value∧y.Value≤1000000000000
theorem rl {plan:List Ze} {l:List Zb} (hv:VPs plan) (imp:ByteArray) (c:Za) (S:CSet) (h:(dA plan c.Product).isSome=true):VCase (sy plan l imp c S):=by
 obtain ⟨hq1,hq,_⟩:=hR hv h
 obtain ⟨w1,w2,w3⟩:=jr hq.proc
 have hw:=rk hv (lC l c.Agreement) (bC plan c.Product).Inputs _ (fun x hx=>(hq.inp x hx).1) w2 w3
 refine ⟨hq.lvl,hq.price,wt hw.1 hw.2,?_,?_⟩
 ·unfold sy;dsimp only;rw [List.length_map];have:=lB hv (lC l c.Agreement) (dl l c.Agreement (bC plan c.Product).Country imp) S hq;omega
 unfold sy;dsimp only
 intro y hy
 obtain ⟨t,ht,rfl⟩:=List.mem_map.1 hy
 refine wq hv _ _ S hq (fun t=>6≤gY t.1.Code∧0≤t.1.Value∧t.1.Value≤1000000000000) (fun q hqp v h1 h2=>?_) t ht
 obtain ⟨g1,g2,_⟩:=AL (dl l c.Agreement (bC plan c.Product).Country imp) S q v
 rw [g1,g2];exact ⟨(hv.all q hqp).lvl,h1,h2⟩
theorem rm {x:Zp} (h:VCase x):dK x=some 0:=by
 unfold dK fX
 have hl:=h.few
 show Option.bind (some (decide (6≤gY x.Code))) _=_
 rw [det h.lvl,bI]
 simp only [Bool.not_true,cT]
 rw [cq (by have:=h.price;omega),cq (by have:=h.price;omega),Bool.or_self,cT,qN _ h.proc.2,h.proc.1,bI]
 simp only [Bool.not_true,cT]
 rw [cq (by omega),cT]
 refine (dF (l:=x.Inputs) (by omega) (fun _ _=>none) (.inl ()) (fun k hk=>?_) (by simp only [fu,cT])).trans ?_
 ·have hy:=h.inp _ (List.getElem_mem hk)
  simp only [lp hk,dn,bh hk,bI,dq hk (show x.Inputs.length≤4611686018427387904 by omega)]
  show Option.bind (Option.bind (some (gY x.Inputs[k].Code)) _) _=_
  rw [bI,det hy.1,bI,cq (by omega),cq (by omega)];rfl
 have:∀ (m:List Zi) (i:Nat),dX (fun (_:Nat) (_:Zi)=>(none:Option (Unit⊕Int))) m i=none:=by
  intro m
  induction m with
  | nil=>intro i;rfl
  | cons x m ih=>intro i;exact ih _
 rw [this];rfl
theorem yr (x:Zp) (h1:x.Processes.length≤140737488355328) (h2:x.Inputs.length≤140737488355328):jO x x=some true:=by
 unfold jO
 rw [jV _ _ h1]
 simp only [decide_true,Bool.not_true,bne_self_eq_false,Bool.or_self,Bool.not_false,fF,bI,cT]
 refine (lx h2 Zi.eqb ⟨rfl,rfl⟩ rfl (fun k hk hk2=>?_) (by simp only [fu,cT])).trans ?_
 ·simp only [lp hk,dn,bh hk,bI,dq hk (show x.Inputs.length≤4611686018427387904 by omega)]
  cases Zi.eqb x.Inputs[k] x.Inputs[k] <;> rfl
 have:∀ l:List Zi,pa Zi.eqb l l=true:=by
  intro l
  induction l with
  | nil=>rfl
  | cons x l ih=>rw [pa,ih,Zi.eqb_iff.2 rfl];rfl
 rw [this]
theorem AM {plan:List Ze} {l:List Zb} (hv:VPs plan) (imp:ByteArray) (c:Za) (S:CSet) (h:(dA plan c.Product).isSome=true):(vf plan l imp c S).length≤64:=by
 obtain ⟨hq1,hq,_⟩:=hR hv h
 unfold vf
 have h1:=Ax (lt:=bH) ((dL plan (lC l c.Agreement) (dl l c.Agreement (bC plan c.Product).Country imp) S (bC plan c.Product)).filterMap (·.2))
 have h2:=List.length_filterMap_le (fun x:Zi×Option Za=>x.2) (dL plan (lC l c.Agreement) (dl l c.Agreement (bC plan c.Product).Country imp) S (bC plan c.Product))
 have h3:=lB hv (lC l c.Agreement) (dl l c.Agreement (bC plan c.Product).Country imp) S hq
 omega
theorem om {p:List Ze} {l:List Zb} {i:ByteArray} {c:Za} (h:pg p l i c=true):(dA p c.Product).isSome=true:=by
 obtain ⟨q,a,r,e,_⟩:=ol h;rw [e];rfl
theorem wv {plan:List Ze} {l:List Zb} (hv:VPs plan) (imp:ByteArray) (c:Za) (S:CSet):(lD plan l imp c S).1.Processes.length≤140737488355328∧(lD plan l imp c S).1.Inputs.length≤140737488355328∧(lD plan l imp c S).2.length≤64:=by
 unfold lD
 cases h:pg plan l imp c
 ·exact ⟨by simp [AF],by simp [AF],by simp⟩
 have hc:=rl (l:=l) hv imp c S (om h)
 exact ⟨hc.proc.2.1,by have:=hc.few;simp only [dn];omega,AM hv imp c S (om h)⟩
theorem tM (m0 m1:List Int) (m2 m3 m4:Int) (m5:List Int) {κ:Kr} {v0 v1 v2 v3 v4 v5:List Value} (_:Rps κ (eL eI m0) v0) (_:Rps κ (eL eI m1) v1) (_:Rps κ (eI m2) v2) (_:Rps κ (eI m3) v3) (_:Rps κ (eI m4) v4) (_:Rps κ (eL eI m5) v5):hI m0 m1 m2 m3 m4 m5=some true:=by
 unfold hI
 obtain ⟨p,e1,h1⟩:=plan_Y m0
 obtain ⟨l,e2,h2⟩:=tA m1
 rw [e1,bI,e2,bI]
 have hp:=h1.len;have hl:=h2.len
 obtain ⟨c,e3,_⟩:=claim_Y (p:=p) (a:=l) (by omega) (by omega) m2 m3
 obtain ⟨imp,e4,_⟩:=wf m4
 obtain ⟨s,e5,hs⟩:=AK p l (by omega) (by omega) m5
 have hv:=h1.vps
 obtain ⟨g1,g2,g3⟩:=wv (l:=l) hv imp c (dm s)
 rw [e3,bI,e4,bI,e5,bI,yq hv h2.vas imp c s (by omega),bI,AJ hv h2.vas imp c s (by omega),bI,yr _ g1 g2,bI,fF,rH _ _ (by omega),bI,det rfl]
 simp only [Bool.and_self,Bool.true_and]
 have hcase:decide ((lD p l imp c (dm s)).1.Code=(⟨#[]⟩:ByteArray))=true∨dK (lD p l imp c (dm s)).1=some 0:=by
  unfold lD
  cases h:pg p l imp c
  ·left;rfl
  right;exact rm (rl hv imp c _ (om h))
 rcases hcase with h | h
 ·rw [h];simp only [Bool.not_true,lR,bI,Bool.true_or,fF,qU,Bool.and_self]
 rw [h]
 cases decide ((lD p l imp c (dm s)).1.Code=(⟨#[]⟩:ByteArray))
 ·simp only [Bool.not_false,fF,bI,beq_self_eq_true,Bool.or_true,qU,Bool.and_self]
 simp only [Bool.not_true,lR,bI,Bool.true_or,fF,qU,Bool.and_self]
def bd3:Nat→Int→Prop:=fun _ _=>True
theorem op3 {H:Type} {eh:TypeId×Value→H} {nb:Nat}:Opens eh nb 3 eI (bd3 nb):=yb rfl
def bd22:Nat→(List Int)→Prop:=fun n l=>l.length*8≤140737488355328∧l.length≤n∧∀ x∈l,bd3 n x
theorem op22 {H:Type} {eh:TypeId×Value→H} {nb:Nat}:Opens eh nb 22 (eL eI) (bd22 nb):=uV rfl rfl rfl rfl op3
end SX
end Go.Proofs.YtgmbmepakpcpaaaGreatDoor
set_option maxRecDepth 100000
namespace Go.Proofs.YtgmbmepakpcpaaaGreatDoor
open Go Go.ChangeShapes Go.WideShapes Go.RowKit
open SX
theorem caseForm_lifted (os:Os) (started:os.Started) (H:Type) (enc:TypeId×Value→H) :
    ReturnsInHanded {} Tryz.checked os 3 .any (fun w args=>(Rows.caseFormSpec.pre enc Tryz.prog Tryz.f3 [] false w args∧laidMetH Tryz.prog sn w)∧sizedMet enc Tryz.prog Tryz.f3 (OpenSpec.ofChange Rows.caseFormSpec) false w args)
      (Rows.caseFormSpec.post enc Tryz.prog Tryz.f3 false true false false):=by
  refine returnsInHanded_of_change_and (C:=Tryz.checked) (X:=fun w _=>laidMetH Tryz.prog sn w) (fun _ _ _ hh h=>h.of_heap hh) own_ok started (by kernel_rfl) Tryz.func3
    (ChangeSpec.witness_at (enc:=enc) (C:=Tryz.checked) (os:=os) (X:=fun w _=>laidMetH Tryz.prog sn w) false (laidWorld os) #[.slice none 0 0,.slice none 0 0,.int .i64 0,.int .i64 0,.int .i64 0,.slice none 0 0] 8 rfl (by kernel_rfl) (by kernel_rfl) (by kernel_rfl) (by kernel_rfl) (by kernel_rfl) (rF os _)) ?_
  intro W base args ds gs before hval0 hW _ hwt hL _
  have hval:∀ (j:Nat) t v,Tryz.f3.params[j]?=some t→args[j]?=some v→Value.okWide Tryz.prog W .any base t v:=hval0
  have hW2:=hW
  obtain ⟨p,q,hA0,hV0,rfl,_,_⟩:=hW
  have hA:DataW.TrodAll enc Tryz.prog W 0 (fun _=>true) true [22,22,3,3,3,22] args.toList ds p:=hA0
  obtain ⟨rfl,rfl⟩:gs=[]∧q=[]:=by
    cases gs with
    | nil=>exact ⟨rfl,hV0⟩
    | cons g r=>exact absurd hV0 (by intro h;cases h)
  generalize hargs:args.toList=vs at hA
  have hval2:∀ (j:Nat) t v,[22,22,3,3,3,22][j]?=some t→vs[j]?=some v→Value.okWide Tryz.prog W .any base t v:=fun j t v h1 h2=>hval j t v (by rw [Tryz.params3];simpa using h1) (by rw [← hargs] at h2;simpa using h2)
  obtain ⟨v0,vs0,d0,ds0,p0,q0,rfl,rfl,h0,hA⟩:=SX.trodAll_cons hA
  obtain ⟨v1,vs1,d1,ds1,p1,q1,rfl,rfl,h1,hA⟩:=SX.trodAll_cons hA
  obtain ⟨v2,vs2,d2,ds2,p2,q2,rfl,rfl,h2,hA⟩:=SX.trodAll_cons hA
  obtain ⟨v3,vs3,d3,ds3,p3,q3,rfl,rfl,h3,hA⟩:=SX.trodAll_cons hA
  obtain ⟨v4,vs4,d4,ds4,p4,q4,rfl,rfl,h4,hA⟩:=SX.trodAll_cons hA
  obtain ⟨v5,vs5,d5,ds5,p5,q5,rfl,rfl,h5,hA⟩:=SX.trodAll_cons hA
  obtain ⟨rfl,rfl⟩:=SX.trodAll_nil hA
  have hw:(DataW.weightsEach Tryz.prog [22,22,3,3,3,22] [d0,d1,d2,d3,d4,d5]).all (· ≤ reachBytes)=true:=hwt
  obtain ⟨l0,hw⟩:=SX.light_head hw
  obtain ⟨m0,s0,b0⟩:=mB rfl rfl op22 (fun _=>⟨_,rfl⟩) (hval2 0 22 v0 rfl rfl) h0 l0 (Nat.le_refl _)
  obtain ⟨l1,hw⟩:=SX.light_head hw
  obtain ⟨m1,s1,b1⟩:=mB rfl rfl op22 (fun _=>⟨_,rfl⟩) (hval2 1 22 v1 rfl rfl) h1 l1 (Nat.le_refl _)
  obtain ⟨l2,hw⟩:=SX.light_head hw
  obtain ⟨m2,s2,b2⟩:=mB rfl rfl op3 (fun _=>⟨_,rfl⟩) (hval2 2 3 v2 rfl rfl) h2 l2 (Nat.le_refl _)
  obtain ⟨l3,hw⟩:=SX.light_head hw
  obtain ⟨m3,s3,b3⟩:=mB rfl rfl op3 (fun _=>⟨_,rfl⟩) (hval2 3 3 v3 rfl rfl) h3 l3 (Nat.le_refl _)
  obtain ⟨l4,hw⟩:=SX.light_head hw
  obtain ⟨m4,s4,b4⟩:=mB rfl rfl op3 (fun _=>⟨_,rfl⟩) (hval2 4 3 v4 rfl rfl) h4 l4 (Nat.le_refl _)
  obtain ⟨l5,hw⟩:=SX.light_head hw
  obtain ⟨m5,s5,b5⟩:=mB rfl rfl op22 (fun _=>⟨_,rfl⟩) (hval2 5 22 v5 rfl rfl) h5 l5 (Nat.le_refl _)
  exact Am (readB (by kernel_rfl)) rfl (bt rfl) rfl (by simp [Rows.caseFormSpec]) hW2 (uX hL) (by rw [hargs];exact (s0.app (s1.app (s2.app (s3.app (s4.app s5)))))) (nF (tM m0 m1 m2 m3 m4 m5 s0 s1 s2 s3 s4 s5))
theorem caseForm_holds:Rows.CaseFormSaid :=
 OpenClaim.holds_of_wide 3 Tryz.f3 rfl rfl rfl rfl rfl rfl rfl ⟨rfl,rfl,rfl,rfl,rfl⟩ rfl rfl rfl rfl rfl caseForm_named Tryz.func3 caseForm_closed
  (of_decide_eq_true (by kernel_rfl)) (by unfold Func.isWrapper;rw [if_neg (of_decide_eq_false (by kernel_rfl))];exact ⟨rfl,rfl⟩)
  (fun os started H enc _=>caseForm_lifted os started H enc)
theorem caseForm_card:Rows.CaseFormCardSaid :=
 Claim7.holds_tied_plain_at .later [] [.data,.data,.pinned] true (true, "d6724934cde0ef4b5d01703053d4c3277341bc42a1cf7659bfec0d43871970fd") true
  caseForm_holds (fun _ h=>by cases h) (by as_aux_lemma=>kernel_rfl) (fun _ h=>by cases h) caseForm_row_tie rfl ⟨rfl,rfl⟩ fp_main rfl
  (fun f fn hf hfn=>by
   obtain rfl:f=3:=Option.some.inj ((show Tryz.prog.funcNamed "customs/customslaw14.CaseForm" = some 3 from caseForm_named).symm.trans hf) |>.symm
   obtain rfl:fn=Tryz.f3:=(Option.some.inj (Tryz.func3.symm.trans hfn)).symm
   exact ⟨fp_looks,fun j t ht=>by
    rw [Tryz.params3] at ht
    exact uY (by as_aux_lemma=>kernel_rfl) ht⟩)
  caseForm_goes
#print axioms caseForm_card
end Go.Proofs.YtgmbmepakpcpaaaGreatDoor
