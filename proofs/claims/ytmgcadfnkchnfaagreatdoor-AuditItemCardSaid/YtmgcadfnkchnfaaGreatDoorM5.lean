/- A part of the proof: texts of the walk and of the plain laws, merged. No condition. -/
import Derived.Test.YtmgcadfnkchnfaaGreatDoorM4
set_option linter.unusedVariables false
set_option linter.unusedSimpArgs false
set_option maxHeartbeats 4000000
set_option maxRecDepth 100000
set_option maxRecDepth 100000
namespace Go.Proofs.YtmgcadfnkchnfaaGreatDoor
namespace SX
open Go Go.RowKit
theorem op_inW {o:Oper} {K K':Act→World→Prop} {Q1:Act→World→Prop} {Q:Exit→Act→World→Prop} {a:Act} {w:World} (hk:∀ a w,K a w→K' a w) (h:o.wp Tryz.prog a w K (NP Q1)):o.wpIn Fence.wide 0 Tryz.prog a w K' Q:=by
  refine ⟨fun _ _=>trivial,?_⟩
  rw [show Fence.wide.round=none from rfl,Oper.semAt_none]
  unfold Oper.wp at h
  generalize (execOp a.eval o).run Tryz.prog w=r at *
  cases r with
  | ok v w' =>
    cases v <;> simp only [Oper.upon,Oper.uponIn] at h ⊢ <;> first
      | exact hk _ _ h
      | exact ⟨fun h=>(by cases h),CallsIn.mono (callsIn_wide.2 h) fun e w'' he=>by
          cases e with
          | returned v=>exact hk _ _ he
          | panicked c=>exact absurd he.1 (by simp)
          | outgrown=>exact absurd he na⟩
      | exact ⟨fun h=>(by cases h),fun c cs _=>let ⟨v,w',r,s⟩:=h c cs;⟨v,w',hk _ _ r,stepsIn_wide.2 s⟩⟩
      | exact h.elim
  | halt v w'=>cases v <;> simp only [Oper.upon,Oper.uponIn] at h ⊢ <;> first
      | exact h.elim
      | exact absurd h.1 (by simp)
theorem qE {ops:Array Oper} {Q1:Act→World→Prop} {Q:Exit→Act→World→Prop} {rest:List Oper} (hk:∀ a w,Q1 a w→wpListIn Fence.wide 0 Tryz.prog ops Q rest a w):∀ (l:List Oper) (a:Act) (w:World),wpList Tryz.prog ops (NP Q1) l a w→wpListIn Fence.wide 0 Tryz.prog ops Q (l++rest) a w
 | [],a,w,h=>hk a w h.2
 | o::l,a,w,h=>by
  unfold wpList at h
  rw [List.cons_append]
  unfold wpListIn
  split
  ·rename_i hw
   rw [if_pos hw] at h
   rcases h with h | h
   ·exact op_inW (fun a w=>qE hk l a w) h
   exact absurd h.2 na
  rename_i hw
  rw [if_neg hw] at h
  exact ⟨fun _ _=>trivial,qE hk l _ w h⟩
theorem uX {o:Oper} {a:Act} {w:World} {t arg:Operand} {ts:Array Nat} {l:Nat} {v:Value} {fn:FuncId} {tmps:Array Value} {assign body:Code} (ho:o.op=.call { callee:=.value t,args:=#[arg],argTypes:=ts }) (ht:a.eval t=.func (.yield l) #[] #[]) (hv:a.eval arg=v)
    (hy:(Instr.yield l #[v]).run Tryz.prog w=.ok (.round l fn tmps assign body) w):(execOp a.eval o).run Tryz.prog w=.ok (.round l fn tmps assign body) w:=by
  subst hv
  unfold execOp
  simp only [ho,ht,resolve,Deferred.ofValue,Sem.run_bind,Sem.run_pure,Result.andThen_ok,invoke]
  simpa using hy
structure Yld {X:Type} (l:Nat) (J:(Nat→Prop)→List X→World→Prop) (Jx:List X→World→Prop) (S0:Nat→Prop) (xs:List X) (xp:X→PV) (xv:X→Value):Prop where
  st:∀ T,StN (J T)
  stx:StN Jx
  yl:∀ (T:Nat→Prop) (pre:List X) (x:X) (suf:List X) (A W1:World),xs=pre++x::suf→J T pre A→Gr A W1→YieldAt Fence.wide 0 Tryz.prog l (xvs xv x) W1 fun e W' =>
      (e=.returned (.bool true)∧J (TT T A W1) (pre++[x]) W'∧Keep (fun b=>S0 b∨TT T A W1 b) W1 W')∨(e=.returned (.bool false)∧Jx (pre++[x]) W'∧Keep (fun b=>S0 b∨TT T A W1 b) W1 W')
  un:∀ x κ v,Rp κ (xp x) v→v=xv x
section
variable {X:Type} (l:Nat) (J:(Nat→Prop)→List X→World→Prop) (Jx:List X→World→Prop) (S0:Nat→Prop) (xs:List X)
def JJ:List X⊕List X→(Nat→Prop)→World→Prop
 | .inl pre,T,W=>J T pre W
 | .inr pre,_,W=>Jx pre W∧∃ suf,xs=pre++suf
abbrev IPost (X:Type):=Exit→PEnv→List PRes→List X⊕List X→Prop
def PWI (n:Nat) (c:Code) (K:IPost X) (σp:PEnv) (ρp:List PRes) (P:List X⊕List X):Prop :=
 ∀ κA (T:Nat→Prop) κ σ ρ,GOK κ→Sim κ σp σ→RRels κ ρp ρ→Zl ⟨κA,[],none⟩ ρ κ→(∀ b,κA.S b→S0 b∨T b)→JJ J Jx xs P T κA.w→∀ a,Rel [] n a σ→∀ Q:Exit→Act→World→Prop,
  (∀ e a' κB (T':Nat→Prop) σ' ρ' κ' σq ρq P',GOK κ'→Rel [] n a' σ'→Zl ⟨κB,[],none⟩ ρ' κ'→(∀ b,κB.S b→S0 b∨T' b)→Sim κ' σq σ'→RRels κ' ρq ρ'→JJ J Jx xs P' T' κB.w→K e σq ρq P'→Q e a' κ'.w)→c.wp Tryz.prog Q a κ.w
end
section
variable {X:Type} {l:Nat} {J:(Nat→Prop)→List X→World→Prop} {Jx:List X→World→Prop} {S0:Nat→Prop} {xs:List X} {xp:X→PV} {xv:X→Value} {n:Nat} {x y:Code} {K:IPost X} {σ:PEnv} {ρ:List PRes} {P:List X⊕List X}
theorem ib (h:PWC n x (fun e σ ρ=>K e σ ρ P) σ ρ):PWI J Jx S0 xs n x K σ ρ P:=fun κA T κ σ' ρ' g hs hr hi hA hJ a ha Q hq =>
 h ⟨κA,[],none⟩ κ σ' ρ' g hs hr hi a ha _ fun e a' σ'' ρ'' κ'' g1 g2 g3 ⟨σp,ρp,k1,k2,k3⟩=>hq e a' κA T σ'' ρ'' κ'' σp ρp P (g.mono g3) g1 g2 hA k1 k2 hJ k3
def DG (J:(Nat→Prop)→List X→World→Prop) (Jx:List X→World→Prop) (S0:Nat→Prop) (xs:List X) (n:Nat) (y:Code) (K:IPost X):IPost X:=fun e σ ρ P=>match e with
 | .normal=>PWI J Jx S0 xs n y K σ ρ P
 | e=>K e σ ρ P
theorem jc (h:PWI J Jx S0 xs n x (DG J Jx S0 xs n y K) σ ρ P):PWI J Jx S0 xs n (.seq x y) K σ ρ P:=fun κA T κ σ' ρ' g hs hr hi hA hJ a ha Q hq =>
 wp_seq (h κA T κ σ' ρ' g hs hr hi hA hJ a ha _ fun e a' κB T' σ'' ρ'' κ'' σp ρp P' g1 g2 g3 g4 k1 k2 k3 k4=>by
  cases e with
  | normal=>exact k4 κB T' κ'' σ'' ρ'' g1 k1 k2 g3 g4 k3 a' g2 Q hq
  | _=>exact hq _ a' κB T' σ'' ρ'' κ'' σp ρp P' g1 g2 g3 g4 k1 k2 k3 k4)
def qF (id:Nat) (K:IPost X):IPost X:=fun e σ ρ P=>match e with
 | .exit id'=>cond (Nat.beq id' id) (K .normal σ ρ P) (K (.exit id') σ ρ P)
 | e=>K e σ ρ P
theorem oG {id:Nat} (h:PWI J Jx S0 xs n x (qF id K) σ ρ P):PWI J Jx S0 xs n (.block id x) K σ ρ P:=fun κA T κ σ' ρ' g hs hr hi hA hJ a ha Q hq =>
 wp_block (h κA T κ σ' ρ' g hs hr hi hA hJ a ha _ fun e a' κB T' σ'' ρ'' κ'' σp ρp P' g1 g2 g3 g4 k1 k2 k3 k4=>by
  cases e with
  | exit id' =>
   simp only [qF] at k4
   simp only [Exit.inBlock]
   cases hb:Nat.beq id' id
   ·have hne:id'≠id:=fun h=>by rw [h] at hb;simp at hb
    rw [hb] at k4;rw [if_neg hne];exact hq _ a' κB T' σ'' ρ'' κ'' σp ρp P' g1 g2 g3 g4 k1 k2 k3 k4
   ·have he:=Nat.eq_of_beq_eq_true hb
    rw [hb] at k4;rw [if_pos he];exact hq _ a' κB T' σ'' ρ'' κ'' σp ρp P' g1 g2 g3 g4 k1 k2 k3 k4
  | _=>exact hq _ a' κB T' σ'' ρ'' κ'' σp ρp P' g1 g2 g3 g4 k1 k2 k3 k4)
theorem lS {c:Operand} {p:Bool} (hc:bG σ c=.v (.bool p)) (ht:p=true→PWI J Jx S0 xs n x K σ ρ P) (hf:p=false→PWI J Jx S0 xs n y K σ ρ P):PWI J Jx S0 xs n (.cond c x y) K σ ρ P:=fun κA T κ σ' ρ' g hs hr hi hA hJ a ha Q hq=>by
 have hv:=hs.ev c
 rw [hc] at hv
 exact wp_cond_split (t:=p) (by rw [ha.eval];exact hv.val) (fun h=>ht h κA T κ σ' ρ' g hs hr hi hA hJ a ha Q hq) (fun h=>hf h κA T κ σ' ρ' g hs hr hi hA hJ a ha Q hq)
theorem yt {Z:Type} (L:Z→List (Nat×PV)) (R:Z→List X⊕List X) (μ:Z→Nat) (z0:Z) (h0:PHolds σ (L z0)) (hP:P=R z0)
    (round:∀ z τ,PWI J Jx S0 xs n x (fun e σ ρ P=>match e with | .normal=>∃ z',PHolds σ (L z')∧P=R z'∧μ z'<μ z | e=>K e σ ρ P) (aK τ (L z)) [] (R z)):PWI J Jx S0 xs n (.loop x) K σ ρ P:=fun κA T κ σ' ρ' g hs hr hi hA hJ a ha Q hq=>by
  subst hP
  refine xt (ro:=none) (fun z a w=>∃ κA T κ σp σ',w=κ.w∧GOK κ∧Sim κ σp σ'∧PHolds σp (L z)∧Zl ⟨κA,[],none⟩ [] κ∧(∀ b,κA.S b→S0 b∨T b)∧JJ J Jx xs (R z) T κA.w∧Rel [] n a σ') μ z0 ⟨κA,T,κ,σ,σ',rfl,g,hs,h0,hi.sub (List.nil_sublist _),hA,hJ,ha⟩ fun z a w ⟨κA,T,κ,σp,σ',hw,g,hs,hL,hi,hA,hJ,ha⟩=>?_
  subst hw
  refine round z σp κA T κ σ' [] g (by rw [lI hL];exact hs) .nil hi hA hJ a ha _ fun e a' κB T' σ'' ρ'' κ'' σq ρq P' g1 g2 g3 g4 k1 k2 k3 k4=>?_
  cases e with
  | normal =>
    obtain ⟨z',h1,h2,h3⟩:=k4
    subst h2
    exact ⟨z',⟨κB,T',κ'',σq,σ'',rfl,g1,k1,h1,g3.sub (List.nil_sublist _),g4,k3,g2⟩,h3⟩
  | _=>exact hq _ a' κB T' σ'' ρ'' κ'' σq ρq P' g1 g2 g3 g4 k1 k2 k3 k4
def YK (l:Nat) (J:(Nat→Prop)→List X→World→Prop) (Jx:List X→World→Prop) (S0:Nat→Prop) (xs:List X) (xp:X→PV) (n:Nat) (ops:Array Oper) (y:Oper) (l2:List Oper) (K:IPost X) (pre:List X):PPost:=fun σ ρ =>
 ∃ c d,∃ pval:Bool→PV,PGuardIs ops σ y c∧y.dst=some d∧Nat.blt d n=true∧(∀ b,c=true→pval b=pB b)∧(∀ b,c=false→pval b=.v undef) ∧
  (c=true→∃ t arg ts x suf,y.op=.call { callee:=.value t,args:=#[arg],argTypes:=ts }∧bG σ t=.v (.func (.yield l) #[] #[])∧bG σ arg=xp x∧xs=pre++x::suf ∧
   PWL n ops l2 (fun σ ρ=>K .normal σ ρ (.inl (pre++[x]))) (fe σ d (pval true)) []∧PWL n ops l2 (fun σ ρ=>K .normal σ ρ (.inr (pre++[x]))) (fe σ d (pval false)) []) ∧
  (c=false→PWL n ops l2 (fun σ ρ=>K .normal σ ρ (.inl pre)) (fe σ d (pval true)) ρ)
theorem DH {id:Nat} {l1 l2:List Oper} {o:Oper} {pre:List X} (hY:Yld l J Jx S0 xs xp xv) (h:PWL n (l1++o::l2).toArray l1 (YK l J Jx S0 xs xp n (l1++o::l2).toArray o l2 K pre) σ ρ):PWI J Jx S0 xs n (.region id (l1++o::l2).toArray false) K σ ρ (.inl pre):=fun κA T κ σ' ρ' g hs hr hi hA hJ a ha Q hq=>by
 refine wpIn_wide (n:=0).1 (wpIn_region_lit (qE (fun a w hQ=>hQ) l1 a κ.w (h ⟨κA,[],none⟩ κ σ' ρ' g hs hr hi a ha (NP fun a w=>wpListIn Fence.wide 0 Tryz.prog (l1++o::l2).toArray Q (o::l2) a w) fun a' σ1 ρ1 κ1 g1 g2 g3 ⟨σp,ρp,k1,k2,k3⟩=>⟨rfl,?_⟩)))
 obtain ⟨c,d,pval,hg,hd,hlt,hpt,hpf,hT,hF⟩:=k3
 have gk:=g.mono g3
 have rest:∀ (P':List X⊕List X) (κB:Kr) (T':Nat→Prop) (σq:PEnv) (ρq:List PRes) (σ2:Env) (ρ2:List Res) (κ2:Kr) (a2:Act),PWL n (l1++o::l2).toArray l2 (fun σ ρ=>K .normal σ ρ P') σq ρq→GOK κ2→Sim κ2 σq σ2→RRels κ2 ρq ρ2→Zl ⟨κB,[],none⟩ ρ2 κ2→(∀ b,κB.S b→S0 b∨T' b)→JJ J Jx xs P' T' κB.w→Rel [] n a2 σ2→wpListIn Fence.wide 0 Tryz.prog (l1++o::l2).toArray Q l2 a2 κ2.w:=fun P' κB T' σq ρq σ2 ρ2 κ2 a2 hl q1 q2 q3 q4 q5 q6 q7=>by
  have:=qE (Q:=Q) (rest:=[]) (fun a w hQ=>hQ) l2 a2 κ2.w (hl ⟨κB,[],none⟩ κ2 σ2 ρ2 q1 q2 q3 q4 a2 q7 (NP fun a w=>Q .normal a w) fun a' σ3 ρ3 κ3 j1 j2 j3 ⟨σr,ρr,i1,i2,i3⟩=>⟨rfl,hq .normal a' κB T' σ3 ρ3 κ3 σr ρr P' (q1.mono j3) j1 j2 q5 i1 i2 q6 i3⟩)
  rwa [List.append_nil] at this
 have hwant:=hg κ1 σ1 k1
 unfold GuardIs at hwant
 unfold wpListIn
 rw [je g1,hwant]
 cases c with
 | false =>
  rw [if_neg (by simp)]
  have hundef:Rp κ1 (pval true) undef:=by rw [hpf _ rfl];exact Rp.v (x:=undef) rfl
  refine ⟨fun _ _=>trivial,rest (.inl pre) κA T _ ρp _ ρ1 κ1 _ (hF rfl) gk (k1.upd (d:=d) hundef) k2 g2 hA hJ ?_⟩
  have:=g1.put (d:=o.dst) (fh hd hlt) undef
  rwa [eC hd] at this
 | true =>
  rw [if_pos rfl]
  obtain ⟨t,arg,ts,x,suf,ho,ht,harg,hxs,hA1,hA2⟩:=hT rfl
  have hev:a'.eval=ev σ1:=g1.eval
  have htv:a'.eval t=.func (.yield l) #[] #[]:=by rw [hev];have:=k1.ev t;rw [ht] at this;exact this.val
  have hav:a'.eval arg=xv x:=by rw [hev];exact hY.un x κ1 _ (by have:=k1.ev arg;rwa [harg] at this)
  have hGr:Gr κA.w κ1.w:=⟨g2.le.kle.size,g2.le.os,g2.le.tape,g2.le.output,g2.le.drawn,fun b hb=>g2.le.same b hb (by simp)⟩
  obtain ⟨fn,tmps,assign,body,hy,hR⟩:=hY.yl T pre x suf κA.w κ1.w hxs hJ hGr
  refine ⟨fun _ _=>trivial,?_⟩
  rw [show Fence.wide.round=none from rfl,Oper.semAt_none,uX ho htv hav hy,Oper.uponIn_round]
  refine ⟨fun h=>(by cases h),RoundIn.mono hR ?_⟩
  have hS:∀ b,κ1.S b→S0 b∨TT T κA.w κ1.w b:=fun b hb=>by
   rcases g2.le.shNew b hb with h | h | h
   ·rcases hA b h with h | h
    ·exact .inl h
    exact .inr (.inl h)
   ·exact .inr (.inr ⟨h,g2.fin b hb⟩)
   exact absurd h (by simp)
  have fin2:∀ (bv:Bool) (W':World) (P':List X⊕List X),Keep (fun b=>S0 b∨TT T κA.w κ1.w b) κ1.w W'→JJ J Jx xs P' (TT T κA.w κ1.w) W'→PWL n (l1++o::l2).toArray l2 (fun σ ρ=>K .normal σ ρ P') (fe σp d (pval bv)) []→wpListIn Fence.wide 0 Tryz.prog (l1++o::l2).toArray Q l2 (a'.put o.dst (.bool bv)) W':=fun bv W' P' hK' hJ' hl=>by
   have hk:Kle κ1 ⟨W',κ1.S⟩:=⟨hK'.size,fun _ h=>h,fun b hb=>hK'.blk b (hS b hb)⟩
   have hb:Rp ⟨W',κ1.S⟩ (pval bv) (.bool bv):=by rw [hpt _ rfl];exact Rp.v (x:=.bool bv) rfl
   have h2:=g1.put (d:=o.dst) (fh hd hlt) (.bool bv)
   rw [eC hd] at h2
   exact rest P' ⟨W',κ1.S⟩ (TT T κA.w κ1.w) _ [] (upd σ1 d (.bool bv)) [] ⟨W',κ1.S⟩ (a'.put o.dst (.bool bv)) hl (gk.mono hk) ((k1.mono hk).upd (d:=d) hb) .nil ⟨.refl _ _,fun b hb=>Nat.lt_of_lt_of_le (g2.fin b hb) hK'.size,fun r hr=>(by cases hr),fun r hr=>(by cases hr),.nil⟩ hS hJ' h2
  rintro e W' (⟨rfl,hJ',hK'⟩ | ⟨rfl,hJ',hK'⟩)
  ·exact fin2 true W' (.inl (pre++[x])) hK' hJ' hA1
  exact fin2 false W' (.inr (pre++[x])) hK' ⟨hJ',suf,by rw [hxs];simp⟩ hA2
theorem vA {id:Nat} {L:List Oper} (k:Nat) {l2:List Oper} {o:Oper} {pre:List X} (hk:L.drop k=o::l2) (hY:Yld l J Jx S0 xs xp xv) (h:PWL n L.toArray (L.take k) (YK l J Jx S0 xs xp n L.toArray o l2 K pre) σ ρ):PWI J Jx S0 xs n (.region id L.toArray false) K σ ρ (.inl pre):=by
 have e:L=L.take k++o::l2:=by rw [← hk,List.take_append_drop]
 generalize L.take k=l1 at *
 subst e
 exact DH hY h
theorem gb (h:PWI J Jx S0 xs n y K σ ρ P):DG J Jx S0 xs n y K .normal σ ρ P:=h
theorem qG {id:Nat} (h:K (.exit id) σ ρ P):DG J Jx S0 xs n y K (.exit id) σ ρ P:=h
theorem rD {id:Nat} (h:K .normal σ ρ P):qF id K .normal σ ρ P:=h
theorem qH {id:Nat} (h:K .normal σ ρ P):qF id K (.exit id) σ ρ P:=by
 unfold qF;simp only [show Nat.beq id id=true by simp,dG];exact h
def itK (xs:List X):IPost X:=fun e _ _ P=>(e=.ret∨e=.normal)∧(P=.inl xs∨∃ pre,P=.inr pre)
end
theorem AR {X:Type} {gf n:Nat} {fn:Func} {c:Code} {caps:List PV} {xp:X→PV} {xs:List X} (xv:X→Value) (hf:Tryz.prog.funcs[gf]?=some fn) (hok:FnOk gf) (hb:fn.body=some c) (hn:fn.ntmps=n) (hres:fn.results=([]:List ResultVar).toArray) (hsz:Nat.ble (caps.length+1) n=true)
    (hx:∀ κ lb,Rps κ caps lb→∀ x∈xs,∀ κ',Rp κ' (xp x) (xv x)) (hun:∀ x κ v,Rp κ (xp x) v→v=xv x)
    (h:∀ l J Jx S0,Yld l J Jx S0 xs xp xv→PWI J Jx S0 xs n c (itK xs) (tB (.v (.func (.yield l) #[] #[])::caps)) [] (.inl [])):PSeq gf caps xp xs :=
  ⟨hok,fun κ lb g hfin hcap=>⟨xv,hx κ lb hcap,fun l J Jx W hkeep hst hstx hyl h0=>by
    have hk:Kle κ ⟨W,κ.S⟩:=⟨hkeep.size,fun _ h=>h,fun b hb=>hkeep.blk b hb⟩
    have hargs:Rps ⟨W,κ.S⟩ (.v (.func (.yield l) #[] #[])::caps) (.func (.yield l) #[] #[]::lb):=.cons (.v (x:=.func (.yield l) #[] #[]) rfl) (hcap.mono hk)
    have e:(#[.func (.yield l) #[] #[]]++lb.toArray:Array Value)=(Value.func (.yield l) #[] #[]::lb).toArray:=by simp
    rw [e]
    have hrel:=tf (Value.func (.yield l) #[] #[]::lb).toArray n (by have:=Nat.le_of_ble_eq_true hsz;have h2:=hcap.len;simp;omega)
    refine calls_of_wp hf hb ?_
    rw [hn]
    refine h l J Jx κ.S ⟨hst,hstx,hyl,hun⟩ ⟨W,κ.S⟩ (fun _=>False) ⟨W,κ.S⟩ _ [] (g.mono hk) (sim0 hargs) .nil ⟨.refl _ _,fun b hb=>Nat.lt_of_lt_of_le (hfin b hb) hkeep.size,fun r hr=>(by cases hr),fun r hr=>(by cases hr),.nil⟩ (fun b hb=>.inl hb) h0 _ hrel _ ?_
    intro e a' κB T' σ' ρ' κ' σq ρq P' g1 g2 g3 g4 k1 k2 k3 ⟨ke,kP⟩
    have hGr:Gr κB.w κ'.w:=⟨g3.le.kle.size,g3.le.os,g3.le.tape,g3.le.output,g3.le.drawn,fun b hb=>g3.le.same b hb (by simp)⟩
    have key:(∃ T,J T xs κ'.w)∨∃ pre suf,xs=pre++suf∧Jx pre κ'.w:=by
      rcases kP with rfl | ⟨pre,rfl⟩
      · exact .inl ⟨T',hst T' _ _ _ k3 hGr⟩
      obtain ⟨h1,suf,h2⟩:=k3;exact .inr ⟨pre,suf,h2,hstx _ _ _ h1 hGr⟩
    have fin:a'.defers=[]∧∃ v,(results fn a'.tmps).run Tryz.prog κ'.w=.ok v κ'.w∧((∃ v',Ending.returned v=.returned v')∧((∃ T,J T xs κ'.w)∨∃ pre suf,xs=pre++suf∧Jx pre κ'.w)) :=
      ⟨g2.2.1,.tuple #[],zi hres g2 g3 rfl,⟨_,rfl⟩,key⟩
    rcases ke with rfl | rfl
    · exact fin
    exact fin⟩⟩
end SX
end Go.Proofs.YtmgcadfnkchnfaaGreatDoor
set_option maxRecDepth 100000
namespace Go.Proofs.YtmgcadfnkchnfaaGreatDoor
namespace SX
open Go Go.RowKit
attribute [local irreducible] PWL PWC PWD POpL POpQ PEv PGuardIs PSub PPick PUpd PSplice PFill PLit PF PFV PCall FOk fb fL mG nQ kX ld Cov PHolds bu idx app mk gd lb nz oO Ci sub nq ez oN uQ eX cV ex dN IntKind.wrap Int.tmod Int.tdiv Op.bytesLess strOfNums
def DFp (x:Za):PV:=.agg (aU x)
def DFv (x:Za):Value:=.agg [.int .i64 x.From,.int .i64 x.Number,.int .i64 x.Day,.int .i64 x.Kind,.string x.Country,.int .i64 x.Amount,.int .i64 x.Company].toArray
theorem sU {x:Za} {κ:Kr} {ds:List Value} (h:Rps κ (Za.enc x) ds):ds=[.int .i64 x.From,.int .i64 x.Number,.int .i64 x.Day,.int .i64 x.Kind,.string x.Country,.int .i64 x.Amount,.int .i64 x.Company]∧ra (.string x.Country)=true:=by
 unfold Za.enc at h
 cases h with | cons h1 h=>cases h with | cons h2 h=>cases h with | cons h3 h=>cases h with | cons h4 h=>cases h with | cons h5 h=>cases h with | cons h6 h=>cases h with | cons h7 h=>cases h with | nil =>
  rw [h1.val,h2.val,h3.val,h4.val,h5.val,h6.val,h7.val]
  exact ⟨rfl,by have:=h5.val;subst this;exact h5.ok⟩
theorem df_un (x:Za) (κ:Kr) (v:Value) (h:Rp κ (DFp x) v):v=DFv x:=by
 unfold DFp at h
 cases h with
 | agg h1 h=>rw [(sU (x:=x) h).1];rfl
theorem df_rp {x:Za} {κ κ':Kr} {ds:List Value} (h:Rps κ (Za.enc x) ds) (h1:One ds):Rp κ' (DFp x) (DFv x):=by
 obtain ⟨e,hok⟩:=sU h
 subst e
 refine .agg h1 ?_
 exact .cons (.v (x:=.int .i64 _) rfl) (.cons (.v (x:=.int .i64 _) rfl) (.cons (.v (x:=.int .i64 _) rfl) (.cons (.v (x:=.int .i64 _) rfl) (.cons (.v hok) (.cons (.v (x:=.int .i64 _) rfl) (.cons (.v (x:=.int .i64 _) rfl) .nil))))))
theorem AS {κ:Kr}:∀ {xs:List Za} {css:List (List Value)},Rpss κ (xs.map Za.enc) css→Ones css→∀ x∈xs,∀ κ',Rp κ' (DFp x) (DFv x)
 | [],_,_,_,_,hx,_=>by cases hx
 | y::xs,_,.cons h hs,h1,x,hx,κ'=>by
  rcases List.mem_cons.1 hx with rfl | hx
  ·exact df_rp h (h1 _ (by simp))
  exact AS hs (fun d hd=>h1 d (by simp [hd])) x hx κ'
theorem DI {κ:Kr} {xs:List Za} {caps:List PV} {lb:List Value} (h:Rps κ (.ref [pL Za.enc xs] 0::caps) lb):∀ x∈xs,∀ κ',Rp κ' (DFp x) (DFv x):=by
 cases h with | cons h _=>cases h with | ref _ _ hs=>cases hs with | cons h _=>cases h with | slc _ _ h1 hs=>exact AS hs h1
theorem yu {ops:Array Oper} {σ:PEnv} {o:Oper} (h:o.guard=none):PGuardIs ops σ o true:=by unfold PGuardIs;exact fun κ σ' hm=>th h
theorem BQ {σ:PEnv} {c:Bool} {x:Operand} {p:PV} (h:bG σ x=p):PEv σ c x p:=by unfold PEv;exact fun _=>h
theorem vB {σ:PEnv} {c:Bool} {x:Operand} {p:PV} (h:bG σ x=pgv c p):PEv σ c x p:=by unfold PEv;intro hc;rw [h,hc];exact iU _
theorem DJ {α:Type} {xs:List α} {k:Nat} (h:k<xs.length):idx xs (k:Int)=some xs[k]:=by
 unfold idx;rw [if_pos (by omega)];simp [h]
theorem i64n {k n:Nat} (hk:k<n) (hn:n≤140737488355328):IntKind.i64.wrap ((k:Int)+1)=((k+1:Nat):Int):=by
 rw [p6 (by omega)];omega
theorem zM {p1:List Za} (hb:p1.length≤140737488355328):PSeq 92 [.ref [pL Za.enc p1] 0] DFp p1:=by
 refine AR DFv Tryz.func92 (zj Tryz.func92 rfl) rfl Tryz.ntmps92 Tryz.results92 rfl (fun κ lb h=>DI h) df_un fun l J Jx S0 hY=>?_
 refine jc (ib ?_)
 refine aB [] [] [(5,pL Za.enc p1),(6,pI (p1.length:Int)),(7,pI 0)] bL (by kernel_rfl) (gb ?_)
 refine oG ?_
 refine yt (Z:={ i:Nat // i≤p1.length }) (fun i=>[(0,.v (.func (.yield l) #[] #[])),(5,pL Za.enc p1),(6,pI (p1.length:Int)),(7,pI (i.1:Int))]) (fun i=>.inl (p1.take i.1)) (fun i=>p1.length - i.1) ⟨0,Nat.zero_le _⟩ (by (repeat (first | exact sL | apply gu rfl))) rfl ?_
 rintro ⟨i,hi⟩ τ;dsimp only [aK]
 refine jc (ib ?_)
 refine aB [] [] [(8,pB (decide ((i:Int)<(p1.length:Int))))] bL (by kernel_rfl) (gb ?_)
 refine jc (lS rfl (fun hc=>ib ?_) fun hc=>ib ?_)
 ·have hlt:i<p1.length:=by have:=of_decide_eq_true hc;omega
  refine ae (gb ?_)
  refine jc (oG (jc (ib ?_)))
  have hm5:=DJ hlt
  have hxs:p1=p1.take i++p1[i]::p1.drop (i+1):=by rw [List.getElem_cons_drop];simp
  have htk:p1.take (i+1)=p1.take i++[p1[i]]:=by rw [List.take_add_one,List.getElem?_eq_getElem hlt];rfl
  generalize p1[i]=m5 at *
  refine aj ?_
  refine bp 2 [] [9] [(10,.agg (aU m5))] (fC 0 Za.enc hm5 bL) (by kernel_rfl) ?_
  refine tC rfl rfl rfl (aY (cs:=[pI 0,pI 0,pI 0,pI 0,pS ByteArray.empty,pI 0,pI 0]) rfl rfl rfl rfl (fun b6=>?_))
  refine aH rfl rfl (ag (vs:=(aU m5)) rfl rfl rfl rfl rfl (by (repeat (first | exact bB | apply bx))) (by (repeat (first | exact Ex | apply eH | apply bf))) ?_)
  refine ar (gb ?_)
  refine jc (vA 2 rfl hY ?_)
  refine kz [0] [] [(11,.v (.func (.yield l) #[] #[])),(12,.agg (aU m5))] bL (by kernel_rfl) ?_
  refine ⟨true,13,pB,yu rfl,rfl,rfl,fun _ _=>rfl,fun _ h=>(by cases h),fun _=>⟨.tmp 11,.tmp 12,_,m5,_,rfl,rfl,rfl,hxs,?_,?_⟩,fun h=>(by cases h)⟩
  ·refine kz [] [13] [(14,pB (!true))] bL (by kernel_rfl) (gb ?_)
   refine lS rfl (fun hc=>(by cases hc)) fun _=>ib (ae (rD (gb (ib ?_))))
   refine aB [] [15] [(7,pI (IntKind.i64.wrap ((i:Int)+1)))] bL (by kernel_rfl) ?_
   rw [i64n hlt hb]
   refine ⟨⟨i+1,hlt⟩,(by (repeat (first | exact sL | apply gu rfl))),?_,(by show p1.length - (i+1)<p1.length - i;omega)⟩
   show Sum.inl _=Sum.inl (p1.take (i+1))
   rw [htk]
  refine kz [] [13] [(14,pB (!false))] bL (by kernel_rfl) (gb ?_)
  refine lS rfl (fun hc=>ib (cd ?_)) fun hc=>(by cases hc)
  exact ⟨.inl rfl,.inr ⟨_,rfl⟩⟩
 have hge:i=p1.length:=by have:=of_decide_eq_false hc;omega
 subst hge
 refine bc (qG ?_)
 refine qH ?_
 rw [List.take_length]
 exact ⟨.inr rfl,.inl rfl⟩
def mX (p1:List Za) (p2 p3:Int):List Za:=p1.filter fun x=>(x.Kind == p2)&&(decide (x.Day≤p3))
theorem zN {p1:List Za} {p2 p3:Int} (hb:p1.length≤140737488355328):PSeq 93 [.ref [pL Za.enc p1] 0,.ref [pI p2] 0,.ref [pI p3] 0] DFp (mX p1 p2 p3):=by
 refine AR DFv Tryz.func93 (zj Tryz.func93 rfl) rfl Tryz.ntmps93 Tryz.results93 rfl (fun κ lb h x hx=>DI h x (List.mem_filter.1 hx).1) df_un fun l J Jx S0 hY=>?_
 refine jc (ib ?_)
 refine aB [] [] [(7,pL Za.enc p1),(8,pI (p1.length:Int)),(9,pI 0)] bL (by kernel_rfl) (gb ?_)
 refine oG ?_
 refine yt (Z:={ i:Nat // i≤p1.length }) (fun i=>[(0,.v (.func (.yield l) #[] #[])),(2,.ref [pI p2] 0),(3,.ref [pI p3] 0),(7,pL Za.enc p1),(8,pI (p1.length:Int)),(9,pI (i.1:Int))]) (fun i=>.inl (mX (p1.take i.1) p2 p3)) (fun i=>p1.length - i.1) ⟨0,Nat.zero_le _⟩ (by (repeat (first | exact sL | apply gu rfl))) rfl ?_
 rintro ⟨i,hi⟩ τ;dsimp only [aK]
 refine jc (ib ?_)
 refine aB [] [] [(10,pB (decide ((i:Int)<(p1.length:Int))))] bL (by kernel_rfl) (gb ?_)
 refine jc (lS rfl (fun hc=>ib ?_) fun hc=>ib ?_)
 ·have hlt:i<p1.length:=by have:=of_decide_eq_true hc;omega
  refine ae (gb ?_)
  refine jc (oG (jc (ib ?_)))
  have hm5:=DJ hlt
  have hxs:p1=p1.take i++p1[i]::p1.drop (i+1):=by rw [List.getElem_cons_drop];simp
  have htk:p1.take (i+1)=p1.take i++[p1[i]]:=by rw [List.take_add_one,List.getElem?_eq_getElem hlt];rfl
  generalize p1[i]=m5 at *
  have htk2:mX (p1.take (i+1)) p2 p3=cond ((m5.Kind == p2)&&(decide (m5.Day≤p3))) (mX (p1.take i) p2 p3++[m5]) (mX (p1.take i) p2 p3):=by
   rw [htk];unfold mX;rw [List.filter_append,List.filter_cons];cases ((m5.Kind == p2)&&(decide (m5.Day≤p3))) <;> simp
  refine aj ?_
  refine bp 2 [] [11] [(12,.agg (aU m5))] (fC 0 Za.enc hm5 bL) (by kernel_rfl) ?_
  refine tC rfl rfl rfl (aY (cs:=[pI 0,pI 0,pI 0,pI 0,pS ByteArray.empty,pI 0,pI 0]) rfl rfl rfl rfl (fun b6=>?_))
  refine aH rfl rfl (ag (vs:=(aU m5)) rfl rfl rfl rfl rfl (by (repeat (first | exact bB | apply bx))) (by (repeat (first | exact Ex | apply eH | apply bf))) ?_)
  refine ar (gb ?_)
  refine jc (vA 13 rfl hY ?_)
  refine kz [0,0,0] [13,14,15,16,17,18,19,20,21,22] [(23,pB ((m5.Kind == p2)&&(decide (m5.Day≤p3)))),(24,pgv ((m5.Kind == p2)&&(decide (m5.Day≤p3))) (.v (.func (.yield l) #[] #[]))),(25,pgv ((m5.Kind == p2)&&(decide (m5.Day≤p3))) (.agg (aU m5)))] bL (by kernel_rfl) ?_
  refine ⟨(m5.Kind == p2)&&(decide (m5.Day≤p3)),26,fun b=>pgv ((m5.Kind == p2)&&(decide (m5.Day≤p3))) (pB b),dX rfl rfl rfl,rfl,rfl,fun b h=>by rw [h];exact iU _,fun b h=>by rw [h];exact rb _,fun hC=>⟨.tmp 24,.tmp 25,_,m5,mX (p1.drop (i+1)) p2 p3,rfl,?_,?_,?_,?_,?_⟩,fun hC=>?_⟩
  ·show pgv _ _=_;rw [hC];exact iU _
  ·show pgv _ _=_;rw [hC];exact iU _
  ·conv=>lhs;rw [hxs]
   unfold mX;rw [List.filter_append,List.filter_cons,hC];rfl
  ·refine nP (c:=(m5.Kind == p2)&&(decide (m5.Day≤p3))) (dX rfl rfl rfl) rfl rfl (ww (p:=true) rfl (vB rfl)) ?_
   refine bM rfl rfl rfl (po (p:=(m5.Kind == p2)&&(decide (m5.Day≤p3))) (q := !true) rfl (BQ rfl) (BQ rfl) (vB rfl)) (ar (gb ?_))
   refine lS rfl (fun hc=>absurd hc (by simp)) fun _=>ib (ae (rD (gb (ib ?_))))
   refine aB [] [29] [(9,pI (IntKind.i64.wrap ((i:Int)+1)))] bL (by kernel_rfl) ?_
   rw [i64n hlt hb]
   refine ⟨⟨i+1,hlt⟩,(by (repeat (first | exact sL | apply gu rfl))),?_,(by show p1.length - (i+1)<p1.length - i;omega)⟩
   show Sum.inl _=Sum.inl (mX (p1.take (i+1)) p2 p3)
   rw [htk2,hC];rfl
  ·refine nP (c:=(m5.Kind == p2)&&(decide (m5.Day≤p3))) (dX rfl rfl rfl) rfl rfl (ww (p:=false) rfl (vB rfl)) ?_
   refine bM rfl rfl rfl (po (p:=(m5.Kind == p2)&&(decide (m5.Day≤p3))) (q := !false) rfl (BQ rfl) (BQ rfl) (vB rfl)) (ar (gb ?_))
   refine lS rfl (fun hc=>ib (cd ?_)) fun hc=>absurd hc (by rw [hC];simp)
   exact ⟨.inl rfl,.inr ⟨_,rfl⟩⟩
  refine nP (c:=(m5.Kind == p2)&&(decide (m5.Day≤p3))) (dX rfl rfl rfl) rfl rfl (ww (p:=true) rfl (vB rfl)) ?_
  refine bM rfl rfl rfl (po (p:=(m5.Kind == p2)&&(decide (m5.Day≤p3))) (q := !true) rfl (BQ rfl) (BQ rfl) (vB rfl)) (ar (gb ?_))
  refine lS rfl (fun hc=>absurd hc (by simp)) fun _=>ib (ae (rD (gb (ib ?_))))
  refine aB [] [29] [(9,pI (IntKind.i64.wrap ((i:Int)+1)))] bL (by kernel_rfl) ?_
  rw [i64n hlt hb]
  refine ⟨⟨i+1,hlt⟩,(by (repeat (first | exact sL | apply gu rfl))),?_,(by show p1.length - (i+1)<p1.length - i;omega)⟩
  show Sum.inl _=Sum.inl (mX (p1.take (i+1)) p2 p3)
  rw [htk2,hC];rfl
 have hge:i=p1.length:=by have:=of_decide_eq_false hc;omega
 subst hge
 refine bc (qG ?_)
 refine qH ?_
 rw [List.take_length]
 exact ⟨.inr rfl,.inl rfl⟩
end SX
end Go.Proofs.YtmgcadfnkchnfaaGreatDoor
namespace Go.Proofs.YtmgcadfnkchnfaaGreatDoor
namespace SX
open Go
def rE (a b:Int):Int:=if a<b then -1 else if b<a then 1 else 0
theorem wW (a b:Int):dB a b=some (rE a b):=by
 unfold dB hX rE
 simp only [bne_self_eq_false,dn,eu]
 by_cases h:a<b
 ·rw [det h,if_pos h];rfl
 rw [cD h,if_neg h]
 by_cases h2:b<a
 ·rw [det h2,if_pos h2];rfl
 rw [cD h2,if_neg h2];rfl
theorem DK (a b:Int):km [a,b]=some (if a=0 then b else a):=by
 unfold km
 refine (mN (l:=[a,b]) (by simp) (fun _ x=>cond (x != 0) (some (.inr x)) none) (.inl ()) (fun k hk=>?_) (by rw [mw];rfl)).trans ?_
 ·rw [uS hk,dG,bS (bV hk),iV hk (by simp)]
  cases ([a,b][k] != 0) <;> rfl
 rw [tV (fun x:Int=>x != 0) (fun x=>(Sum.inr x:Unit⊕Int))]
 by_cases ha:a=0
 ·subst ha
  by_cases hb:b=0
  ·subst hb;rfl
  simp [hb]
 simp [ha]
def uo (x y:Za):Int:=if rE x.From y.From=0 then rE x.Number y.Number else rE x.From y.From
def vC (x y:Za):Int:=if rE x.Day y.Day=0 then uo x y else rE x.Day y.Day
theorem yv (x y:Za):fp x y=some (uo x y):=by
 unfold fp uo
 rw [wW,wW]
 simp only [dn,DK]
theorem DL (x y:Za):ma x y=some (vC x y):=by
 unfold ma vC
 rw [wW,yv]
 simp only [dn,DK]
def fZ (x y:Za):Bool:=decide (x.From<y.From)||(decide (x.From=y.From)&&decide (x.Number<y.Number))
def dz (x y:Za):Bool:=decide (x.Day<y.Day)||(decide (x.Day=y.Day)&&fZ x y)
theorem uq (a b:Int):rE a b<0↔a<b:=by unfold rE;split <;> (try split) <;> omega
theorem oH (a b:Int):rE a b=0↔a=b:=by unfold rE;split <;> (try split) <;> omega
theorem vD (x y:Za):decide (uo x y<0)=fZ x y:=by
 unfold uo fZ
 by_cases h:x.From=y.From
 ·rw [if_pos ((oH _ _).2 h),decide_eq_decide.2 (uq _ _),det h,cD (by omega:¬ x.From<y.From)];rfl
 rw [if_neg (fun e=>h ((oH _ _).1 e)),cD h,show decide (rE x.From y.From<0)=decide (x.From<y.From) from decide_eq_decide.2 (uq _ _)];simp
theorem DM:ltOf vC=dz:=by
 funext x y
 unfold ltOf vC dz
 by_cases h:x.Day=y.Day
 ·rw [if_pos ((oH _ _).2 h),vD,det h,cD (by omega:¬ x.Day<y.Day)];rfl
 rw [if_neg (fun e=>h ((oH _ _).1 e)),cD h,show decide (rE x.Day y.Day<0)=decide (x.Day<y.Day) from decide_eq_decide.2 (uq _ _)];simp
theorem ku (x y:Za):dz x y=true↔x.Day<y.Day∨(x.Day=y.Day∧(x.From<y.From∨(x.From=y.From∧x.Number<y.Number))):=by simp [dz,fZ]
theorem vE (x y:Za):dz x y=false↔¬ (x.Day<y.Day∨(x.Day=y.Day∧(x.From<y.From∨(x.From=y.From∧x.Number<y.Number)))):=by rw [← ku];simp
theorem oI (x:Za):dz x x=false:=by rw [vE];omega
theorem ur (x y z:Za):dz x y=true→dz y z=true→dz x z=true:=by simp only [ku];omega
theorem BR (x y z:Za):dz x y=false→dz y z=false→dz x z=false:=by simp only [vE];omega
def EB:List Za→Bool
 | []=>true
 | x::l=>l.all (fun y=>dz x y||dz y x)&&EB l
theorem AT:∀ {l:List Za},EB l=true→∀ x∈l,∀ y∈l,dz x y=false→dz y x=false→x=y
 | [],_,_,hx,_,_,_,_=>by cases hx
 | z::l,h,x,hx0,y,hy0,h1,h2=>by
  simp only [EB,Bool.and_eq_true,List.all_eq_true,Bool.or_eq_true] at h
  rcases List.mem_cons.1 hx0 with rfl | hx
  ·rcases List.mem_cons.1 hy0 with hy | hy
   ·exact hy.symm
   rcases h.1 y hy with e | e
   ·rw [e] at h1;cases h1
   rw [e] at h2;cases h2
  rcases List.mem_cons.1 hy0 with e0 | hy
  ·subst e0
   rcases h.1 x hx with e | e
   ·rw [e] at h2;cases h2
   rw [e] at h1;cases h1
  exact AT h.2 x hx y hy h1 h2
theorem AU {α β:Type} {lt:α→α→Bool} {lt':β→β→Bool} {f:β→α} (h:∀ a b,lt (f a) (f b)=lt' a b) (x:β):∀ l:List β,(rX lt' x l).map f=rX lt (f x) (l.map f)
 | []=>rfl
 | y::l=>by
  rw [List.map_cons,rX,rX,h]
  cases lt' y x
  ·rfl
  simp only [dG,List.map_cons,AU h x l]
theorem vF {α β:Type} {lt:α→α→Bool} {lt':β→β→Bool} {f:β→α} (h:∀ a b,lt (f a) (f b)=lt' a b):∀ l:List β,(fY lt' l).map f=fY lt (l.map f)
 | []=>rfl
 | x::l=>by rw [fY,AU h,vF h l,List.map_cons,fY]
def bK (l:List Za):Option (List Za):=cond (EB l) (some (fY dz l)) none
def DN (x:Za):List Value:=[.int .i64 x.From,.int .i64 x.Number,.int .i64 x.Day,.int .i64 x.Kind,.string x.Country,.int .i64 x.Amount,.int .i64 x.Company]
theorem DO {κ:Kr}:∀ {xs:List Za} {css:List (List Value)},Rpss κ (xs.map Za.enc) css→∀ x∈xs,ra (.string x.Country)=true
 | [],_,_,_,hx=>by cases hx
 | y::xs,_,.cons h hs,x,hx=>by
  rcases List.mem_cons.1 hx with rfl | hx
  ·exact (sU h).2
  exact DO hs x hx
theorem eK {p0 r:List Za} (h:bK p0=some r) {a:Option Addr} {n c:Nat}:PCall 91 [.v (.slice a n c),.fn 50 []] [PRes.row a n c 93 7 (List.map Za.enc p0)] (fun pv ρ'=>pv=.tup []∧ρ'=[PRes.row a n c 93 7 (List.map Za.enc r)]):=fun κ args ρ gk ha hr=>by
 unfold bK at h
 cases hd:EB p0 with
 | false=>rw [hd] at h;cases h
 | true =>
 rw [hd] at h
 obtain rfl:=Option.some.inj h
 have hok:∀ x∈p0,ra (.string x.Country)=true:=by
  cases hr with | cons hr1 _=>cases hr1 with | row _ _ hc=>exact DO hc
 obtain ⟨q,hq,hp,z,hz,hzo⟩:∃ q:List Za,EB q=true∧(∀ x∈p0,x∈q)∧∃ z∈q,ra (.string z.Country)=true:=by
  cases p0 with
  | nil=>exact ⟨[⟨0,0,0,0,ByteArray.empty,0,0⟩],rfl,(fun x hx=>nomatch hx),_,List.mem_singleton.2 rfl,rfl⟩
  | cons y l=>exact ⟨y::l,hd,(fun x hx=>hx),y,by simp,hok y (by simp)⟩
 have hsub:∀ x∈p0,x∈q∧ra (.string x.Country)=true:=fun x hx=>⟨hp x hx,hok x hx⟩
 letI:Inhabited { x:Za // x∈q∧ra (.string x.Country)=true }:=⟨⟨z,hz,hzo⟩⟩
 have hlt:(ltOf fun x y:{ x:Za // x∈q∧ra (.string x.Country)=true }=>vC x.1 y.1)=fun x y=>dz x.1 y.1:=by
  funext x y;rw [← DM];rfl
 have e1:(p0.pmap Subtype.mk hsub).map (fun x=>x.1)=p0:=by rw [List.map_pmap];simp
 have e2:(fY (fun x y:{ x:Za // x∈q∧ra (.string x.Country)=true }=>dz x.1 y.1) (p0.pmap Subtype.mk hsub)).map (fun x=>x.1)=fY dz p0:=by
  rw [vF (lt:=dz) (fun _ _=>rfl),e1]
 have key:=callSF (α:={ x:Za // x∈q∧ra (.string x.Country)=true }) (T:=93) (enc:=fun x=>Za.enc x.1) (encV:=fun x=>DN x.1) Tryz.lSD rfl (zj Tryz.func91 rfl) (zj Tryz.func50 rfl) Tryz.isAgg93 Tryz.sizeOf93 (fun _=>rfl)
  (fun x v hv=>by unfold DN at hv;simp only [List.mem_cons,List.not_mem_nil,or_false] at hv;rcases hv with rfl | rfl | rfl | rfl | rfl | rfl | rfl <;> rfl) (fun κ x ds h=>(sU h).1) (fun κ x=>.cons (.v rfl) (.cons (.v rfl) (.cons (.v rfl) (.cons (.v rfl) (.cons (.v x.2.2) (.cons (.v rfl) (.cons (.v rfl) .nil)))))))
  (fun x y=>vC x.1 y.1) (by rw [hlt];exact ⟨fun x=>oI _,fun x y z=>ur _ _ _,fun x y z=>BR _ _ _⟩) (by rw [hlt];exact fun x y h1 h2=>Subtype.ext (AT hq _ x.2.1 _ y.2.1 h1 h2)) (fun x y=>ud (DL x.1 y.1)) (p0:=p0.pmap Subtype.mk hsub) (a:=a) (n:=n) (c:=c)
 rw [hlt] at key
 have m1:∀ l:List { x:Za // x∈q∧ra (.string x.Country)=true },List.map (fun x=>Za.enc x.1) l=List.map Za.enc (l.map fun x=>x.1):=fun l=>by rw [List.map_map];rfl
 rw [m1,m1,e1,e2] at key
 exact key κ args ρ gk ha hr
abbrev bl (s:ByteArray):List UInt8:=s.data.toList
theorem bl_hi (s:ByteArray) (k:Nat):bl (s.extract 0 k)=(bl s).take k:=by simp [bl]
theorem bl_lo (s:ByteArray) (k:Nat):bl (s.extract k s.size)=(bl s).drop k:=by
  simp only [bl,ByteArray.data_extract,Array.toList_extract,List.extract_eq_take_drop]
  rw [List.take_of_length_le];simp
theorem lq (s:ByteArray):s.size=(bl s).length:=by simp [bl]
theorem bl_inj {s u:ByteArray} (h:bl s=bl u):s=u:=by
  obtain ⟨⟨x⟩⟩:=s;obtain ⟨⟨y⟩⟩:=u;simp [bl] at h;subst h;rfl
def jY (n:Nat):Bool:=decide (48≤n∧n≤57)
def fx (p:Nat→Bool):List Value:=(List.range 256).map fun i=>.bool (p i)
theorem e8 (p:Nat→Bool):(fx p).length=256:=by simp [fx]
theorem lr (p:Nat→Bool) {j:Nat} (h:j<256):(fx p)[j]?=some (.bool (p j)):=by simp [fx,h]
theorem wX (p q:Nat→Bool) {j:Nat} (h:∀ i,q i=(decide (i=j)||p i)):(fx p).set j (.bool true)=fx q:=by
  apply List.ext_getElem?
  intro i
  rw [List.getElem?_set]
  simp only [e8]
  rcases Nat.lt_or_ge i 256 with hi | hi
  · rw [lr q hi,lr p hi,h i]
    by_cases e:j=i
    · subst e;simp [hi]
    · rw [if_neg e];simp [show ¬ i=j from fun h=>e h.symm]
  · rw [List.getElem?_eq_none (by rw [e8];exact hi),List.getElem?_eq_none (by rw [e8];exact hi)]
    split
    · rw [if_neg (by omega)]
    · rfl
section
variable {o:Oper} {σ:Env} {ρ:List Res} {κ:Kr} {c:Bool} {x y:Operand} {K:Value→List Res→Kr→Prop}
theorem Sh.at1 {b k:Nat} {cs:List Value} {v:Value} (h:Sh κ b 0 cs) (hv:cs[k]?=some v):Sh κ b (0+k*1) [v]:=⟨h.1,fun j u hu=>by
  cases j with
  | zero=>simp at hu;subst hu;have:=h.2 k v hv;simpa using this
  | succ j=>simp at hu⟩
theorem yw {t b T sz by':Nat} {cs:List Value} {z:Value} {d:TypeDesc} (ho:o.op=.load t x) (hx:Ev σ c x (.pointer (some ⟨b,0,none⟩))) (hm:Res.b b T cs∈ρ) (hd:eW t=some d) (ha:j5 d=true) (hi:fS t=some (z,sz,by')) (hl:cs.length=sz):OpQ c o σ ρ κ (.agg cs.toArray):=by
  refine vc ho hx hm ?_
  unfold jC
  simp only [hd,hi,ha,cond_true,List.drop_zero]
  rw [Nat.ble_eq_true_of_le (by omega)]
  simp [← hl]
end
attribute [local irreducible] WL WC WD OpL OpQ OpG Ev GuardIs zg kV Cy Call CallP midK tz Holds td Sub Pick WS Step Lit Upd SetAt SpliceAt FillR Sh LateRun
theorem r9 (κ:Kr) (b:Nat) (p:Nat→Bool) (m:Int) (hs:Sh κ b 0 (fx p)) (h0:0≤m) (h1:m≤255):CallP 188 [.pointer (some ⟨b,0,none⟩),.int .u8 m] κ fun v _=>v=.bool (p m.toNat):=by
  (unfold CallP;apply lY Tryz.func188 (zj Tryz.func188 rfl) rfl Tryz.ntmps188 Tryz.results188 rfl)
  repeat (first | (first | (apply ce rfl rfl rfl;(focus (first | exact ba (v:=(.int _ _)) rfl (.p rfl) | exact ba (v:=(.pointer _)) rfl (.p rfl) | exact bY (v:=(.bool _)) rfl (.p rfl) | exact nN rfl (.p rfl)))) | apply cH) | (first | apply cE | apply bm | apply dU))
  apply ce rfl rfl rfl (qZ (j:=m.toNat) rfl rfl rfl (.p rfl) (.p rfl) (fun _=>by omega) (fun _=>by omega))
  apply ce rfl rfl rfl (qW rfl (.p rfl) (fun _=>(hs.mono (by (repeat (exact Kle.refl _)))).at1 (lr p (by omega))) rfl)
  repeat (first | (first | (apply ce rfl rfl rfl;(focus (exact bY (v:=(.bool _)) rfl (.p rfl)))) | apply cH) | (first | apply dU | apply jz))
  exact j8 (wj (v:=.bool _) rfl) .none ⟨rfl,rfl⟩
def i7:ByteArray:=⟨#[48,49,50,51,52,53,54,55,56,57]⟩
theorem wY:∀ {k:Nat},k<10→((i7.data.toList.getD k 0).toNat:Int)=48+(k:Int):=by decide
theorem DP (κ:Kr):CallP 169 [.string i7] κ fun v _=>v=.tuple #[.agg (fx jY).toArray,.bool true]:=by
  (unfold CallP;apply lY Tryz.func169 (zj Tryz.func169 rfl) rfl Tryz.ntmps169 Tryz.results169 rfl)
  repeat (first | (first | (apply ce rfl rfl rfl;(focus (first | exact bY (v:=(.int _ _)) rfl (.p rfl) | exact bY (v:=(.bool _)) rfl (.p rfl)))) | (apply sk rfl rfl rfl;apply vd rfl rfl;intro _ _ _) | apply cH) | (first | apply cE | apply bm | apply jA | apply dU))
  rename_i b2 κ1 _
  have e0:List.replicate 256 (Value.bool false)=fx (fun i=>decide (48≤i∧i<48+0)):=by
    apply List.ext_getElem?
    intro i
    rcases Nat.lt_or_ge i 256 with hi | hi
    · rw [lr _ hi,List.getElem?_replicate,if_pos hi];congr 2;symm;rw [decide_eq_false_iff_not];omega
    · rw [List.getElem?_eq_none (by simpa using hi),List.getElem?_eq_none (by rw [e8];exact hi)]
  rw [e0]
  refine qb (X:=Nat) (fun k=>[(0,.string i7),(2,.pointer (some ⟨b2,0,none⟩)),(4,.int .i64 (k:Int))]) (fun k=>[Res.b b2 223 (fx fun i=>decide (48≤i∧i<48+k))]) (fun k _=>k≤10) (fun k=>10 - k) 0 (by (repeat (first | exact Holds.nil | apply Holds.cons rfl))) (by (repeat (first | exact Sub.nil | (apply Sub.cons;(focus (repeat (exact Pick.h))))))) (by omega) ?_
  intro k τ κ2 _ hk
  simp only [td]
  repeat (first | (first | (apply ce rfl rfl rfl;(focus (first | exact ba (v:=(.int _ _)) rfl (.p rfl) | exact ba (v:=(.string _)) rfl (.p rfl) | exact kW rfl (.p rfl) (.p rfl) rfl | exact lX rfl rfl (.p rfl)))) | apply cH) | (first | apply cE | apply bm | apply dU))
  apply wk rfl <;> intro hc
  · have hk10:k<10:=by
      have e:(i7.size:Int)=10:=rfl
      rw [e] at hc;omega
    repeat (first | (apply ce rfl rfl rfl;(focus (first | exact ba (v:=(.int _ _)) rfl (.p rfl) | exact ba (v:=(.string _)) rfl (.p rfl)))) | (first | apply cE | apply bm | apply jA | apply dU | apply ic))
    apply ce rfl rfl rfl (mC (s:=i7) (j:=k) rfl rfl (.p rfl) (.p rfl) (fun _=>rfl) (fun _=>hk10))
    rw [wY hk10]
    repeat (first | (first | (apply ce rfl rfl rfl;(focus (first | exact ba (v:=(.int _ _)) rfl (.p rfl) | exact bY (v:=(.int _ _)) rfl (.p rfl) | exact kW rfl (.p rfl) (.p rfl) rfl))) | apply cH) | (first | apply cE | apply bm | apply dU))
    apply xy (by have:¬ (128:Int)≤48+(k:Int):=by omega
                 simp [ev,upd,this])
    repeat (first | (apply ce rfl rfl rfl;(focus (exact ba (v:=(.int _ _)) rfl (.p rfl)))) | (first | apply bm | apply dU | apply ic))
    apply ce rfl rfl rfl (qZ (j:=48+k) rfl rfl rfl (.p rfl) (.p rfl) (fun _=>by omega) (fun _=>by omega))
    apply Ar rfl rfl
    apply Bv (v:=.bool true) rfl rfl rfl rfl rfl rfl (by (repeat (exact Upd.h))) (by rw [e8];omega)
    intro κ3 _
    have e1:(fx fun i=>decide (48≤i∧i<48+k)).set (0+(48+k)*1) (.bool true)=fx fun i=>decide (48≤i∧i<48+(k+1)) :=
      wX _ _ fun i=>by rw [Bool.eq_iff_iff];simp;omega
    rw [e1]
    repeat (first | (first | (apply ce rfl rfl rfl;(focus (first | exact ba (v:=(.int _ _)) rfl (.p rfl) | exact bY (v:=(.int _ _)) rfl (.p rfl) | exact fi rfl (.p rfl) (.p rfl) rfl (fun _=>by omega)))) | apply cH) | (first | apply bm | apply dU | apply oB))
    exact wi (k+1) (by (repeat (first | exact Holds.nil | apply Holds.cons rfl))) (by (repeat (first | exact Sub.nil | (apply Sub.cons;(focus (repeat (exact Pick.h))))))) (by omega) (by omega)
  · have hk10:k=10:=by
      have e:(i7.size:Int)=10:=rfl
      rw [e] at hc;omega
    subst hk10
    have e2:(fun i=>decide (48≤i∧i<48+10))=jY:=by funext i;simp only [jY];rw [Bool.eq_iff_iff];simp;omega
    rw [e2]
    apply ne;apply j6;apply jl;apply j7 rfl;apply dU;apply cE;apply bm
    apply ce rfl rfl rfl (yw rfl (.p rfl) (by (repeat (exact List.Mem.head _))) rfl rfl rfl (e8 _))
    apply Ar rfl rfl
    apply vf rfl rfl rfl rfl (e8 _) (by simp [fx,Value.oneCell']) (by (repeat (exact Upd.h))) rfl
    intro κ3 _
    repeat (first | (first | (apply ce rfl rfl rfl;(focus (exact bY (v:=(.bool _)) rfl (.p rfl)))) | apply cH) | (first | apply dU | apply jz))
    refine j8 (rv_2 (RV1.cell rfl (by (repeat (exact List.Mem.head _))) ?_) (rv1_t (v:=.bool _) rfl)) .none ⟨rfl,rfl⟩
    unfold jC
    simp only [show eW 223=some (.array 256 4) from rfl,show fS 223=some (.agg (List.replicate 256 (.bool false)).toArray,256,256) from rfl,j5,cond_true,List.drop_zero,e8]
    rw [List.take_of_length_le (by rw [e8];omega)];rfl
theorem sV {l:List UInt8} {j:Nat} (h:j<l.length):l.getD j 0=l[j]:=by simp [List.getD_eq_getElem?_getD,h]
theorem wZ (κ:Kr) (b:Nat) (s:ByteArray) (hs:Sh κ b 0 (fx jY)) (hz:s.size≤1000000000):CallP 171 [.string s,.pointer (some ⟨b,0,none⟩)] κ fun v _=>∃ u k,v=.string u∧bl u=(bl s).take k∧k≤(bl s).length∧(∀ c∈(bl s).drop k,jY c.toNat=true)∧(∀ c,(bl u).getLast?=some c→jY c.toNat=false):=by
  (unfold CallP;apply lY Tryz.func171 (zj Tryz.func171 rfl) rfl Tryz.ntmps171 Tryz.results171 rfl)
  repeat (first | (first | (apply ce rfl rfl rfl;(focus (exact bY (v:=(.string _)) rfl (.p rfl)))) | apply cH) | (first | apply cE | apply bm | apply jA | apply dU))
  refine qb (X:=ByteArray×Nat) (fun z=>[(0,.string z.1),(1,.pointer (some ⟨b,0,none⟩))]) (fun _=>[]) (fun z _=>bl z.1=(bl s).take z.2∧z.2≤(bl s).length∧∀ c∈(bl s).drop z.2,jY c.toNat=true) (fun z=>z.2) (s,(bl s).length) (by (repeat (first | exact Holds.nil | apply Holds.cons rfl))) (by (repeat (exact Sub.nil))) ⟨(List.take_length).symm,Nat.le_refl _,by rw [List.drop_length];simp⟩ ?_
  rw [lq] at hz
  rintro ⟨u,k⟩ τ κ2 _ ⟨h1,h2,h3⟩
  dsimp only at h1 h2 h3
  have hsz:u.size=k:=by rw [lq,h1,List.length_take];omega
  simp only [td]
  repeat (first | (first | (apply ce rfl rfl rfl;(focus (first | exact ba (v:=(.string _)) rfl (.p rfl) | exact kW rfl (.p rfl) (.p rfl) rfl | exact lX rfl rfl (.p rfl)))) | apply cH) | (first | apply cE | apply bm | apply dU))
  apply wk rfl <;> intro hc
  · have hk0:0<k:=by omega
    repeat (first | (apply ce rfl rfl rfl;(focus (first | exact ba (v:=(.pointer _)) rfl (.p rfl) | exact ba (v:=(.string _)) rfl (.p rfl) | exact fi rfl (.p rfl) (.p rfl) rfl (fun _=>by omega) | exact lX rfl rfl (.p rfl)))) | (first | apply cE | apply bm | apply jA | apply dU | apply ic))
    apply ce rfl rfl rfl (mC (j:=k - 1) rfl rfl (.p rfl) (.p rfl) (fun _=>by omega) (fun _=>by omega))
    have hlast:(bl u).getLast?=some ((bl u).getD (k - 1) 0):=by
      rw [List.getLast?_eq_getElem?,← lq,hsz,sV (by rw [← lq];omega),List.getElem?_eq_getElem]
    apply sk rfl rfl rfl;apply lG rfl rfl (r9 _ b jY ((u.data.toList.getD (k - 1) 0).toNat:Int) (hs.mono (by (repeat (assumption)))) (by omega) (by have:=(u.data.toList.getD (k - 1) 0).toNat_lt;omega))
    rintro v κ3 _ rfl
    repeat (first | (first | (apply ce rfl rfl rfl;(focus (exact vW rfl (.p rfl)))) | apply cH) | (apply dU))
    rw [Int.toNat_natCast]
    apply jB rfl <;> intro hb
    · repeat (first | (first | (apply ce rfl rfl rfl;(focus (first | exact ba (v:=(.string _)) rfl (.p rfl) | exact bY (v:=(.string _)) rfl (.p rfl)))) | apply cH) | (first | apply cE | apply bm | apply dU | apply jz | apply ne | apply j6 | apply j7 rfl | apply tx rfl | apply jl))
      refine j8 (wj (v:=.string _) rfl) .none ⟨rfl,u,k,rfl,h1,h2,h3,fun c hc=>?_⟩
      rw [hlast] at hc;injection hc with hc;subst hc;simpa using hb
    · repeat (first | (apply ce rfl rfl rfl;(focus (first | exact ba (v:=(.string _)) rfl (.p rfl) | exact fi rfl (.p rfl) (.p rfl) rfl (fun _=>by omega) | exact lX rfl rfl (.p rfl)))) | (first | apply bm | apply dU | apply ic))
      apply ce rfl rfl rfl (rS (h:=k - 1) rfl rfl (.p rfl) (.p rfl) (fun _=>by omega) (fun _=>by omega))
      repeat (first | (first | (apply ce rfl rfl rfl;(focus (exact bY (v:=(.string _)) rfl (.p rfl)))) | apply cH) | (apply oB))
      refine wi (u.extract 0 (k - 1),k - 1) (by (repeat (first | exact Holds.nil | apply Holds.cons rfl))) (by (repeat (exact Sub.nil))) ⟨?_,by ((try dsimp only at *) <;> omega),?_⟩ (by ((try dsimp only at *) <;> omega))
      · rw [bl_hi,h1,List.take_take];congr 1;omega
      · intro c hc
        rw [List.drop_eq_getElem_cons (by omega)] at hc
        rcases List.mem_cons.1 hc with rfl | hc
        · have e:(bl u).getD (k - 1) 0=(bl s)[k - 1]'(by omega):=by
            rw [sV (by rw [← lq];omega)];simp [h1]
          rw [← e];simpa using hb
        · rw [show k - 1+1=k by omega] at hc;exact h3 c hc
  · repeat (first | (first | (apply ce rfl rfl rfl;(focus (first | exact ba (v:=(.string _)) rfl (.p rfl) | exact bY (v:=(.string _)) rfl (.p rfl)))) | apply cH) | (first | apply cE | apply bm | apply dU | apply jz | apply ne | apply j6 | apply j7 rfl | apply jl))
    refine j8 (wj (v:=.string _) rfl) .none ⟨rfl,u,k,rfl,h1,h2,h3,fun c hc'=>?_⟩
    have:bl u=[]:=List.eq_nil_of_length_eq_zero (by rw [← lq];omega)
    rw [this] at hc';cases hc'
end SX
namespace SX
open Go
attribute [local irreducible] WL WC WD OpL OpQ OpG Ev GuardIs zg kV Cy Call CallP midK tz Holds td Sub Pick WS Step Lit Upd SetAt SpliceAt FillR Sh LateRun
theorem yx (κ:Kr) (b:Nat) (s:ByteArray) (hs:Sh κ b 0 (fx jY)):CallP 170 [.string s,.pointer (some ⟨b,0,none⟩)] κ fun v _=>∃ u k,v=.string u∧bl u=(bl s).drop k∧k≤(bl s).length∧(∀ c∈(bl s).take k,jY c.toNat=true)∧(∀ c,(bl u).head?=some c→jY c.toNat=false):=by
  (unfold CallP;apply lY Tryz.func170 (zj Tryz.func170 rfl) rfl Tryz.ntmps170 Tryz.results170 rfl)
  repeat (first | (first | (apply ce rfl rfl rfl;(focus (exact bY (v:=(.string _)) rfl (.p rfl)))) | apply cH) | (first | apply cE | apply bm | apply jA | apply dU))
  refine qb (X:=ByteArray×Nat) (fun z=>[(0,.string z.1),(1,.pointer (some ⟨b,0,none⟩))]) (fun _=>[]) (fun z _=>bl z.1=(bl s).drop z.2∧z.2≤(bl s).length∧∀ c∈(bl s).take z.2,jY c.toNat=true) (fun z=>(bl s).length - z.2) (s,0) (by (repeat (first | exact Holds.nil | apply Holds.cons rfl))) (by (repeat (exact Sub.nil))) ⟨rfl,Nat.zero_le _,by simp⟩ ?_
  rintro ⟨u,k⟩ τ κ2 _ ⟨h1,h2,h3⟩
  dsimp only at h1 h2 h3
  have hsz:u.size=(bl s).length - k:=by rw [lq,h1,List.length_drop]
  simp only [td]
  repeat (first | (first | (apply ce rfl rfl rfl;(focus (first | exact ba (v:=(.string _)) rfl (.p rfl) | exact kW rfl (.p rfl) (.p rfl) rfl | exact lX rfl rfl (.p rfl)))) | apply cH) | (first | apply cE | apply bm | apply dU))
  apply wk rfl <;> intro hc
  · have hk0:k<(bl s).length:=by omega
    have hu0:0<(bl u).length:=by rw [← lq];omega
    repeat (first | (apply ce rfl rfl rfl;(focus (first | exact ba (v:=(.pointer _)) rfl (.p rfl) | exact ba (v:=(.string _)) rfl (.p rfl)))) | (first | apply cE | apply bm | apply jA | apply dU | apply ic))
    apply ce rfl rfl rfl (mC (j:=0) rfl rfl (.p rfl) (.p rfl) (fun _=>by omega) (fun _=>by omega))
    have hhead:(bl u).head?=some ((bl u).getD 0 0):=by
      rw [List.head?_eq_getElem?,sV hu0,List.getElem?_eq_getElem hu0]
    apply sk rfl rfl rfl;apply lG rfl rfl (r9 _ b jY ((u.data.toList.getD 0 0).toNat:Int) (hs.mono (by (repeat (assumption)))) (by omega) (by have:=(u.data.toList.getD 0 0).toNat_lt;omega))
    rintro v κ3 _ rfl
    repeat (first | (first | (apply ce rfl rfl rfl;(focus (exact vW rfl (.p rfl)))) | apply cH) | (apply dU))
    rw [Int.toNat_natCast]
    apply jB rfl <;> intro hb
    · repeat (first | (first | (apply ce rfl rfl rfl;(focus (first | exact ba (v:=(.string _)) rfl (.p rfl) | exact bY (v:=(.string _)) rfl (.p rfl)))) | apply cH) | (first | apply cE | apply bm | apply dU | apply jz | apply ne | apply j6 | apply j7 rfl | apply tx rfl | apply jl))
      refine j8 (wj (v:=.string _) rfl) .none ⟨rfl,u,k,rfl,h1,h2,h3,fun c hc=>?_⟩
      rw [hhead] at hc;injection hc with hc;subst hc;simpa using hb
    · repeat (first | (apply ce rfl rfl rfl;(focus (exact ba (v:=(.string _)) rfl (.p rfl)))) | (first | apply bm | apply dU | apply ic))
      apply ce rfl rfl rfl (rT (l:=1) rfl rfl (.p rfl) (.p rfl) (fun _=>by omega) (fun _=>by omega))
      repeat (first | (first | (apply ce rfl rfl rfl;(focus (exact bY (v:=(.string _)) rfl (.p rfl)))) | apply cH) | (apply oB))
      refine wi (u.extract 1 u.size,k+1) (by (repeat (first | exact Holds.nil | apply Holds.cons rfl))) (by (repeat (exact Sub.nil))) ⟨?_,by ((try dsimp only at *) <;> omega),?_⟩ (by ((try dsimp only at *) <;> omega))
      · rw [bl_lo,h1,List.drop_drop]
      · intro c hc
        rw [List.take_add_one] at hc
        rcases List.mem_append.1 hc with hc | hc
        · exact h3 c hc
        · have e:(bl u).getD 0 0=(bl s)[k]'hk0:=by rw [sV hu0];simp [h1]
          rw [List.getElem?_eq_getElem hk0] at hc
          simp only [Option.toList_some,List.mem_cons,List.not_mem_nil,or_false] at hc
          subst hc;rw [← e];simpa using hb
  · repeat (first | (first | (apply ce rfl rfl rfl;(focus (first | exact ba (v:=(.string _)) rfl (.p rfl) | exact bY (v:=(.string _)) rfl (.p rfl)))) | apply cH) | (first | apply cE | apply bm | apply dU | apply jz | apply ne | apply j6 | apply j7 rfl | apply jl))
    refine j8 (wj (v:=.string _) rfl) .none ⟨rfl,u,k,rfl,h1,h2,h3,fun c hc'=>?_⟩
    have:bl u=[]:=List.eq_nil_of_length_eq_zero (by rw [← lq];omega)
    rw [this] at hc';cases hc'
def lT (s:ByteArray):Bool:=(bl s).all fun c=>jY c.toNat
theorem vG {s:ByteArray}:s=⟨#[]⟩↔bl s=[]:=⟨fun h=>by rw [h],fun h=>bl_inj (by rw [h])⟩
theorem trim_ok (κ:Kr) (s:ByteArray) (hz:s.size≤1000000000):CallP 138 [.string s,.string i7] κ fun v _=>∃ u,v=.string u∧(u=⟨#[]⟩↔lT s=true):=by
  (unfold CallP;apply lY Tryz.func138 (zj Tryz.func138 rfl) rfl Tryz.ntmps138 Tryz.results138 rfl)
  repeat (first | (first | (apply ce rfl rfl rfl;(focus (first | exact ba (v:=(.bool _)) rfl (.p rfl) | exact ba (v:=(.string _)) rfl (.p rfl) | exact bY (v:=(.string _)) rfl (.p rfl) | exact oq_or rfl (.p rfl) (.p rfl) (.g rfl) | exact vY rfl (.p rfl) (.p rfl) rfl))) | (apply ti;(focus (exact Aq rfl rfl rfl));rfl;rfl;(focus (first | (apply ba (v:=(.string _)) rfl;(focus (exact Ev.p rfl))) | (apply vY rfl (by (focus (exact Ev.g rfl))) (by (focus (exact Ev.p rfl)));rfl)))) | apply cH) | (first | apply cE | apply bm | apply dU))
  apply jB rfl <;> intro hb
  · repeat (first | (first | (apply ce rfl rfl rfl;(focus (first | exact ba (v:=(.string _)) rfl (.p rfl) | exact bY (v:=(.string _)) rfl (.p rfl)))) | apply cH) | (first | apply cE | apply bm | apply dU | apply jz | apply qY))
    have:s=⟨#[]⟩:=by simpa [i7] using hb
    refine j8 (wj (v:=.string _) rfl) .none ⟨rfl,s,rfl,?_⟩
    subst this;simp [lT,bl]
  · have hne:¬ bl s=[]:=fun h=>by rw [vG.2 h] at hb;simp at hb
    repeat (first | (first | (apply ce rfl rfl rfl;(focus (first | exact ba (v:=(.bool _)) rfl (.p rfl) | exact ba (v:=(.string _)) rfl (.p rfl) | exact kW rfl (.p rfl) (.p rfl) rfl | exact lX rfl rfl (.p rfl)))) | (apply ti;(focus (exact nc rfl rfl rfl));rfl;rfl;(focus (apply ba (v:=(.string _)) rfl;(focus (exact Ev.p rfl)))))) | (first | apply cE | apply bm | apply dU | apply ic))
    apply ti;(focus (exact nc rfl rfl rfl));rfl;rfl;exact mC (s:=i7) (j:=0) rfl rfl (.g rfl) (.p rfl) (fun _=>rfl) (fun _=>by decide)
    repeat (first | (first | (apply ce rfl rfl rfl;(focus (exact zh rfl (.p rfl) (.p rfl) (.g rfl)))) | (apply ti;(focus (exact nc rfl rfl rfl));rfl;rfl;(focus (apply kW rfl (by (focus (exact Ev.g rfl))) (by (focus (exact Ev.p rfl)));rfl))) | apply cH) | (apply dU))
    apply jB rfl <;> intro hb2
    · have e:(i7.size:Int)=10:=rfl
      rw [e] at hb2;simp at hb2
    repeat (first | (apply ce rfl rfl rfl;(focus (exact ba (v:=(.string _)) rfl (.p rfl)))) | (first | apply cE | apply bm | apply dU | apply ic))
    refine wl_fun rfl rfl rfl rfl rfl (DP _) fun κ1 _=>?_
    repeat (first | (first | (apply ce rfl rfl rfl;(focus (first | exact ba (v:=(.bool _)) rfl (.p rfl) | exact ba (v:=(.tuple _)) rfl (.p rfl) | exact bY (v:=(.bool _)) rfl (.p rfl) | exact tj rfl (.p rfl) rfl))) | (apply sk rfl rfl rfl;apply vd rfl rfl;intro _ _ _) | (apply Ar rfl rfl;apply vf rfl rfl rfl rfl rfl rfl;(focus (repeat (exact Upd.h)));rfl;intro _ _) | apply cH) | (first | apply cE | apply bm | apply dU))
    rename_i b5 _ _ _ _
    apply wc_pub (b:=b5) Pick.h rfl;intro κ3 _ hS hsays
    have hset:=CL hS hsays
    apply xx rfl
    repeat (first | (apply ce rfl rfl rfl;(focus (exact ba (v:=(.string _)) rfl (.p rfl)))) | (first | apply cE | apply bm))
    apply sk rfl rfl rfl;apply lG rfl rfl (wZ _ b5 s (hset.mono (by (repeat (exact Kle.refl _)))) hz)
    rintro v κ4 _ ⟨u,k,rfl,h1,h2,h3,h4⟩
    apply sk rfl rfl rfl;apply lG rfl rfl (yx _ b5 u (hset.mono (by (repeat (assumption)))))
    rintro v κ5 _ ⟨u2,k2,rfl,g1,g2,g3,g4⟩
    repeat (first | (first | (apply ce rfl rfl rfl;(focus (exact bY (v:=(.string _)) rfl (.p rfl)))) | apply cH) | (first | apply dU | apply jz | apply qY))
    refine j8 (wj (v:=.string _) rfl) .none ⟨rfl,u2,rfl,?_⟩
    rw [vG]
    unfold lT
    rw [List.all_eq_true]
    constructor
    · intro h
      have hk2:k2=(bl u).length:=by
        have:=congrArg List.length (g1.symm.trans h);simp only [List.length_drop,List.length_nil] at this;omega
      intro c hc
      rw [← List.take_append_drop k (bl s)] at hc
      rcases List.mem_append.1 hc with hc | hc
      · rw [← h1] at hc;rw [hk2,List.take_length] at g3;exact g3 c hc
      · exact h3 c hc
    · intro h
      have hu:bl u=[]:=by
        rcases List.eq_nil_or_concat (bl u) with hu | ⟨l,c,hu⟩
        · exact hu
        · have hc:=h4 c (by rw [hu];simp)
          have hm:c∈bl s:=List.mem_of_mem_take (i:=k) (by rw [← h1,hu];simp)
          rw [h c hm] at hc;cases hc
      rw [g1,hu];simp
def Glob (κ:Kr):Prop:=Sh κ 0 0 [.int .i64 2,.int .i64 4,.int .i64 6,.int .i64 8]
theorem Glob.mono {κ κ':Kr} (h:Glob κ) (k:Kle κ κ'):Glob κ':=Sh.mono h k
def ig (s:ByteArray):Int:=if (s.size=2∨s.size=4∨s.size=6∨s.size=8)∧lT s=true then (s.size:Int) else 0
theorem gv_some {c:Bool} {v:Value} {P:ByteArray→Prop} (h:c=true→∃ u,v=.string u∧P u):∃ u,gv c v=gv c (.string u)∧(c=true→P u):=by
  cases c
  · exact ⟨⟨#[]⟩,by rw [ii,ii],fun h=>by cases h⟩
  · obtain ⟨u,rfl,h2⟩:=h rfl;exact ⟨u,rfl,fun _=>h2⟩
theorem DQ (κ:Kr) (s:ByteArray) (hg:Glob κ):CallP 112 [.string s] κ fun v _=>v=.int .i64 (ig s):=by
  (unfold CallP;apply lY Tryz.func112 (zj Tryz.func112 rfl) rfl Tryz.ntmps112 Tryz.results112 rfl)
  repeat (first | (first | (apply ce rfl rfl rfl;(focus (exact bY (v:=(.int _ _)) rfl (.p rfl)))) | apply cH) | (first | apply cE | apply bm | apply dU))
  apply ce rfl rfl rfl (qW rfl (.p rfl) (fun _=>hg) rfl)
  repeat (first | (first | (apply ce rfl rfl rfl;(focus (exact ba (v:=(.int _ _)) rfl (.p rfl)))) | apply cH) | (first | apply jA | apply dU))
  refine qb (X:=Nat) (fun k=>[(0,.string s),(5,.agg #[.int .i64 2,.int .i64 4,.int .i64 6,.int .i64 8]),(6,.int .i64 (k:Int))]) (fun _=>[]) (fun k _=>k≤4∧∀ j,j<k→¬ (s.size=2*(j+1)∧lT s=true)) (fun k=>4 - k) 0 (by (repeat (first | exact Holds.nil | apply Holds.cons rfl))) (by (repeat (exact Sub.nil))) ⟨by omega,by omega⟩ ?_
  rintro k τ κ1 _ ⟨hk,hno⟩
  simp only [td]
  repeat (first | (first | (apply ce rfl rfl rfl;(focus (exact kW rfl (.p rfl) (.p rfl) rfl))) | apply cH) | (first | apply cE | apply bm | apply dU))
  apply wk rfl <;> intro hc
  · have hk4:k<4:=by omega
    repeat (first | apply cE | apply bm | apply jA | apply dU | apply ic)
    apply ce rfl rfl rfl (Bu (cs:=[.int .i64 2,.int .i64 4,.int .i64 6,.int .i64 8]) (v:=.int .i64 (2*((k:Int)+1))) (j:=k) rfl rfl rfl rfl rfl (.p rfl) (.p rfl) (fun _=>rfl) (fun _=>hk4) (fun _=>by
      have:k=0∨k=1∨k=2∨k=3:=by omega
      rcases this with rfl | rfl | rfl | rfl <;> rfl))
    repeat (first | (first | (apply ce rfl rfl rfl;(focus (first | exact ba (v:=(.int _ _)) rfl (.p rfl) | exact ba (v:=(.bool _)) rfl (.p rfl) | exact ba (v:=(.string _)) rfl (.p rfl) | exact bY (v:=(.int _ _)) rfl (.p rfl) | exact kW rfl (.p rfl) (.p rfl) rfl | exact lX rfl rfl (.p rfl)))) | (apply ti;(focus (exact nc rfl rfl rfl));rfl;rfl;(focus (apply ba (v:=(.string _)) rfl;(focus (exact Ev.p rfl))))) | apply cH) | (first | apply cE | apply bm | apply dU))
    apply wl_g;(focus (exact nc rfl rfl rfl));rfl;rfl
    refine xB rfl (ar2 (.g rfl) (.p rfl)) (fun hcc=>trim_ok _ s (by simp at hcc;omega)) fun v κ2 _ hv=>?_
    obtain ⟨u,hu,hP⟩:=gv_some hv
    rw [hu]
    repeat (first | (first | (apply ce rfl rfl rfl;(focus (exact zh rfl (.p rfl) (.p rfl) (.g rfl)))) | (apply ti;(focus (exact nc rfl rfl rfl));rfl;rfl;(focus (apply vY rfl (by (focus (exact Ev.g rfl))) (by (focus (exact Ev.p rfl)));rfl))) | apply cH) | (apply dU))
    apply jB rfl <;> intro hb
    · simp only [Bool.and_eq_true,beq_iff_eq,decide_eq_true_eq] at hb
      have hd:lT s=true:=(hP (by simpa using hb.1)).1 hb.2
      repeat (first | (first | (apply ce rfl rfl rfl;(focus (first | exact ba (v:=(.int _ _)) rfl (.p rfl) | exact bY (v:=(.int _ _)) rfl (.p rfl)))) | apply cH) | (first | apply cE | apply bm | apply dU | apply jz | apply qY | apply xI | apply zm))
      refine j8 (wj (v:=.int _ _) rfl) .none ⟨rfl,?_⟩
      show Value.int .i64 (2*((k:Int)+1))=.int .i64 (ig s)
      unfold ig
      rw [if_pos ⟨by omega,hd⟩,← hb.1]
    · repeat (first | (first | (apply ce rfl rfl rfl;(focus (first | exact ba (v:=(.int _ _)) rfl (.p rfl) | exact fi rfl (.p rfl) (.p rfl) rfl (fun _=>by omega)))) | apply cH) | (first | apply bm | apply dU | apply ic | apply oB))
      refine wi (k+1) (by (repeat (first | exact Holds.nil | apply Holds.cons rfl))) (by (repeat (exact Sub.nil))) ⟨by omega,fun j hj=>?_⟩ (by omega)
      rcases Nat.lt_or_ge j k with h | h
      · exact hno j h
      · have:j=k:=by omega
        subst this
        rintro ⟨h1,h2⟩
        have hcc:((s.size:Int) == 2*((j:Int)+1))=true:=by simp;omega
        have:=(hP (by simpa using hcc)).2 h2
        subst this
        rw [hcc] at hb;simp at hb
  · repeat (first | (first | (apply ce rfl rfl rfl;(focus (exact bY (v:=(.int _ _)) rfl (.p rfl)))) | apply cH) | (first | apply cE | apply bm | apply dU | apply jz | apply ne | apply j6 | apply j7 rfl | apply jl))
    refine j8 (wj (v:=.int _ _) rfl) .none ⟨rfl,?_⟩
    show Value.int .i64 0=.int .i64 (ig s)
    unfold ig
    rw [if_neg]
    rintro ⟨h1,h2⟩
    have:k=4:=by omega
    subst this
    rcases h1 with h1 | h1 | h1 | h1
    · exact hno 0 (by omega) ⟨h1,h2⟩
    · exact hno 1 (by omega) ⟨h1,h2⟩
    · exact hno 2 (by omega) ⟨h1,h2⟩
    · exact hno 3 (by omega) ⟨h1,h2⟩
end SX
namespace SX
open Go
def dP (p0:ByteArray):Option Int:=some (ig p0)
theorem jZ {p0:ByteArray} {r:Int} (h:dP p0=some r):PF 112 [.v (.string p0)] (.v (.int .i64 r)):=fun κ args g ha=>by
 obtain ⟨v,ws,rfl,h1,h2⟩:=ha.cons_inv
 rw [h2.nil_inv,h1.val]
 have h:=Option.some.inj h;subst h
 exact (DQ κ p0 (gok_len g)).mono fun v κ' _ hv=>by subst hv;exact .v rfl
end SX
end Go.Proofs.YtmgcadfnkchnfaaGreatDoor
set_option maxRecDepth 100000
namespace Go.Proofs.YtmgcadfnkchnfaaGreatDoor
namespace SX
open Go Go.RowKit
attribute [local irreducible] PWL PWC PWD POpL POpQ PEv PGuardIs PSub PPick PUpd PSplice PFill PLit PF PFV PCall FOk fb fL mG nQ kX ld Cov PHolds bu idx app mk gd lb nz oO Ci sub nq ez oN uQ eX cV ex dN IntKind.wrap Int.tmod Int.tdiv Op.bytesLess strOfNums
def rF (l:List Za):Bool:=Nat.ble l.length 140737488355328
def co (p0:List Za):Option (List Za):=cond (rF p0) (some p0) none
def fa (p0:List Za) (p1 p2:Int):Option (List Za):=cond (rF p0) (some (mX p0 p1 p2)) none
theorem yy {l:List Za} {x r:List Za} (h:cond (rF l) (some x) none=some r):l.length≤140737488355328∧x=r:=by
 cases hc:rF l with
 | false=>rw [hc] at h;cases h
 | true=>rw [hc] at h;exact ⟨Nat.le_of_ble_eq_true hc,Option.some.inj h⟩
theorem gx {p0 r:List Za} (h:co p0=some r):PSeq 92 [.ref [pL Za.enc p0] 0] DFp r:=by
 obtain ⟨hb,rfl⟩:=yy h;exact zM hb
theorem gn {p0 r:List Za} {p1 p2:Int} (h:fa p0 p1 p2=some r):PSeq 93 [.ref [pL Za.enc p0] 0,.ref [pI p1] 0,.ref [pI p2] 0] DFp r:=by
 obtain ⟨hb,rfl⟩:=yy h;exact zN hb
theorem gI {p0 r:List Za} (h:co p0=some r):PF 49 [pL Za.enc p0] (.fn 92 [.ref [pL Za.enc p0] 0]):=by
 refine bo ?_
 refine ky Tryz.func49 rfl Tryz.ntmps49 Tryz.results49 rfl ?_
 refine ah ?_
 refine aj ?_
 refine tC rfl rfl rfl (bC (cs:=[pL Za.enc p0]) rfl rfl (fun b1=>?_))
 refine bM rfl rfl rfl (be (p:=.v .nilFunc) rfl (.p rfl)) ?_
 refine ar ?_
 refine aW ?_
 refine ah ?_
 refine aj ?_
 refine nl 1 rfl (by (repeat (first | exact aN | apply aC))) ?_
 refine bM rfl rfl rfl (nW rfl) ?_
 refine bM rfl rfl rfl (be (p:=.fn 92 [.ref [pL Za.enc p0] 0]) rfl (.p rfl)) ?_
 refine ar ?_
 refine aW ?_
 refine cd ?_
 exact aI (fM (aD rfl)) bZ ⟨rfl,rfl⟩
theorem gY {p0 r:List Za} {p1 p2:Int} (h:fa p0 p1 p2=some r):PF 51 [pL Za.enc p0,pI p1,pI p2] (.fn 93 [.ref [pL Za.enc p0] 0,.ref [pI p1] 0,.ref [pI p2] 0]):=by
 refine bo ?_
 refine ky Tryz.func51 rfl Tryz.ntmps51 Tryz.results51 rfl ?_
 refine ah ?_
 refine aj ?_
 refine tC rfl rfl rfl (bC (cs:=[pL Za.enc p0]) rfl rfl (fun b1=>?_))
 refine tC rfl rfl rfl (bC (cs:=[pI p1]) rfl rfl (fun b2=>?_))
 refine tC rfl rfl rfl (bC (cs:=[pI p2]) rfl rfl (fun b3=>?_))
 refine bM rfl rfl rfl (be (p:=.v .nilFunc) rfl (.p rfl)) ?_
 refine ar ?_
 refine aW ?_
 refine ah ?_
 refine aj ?_
 refine nl 3 rfl (by (repeat (first | exact aN | apply aC))) ?_
 refine nl 4 rfl (by (repeat (first | exact aN | apply aC))) ?_
 refine nl 5 rfl (by (repeat (first | exact aN | apply aC))) ?_
 refine bM rfl rfl rfl (nW rfl) ?_
 refine bM rfl rfl rfl (be (p:=.fn 93 [.ref [pL Za.enc p0] 0,.ref [pI p1] 0,.ref [pI p2] 0]) rfl (.p rfl)) ?_
 refine ar ?_
 refine aW ?_
 refine cd ?_
 exact aI (fM (aD rfl)) bZ ⟨rfl,rfl⟩
end SX
end Go.Proofs.YtmgcadfnkchnfaaGreatDoor
set_option maxRecDepth 100000
namespace Go.Proofs.YtmgcadfnkchnfaaGreatDoor
namespace SX
open Go Go.RowKit
section
variable {β:Base} {o:Oper} {σ:Env} {ρ:List Res} {κ:Kr} {c:Bool} {x y:Operand}
theorem us {r r':Res} {l:List Res} (h:Zl β (r::l) κ) (hb:r'.blk=r.blk) (hs:r'.holds κ.w):Zl β (r'::l) κ :=
 ⟨h.le,h.fin,fun s hs'=>by
  rcases List.mem_cons.1 hs' with rfl | hs'
  ·exact hs
  ·exact h.own s (by simp [hs']),fun s hs' b hbs=>by
  rcases List.mem_cons.1 hs' with rfl | hs'
  ·exact h.blk r (by simp) b (hb ▸ hbs)
  exact h.blk s (by simp [hs']) b hbs,List.Pairwise.cons (fun s hs' b hbs=>(List.pairwise_cons.1 h.nd).1 s hs' b (hb ▸ hbs)) (List.pairwise_cons.1 h.nd).2⟩
theorem AV {m b n cp T sz:Nat} {css:List (List Value)} {l:List Res} {X:Code} {K:Exit→Post} (hp:Pick ρ (Res.row (some ⟨b,0,none⟩) n cp T sz css) l)
    (h:∀ junk,n≤cp→cp≤maxLen→css.length=n→(∀ cs∈css,cs.length=sz)→(css.flatten++junk).length=cp*sz→WC β m X K σ (Res.b b T (css.flatten++junk)::l) κ):WC β m X K σ ρ κ:=fun hi=>by
  have hi2:=hi.perm hp
  obtain ⟨_,h2,h3,h4,h5,cur,h6,h7,h8⟩:=hi2.own _ (List.mem_cons_self)
  have e:css.flatten++cur.toList.drop (n*sz)=cur.toList:=by rw [← h8,List.take_append_drop]
  refine h (cur.toList.drop (n*sz)) h4 h5 h2 h3 (by rw [e];simpa using h7) (us hi2 rfl ?_)
  show _=some _
  rw [h6,e]
theorem vH {b n cp T sz:Nat} {cs:List Value} {css:List (List Value)} {l:List Res} (hp:Pick ρ (Res.b b T cs) l) (h2:css.length=n) (h3:∀ cs∈css,cs.length=sz) (h4:n≤cp) (h5:cp≤maxLen) (h7:cs.length=cp*sz) (h8:cs.take (n*sz)=css.flatten) :
    Shift ρ κ [Res.row (some ⟨b,0,none⟩) n cp T sz css] κ:=⟨rfl,fun β hi=>⟨by
  have hi2:=hi.perm hp
  have hb:κ.w.heap[b]?=some (.cells cs.toArray T (0,0)):=hi2.own _ (List.mem_cons_self)
  have:=us (r':=Res.row (some ⟨b,0,none⟩) n cp T sz css) hi2 rfl ⟨rfl,h2,h3,h4,h5,cs.toArray,hb,by simpa using h7,by simpa using h8⟩
  exact this.sub (List.singleton_sublist.2 (by simp)),.refl _⟩⟩
theorem w6 {w:World} {b off T dl dc sl sc m t ty E sz by':Nat} {cs vs:List Value} {sa:Option Addr} {z:Value} (hu:eW t=some (.slice E)) (hi:fS E=some (z,sz,by')) (hb:w.heap[b]?=some (.cells cs.toArray T (0,0))) (hm:Nat.min sl dl=m) (hv:vs.length=m*sz)
    (hsrc:∃ ad,sa=some ad∧∀ j u,vs[j]?=some u→w.cell? (ad.add j)=some u) (h1:vs.all Value.oneCell'=true) (hl:off+vs.length≤cs.length) :
    ∃ w',(Builtin.copy_ #[t,t] ty #[.slice (some ⟨b,off,none⟩) dl dc,.slice sa sl sc]).run Tryz.prog w=.ok (.int .i64 (m:Int)) w'∧(∀ i,i≠b→w'.heap[i]?=w.heap[i]?)∧w'.heap.size=w.heap.size∧w'.heap[b]?=some (.cells (cs.take off++vs++cs.drop (off+vs.length)).toArray T (0,0))∧w'.os=w.os∧w'.tape=w.tape∧w'.output=w.output:=by
  obtain ⟨w',hrun,g⟩:=mt hb hl h1
  obtain ⟨ad,rfl,hcell⟩:=hsrc
  refine ⟨w',?_,g⟩
  have hf:=run_firstCells_some (P:=Tryz.prog) w sz m ad sl sc vs hv hcell
  simp only [Builtin.copy_,Sem.run_bind,run_underlying (bW hu),Result.andThen_ok,Builtin.lenOf,Sem.run_pure,hm,cX hi,hf]
  simp [hm,hf,hrun,goInt,Builtin.lenOf,run_underlying (bW hu),cX hi]
theorem qI {K:Value→List Res→Kr→Prop} {d s:Operand} {b off T dl dc sl sc m t E sz by':Nat} {cs vs:List Value} {sa:Option Addr} {z:Value} {ρ':List Res} (ho:o.op=.call { callee:=.builtin .copy,args:=#[d,s],argTypes:=#[t,t] }) (hu:eW t=some (.slice E)) (hi:fS E=some (z,sz,by'))
    (hd:ev σ d=.slice (some ⟨b,off,none⟩) dl dc) (hs:ev σ s=.slice sa sl sc) (hm:Nat.min sl dl=m) (hv:vs.length=m*sz) (hsrc:∀ w,Stab ρ κ w→∃ ad,sa=some ad∧∀ j u,vs[j]?=some u→w.cell? (ad.add j)=some u) (h1:vs.all Value.oneCell'=true) (hl:off+vs.length≤cs.length)
    (hup:Upd ρ (Res.b b T cs) (Res.b b T (cs.take off++vs++cs.drop (off+vs.length))) ρ') (h:∀ κ',Kle κ κ'→K (.int .i64 (m:Int)) ρ' κ'):OpL o σ ρ κ K:=fun β hinv Nx hk=>by
  obtain ⟨l1,l2,hρ,hρ'⟩:=hup
  have hb:κ.w.heap[b]?=some (.cells cs.toArray T (0,0)):=hinv.own (Res.b b T cs) (by rw [hρ];simp)
  obtain ⟨w',hrun,g1,g2,g3,g4,g5,g6⟩:=w6 (ty:=o.type) hu hi hb hm hv (hsrc _ hinv.stab) h1 hl
  unfold execOp
  simp only [ho,resolve,invoke,builtin,Sem.run_bind,Sem.run_pure,Result.andThen_ok,List.map_toArray,List.map_cons,List.map_nil,hd,hs]
  rw [hrun]
  simp only [Result.andThen_ok,OutV]
  obtain ⟨hi',hk'⟩:=hinv.turn (r:=Res.b b T cs) (r':=Res.b b T (cs.take off++vs++cs.drop (off+vs.length))) hρ rfl rfl g1 g2 g3 g4 g5 g6 (ou _ _ _ _ _ hrun)
  rw [← hρ'] at hi'
  exact hk _ _ _ hi' hk' (h _ hk')
theorem pg (z:Array Value) (n:Nat):(Builtin.zeroCells z n).size=n*z.size:=by simp [Builtin.zeroCells]
theorem oe {w:World} {t tn ty E sz by' n c k:Nat} {z:Value} {a:Addr} {vs:List Value} (hu:eW t=some (.slice E)) (hx:eW tn=some (.int .i64)) (hi:fS E=some (z,sz,by')) (hz:0<sz) (hby:by'≤1000) (hk:0<k) (hc:c<n+k) (hn:n+k≤201)
    (hv:vs.length=n*sz) (hsrc:∀ j u,vs[j]?=some u→w.cell? (a.add j)=some u) :
    (Builtin.append_ #[t,tn] ty #[.slice (some a) n c,.int .i64 (k:Int)]).run Tryz.prog w =
      .ok (.slice (some ⟨w.heap.size,0,none⟩) (n+k) (grownCap w (n+k) c E)) (w.drew.alloc (.cells (vs.toArray++Builtin.zeroCells z.cells k++Builtin.zeroCells z.cells (grownCap w (n+k) c E - (n+k))) E)):=by
  obtain ⟨i,hinf,hz0,hsz,hbyt⟩:=oz hi
  have hw:IntKind.i64.wrap (k:Int)=k:=p6 (by omega)
  have hf:=run_firstCells_some (P:=Tryz.prog) w.drew sz n a n c vs hv hsrc
  have hb1:¬ (281474976710656<(k:Int)*(i.bytes:Int)):=by
    rw [hbyt]
    have:k*by'≤201*1000:=Nat.mul_le_mul (by omega) hby
    have e:(k:Int)*(by':Int)=((k*by':Nat):Int):=by simp
    omega
  have hnc:¬ (n+k≤c):=by omega
  have hb2:¬ (281474976710656<Builtin.nextslicecap (n+k) c*i.bytes):=by
    rw [hbyt]
    have hle:Builtin.nextslicecap (n+k) c≤402:=by
      unfold Builtin.nextslicecap
      split
      · omega
      rw [if_pos (by omega)];omega
    have:Builtin.nextslicecap (n+k) c*by'≤402*1000:=Nat.mul_le_mul hle hby
    omega
  have h63:¬ (9223372036854775807<((n:Int)+(k:Int))):=by omega
  have hks:¬ (k=0∨sz=0):=by omega
  have hk0:¬ ((k:Int)<0):=by omega
  simp [Builtin.append_,run_underlying (bW hu),run_underlying (bW hx),cX hi,typeInfo,zeroValue,hinf,hz0,asInt,asIntOf,hw,hk0,hb1,hb2,hnc,h63,hks,Question.forced,newRow,grownCap,hf]
  intro h;exact absurd (Nat.mul_eq_zero.1 h) hks
theorem ol_appZ {K:Value→List Res→Kr→Prop} {s:Operand} {t tn E sz by' n cp k:Nat} {z:Value} {a:Addr} {vs:List Value} (ho:o.op=.call { callee:=.builtin .append,args:=#[s,x],argTypes:=#[t,tn] }) (hu:eW t=some (.slice E)) (hx:eW tn=some (.int .i64)) (hi:fS E=some (z,sz,by')) (hz:0<sz) (hzs:z.cells.size=sz) (hby:by'≤1000) (hk:0<k) (hc:cp<n+k) (hn:n+k≤201)
    (hs:ev σ s=.slice (some a) n cp) (hxv:ev σ x=.int .i64 (k:Int)) (hv:vs.length=n*sz) (hsrc:∀ w,Stab ρ κ w→∀ j u,vs[j]?=some u→w.cell? (a.add j)=some u)
    (h:∀ b c' zs κ',Kle κ κ'→n+k≤c'→c'≤maxLen→(vs++zs).length=c'*sz→K (.slice (some ⟨b,0,none⟩) (n+k) c') (Res.b b E (vs++zs)::ρ) κ'):OpL o σ ρ κ K:=fun β hinv Nx hK=>by
  have hrun:=oe (ty:=o.type) hu hx hi hz hby hk hc hn hv (hsrc _ hinv.stab)
  unfold execOp
  simp only [ho,resolve,invoke,builtin,Sem.run_bind,Sem.run_pure,Result.andThen_ok,List.map_toArray,List.map_cons,List.map_nil,hs,hxv]
  rw [hrun]
  simp only [Result.andThen_ok,OutV]
  have hge:=grownCap_ge κ.w (n+k) cp E
  have hle:=grownCap_le_maxLen κ.w (n+k) cp E (by unfold maxLen;omega)
  generalize grownCap κ.w (n+k) cp E=g at *
  have e:(vs.toArray++Builtin.zeroCells z.cells k++Builtin.zeroCells z.cells (g - (n+k)))=(vs++((Builtin.zeroCells z.cells k).toList++(Builtin.zeroCells z.cells (g - (n+k))).toList)).toArray:=by
    rw [← List.append_assoc];simp
  rw [e]
  have hk1:Kle κ ⟨κ.w.drew,κ.S⟩:=⟨Nat.le_refl _,fun _ h=>h,fun _ _=>rfl⟩
  have hi2:Zl β ρ ⟨κ.w.drew,κ.S⟩:=hinv.drew
  have hlen:(vs++((Builtin.zeroCells z.cells k).toList++(Builtin.zeroCells z.cells (g - (n+k))).toList)).length=g*sz:=by
    have l1:(Builtin.zeroCells z.cells k).toList.length=k*sz:=by rw [Array.length_toList,pg,hzs]
    have l2:(Builtin.zeroCells z.cells (g - (n+k))).toList.length=(g - (n+k))*sz:=by rw [Array.length_toList,pg,hzs]
    rw [List.length_append,List.length_append,l1,l2,hv,← Nat.add_mul,← Nat.add_mul]
    congr 1;omega
  have hi3:=hi2.alloc (.cells (vs++((Builtin.zeroCells z.cells k).toList++(Builtin.zeroCells z.cells (g - (n+k))).toList)).toArray E) (Res.b κ.w.heap.size E (vs++((Builtin.zeroCells z.cells k).toList++(Builtin.zeroCells z.cells (g - (n+k))).toList))) rfl rfl
  have hk2:=hk1.trans (gc hi2.fin (.cells (vs++((Builtin.zeroCells z.cells k).toList++(Builtin.zeroCells z.cells (g - (n+k))).toList)).toArray E))
  exact hK _ _ _ hi3 hk2 (h κ.w.heap.size g _ _ hk2 hge hle hlen)
theorem yz {f t r E sz by' vb b off la ca lb' cb Tv T:Nat} {ts:Array Nat} {fn:Func} {z:Value} {cv cs:List Value} (ho:o.op=.call { callee:=.value (.func f),args:=#[x,y],argTypes:=ts }) (hf:Tryz.prog.funcs[f]?=some fn) (hname:(fn.name == "runtime.NumGoroutine")=false) (hb:fn.body.isNone=true) (hn:Extern.findNext fn=none) (he:Extern.find fn=some (Extern.SlicesOverlaps.overlaps #[t,t] #[r]))
    (hu:eW t=some (.slice E)) (hi:fS E=some (z,sz,by')) (hx:ev σ x=.slice (some ⟨vb,0,none⟩) la ca) (hy:ev σ y=.slice (some ⟨b,off,none⟩) lb' cb) (hne:vb≠b) (hm1:Res.b vb Tv cv∈ρ) (hm2:Res.b b T cs∈ρ) (hcs:cs.length≠0):OpQ true o σ ρ κ (.bool false):=fun _ w hs=>by
  have h1:w.heap[vb]?=some (.cells cv.toArray Tv (0,0)):=hs.own _ hm1
  have h2:w.heap[b]?=some (.cells cs.toArray T (0,0)):=hs.own _ hm2
  have hrun:=Lib.run_overlaps_apart (P:=Tryz.prog) w t r E (bW hu) sz (cX hi) ⟨vb,0,none⟩ ⟨b,off,none⟩ la ca lb' cb hne Tv T cv.length cs.length (by simp [World.shape?,h1]) (by simp [World.shape?,h2]) hcs (by simp [World.frozen?,h1]) (by simp [World.frozen?,h1])
  unfold execOp
  have hfv:ev σ (.func f)=.func (.func f) #[] #[]:=rfl
  simp only [ho,hfv,resolve,Deferred.ofValue,Sem.run_bind,Sem.run_pure,Result.andThen_ok,invoke,List.map_toArray,List.map_cons,List.map_nil,hx,hy]
  simp [run_callFunc_extern hf hname hb hn he,hrun,Result.andThen]
theorem ut {m n cp T sz:Nat} {a:Option Addr} {css:List (List Value)} {l:List Res} {X:Code} {K:Exit→Post} (hp:Pick ρ (Res.row a n cp T sz css) l) (h1:a=none→n=0→cp=0→css=[]→WC β m X K σ ρ κ) (h2:∀ b,a=some ⟨b,0,none⟩→css.length=n→WC β m X K σ ρ κ):WC β m X K σ ρ κ:=fun hi=>by
 have hr:=(hi.perm hp).own _ (List.mem_cons_self)
 cases a with
 | none=>obtain ⟨e1,e2,e3⟩:=hr;exact h1 rfl e1 e2 e3 hi
 | some ad=>obtain ⟨e1,e2,_⟩:=hr;exact h2 ad.block (by rw [← e1]) e2 hi
end
end SX
end Go.Proofs.YtmgcadfnkchnfaaGreatDoor
set_option maxRecDepth 100000
namespace Go.Proofs.YtmgcadfnkchnfaaGreatDoor
namespace SX
open Go Go.RowKit
attribute [local irreducible] WL WD OpL OpQ IntKind.wrap
theorem add_off (b k:Nat):(⟨b,0,none⟩:Addr).add k=⟨b,k,none⟩:=by rw [fK,Nat.zero_add]
theorem slo {b n cp k sz:Nat} (h:k<cp):(Value.slice (if cp=k then some ⟨b,0,none⟩ else (some (⟨b,0,none⟩:Addr)).map (·.add (k*sz))) (n - k) (cp - k))=.slice (some ⟨b,k*sz,none⟩) (n - k) (cp - k):=by
 rw [if_neg (by omega)];simp only [Option.map_some,add_off]
theorem uu {w:World} {b off T j:Nat} {cs:List Value} {u:Value} (h:w.heap[b]?=some (.cells cs.toArray T (0,0))) (hu:cs[off+j]?=some u):w.cell? ((⟨b,off,none⟩:Addr).add j)=some u:=by
 rw [fK,iT h];exact hu
def sC (css:List (List Value)) (i:Nat) (vs:List Value):List (List Value):=css.take i++[vs]++css.drop i
theorem yA {css:List (List Value)} {i:Nat} {vs:List Value} (hi:i≤css.length):(sC css i vs).length=css.length+1:=by unfold sC;simp;omega
theorem yB {sz:Nat} {css:List (List Value)} {i:Nat} {vs:List Value} (h:∀ c∈css,c.length=sz) (hv:vs.length=sz):∀ c∈sC css i vs,c.length=sz:=fun c hc=>by
 unfold sC at hc
 rcases List.mem_append.1 hc with hc | hc
 ·rcases List.mem_append.1 hc with hc | hc
  ·exact h c (List.mem_of_mem_take hc)
  rw [List.mem_singleton.1 hc];exact hv
 exact h c (List.mem_of_mem_drop hc)
theorem vI {sz:Nat} {css:List (List Value)} {i:Nat} {vs:List Value} (h:∀ c∈css,c.length=sz) (hi:i≤css.length):(sC css i vs).flatten=css.flatten.take (i*sz)++vs++css.flatten.drop (i*sz):=by
 unfold sC;rw [List.flatten_append,List.flatten_append,← vk h hi,← vl h hi];simp
theorem copies1 {A V D cs:List Value} {p q:Nat} (hA:cs.take p=A) (hp:A.length=p) (hV:V.length=q) (hl:p+q+D.length≤cs.length) :
    (cs.take p++V++cs.drop (p+V.length)).take (p+q)++D++(cs.take p++V++cs.drop (p+V.length)).drop (p+q+D.length)=A++V++D++cs.drop (p+q+D.length):=by
  have h1:(A++V).length=p+q:=by rw [List.length_append,hp,hV]
  rw [hA,hV,List.take_append_of_le_length (by omega),List.take_of_length_le (by omega),List.drop_append,List.drop_eq_nil_of_le (by omega),List.nil_append,List.drop_drop,h1]
  congr 2;omega
theorem copies2 {A V D cs:List Value} {p q:Nat} (hA:cs.take p=A) (hp:A.length=p) (hV:V.length=q) (hl:p+q+D.length≤cs.length) :
    (cs.take (p+q)++D++cs.drop (p+q+D.length)).take p++V++(cs.take (p+q)++D++cs.drop (p+q+D.length)).drop (p+V.length)=A++V++D++cs.drop (p+q+D.length):=by
  have h1:(cs.take (p+q)).length=p+q:=by rw [List.length_take];omega
  rw [List.append_assoc (cs.take (p+q)),List.take_append_of_le_length (by omega),List.take_take,Nat.min_eq_left (by omega),hA,hV,List.drop_append,List.drop_eq_nil_of_le (by omega),List.nil_append,h1,Nat.sub_self,List.drop_zero]
  simp
theorem BS {β:Base} {m n cp T sz:Nat} {a:Option Addr} {css:List (List Value)} {l ρ:List Res} {X:Code} {K:Exit→Post} {σ:Env} {κ:Kr} (hp:Pick ρ (Res.row a n cp T sz css) l) (h:css.length=n→WC β m X K σ ρ κ):WC β m X K σ ρ κ :=
 ut hp (fun _ h0 _ he=>h (by rw [he,h0];rfl)) fun _ _ hl=>h hl
theorem wc_ne {β:Base} {m b b':Nat} {r r':Res} {l ρ:List Res} {X:Code} {K:Exit→Post} {σ:Env} {κ:Kr} (hp:ρ.Perm (r::r'::l)) (hb:r.blk=some b) (hb':r'.blk=some b') (h:b≠b'→WC β m X K σ ρ κ):WC β m X K σ ρ κ:=by
 unfold WC
 exact fun hi=>h (fun e=>(List.pairwise_cons.1 (hi.perm hp).nd).1 r' (by simp) b hb (e ▸ hb')) hi
theorem yC {l:List Value} (k:Nat) (h:l.all Value.oneCell'=true):(l.drop k).all Value.oneCell'=true:=List.all_eq_true.2 fun x hx=>List.all_eq_true.1 h x (List.mem_of_mem_drop hx)
theorem yD {css:List (List Value)} (h:∀ d∈css,d.all Value.oneCell'=true):css.flatten.all Value.oneCell'=true:=List.all_eq_true.2 fun x hx=>by
 obtain ⟨d,hd,hx⟩:=List.mem_flatten.1 hx
 exact List.all_eq_true.1 (h d hd) x hx
theorem yE {κ:Kr} {a:Option Addr} {n c i vb:Nat} {css:List (List Value)} {vs:List Value} (hin:i≤n) (hn:n≤200) (hvs:vs.length=7) (hv1:vs.all Value.oneCell'=true) (hc1:∀ d∈css,d.all Value.oneCell'=true) :
    Call 89 [.slice a n c,.int .i64 (i:Int),.slice (some ⟨vb,0,none⟩) 1 1] [Res.row a n c 93 7 css,Res.b vb 93 vs] κ fun v ρ' _=>∃ a' c',v=.slice a' (n+1) c'∧ρ'=[Res.row a' (n+1) c' 93 7 (sC css i vs)]:=by
  refine lY Tryz.func89 (zj Tryz.func89 rfl) rfl Tryz.ntmps89 Tryz.results89 rfl ?_
  refine BS Pick.h fun hcl=>?_
  refine cE ?_
  refine bm ?_
  refine ce rfl rfl rfl (bY rfl (.p rfl)) ?_
  refine cH ?_
  refine cE ?_
  refine bm ?_
  refine ce rfl rfl rfl (ba rfl (.p rfl)) ?_
  refine ce rfl rfl rfl (ba rfl (.p rfl)) ?_
  refine ce rfl rfl rfl (fT (k:=i) rfl rfl rfl (.p rfl) (.p rfl) (fun _=>rfl) (fun _=>hin)) ?_
  refine cH ?_
  refine cE ?_
  refine bm ?_
  refine ce rfl rfl rfl (ba rfl (.p rfl)) ?_
  refine ce rfl rfl rfl (vZ rfl rfl (.p rfl)) ?_
  refine ce rfl rfl rfl (bY rfl (.p rfl)) ?_
  refine cH ?_
  refine cE ?_
  refine cE ?_
  refine bm ?_
  refine ce rfl rfl rfl (ba rfl (.p rfl)) ?_
  refine ce rfl rfl rfl (kW (r:=false) rfl (.p rfl) (.p rfl) rfl) ?_
  refine cH ?_
  refine xy rfl (ic ?_)
  refine cE ?_
  refine bm ?_
  refine ce rfl rfl rfl (ba rfl (.p rfl)) ?_
  refine ce rfl rfl rfl (vZ rfl rfl (.p rfl)) ?_
  refine ce rfl rfl rfl (bY rfl (.p rfl)) ?_
  refine cH ?_
  refine cE ?_
  refine cE ?_
  refine bm ?_
  refine ce rfl rfl rfl (ba rfl (.p rfl)) ?_
  refine ce rfl rfl rfl (ba rfl (.p rfl)) ?_
  refine ce rfl rfl rfl (kW (r:=((i:Int) == (n:Int))) rfl (.p rfl) (.p rfl) rfl) ?_
  refine cH ?_
  refine jB rfl (fun heq=>?_) (fun hne=>?_)
  · have heq:i=n:=by have:=of_decide_eq_true (p:=(i:Int)=(n:Int)) (by simpa using heq);omega
    subst heq
    refine cE ?_
    refine bm ?_
    refine ce rfl rfl rfl (ba rfl (.p rfl)) ?_
    refine ce rfl rfl rfl (ba rfl (.p rfl)) ?_
    refine sk rfl rfl rfl (vj (css2:=[vs]) rfl rfl rfl rfl rfl rfl rfl Pick.h (rd_b (b:=vb) (T:=93) (cs:=vs) (by simp) rfl (by simpa using hvs) (by simp)) (by simpa using hv1) ⟨by omega,by omega⟩ fun a' c' κ' hk=>?_)
    refine ce rfl rfl rfl (bY rfl (.p rfl)) ?_
    refine cH ?_
    refine jz ?_
    refine j8 rfl (Shift.drop (ρ':=[Res.row a' (i+1) c' 93 7 (css++[vs])]) (List.singleton_sublist.2 (by simp))) ⟨a',c',rfl,?_⟩
    unfold sC;rw [List.take_of_length_le (by omega),List.drop_eq_nil_of_le (by omega),List.append_nil]
  refine ic ?_
  have hlt:i<n:=by have:=of_decide_eq_false (p:=(i:Int)=(n:Int)) (by simpa using hne);omega
  refine ut Pick.h (fun _ h0 _ _=>absurd h0 (by omega)) fun b ha _=>?_
  subst ha
  refine cE ?_
  refine cE ?_
  refine bm ?_
  refine ce rfl rfl rfl (ba rfl (.p rfl)) ?_
  refine ce rfl rfl rfl (ba rfl (.p rfl)) ?_
  refine ce rfl rfl rfl (fi rfl (.p rfl) (.p rfl) rfl (fun _=>⟨by omega,by omega⟩)) ?_
  refine ce rfl rfl rfl (ba rfl (.p rfl)) ?_
  refine ce rfl rfl rfl (oq_cap rfl rfl (.p rfl)) ?_
  refine ce rfl rfl rfl (kW (r:=decide ((c:Int)<(n:Int)+1)) rfl (.p rfl) (.p rfl) rfl) ?_
  refine cH ?_
  refine jB rfl (fun hgt=>?_) (fun hle=>?_)
  · have hgt:c<n+1:=by have:=of_decide_eq_true hgt;omega
    refine AV Pick.h fun junk hnc hcm hcl2 hw hjl=>?_
    have hfl:css.flatten.length=n*7:=by rw [eG hw,hcl]
    refine cE ?_
    refine bm ?_
    refine ce rfl rfl rfl (ba rfl (.p rfl)) ?_
    refine ce rfl rfl rfl (ba rfl (.p rfl)) ?_
    refine ce rfl rfl rfl (ni (k:=i) rfl rfl rfl (.p rfl) (.p rfl) (fun _=>rfl) (fun _=>by omega)) ?_
    refine ce rfl rfl rfl (ba rfl (.p rfl)) ?_
    refine ce rfl rfl rfl (ba rfl (.p rfl)) ?_
    refine ce rfl rfl rfl (fi rfl (.p rfl) (.p rfl) rfl (fun _=>⟨by omega,by omega⟩)) ?_
    refine ce rfl rfl rfl (ba rfl (.p rfl)) ?_
    refine ce rfl rfl rfl (fi rfl (.p rfl) (.p rfl) rfl (fun _=>⟨by omega,by omega⟩)) ?_
    refine sk rfl rfl rfl (ol_appZ (n:=i) (k:=n+1 - i) (vs:=css.flatten.take (i*7)) rfl rfl rfl rfl (by omega) rfl (by omega) (by omega) (by omega) (by omega) rfl (by show Value.int .i64 _=_;congr 1;omega) (by rw [List.length_take,hfl];omega) (fun w hs j u hu=>uu (hs.own (Res.b b 93 (css.flatten++junk)) (by simp)) (by have hj:j<i*7:=(by have:=(List.getElem?_eq_some_iff.1 hu).1;rw [List.length_take] at this;omega);rw [Nat.zero_add,List.getElem?_append_left (by omega)];rwa [List.getElem?_take_of_lt hj] at hu)) fun b2 c' zs κ' hk' hge hle' hzl=>?_)
    refine ce rfl rfl rfl (bY rfl (.p rfl)) ?_
    refine cH ?_
    refine cE ?_
    refine bm ?_
    refine ce rfl rfl rfl (ba rfl (.p rfl)) ?_
    refine ce rfl rfl rfl (ba rfl (.p rfl)) ?_
    refine ce rfl rfl rfl (fT (k:=i) rfl rfl rfl (.p rfl) (.p rfl) (fun _=>rfl) (fun _=>by omega)) ?_
    refine ce rfl rfl rfl (ba rfl (.p rfl)) ?_
    refine sk rfl rfl rfl (qI (m:=1) (vs:=vs) (b:=b2) (off:=i*7) rfl rfl rfl (slo (by omega)) rfl (by simp [Nat.min_def];omega) (by rw [hvs]) (fun w hs=>⟨_,rfl,fun j u hu=>uu (hs.own (Res.b vb 93 vs) (by simp)) (by rw [Nat.zero_add];exact hu)⟩) hv1 (by rw [hzl,hvs];omega) Upd.h fun κ2 hk2=>?_)
    refine cH ?_
    have hdl:(css.flatten.drop (i*7)).length=(n - i)*7:=by rw [List.length_drop,hfl];omega
    have hall:css.flatten.all Value.oneCell'=true:=yD hc1
    refine cE ?_
    refine wh (ρs:=[]) [(0,0),(1,0),(2,0),(3,0),(4,0),(5,0),(6,0),(7,0),(8,1)] (by rw [List.append_nil]) (by kernel_rfl) rfl fun κ3 hk3=>?_
    refine nO rfl rfl rfl (ba rfl (.p rfl)) ?_
    refine nO rfl rfl rfl (ba rfl (.p rfl)) ?_
    refine nO rfl rfl rfl (ba rfl (.p rfl)) ?_
    refine nO rfl rfl rfl (fi rfl (.p rfl) (.p rfl) rfl (fun _=>⟨by omega,by omega⟩)) ?_
    refine nO rfl rfl rfl (fT (k:=i+1) rfl rfl rfl (.p rfl) (.p rfl) (fun _=>by omega) (fun _=>by omega)) ?_
    refine nO rfl rfl rfl (ba rfl (.p rfl)) ?_
    refine nO rfl rfl rfl (ba rfl (.p rfl)) ?_
    refine nO rfl rfl rfl (fT (k:=i) rfl rfl rfl (.p rfl) (.p rfl) (fun _=>rfl) (fun _=>by omega)) ?_
    refine wd_l rfl rfl rfl fun κ4 hk4=>qI (m:=n - i) (vs:=css.flatten.drop (i*7)) (b:=b2) (off:=(i+1)*7) rfl rfl rfl (slo (by omega)) (slo (by omega)) (by simp [Nat.min_def];omega) hdl (fun w hs=>⟨_,rfl,fun j u hu=>uu (hs.own (Res.b b 93 (css.flatten++junk)) (by simp)) (by have hj:j<(n - i)*7:=(by have:=(List.getElem?_eq_some_iff.1 hu).1;rw [hdl] at this;exact this);rw [List.getElem?_append_left (by omega)];rwa [List.getElem?_drop] at hu)⟩) (yC _ hall) (by rw [hdl];simp only [List.length_append,List.length_take,List.length_drop,hvs] at hzl ⊢;omega) Upd.h fun κ5 hk5=>?_
    refine ⟨_,(List.append_nil _).symm,zl fun κ6 hk6=>?_⟩
    refine cE ?_
    refine bm ?_
    refine ce rfl rfl rfl (ba rfl (.p rfl)) ?_
    refine ce rfl rfl rfl (bY rfl (.p rfl)) ?_
    refine cH ?_
    refine jz ?_
    have hA:(css.flatten.take (i*7)++zs).take (i*7)=css.flatten.take (i*7):=by rw [List.take_append_of_le_length (by rw [List.length_take,hfl];omega),List.take_of_length_le (by rw [List.length_take];omega)]
    have hAl:(css.flatten.take (i*7)).length=i*7:=by rw [List.length_take,hfl];omega
    have hcs:=copies1 (D:=css.flatten.drop (i*7)) hA hAl hvs (by rw [hdl,hzl];omega)
    rw [show i*7+7=(i+1)*7 by omega] at hcs
    have hen:i+(n+1 - i)=n+1:=by omega
    refine j8 (v:=.slice (some ⟨b2,0,none⟩) (n+1) c') (by show Value.slice _ _ _=_;rw [hen]) (vH (n:=n+1) (cp:=c') (sz:=7) (css:=sC css i vs) Pick.h (by rw [yA (by omega),hcl]) (yB hw hvs) (by omega) hle' ?_ ?_) ⟨_,_,rfl,rfl⟩
    · rw [hcs];simp only [List.length_append,List.length_drop,hAl,hvs,hdl,hzl];omega
    rw [hcs,vI hw (by omega),List.take_append_of_le_length (by simp only [List.length_append,hAl,hvs,hdl];omega),List.take_of_length_le (by simp only [List.length_append,hAl,hvs,hdl];omega)]
  refine ic ?_
  have hle:n+1≤c:=by have:=of_decide_eq_false hle;omega
  refine AV Pick.h fun junk hnc hcm hcl2 hw hjl=>?_
  refine wc_ne (b:=b) (b':=vb) (List.Perm.refl _) rfl rfl fun hbv=>?_
  have hfl:css.flatten.length=n*7:=by rw [eG hw,hcl]
  have hdl:(css.flatten.drop (i*7)).length=(n - i)*7:=by rw [List.length_drop,hfl];omega
  have hall:css.flatten.all Value.oneCell'=true:=yD hc1
  refine cE ?_
  refine bm ?_
  refine ce rfl rfl rfl (ba rfl (.p rfl)) ?_
  refine ce rfl rfl rfl (ba rfl (.p rfl)) ?_
  refine ce rfl rfl rfl (ba rfl (.p rfl)) ?_
  refine ce rfl rfl rfl (fi rfl (.p rfl) (.p rfl) rfl (fun _=>⟨by omega,by omega⟩)) ?_
  refine ce rfl rfl rfl (ni (k:=n+1) rfl rfl rfl (.p rfl) (.p rfl) (fun _=>by omega) (fun _=>by omega)) ?_
  refine ce rfl rfl rfl (bY rfl (.p rfl)) ?_
  refine cH ?_
  refine cE ?_
  refine cE ?_
  refine bm ?_
  refine ce rfl rfl rfl (ba rfl (.p rfl)) ?_
  refine ce rfl rfl rfl (ba rfl (.p rfl)) ?_
  refine ce rfl rfl rfl (ba rfl (.p rfl)) ?_
  refine ce rfl rfl rfl (ba rfl (.p rfl)) ?_
  refine ce rfl rfl rfl (fi rfl (.p rfl) (.p rfl) rfl (fun _=>⟨by omega,by omega⟩)) ?_
  refine ce rfl rfl rfl (fT (k:=i+1) rfl rfl rfl (.p rfl) (.p rfl) (fun _=>by omega) (fun _=>by omega)) ?_
  refine ce rfl rfl rfl (yz (t:=41) (r:=4) (E:=93) (Tv:=93) (T:=93) (cv:=vs) (cs:=css.flatten++junk) rfl Tryz.func124 (by kernel_rfl) (by kernel_rfl) (by kernel_rfl) (by kernel_rfl) rfl rfl rfl (slo (by omega)) (fun e=>hbv e.symm) (by simp) (by simp) (by rw [hjl];omega)) ?_
  refine ce rfl rfl rfl (vW rfl (.p rfl)) ?_
  refine cH ?_
  refine xx rfl ?_
  refine cE ?_
  refine wh (ρs:=[]) [(0,0),(1,0),(2,0),(3,0),(4,0),(5,0),(6,0),(7,0),(8,1)] (by rw [List.append_nil]) (by kernel_rfl) rfl fun κ3 hk3=>?_
  refine nO rfl rfl rfl (ba rfl (.p rfl)) ?_
  refine nO rfl rfl rfl (ba rfl (.p rfl)) ?_
  refine nO rfl rfl rfl (ba rfl (.p rfl)) ?_
  refine nO rfl rfl rfl (fi rfl (.p rfl) (.p rfl) rfl (fun _=>⟨by omega,by omega⟩)) ?_
  refine nO rfl rfl rfl (fT (k:=i+1) rfl rfl rfl (.p rfl) (.p rfl) (fun _=>by omega) (fun _=>by omega)) ?_
  refine nO rfl rfl rfl (ba rfl (.p rfl)) ?_
  refine nO rfl rfl rfl (ba rfl (.p rfl)) ?_
  refine nO rfl rfl rfl (fT (k:=i) rfl rfl rfl (.p rfl) (.p rfl) (fun _=>rfl) (fun _=>by omega)) ?_
  refine wd_l rfl rfl rfl fun κ4 hk4=>qI (m:=n - i) (vs:=css.flatten.drop (i*7)) (b:=b) (off:=(i+1)*7) rfl rfl rfl (slo (by omega)) (slo (by omega)) (by simp [Nat.min_def];omega) hdl (fun w hs=>⟨_,rfl,fun j u hu=>uu (hs.own (Res.b b 93 (css.flatten++junk)) (by simp)) (by have hj:j<(n - i)*7:=(by have:=(List.getElem?_eq_some_iff.1 hu).1;rw [hdl] at this;exact this);rw [List.getElem?_append_left (by omega)];rwa [List.getElem?_drop] at hu)⟩) (yC _ hall) (by rw [hdl,hjl];omega) Upd.h fun κ5 hk5=>?_
  refine ⟨_,(List.append_nil _).symm,zl fun κ6 hk6=>?_⟩
  refine cE ?_
  refine bm ?_
  refine ce rfl rfl rfl (ba rfl (.p rfl)) ?_
  refine ce rfl rfl rfl (ba rfl (.p rfl)) ?_
  refine ce rfl rfl rfl (fT (k:=i) rfl rfl rfl (.p rfl) (.p rfl) (fun _=>rfl) (fun _=>by omega)) ?_
  refine ce rfl rfl rfl (ba rfl (.p rfl)) ?_
  refine sk rfl rfl rfl (qI (m:=1) (vs:=vs) (b:=b) (off:=i*7) rfl rfl rfl (slo (by omega)) rfl (by simp [Nat.min_def];omega) (by rw [hvs]) (fun w hs=>⟨_,rfl,fun j u hu=>uu (hs.own (Res.b vb 93 vs) (by simp)) (by rw [Nat.zero_add];exact hu)⟩) hv1 (by simp only [List.length_append,List.length_take,List.length_drop,hdl,hvs] at hjl ⊢;omega) Upd.h fun κ2 hk2=>?_)
  refine cH ?_
  refine cE ?_
  refine bm ?_
  refine ce rfl rfl rfl (ba rfl (.p rfl)) ?_
  refine ce rfl rfl rfl (bY rfl (.p rfl)) ?_
  refine cH ?_
  refine jz ?_
  have hA:(css.flatten++junk).take (i*7)=css.flatten.take (i*7):=by rw [List.take_append_of_le_length (by omega)]
  have hAl:(css.flatten.take (i*7)).length=i*7:=by rw [List.length_take,hfl];omega
  have hcs:=copies2 (D:=css.flatten.drop (i*7)) hA hAl hvs (by rw [hdl,hjl];omega)
  rw [show i*7+7=(i+1)*7 by omega] at hcs
  refine j8 (v:=.slice (some ⟨b,0,none⟩) (n+1) c) rfl (vH (n:=n+1) (cp:=c) (sz:=7) (css:=sC css i vs) Pick.h (by rw [yA (by omega),hcl]) (yB hw hvs) (by omega) hcm ?_ ?_) ⟨_,_,rfl,rfl⟩
  · rw [hcs];simp only [List.length_append,List.length_drop,hAl,hvs,hdl] at hjl ⊢;omega
  rw [hcs,vI hw (by omega),List.take_append_of_le_length (by simp only [List.length_append,hAl,hvs,hdl];omega),List.take_of_length_le (by simp only [List.length_append,hAl,hvs,hdl];omega)]
end SX
end Go.Proofs.YtmgcadfnkchnfaaGreatDoor
set_option maxRecDepth 100000
namespace Go.Proofs.YtmgcadfnkchnfaaGreatDoor
namespace SX
open Go Go.RowKit
theorem BT {f:Nat} {args:List Value} {ρ ρ':List Res} {κ:Kr} {R:Value→List Res→Kr→Prop} (hb:kC ρ=kC ρ') (h:∀ β,Zl β ρ κ→Zl β ρ' κ) (hc:Call f args ρ' κ R):Call f args ρ κ R:=⟨hc.1,fun hi=>by
 rw [hb] at hi ⊢;exact hc.2 (h _ hi)⟩
theorem inv_lit {β:Base} {κ:Kr} {r:Res} {vb T sz:Nat} {vs:List Value} (hv:vs.length=sz) (hi:Zl β [r,Res.row (some ⟨vb,0,none⟩) 1 1 T sz [vs]] κ):Zl β [r,Res.b vb T vs] κ:=by
 have hi2:=hi.perm (List.Perm.swap _ _ _)
 obtain ⟨_,_,_,_,_,cur,h6,h7,h8⟩:=hi2.own _ (List.mem_cons_self)
 have e:cur.toList=vs:=by
  have h8:cur.toList.take (1*sz)=[vs].flatten:=h8
  rw [List.take_of_length_le (by simp [h7])] at h8
  simpa using h8
 refine (us hi2 (r':=Res.b vb T vs) rfl ?_).perm (List.Perm.swap _ _ _)
 show _=some _
 rw [h6,← e]
theorem uv {κ:Kr}:∀ {p q:List (List PV)} {v w:List (List Value)},Rpss κ p v→Rpss κ q w→Rpss κ (p++q) (v++w)
 | _,_,_,_,.nil,h=>h
 | _,_,_,_,.cons h hs,g=>.cons h (uv hs g)
theorem vJ {κ:Kr}:∀ {p:List (List PV)} {v:List (List Value)} (i:Nat),Rpss κ p v→Rpss κ (p.take i) (v.take i)
 | _,_,0,_=>.nil
 | _,_,_+1,.nil=>.nil
 | _,_,i+1,.cons h hs=>.cons h (vJ i hs)
theorem vK {κ:Kr}:∀ {p:List (List PV)} {v:List (List Value)} (i:Nat),Rpss κ p v→Rpss κ (p.drop i) (v.drop i)
 | _,_,0,h=>h
 | _,_,_+1,.nil=>.nil
 | _,_,i+1,.cons h hs=>vK i hs
def cL (p0:List Za) (p1:Int) (p2:List Za):Option (List Za):=match p2 with
 | [x]=>if 0≤p1∧p1.toNat≤p0.length∧p0.length≤200 then some (p0.take p1.toNat++[x]++p0.drop p1.toNat) else none
 | _=>none
theorem gy {p0:List Za} {p1:Int} {x:Za} {r:List Za} (h:cL p0 p1 [x]=some r) {a:Option Addr} {c vb:Nat} :
    PCall 89 [pO a p0.length c,pI p1,pO (some ⟨vb,0,none⟩) 1 1] [.row a p0.length c 93 7 (List.map Za.enc p0),.row (some ⟨vb,0,none⟩) 1 1 93 7 [Za.enc x]] (fun pv ρ'=>∃ a' c',pv=pO a' r.length c'∧ρ'=[PRes.row a' r.length c' 93 7 (List.map Za.enc r)]):=fun κ args ρ g ha hr=>by
  unfold cL at h
  dsimp only at h
  split at h
  rotate_left
  · cases h
  rename_i hc
  obtain ⟨h0,h1,h2⟩:=hc
  obtain rfl:=Option.some.inj h
  obtain ⟨i,rfl⟩:∃ i:Nat,p1=(i:Int):=⟨p1.toNat,by omega⟩
  rw [Int.toNat_natCast] at *
  cases ha with | cons ha1 ha=>cases ha with | cons ha2 ha=>cases ha with | cons ha3 ha=>cases ha with | nil =>
  have e1:=ha1.val;have e2:=ha2.val;have e3:=ha3.val
  subst e1;subst e2;subst e3
  cases hr with | cons hr1 hr=>cases hr with | cons hr2 hr=>cases hr with | nil =>
  cases hr1 with | @row _ _ _ _ _ _ dss hb1 ho1 hp1 =>
  cases hr2 with | @row _ _ _ _ _ _ dss2 hb2 ho2 hp2 =>
  cases hp2 with | cons hp2 hn=>cases hn with | nil =>
  rename_i vs
  have hvl:vs.length=7:=by have:=hp2.len;exact this.symm
  refine BT (ρ':=[Res.row a p0.length c 93 7 dss,Res.b vb 93 vs]) rfl (fun β hi=>inv_lit hvl hi) ?_
  refine (yE h1 h2 hvl (List.all_eq_true.2 fun u hu=>ho2 vs (by simp) u hu) (fun d hd=>List.all_eq_true.2 fun u hu=>ho1 d hd u hu)).mono fun v ρ' κ' hk ⟨a',c',e4,e5⟩=>?_
  subst e4;subst e5
  have hlen:(p0.take i++[x]++p0.drop i).length=p0.length+1:=by simp;omega
  refine ⟨pO a' (p0.length+1) c',[PRes.row a' (p0.length+1) c' 93 7 (List.map Za.enc (p0.take i++[x]++p0.drop i))],.v rfl,.cons (.row (by omega) ?_ ?_) .nil,a',c',by rw [hlen],by rw [hlen]⟩
  · intro d hd u hu
    unfold sC at hd
    rcases List.mem_append.1 hd with hd | hd
    · rcases List.mem_append.1 hd with hd | hd
      · exact ho1 d (List.mem_of_mem_take hd) u hu
      rw [List.mem_singleton.1 hd] at hu;exact ho2 vs (by simp) u hu
    exact ho1 d (List.mem_of_mem_drop hd) u hu
  unfold sC
  rw [List.map_append,List.map_append,List.map_take,List.map_drop]
  exact uv (uv (vJ i (hp1.mono hk)) (.cons (hp2.mono hk) .nil)) (vK i (hp1.mono hk))
theorem gJ {p0:List Za} {p1:Int} {p2:List Za} {r:List Za} (h:cL p0 p1 p2=some r) {a:Option Addr} {c vb:Nat} :
    PCall 89 [.v (.slice a p0.length c),pI p1,.v (.slice (some ⟨vb,0,none⟩) 1 1)] [.row a p0.length c 93 7 (List.map Za.enc p0),.row (some ⟨vb,0,none⟩) 1 1 93 7 (List.map Za.enc p2)] (fun pv ρ'=>∃ a c,pv=.v (.slice a r.length c)∧ρ'=[PRes.row a r.length c 93 7 (List.map Za.enc r)]):=by
  match p2,h with
  | [x],h=>exact gy h
end SX
end Go.Proofs.YtmgcadfnkchnfaaGreatDoor
namespace Go.Proofs.YtmgcadfnkchnfaaGreatDoor
namespace SX
open Go
attribute [local irreducible] PWL PWC PWD POpL POpQ PEv PGuardIs PSub PPick PUpd PSplice PFill PLit PF PFV PCall FOk fb fL mG nQ kX ld Cov PHolds bu idx app mk gd lb nz oO Ci sub nq ez oN uQ eX cV ex dN IntKind.wrap Int.tmod Int.tdiv Op.bytesLess strOfNums
attribute [local irreducible] PWQ AQ qC DE asgK lR PSeq
def cF (p0:(List Za)) (p1:(List Za)):Option (List Za):=(lR (S:=(List Za)) (T:=Empty) (fun l3 x8=>(app 64 l3 [x8]).bind fun l13=>some (.inl l13)) p0 p1).bind fun q=>match q with | .inl l3=>some l3 | .inr e=>e.elim
theorem f0 {p0:(List Za)} {p1:(List Za)} {a_0:Option Addr}  {n_0:Nat}  {c_0:Nat} {r:(List Za)} {gf1:Nat} {cs1:List PV} (hg1:PSeq gf1 cs1 DFp p1) (h:cF p0 p1=some r):PCall 126 [.v (.slice a_0 n_0 c_0),.fn gf1 cs1] [PRes.row a_0 n_0 c_0 93 7 (List.map Za.enc p0)] (fun pv ρ'=>∃ a c,pv=.v (.slice a r.length c)∧ρ'=[PRes.row a r.length c 93 7 (List.map Za.enc r)]):=by
 unfold cF at h
 refine wV Tryz.func126 (zj Tryz.func126 rfl) rfl Tryz.ntmps126 Tryz.results126 rfl ?_
 refine yr (enc:=Za.enc) (xs:=p0) (a:=a_0) dt (fun hl ha=>?_);subst hl;clear ha
 refine eO (iw (dj rfl (bC (cs:=[pO a_0 p0.length c_0]) rfl rfl (fun b1=>br [4] (by kernel_rfl) (eP (eO (eO (iw (ap [(6,.fn gf1 cs1)] (by kernel_rfl) (eP (lB (aa h fun q7 hq7 h=>?_))))))))))))
 refine lA (Y:=Option Addr×Nat) (y0:=(a_0,c_0)) (R:=fun (a4,c5) l3=>[PRes.b b1 41 [pO a4 l3.length c5],PRes.row a4 l3.length c5 93 7 (List.map Za.enc l3)]) (R':=fun t=>[]) hq7 rfl hg1 rfl (by kernel_rfl) (by kernel_rfl) sM ?_ ?_ ?_
 ·rintro ⟨a4,c5⟩ l3 x8 suf hs;obtain ⟨o,ho6,hk9⟩:=rC hs;clear hs;(try dsimp only at ho6);(try dsimp only [DFp])
  refine dj rfl (aY (cs:=[pI 0,pI 0,pI 0,pI 0,pS ByteArray.empty,pI 0,pI 0]) rfl rfl rfl rfl (fun b10=>aH rfl rfl (ag (vs:=(aU x8)) rfl rfl rfl rfl rfl bB Ez (ar (rB (aR (aj (dY 2 [1,0] [(8,pO a4 l3.length c5),(9,.agg (aU x8))] (by kernel_rfl) (aF rfl (bg rfl rfl rfl rfl rfl (dI rfl eY) rfl rfl rfl rfl (fun b11=>aa ho6 fun l13 hl13 ho6=>?_)))))))))))
  refine aF rfl (bd (enc:=Za.enc) rfl rfl rfl rfl rfl rfl rfl rfl rfl dt (by exact aC (aC (aC aN))) hl13 (fun a14 c15=>?_))
  refine aH rfl rfl (ag (vs:=[pO a14 l13.length c15]) rfl rfl rfl rfl rfl (bx (bx (bx bB))) cN (ar (aq ?_)))
  exact qD ho6 hk9 (a14,c15) (bq (aC (aC (aC aN))) cq)
 ·rintro ⟨a4,c5⟩ l3 D hr;subst hr;(try dsimp only at h);(try dsimp only)
  refine lC (eP (iw (ah (aV [0] [12] [(4,pO a4 l3.length c5)] (by kernel_rfl) (dC ?_)))))
  (repeat (first | apply aO | apply au | apply bz | apply jh | apply jt | apply ia))
  obtain rfl:=osi h
  exact aI (fM (aD rfl)) (bq (aC aN) bZ) ⟨_,_,rfl,rfl⟩
 rintro t;exact t.elim
def dT (p0:(List Za)):Option (List Za):=(cF ([]:List Za) p0).bind fun x2=>some x2
theorem kv {p0:(List Za)} {r:(List Za)} {gf0:Nat} {cs0:List PV} (hg0:PSeq gf0 cs0 DFp p0) (h:dT p0=some r):PCall 90 [.fn gf0 cs0] [] (fun pv ρ'=>∃ a c,pv=.v (.slice a r.length c)∧ρ'=[PRes.row a r.length c 93 7 (List.map Za.enc r)]):=by
 unfold dT at h
 refine dZ Tryz.func90 rfl Tryz.ntmps90 Tryz.results90 rfl (bh [2] (by kernel_rfl) (cw (cP 1 [(3,.fn gf0 cs0)] (by kernel_rfl) (tE 93 7 (aa h fun x2 hx2 h=>?_)))))
 refine aF rfl (bi rfl rfl (ρ1:=[_]) (aX (by exact aN) (List.Perm.refl _)) (f0 hg0 hx2) ?_);rintro _ _ ⟨a3,c4,rfl,rfl⟩
 refine aL [(2,pO a3 x2.length c4)] (by kernel_rfl) (dC ?_)
 obtain rfl:=osi h
 exact aI (fM (aD rfl)) cq ⟨_,_,rfl,rfl⟩
def cS (p0:(List Za)):Option (List Za):=(dT p0).bind fun x1=>(bK x1).bind fun x5=>some x5
theorem jy {p0:(List Za)} {r:(List Za)} {gf0:Nat} {cs0:List PV} (hg0:PSeq gf0 cs0 DFp p0) (h:cS p0=some r):PCall 48 [.fn gf0 cs0,.fn 50 []] [] (fun pv ρ'=>∃ a c,pv=.v (.slice a r.length c)∧ρ'=[PRes.row a r.length c 93 7 (List.map Za.enc r)]):=by
 unfold cS at h
 refine dZ Tryz.func48 rfl Tryz.ntmps48 Tryz.results48 rfl (bh [4] (by kernel_rfl) (dV h fun x1 hx1 h=>cP 1 [(6,.fn gf0 cs0)] (by kernel_rfl) ?_))
 refine aF rfl (bi rfl rfl (ρ1:=[]) (List.Perm.refl _) (kv hg0 hx1) ?_);rintro _ _ ⟨a2,c3,rfl,rfl⟩
 refine aL [(5,pO a2 x1.length c3)] (by kernel_rfl) (dV h fun x5 hx5 h=>cP 2 [(8,pO a2 x1.length c3),(9,.fn 50 [])] (by kernel_rfl) ?_)
 refine aF rfl (bi rfl rfl (ρ1:=[_]) (aX (by exact aN) (List.Perm.refl _)) (eK hx5) ?_);rintro _ _ ⟨rfl,rfl⟩
 refine ar (cw (an [11] [(4,pO a2 x1.length c3)] (by kernel_rfl) (aW ?_)))
 refine jn (enc:=Za.enc) (xs:=x5) (a:=a2) dt (fun hl6 ha7=>?_);rw [← hl6];clear ha7
 refine cd ?_
 obtain rfl:=osi h
 exact aI (fM (aD rfl)) cq ⟨_,_,rfl,rfl⟩
def jS (p0:Zk) (p1:(List Za)) (p2:Za):Option Zj:=(dO p2.Day 36).bind fun x4=>Option.bind (cond (x4.2 != 0) (some 36524) (some x4.1)) (fun v5=>(fa p1 2 v5).bind fun x10=>(lR (S:=Bool) (T:=Empty) (fun v11 x14=>some (.inl true)) false x10).bind fun q=>match q with | .inl v11=>(fa p1 3 v5).bind (fun x16=>(lR (S:=Int) (T:=Empty) (fun v17 x20=>some (.inl x20.Amount)) p2.Amount x16).bind fun q=>match q with | .inl v17=>(fa p1 4 v5).bind (fun x23=>(lR (S:=ByteArray) (T:=Empty) (fun v24 x27=>some (.inl x27.Country)) p2.Country x23).bind fun q=>match q with | .inl v24=>(fa p0.Facts 5 36524).bind (fun x30=>(lR (S:=Int) (T:=Empty) (fun v31 x34=>some (.inl (ex p0.Units x34.Amount))) 0 x30).bind fun q=>match q with | .inl v31=>some (⟨p0.Code,v24,v11,p2.Company,p2.Day,p0.Units,v17,v31⟩:Zj) | .inr e=>e.elim) | .inr e=>e.elim) | .inr e=>e.elim) | .inr e=>e.elim)
theorem sD {p0:Zk} {p1:(List Za)} {p2:Za} {r:Zj}  (h:jS p0 p1 p2=some r):PF 52 [.agg (bj p0),pL Za.enc p1,.agg (aU p2)] (.agg (ck r)):=by
 unfold jS at h
 refine bo ?_
 refine wV Tryz.func52 (zj Tryz.func52 rfl) rfl Tryz.ntmps52 Tryz.results52 rfl (eO (iw (dj rfl (bC (cs:=(bj p0)) rfl rfl (fun b1=>aF rfl (bC (cs:=(aU p2)) rfl rfl (fun b2=>aF rfl (aY (cs:=[pS ByteArray.empty,pS ByteArray.empty,pB false,pI 0,pI 0,pI 0,pI 0,pI 0]) rfl rfl rfl rfl (fun b3=>ar (eP (eO (iw (aa h fun x4 hx4 h=>aB [1] [14,15,16,13,17,18] [(7,pI x4.1),(8,pI x4.2)] (bw 2 (nJ hx4) bL) (by kernel_rfl) (eP (eO (iw (aa h fun q6 hq6 h=>?_)))))))))))))))))
 refine kG (Y:=Unit×Int) (fun (_,v5)=>[(1,pL Za.enc p1),(3,pP b1 0),(5,pP b2 0),(6,pP b3 0),(7,pI v5)]) (fun (_,v5)=>[PRes.b b1 43 (bj p0),PRes.b b2 93 (aU p2),PRes.b b3 32 [pS ByteArray.empty,pS ByteArray.empty,pB false,pI 0,pI 0,pI 0,pI 0,pI 0]]) (fun (_,v5)=>q6=v5) ?_ ?_
 ·skip
  refine ah (bU [19] [(20,pB (x4.2 != 0))] (by kernel_rfl) rfl hq6 (fun hc7 hq6=>?_) fun hc7 hq6=>?_)
  ·refine ap [(7,pI 36524)] (by kernel_rfl) ?_
   obtain rfl:=osi hq6
   exact fB ((),36524) (mv rfl) (bq (aC (aC aN)) (bq (aC aN) cq)) rfl
  refine ae ?_
  obtain rfl:=osi hq6
  exact fB ((),x4.1) (mv rfl) (bq (aC (aC aN)) (bq (aC aN) cq)) rfl
 rintro ⟨_,v5⟩ τ ρ1 hsub8 hz;(try dsimp only at hz hsub8);subst q6;(try dsimp only at h);dsimp only [aK]
 refine eP (pwq_sub hsub8 (eO (iw (aj (cI 13 [0,1,1,1,0,1] (rg 21 12) [(33,.agg [pS p0.Code,pS p2.Country,pB false,pI p2.Company,pI p2.Day,pI p0.Units,pI p2.Amount,pI 0])] (by kernel_rfl) (aF rfl (aY (cs:=[pS ByteArray.empty,pS ByteArray.empty,pB false,pI 0,pI 0,pI 0,pI 0,pI 0]) rfl rfl rfl rfl (fun b9=>aH rfl rfl (ag (vs:=[pS p0.Code,pS p2.Country,pB false,pI p2.Company,pI p2.Day,pI p0.Units,pI p2.Amount,pI 0]) rfl rfl rfl rfl rfl bB AD (ar (eP (eO (eO (iw (aa h fun x10 hx10 h=>aB [] [34,35] [(36,.fn 93 [.ref [pL Za.enc p1] 0,.ref [pI 2] 0,.ref [pI v5] 0])] (bw 2 (gY hx10) bL) (by kernel_rfl) (eP (lB (aa h fun q13 hq13 h=>?_))))))))))))))))))
 refine lA (Y:=Unit) (y0:=()) (R:=fun _ v11=>[PRes.b b1 43 (bj p0),PRes.b b2 93 (aU p2),PRes.b b3 32 [pS ByteArray.empty,pS ByteArray.empty,pB false,pI 0,pI 0,pI 0,pI 0,pI 0],PRes.b b9 32 [pS p0.Code,pS p2.Country,pB v11,pI p2.Company,pI p2.Day,pI p0.Units,pI p2.Amount,pI 0]]) (R':=fun t=>[]) hq13 rfl (gn hx10) rfl (by kernel_rfl) (by kernel_rfl) (bq (aC aN) (bq (aC aN) (bq (aC aN) cq))) ?_ ?_ ?_
 ·rintro _ v11 x14 suf hs;obtain ⟨o,ho12,hk15⟩:=rC hs;clear hs;(try dsimp only at ho12);(try dsimp only [DFp])
  refine ae (rB (aR (cP 1 [(38,pP b9 2)] (by kernel_rfl) (aH rfl rfl (ag (vs:=[pB true]) rfl rfl rfl rfl rfl (bx (bx (bx bB))) (bf (bf cN)) (ar (aq ?_)))))))
  exact qD ho12 hk15 () wC
 ·rintro _ v11 D hr;subst hr;(try dsimp only at h);(try dsimp only)
  refine lC (eP (eO (eO (iw (aa h fun x16 hx16 h=>aB [] [39,40] [(41,.fn 93 [.ref [pL Za.enc p1] 0,.ref [pI 3] 0,.ref [pI v5] 0])] (bw 2 (gY hx16) bL) (by kernel_rfl) (eP (lB (aa h fun q19 hq19 h=>?_))))))))
  refine lA (Y:=Unit) (y0:=()) (R:=fun _ v17=>[PRes.b b1 43 (bj p0),PRes.b b2 93 (aU p2),PRes.b b3 32 [pS ByteArray.empty,pS ByteArray.empty,pB false,pI 0,pI 0,pI 0,pI 0,pI 0],PRes.b b9 32 [pS p0.Code,pS p2.Country,pB v11,pI p2.Company,pI p2.Day,pI p0.Units,pI v17,pI 0]]) (R':=fun t=>[]) hq19 rfl (gn hx16) rfl (by kernel_rfl) (by kernel_rfl) wC ?_ ?_ ?_
  ·rintro _ v17 x20 suf hs;obtain ⟨o,ho18,hk21⟩:=rC hs;clear hs;(try dsimp only at ho18);(try dsimp only [DFp])
   refine dj rfl (aY (cs:=[pI 0,pI 0,pI 0,pI 0,pS ByteArray.empty,pI 0,pI 0]) rfl rfl rfl rfl (fun b22=>aH rfl rfl (ag (vs:=(aU x20)) rfl rfl rfl rfl rfl bB Ez (ar (rB (aR (aj (cI 3 [0] [43] [(44,pI x20.Amount),(45,pP b9 6)] (by kernel_rfl) (aH rfl rfl (ag (vs:=[pI x20.Amount]) rfl rfl rfl rfl rfl (bx (bx (bx (bx bB)))) (bf (bf (bf (bf (bf (bf cN)))))) (ar (aq ?_))))))))))))
   exact qD ho18 hk21 () (bq (aC aN) (bq (aC aN) (bq (aC aN) (bq (aC aN) bZ))))
  ·rintro _ v17 D hr;subst hr;(try dsimp only at h);(try dsimp only)
   refine lC (eP (eO (eO (iw (aa h fun x23 hx23 h=>aB [] [46,47] [(48,.fn 93 [.ref [pL Za.enc p1] 0,.ref [pI 4] 0,.ref [pI v5] 0])] (bw 2 (gY hx23) bL) (by kernel_rfl) (eP (lB (aa h fun q26 hq26 h=>?_))))))))
   refine lA (Y:=Unit) (y0:=()) (R:=fun _ v24=>[PRes.b b1 43 (bj p0),PRes.b b2 93 (aU p2),PRes.b b3 32 [pS ByteArray.empty,pS ByteArray.empty,pB false,pI 0,pI 0,pI 0,pI 0,pI 0],PRes.b b9 32 [pS p0.Code,pS v24,pB v11,pI p2.Company,pI p2.Day,pI p0.Units,pI v17,pI 0]]) (R':=fun t=>[]) hq26 rfl (gn hx23) rfl (by kernel_rfl) (by kernel_rfl) wC ?_ ?_ ?_
   ·rintro _ v24 x27 suf hs;obtain ⟨o,ho25,hk28⟩:=rC hs;clear hs;(try dsimp only at ho25);(try dsimp only [DFp])
    refine dj rfl (aY (cs:=[pI 0,pI 0,pI 0,pI 0,pS ByteArray.empty,pI 0,pI 0]) rfl rfl rfl rfl (fun b29=>aH rfl rfl (ag (vs:=(aU x27)) rfl rfl rfl rfl rfl bB Ez (ar (rB (aR (aj (cI 3 [0] [50] [(51,pS x27.Country),(52,pP b9 1)] (by kernel_rfl) (aH rfl rfl (ag (vs:=[pS x27.Country]) rfl rfl rfl rfl rfl (bx (bx (bx (bx bB)))) (bf cN) (ar (aq ?_))))))))))))
    exact qD ho25 hk28 () (bq (aC aN) (bq (aC aN) (bq (aC aN) (bq (aC aN) bZ))))
   ·rintro _ v24 D hr;subst hr;(try dsimp only at h);(try dsimp only)
    refine lC (eP (eO (eO (iw (aa h fun x30 hx30 h=>aB [0] [53,54] [(55,.fn 93 [.ref [pL Za.enc p0.Facts] 0,.ref [pI 5] 0,.ref [pI 36524] 0])] (bw 2 (gY hx30) bL) (by kernel_rfl) (eP (lB (aa h fun q33 hq33 h=>?_))))))))
    refine lA (Y:=Unit) (y0:=()) (R:=fun _ v31=>[PRes.b b1 43 (bj p0),PRes.b b2 93 (aU p2),PRes.b b3 32 [pS ByteArray.empty,pS ByteArray.empty,pB false,pI 0,pI 0,pI 0,pI 0,pI 0],PRes.b b9 32 [pS p0.Code,pS v24,pB v11,pI p2.Company,pI p2.Day,pI p0.Units,pI v17,pI v31]]) (R':=fun t=>[]) hq33 rfl (gn hx30) rfl (by kernel_rfl) (by kernel_rfl) wC ?_ ?_ ?_
    ·rintro _ v31 x34 suf hs;obtain ⟨o,ho32,hk35⟩:=rC hs;clear hs;(try dsimp only at ho32);(try dsimp only [DFp])
     refine dj rfl (aY (cs:=[pI 0,pI 0,pI 0,pI 0,pS ByteArray.empty,pI 0,pI 0]) rfl rfl rfl rfl (fun b36=>aH rfl rfl (ag (vs:=(aU x34)) rfl rfl rfl rfl rfl bB Ez (ar (rB (aR (aj (cI 6 [1,0] [57,58,59,60] [(61,pI (ex p0.Units x34.Amount)),(62,pP b9 7)] (by kernel_rfl) (aH rfl rfl (ag (vs:=[pI (ex p0.Units x34.Amount)]) rfl rfl rfl rfl rfl (bx (bx (bx (bx bB)))) (bf (bf (bf (bf (bf (bf (bf cN))))))) (ar (aq ?_))))))))))))
     exact qD ho32 hk35 () (bq (aC aN) (bq (aC aN) (bq (aC aN) (bq (aC aN) bZ))))
    ·rintro _ v31 D hr;subst hr;(try dsimp only at h);(try dsimp only)
     refine lC (eP (iw (ah (aj (dY 1 [3] [(63,.agg [pS p0.Code,pS v24,pB v11,pI p2.Company,pI p2.Day,pI p0.Units,pI v17,pI v31])] (by kernel_rfl) (aH rfl rfl (ag (vs:=[pS p0.Code,pS v24,pB v11,pI p2.Company,pI p2.Day,pI p0.Units,pI v17,pI v31]) rfl rfl rfl rfl rfl (bx (bx bB)) AD (ar (dC ?_)))))))))
     (repeat (first | apply aO | apply au | apply bz | apply jh | apply jt | apply ia))
     obtain rfl:=osi h
     exact aI (fM (cg rfl kb rfl)) bZ ⟨rfl,rfl⟩
    rintro t;exact t.elim
   rintro t;exact t.elim
  rintro t;exact t.elim
 rintro t;exact t.elim
def fX (p0:Zk):Option (Zj×Bool):=(gj p0).bind fun x4=>cond (x4 != 0) (some ((⟨ByteArray.empty,ByteArray.empty,false,0,0,0,0,0⟩:Zj),false)) ((co p0.Facts).bind fun x6=>(cS x6 ).bind fun x7=>(fa x7 1 36524).bind fun x12=>(lR (S:=Unit) (T:=(Zj×Bool)) (fun _ x15=>(jS p0 x7 x15).bind fun x18=>some (.inr (x18,true))) () x12).bind fun q=>match q with | .inl _=>some ((⟨ByteArray.empty,ByteArray.empty,false,0,0,0,0,0⟩:Zj),false) | .inr e=>some e)
theorem mA {p0:Zk} {r:(Zj×Bool)}  (h:fX p0=some r):PF 19 [.agg (bj p0)] (.tup [.agg (ck r.1),pB r.2]):=by
 unfold fX at h
 refine bo ?_
 refine wV Tryz.func19 (zj Tryz.func19 rfl) rfl Tryz.ntmps19 Tryz.results19 rfl (eO (iw (dj rfl (bC (cs:=(bj p0)) rfl rfl (fun b1=>aF rfl (aY (cs:=[pS ByteArray.empty,pS ByteArray.empty,pB false,pI 0,pI 0,pI 0,pI 0,pI 0]) rfl rfl rfl rfl (fun b2=>aF rfl (aY (cs:=[pB false]) rfl rfl rfl rfl (fun b3=>ar (eP (eO (iw (ah (aa h fun x4 hx4 h=>aB [2] [6,7] [(8,pB (x4 != 0))] (bw 1 (lZ hx4) bL) (by kernel_rfl) (dW rfl h (fun hc5 h=>?_) fun hc5 h=>?_)))))))))))))))
 ·refine ah ?_
  refine cP 1 [(9,.agg [pS ByteArray.empty,pS ByteArray.empty,pB false,pI 0,pI 0,pI 0,pI 0,pI 0])] (by kernel_rfl) (aH rfl rfl (ag (vs:=[pS ByteArray.empty,pS ByteArray.empty,pB false,pI 0,pI 0,pI 0,pI 0,pI 0]) rfl rfl rfl rfl rfl (bx bB) AD (aH rfl rfl (ag (vs:=[pB false]) rfl rfl rfl rfl rfl bB cN (ar (dC ?_))))))
  (repeat (first | apply aO | apply au | apply bz | apply jh | apply jt | apply ia))
  obtain rfl:=osi h
  exact aI (bD (cg rfl fR rfl) (cg rfl dt rfl)) bZ ⟨rfl,rfl⟩
 refine ae ?_
 refine eP (eO (iw (aa h fun x6 hx6 h=>aa h fun x7 hx7 h=>aj (bp 3 [2] [10,11] [(12,.fn 92 [.ref [pL Za.enc p0.Facts] 0])] (bw 2 (gI hx6) bL) (by kernel_rfl) ?_))))
 refine aF rfl (bi rfl rfl (ρ1:=[]) (List.Perm.refl _) (jy (gx hx6) hx7) ?_);rintro _ _ ⟨a8,c9,rfl,rfl⟩
 refine aF rfl (aY (cs:=[pN]) rfl rfl rfl rfl (fun b11=>aH rfl rfl (ag (vs:=[pO a8 x7.length c9]) rfl rfl rfl rfl rfl bB cN (ar (eP (eO (eO (iw (aj (dY 1 [0] [(14,pO a8 x7.length c9)] (by kernel_rfl) ?_))))))))))
 refine jG (enc:=Za.enc) (xs:=x7) 14 rfl (by exact aC aN) ?_
 refine aa h fun x12 hx12 h=>bp 1 [] [] [(15,.fn 93 [.ref [pL Za.enc x7] 0,.ref [pI 1] 0,.ref [pI 36524] 0])] (bw 0 (gY hx12) bL) (by kernel_rfl) (ka (k:=0) (enc:=Za.enc) (xs:=x7) (b:=b11) (a:=a8) rfl dt (bx bB) (ar (eP (lB (aa h fun q14 hq14 h=>?_)))))
 refine lA (Y:=Unit) (y0:=()) (R:=fun _ _=>[PRes.b b1 43 (bj p0),PRes.b b11 41 [pL Za.enc x7],PRes.b b2 32 [pS ByteArray.empty,pS ByteArray.empty,pB false,pI 0,pI 0,pI 0,pI 0,pI 0],PRes.b b3 4 [pB false]]) (R':=fun t=>[PRes.b b2 32 (ck t.1),PRes.b b3 4 [pB t.2]]) hq14 rfl (gn hx12) rfl (by kernel_rfl) (by kernel_rfl) (bq (aC (aC (aC (aC aN)))) (bq (aC aN) (bq (aC (aC aN)) (bq (aC aN) bZ)))) ?_ ?_ ?_
 ·rintro _ _ x15 suf hs;obtain ⟨o,ho13,hk16⟩:=rC hs;clear hs;(try dsimp only at ho13);(try dsimp only [DFp])
  refine dj rfl (aY (cs:=[pI 0,pI 0,pI 0,pI 0,pS ByteArray.empty,pI 0,pI 0]) rfl rfl rfl rfl (fun b17=>aH rfl rfl (ag (vs:=(aU x15)) rfl rfl rfl rfl rfl bB Ez (ar (rB (jX (aa ho13 fun x18 hx18 ho13=>aj (bp 4 [1,2,0] [17,18,19] [(20,.agg (ck x18))] (bw 3 (sD hx18) bL) (by kernel_rfl) (aH rfl rfl (ag (vs:=(ck x18)) rfl rfl rfl rfl rfl (bx (bx (bx bB))) AD (aH rfl rfl (ag (vs:=[pB true]) rfl rfl rfl rfl rfl (bx (bx (bx (bx bB)))) cN (ar (dC ?_))))))))))))))
  (repeat (first | apply aO | apply au | apply bz | apply jh | apply jt | apply ia))
  exact pk_rngR ho13 hk16 (bq (aC (aC (aC aN))) (bq (aC (aC (aC aN))) bZ))
 ·rintro _ _ D hr;subst hr;(try dsimp only at h);(try dsimp only)
  refine lC (eP (iw (ah (cP 1 [(21,.agg [pS ByteArray.empty,pS ByteArray.empty,pB false,pI 0,pI 0,pI 0,pI 0,pI 0])] (by kernel_rfl) (aH rfl rfl (ag (vs:=[pS ByteArray.empty,pS ByteArray.empty,pB false,pI 0,pI 0,pI 0,pI 0,pI 0]) rfl rfl rfl rfl rfl (bx (bx bB)) AD (aH rfl rfl (ag (vs:=[pB false]) rfl rfl rfl rfl rfl (bx (bx (bx bB))) cN (ar (dC ?_))))))))))
  (repeat (first | apply aO | apply au | apply bz | apply jh | apply jt | apply ia))
  obtain rfl:=osi h
  exact aI (bD (cg rfl kb rfl) (cg rfl Ey rfl)) bZ ⟨rfl,rfl⟩
 rintro t D hr;subst hr;(try dsimp only at h);(try dsimp only)
 (repeat (first | apply aO | apply au | apply bz | apply jh | apply jt | apply ia))
 obtain rfl:=osi h
 exact aI (bD (cg rfl dt rfl) (cg rfl fR rfl)) bZ ⟨rfl,rfl⟩
def kT (p0:Zk) (p1:Za):Option (Zk×Int):=(gj p0).bind fun x4=>cond (x4 != 0) (some ((⟨0,ByteArray.empty,0,[]⟩:Zk),x4)) ((fH p1).bind fun x6=>cond (!x6) (some ((⟨0,ByteArray.empty,0,[]⟩:Zk),(2:Int))) ((bT p0.Facts p1 (fun y8 y9=>fp y8 y9)).bind fun x10=>(gd x10.2 (idx p0.Facts x10.1)).bind fun m11=>cond (x10.2&&(!(Za.eqb m11 p1))) (some ((⟨0,ByteArray.empty,0,[]⟩:Zk),(14:Int))) (cond ((!x10.2)&&(decide (200≤(p0.Facts.length:Int)))) (some ((⟨0,ByteArray.empty,0,[]⟩:Zk),(8:Int))) ((du p0.Facts).bind fun x14=>Option.bind (cond (!x10.2) ((cL x14 x10.1 [p1]).bind fun x26=>some x26) (some x14)) (fun l21=>some ((⟨p0.Source,p0.Code,p0.Units,l21⟩:Zk),(0:Int)))))))
theorem lU {p0:Zk} {p1:Za} {r:(Zk×Int)}  (h:kT p0 p1=some r):PF 45 [.agg (bj p0),.agg (aU p1)] (.tup [.agg (bj r.1),pI r.2]):=by
 unfold kT at h
 refine bo ?_
 refine dZ Tryz.func45 rfl Tryz.ntmps45 Tryz.results45 rfl (dj rfl (bC (cs:=(bj p0)) rfl rfl (fun b1=>aF rfl (bC (cs:=(aU p1)) rfl rfl (fun b2=>aF rfl (aY (cs:=[pI 0,pS ByteArray.empty,pI 0,pN]) rfl rfl rfl rfl (fun b3=>br [5] (by kernel_rfl) (cQ (aa h fun x4 hx4 h=>aB [2] [9,10] [(6,pI x4)] (bw 1 (lZ hx4) bL) (by kernel_rfl) (cw (bU [11] [(12,pB (x4 != 0))] (by kernel_rfl) rfl h (fun hc5 h=>?_) fun hc5 h=>?_)))))))))))
 ·refine ah ?_
  refine cP 2 [(13,.agg [pI 0,pS ByteArray.empty,pI 0,pN]),(14,pI x4)] (by kernel_rfl) (aH rfl rfl (ag (vs:=[pI 0,pS ByteArray.empty,pI 0,pN]) rfl rfl rfl rfl rfl bB rW (aL [(5,pI x4)] (by kernel_rfl) (aW (di (k:=3) (b:=b3) rfl bB (cd (aO ?_)))))))
  obtain rfl:=osi h
  exact aI (bD (cg rfl dt rfl) (aD rfl)) bZ ⟨rfl,rfl⟩
 refine ae ?_
 refine cQ (aa h fun x6 hx6 h=>aB [1] [15,16] [(17,pB (!x6))] (bw 1 (lO hx6) bL) (by kernel_rfl) (dW rfl h (fun hc7 h=>?_) fun hc7 h=>?_))
 ·refine ah ?_
  refine cP 1 [(18,.agg [pI 0,pS ByteArray.empty,pI 0,pN])] (by kernel_rfl) (aH rfl rfl (ag (vs:=[pI 0,pS ByteArray.empty,pI 0,pN]) rfl rfl rfl rfl rfl bB rW (aL [(5,pI 2)] (by kernel_rfl) (aW (di (k:=3) (b:=b3) rfl bB (cd (aO ?_)))))))
  obtain rfl:=osi h
  exact aI (bD (cg rfl dt rfl) (aD rfl)) bZ ⟨rfl,rfl⟩
 refine ae ?_
 refine dV h fun x10 hx10 h=>aB [2,1] [20,21,22,23,19,24,25] [(7,pI x10.1),(8,pB x10.2)] (bw 3 (dQ (fun hr=>nj (jK hr)) hx10) bL) (by kernel_rfl) (cQ (bN (ρd:=[]) [(0,0),(1,0),(2,0),(3,0),(4,0),(5,0),(6,0),(7,0),(8,0),(9,0)] _ (List.Perm.refl _) (by kernel_rfl) rfl (aa h fun m11 hm11 h=>cr 10 [2,1] (rg 26 9) [(35,pB (x10.2&&(!(Za.eqb m11 p1))))] (jW 5 Za.enc (cY hm11) (De 8 Za.eqok93 bL)) (by kernel_rfl) (cC (dW rfl h (fun hc12 h=>?_) fun hc12 h=>?_)))))
 ·refine ah ?_
  refine cP 1 [(36,.agg [pI 0,pS ByteArray.empty,pI 0,pN])] (by kernel_rfl) (aH rfl rfl (ag (vs:=[pI 0,pS ByteArray.empty,pI 0,pN]) rfl rfl rfl rfl rfl bB rW (aL [(5,pI 14)] (by kernel_rfl) (aW (di (k:=3) (b:=b3) rfl bB (cd (aO ?_)))))))
  obtain rfl:=osi h
  exact aI (bD (cg rfl dt rfl) (aD rfl)) bZ ⟨rfl,rfl⟩
 refine ae ?_
 refine cQ (aV [2] (rg 37 7) [(44,pB ((!x10.2)&&(decide (200≤(p0.Facts.length:Int)))))] (by kernel_rfl) (dW rfl h (fun hc13 h=>?_) fun hc13 h=>?_))
 ·refine ah ?_
  refine cP 1 [(45,.agg [pI 0,pS ByteArray.empty,pI 0,pN])] (by kernel_rfl) (aH rfl rfl (ag (vs:=[pI 0,pS ByteArray.empty,pI 0,pN]) rfl rfl rfl rfl rfl bB rW (aL [(5,pI 8)] (by kernel_rfl) (aW (di (k:=3) (b:=b3) rfl bB (cd (aO ?_)))))))
  obtain rfl:=osi h
  exact aI (bD (cg rfl dt rfl) (aD rfl)) bZ ⟨rfl,rfl⟩
 refine ae ?_
 refine dV h fun x14 hx14 h=>aj (cI 2 [2] [46] [(47,pL Za.enc p0.Facts)] (by kernel_rfl) ?_)
 refine aF rfl (bi rfl rfl (ρ1:=[]) (List.Perm.refl _) (gQ hx14) ?_);rintro _ _ ⟨a15,c16,rfl,rfl⟩
 refine bE 1 [(49,pP b1 3)] (by kernel_rfl) (aH rfl rfl (ag (vs:=[pO a15 x14.length c16]) rfl rfl rfl rfl rfl (bx (bx (bx bB))) (bf (bf (bf cN))) (ar (cQ (an [50] [(51,pB (!x10.2))] (by kernel_rfl) (ga h fun q22 hq22 h=>?_))))))
 refine av (Y:=(Option Addr×Nat)×((List Za))) (fun ((a19,c20),l21)=>[(2,pP b1 0),(4,pP b3 0)]) (fun ((a19,c20),l21)=>[PRes.b b1 43 [pI p0.Source,pS p0.Code,pI p0.Units,pO a19 l21.length c20],PRes.b b3 43 [pI 0,pS ByteArray.empty,pI 0,pN],PRes.row a19 l21.length c20 93 7 (List.map Za.enc l21)]) (fun ((a19,c20),l21)=>q22=l21) ?_ ?_
 ·skip
  refine kU rfl hq22 (fun hc23 hq22=>?_) fun hc23 hq22=>?_
  ·refine aj ?_
   refine cI 4 [3,2] [52] [(53,pO a15 x14.length c16),(54,pI x10.1),(55,.agg (aU p1))] (by kernel_rfl) (aF rfl (bg rfl rfl rfl rfl rfl (dI rfl eY) rfl rfl rfl rfl (fun b24=>aa hq22 fun x26 hx26 hq22=>?_)))
   refine aF rfl (bi rfl rfl (ρ1:=[_,_]) (aX (by exact aC aN) (aX (by exact aN) (List.Perm.refl _))) (gJ hx26) ?_);rintro _ _ ⟨a27,c28,rfl,rfl⟩
   refine bE 1 [(58,pP b1 3)] (by kernel_rfl) (aH rfl rfl (ag (vs:=[pO a27 x26.length c28]) rfl rfl rfl rfl rfl (bx (bx (bx bB))) (bf (bf (bf cN))) (ar ?_)))
   obtain rfl:=osi hq22
   exact am ((a27,c28),x26) (eN rfl) (bq (aC (aC (aC aN))) (bq (aC aN) cq)) rfl
  refine ae ?_
  obtain rfl:=osi hq22
  exact am ((a15,c16),x14) (eN rfl) (bq (aC (aC (aC aN))) (bq (aC aN) cq)) rfl
 rintro ⟨⟨a19,c20⟩,l21⟩ τ hz;(try dsimp only at hz);subst q22;(try dsimp only at h);dsimp only [aK]
 refine ah (aj ?_)
 refine nk (css:=List.map Za.enc l21) (a:=a19) (by exact aC (aC aN)) ?_
 refine ka (k:=3) (enc:=Za.enc) (xs:=l21) (b:=b1) (a:=a19) rfl dt (bx bB) (dY 1 [1] [(59,.agg [pI p0.Source,pS p0.Code,pI p0.Units,pL Za.enc l21])] (by kernel_rfl) (aH rfl rfl (ag (vs:=[pI p0.Source,pS p0.Code,pI p0.Units,pL Za.enc l21]) rfl rfl rfl rfl rfl (bx (bx bB)) rW (aL [(5,pI 0)] (by kernel_rfl) (dC ?_)))))
 obtain rfl:=osi h
 exact aI (bD (cg rfl kb rfl) (aD rfl)) bZ ⟨rfl,rfl⟩
def ju  : Option Bool:=(rp 7 (⟨#[49,48,48,48,48,48,48,48]⟩:ByteArray) 10).bind fun x1=>(kT x1.1 (⟨100,2,900,3,ByteArray.empty,80,0⟩:Za)).bind fun x3=>(kT x3.1 (⟨100,1,5,1,(⟨#[65,65]⟩:ByteArray),100,0⟩:Za)).bind fun x4=>(kT x4.1 (⟨100,3,1300,3,ByteArray.empty,70,0⟩:Za)).bind fun x5=>(fX x5.1).bind fun x6=>some ((((((x1.2 == 0)&&(x3.2 == 0))&&(x4.2 == 0))&&(x5.2 == 0))&&x6.2)&&(Zj.eqb x6.1 (⟨(⟨#[49,48,48,48,48,48,48,48]⟩:ByteArray),(⟨#[65,65]⟩:ByteArray),false,0,5,10,80,0⟩:Zj)))
theorem og  {r:Bool}  (h:ju  = some r):PF 17 [] (pB r):=by
 unfold ju at h
 refine bo ?_
 refine dZ Tryz.func17 rfl Tryz.ntmps17 Tryz.results17 rfl (bh [0] (by kernel_rfl) (dV h fun x1 hx1 h=>aj (bp 4 [] [9,8] [(10,.agg (bj x1.1)),(11,pI x1.2)] (bw 0 (wP hx1) bL) (by kernel_rfl) (aF rfl (aY (cs:=[pI 0,pS ByteArray.empty,pI 0,pN]) rfl rfl rfl rfl (fun b2=>aH rfl rfl (ag (vs:=(bj x1.1)) rfl rfl rfl rfl rfl bB rW (aL [(2,pI x1.2)] (by kernel_rfl) (dV h fun x3 hx3 h=>aj (bp 6 [0] [13,14,15,12] [(16,.agg (bj x3.1)),(17,pI x3.2)] (bw 2 (lU hx3) bL) (by kernel_rfl) (aH rfl rfl (ag (vs:=(bj x3.1)) rfl rfl rfl rfl rfl bB rW (aL [(3,pI x3.2)] (by kernel_rfl) (dV h fun x4 hx4 h=>aj (bp 6 [0] [19,20,21,18] [(22,.agg (bj x4.1)),(23,pI x4.2)] (bw 2 (lU hx4) bL) (by kernel_rfl) (aH rfl rfl (ag (vs:=(bj x4.1)) rfl rfl rfl rfl rfl bB rW (aL [(4,pI x4.2)] (by kernel_rfl) (dV h fun x5 hx5 h=>aj (bp 6 [0] [25,26,27,24] [(28,.agg (bj x5.1)),(29,pI x5.2)] (bw 2 (lU hx5) bL) (by kernel_rfl) (aH rfl rfl (ag (vs:=(bj x5.1)) rfl rfl rfl rfl rfl bB rW (aL [(5,pI x5.2)] (by kernel_rfl) (dV h fun x6 hx6 h=>aj (bp 5 [0] [31,32,30] [(33,.agg (ck x6.1)),(34,pB x6.2)] (bw 1 (mA hx6) bL) (by kernel_rfl) (aF rfl (aY (cs:=[pS ByteArray.empty,pS ByteArray.empty,pB false,pI 0,pI 0,pI 0,pI 0,pI 0]) rfl rfl rfl rfl (fun b7=>aH rfl rfl (ag (vs:=(ck x6.1)) rfl rfl rfl rfl rfl bB AD (aL [(7,pB x6.2)] (by kernel_rfl) ?_))))))))))))))))))))))))))))))
 refine cw (aB [0] (rg 35 22) [(0,pB ((((((x1.2 == 0)&&(x3.2 == 0))&&(x4.2 == 0))&&(x5.2 == 0))&&x6.2)&&(Zj.eqb x6.1 (⟨(⟨#[49,48,48,48,48,48,48,48]⟩:ByteArray),(⟨#[65,65]⟩:ByteArray),false,0,5,10,80,0⟩:Zj))))] (De 20 Zj.eqok32 bL) (by kernel_rfl) (dC ?_))
 exact zz r h rfl
def gp (p0:(List Zb)):Option Int:=cond (decide (300<(p0.length:Int))) (some (8:Int)) ((bu (S:=Int) (T:=(Unit)⊕(_)) (fun v2=>cond (decide (v2<(p0.length:Int))) ((idx p0 v2).bind fun m6=>cond ((((((decide (m6.ID<1))||(decide (1000000<m6.ID)))||(decide (m6.Kind<1)))||(decide (6<m6.Kind)))||(decide (m6.Company<0)))||(decide (999<m6.Company))) (some (.inr (.inr (2:Int)))) ((gd (decide (0<v2)) (idx p0 (IntKind.i64.wrap (v2 - 1)))).bind fun m9=>cond ((decide (0<v2))&&(decide (m6.ID≤m9.ID))) (some (.inr (.inr (9:Int)))) ((dP m6.Prefix).bind fun x11=>cond (x11 == 0) (some (.inr (.inr (1:Int)))) (cond (decide (20<(m6.Origins.length:Int))) (some (.inr (.inr (8:Int)))) ((dw m6.Origins).bind fun x14=>cond (!x14) (some (.inr (.inr (1:Int)))) (cond (((((decide (m6.From<0))||(decide (m6.To≤m6.From)))||(decide (36525<m6.To)))||(decide (m6.Registered<(-1))))||(decide (m6.From<m6.Registered))) (some (.inr (.inr (2:Int)))) ((cT m6.Duty).bind fun x17=>cond (x17 != 0) (some (.inr (.inr x17))) (some (.inl (IntKind.i64.wrap (v2+1))))))))))) (some (.inr (.inl ())))) FUEL 0).bind fun q=>match q with | .inl _=>some (0:Int) | .inr e=>some e)
theorem oU {p0:(List Zb)} {r:Int}  (h:gp p0=some r):PF 75 [pL Zb.enc p0] (pI r):=by
 unfold gp at h
 refine bo ?_
 refine dZ Tryz.func75 rfl Tryz.ntmps75 Tryz.results75 rfl (bh [2] (by kernel_rfl) (cQ (bU [6,7] [(8,pB (decide (300<(p0.length:Int))))] (by kernel_rfl) rfl h (fun hc1 h=>?_) fun hc1 h=>?_)))
 ·refine ah ?_
  refine dq [(2,pI 8)] (by kernel_rfl) ?_
  exact zz r h rfl
 refine ae ?_
 refine cQ (ap [(9,pL Zb.enc p0),(10,pI (p0.length:Int)),(11,pI 0)] (by kernel_rfl) (ga h fun q4 hq4 h=>?_))
 refine av (Y:=Unit×Unit) (fun (_,_)=>[]) (fun (_,_)=>[]) (fun (_,_)=>q4=Sum.inl ()) ?_ ?_
 ·refine aR ?_
  refine aZ (Y:=Unit) (S:=Int) _ hq4 (fun _ v2=>[(0,pL Zb.enc p0),(9,pL Zb.enc p0),(10,pI (p0.length:Int)),(11,pI v2)]) (fun _ v2=>[]) () (iP rfl) bZ ?_
  rintro _ v2 o τ hb3;(try dsimp only at hb3);dsimp only [aK]
  refine ah (ap [(12,pB (decide (v2<(p0.length:Int))))] (by kernel_rfl) (cw (kU rfl hb3 (fun hc5 hb3=>?_) fun hc5 hb3=>?_)))
  ·refine ae ?_
   refine cw (jX (aa hb3 fun m6 hm6 hb3=>aj (bp 3 [] [14] [(13,pI v2),(15,.agg (bk m6))] (fC 1 Zb.enc hm6 bL) (by kernel_rfl) (aF rfl (aY (cs:=[pI 0,pI 0,pS ByteArray.empty,pN,pI 0,pI 0,pI 0,pI 0,pI 0,pI 0,pI 0,pB false,pI 0,pB false,pI 0]) rfl rfl rfl rfl (fun b7=>bE 1 [(3,pI v2)] (by kernel_rfl) (aH rfl rfl (ag (vs:=(bk m6)) rfl rfl rfl rfl rfl bB (eH (eH (eH (eH (eH (eH C6)))))) (ar (cQ (aV [0,0,0,0,0,0] (rg 16 27) [(43,pB ((((((decide (m6.ID<1))||(decide (1000000<m6.ID)))||(decide (m6.Kind<1)))||(decide (6<m6.Kind)))||(decide (m6.Company<0)))||(decide (999<m6.Company))))] (by kernel_rfl) (dW rfl hb3 (fun hc8 hb3=>?_) fun hc8 hb3=>?_))))))))))))
   ·refine ah ?_
    refine dq [(2,pI 2)] (by kernel_rfl) (au (aO ?_))
    refine bH hb3 (fun ht=>?_);subst ht
    refine au (bz ?_)
    exact zz r h rfl
   refine ae ?_
   refine cQ (bN (ρd:=[]) [(0,0),(1,0),(2,0),(3,0),(4,0),(5,0),(6,0),(7,0),(8,0),(9,0),(10,0),(11,0),(12,0)] _ (List.Perm.refl _) (by kernel_rfl) rfl (aa hb3 fun m9 hm9 hb3=>cr 13 [0] (rg 44 12) [(56,pB ((decide (0<v2))&&(decide (m6.ID≤m9.ID))))] (jW 8 Zb.enc (cY hm9) bL) (by kernel_rfl) (cC (dW rfl hb3 (fun hc10 hb3=>?_) fun hc10 hb3=>?_))))
   ·refine ah ?_
    refine dq [(2,pI 9)] (by kernel_rfl) (au (aO ?_))
    refine bH hb3 (fun ht=>?_);subst ht
    refine au (bz ?_)
    exact zz r h rfl
   refine ae ?_
   refine cQ (aa hb3 fun x11 hx11 hb3=>aB [0] [57,58,59] [(60,pB (x11 == 0))] (bw 2 (jZ hx11) bL) (by kernel_rfl) (dW rfl hb3 (fun hc12 hb3=>?_) fun hc12 hb3=>?_))
   ·refine ah ?_
    refine dq [(2,pI 1)] (by kernel_rfl) (au (aO ?_))
    refine bH hb3 (fun ht=>?_);subst ht
    refine au (bz ?_)
    exact zz r h rfl
   refine ae ?_
   refine cQ (aV [0] [61,62,63] [(64,pB (decide (20<(m6.Origins.length:Int))))] (by kernel_rfl) (dW rfl hb3 (fun hc13 hb3=>?_) fun hc13 hb3=>?_))
   ·refine ah ?_
    refine dq [(2,pI 8)] (by kernel_rfl) (au (aO ?_))
    refine bH hb3 (fun ht=>?_);subst ht
    refine au (bz ?_)
    exact zz r h rfl
   refine ae ?_
   refine cQ (aa hb3 fun x14 hx14 hb3=>aB [0] [65,66,67] [(68,pB (!x14))] (bw 2 (mS hx14) bL) (by kernel_rfl) (dW rfl hb3 (fun hc15 hb3=>?_) fun hc15 hb3=>?_))
   ·refine ah ?_
    refine dq [(2,pI 1)] (by kernel_rfl) (au (aO ?_))
    refine bH hb3 (fun ht=>?_);subst ht
    refine au (bz ?_)
    exact zz r h rfl
   refine ae ?_
   refine cQ (aV [0,0,0,0,0,0,0] (rg 69 26) [(95,pB (((((decide (m6.From<0))||(decide (m6.To≤m6.From)))||(decide (36525<m6.To)))||(decide (m6.Registered<(-1))))||(decide (m6.From<m6.Registered))))] (by kernel_rfl) (dW rfl hb3 (fun hc16 hb3=>?_) fun hc16 hb3=>?_))
   ·refine ah ?_
    refine dq [(2,pI 2)] (by kernel_rfl) (au (aO ?_))
    refine bH hb3 (fun ht=>?_);subst ht
    refine au (bz ?_)
    exact zz r h rfl
   refine ae ?_
   refine dV hb3 fun x17 hx17 hb3=>aB [0] [96,97,98] [(5,pI x17)] (bw 2 (mT hx17) bL) (by kernel_rfl) (cw (bU [99] [(100,pB (x17 != 0))] (by kernel_rfl) rfl hb3 (fun hc18 hb3=>?_) fun hc18 hb3=>?_))
   ·refine ah ?_
    refine an [101] [(2,pI x17)] (by kernel_rfl) (dC (au (aO ?_)))
    refine bH hb3 (fun ht=>?_);subst ht
    refine au (bz ?_)
    exact zz r h rfl
   refine ae ?_
   refine aq (aW (an [102] [(11,pI (IntKind.i64.wrap (v2+1)))] (by kernel_rfl) ?_))
   exact bt hb3 () (iP rfl) bZ
  refine bc ?_
  refine aP (aJ hb3 (fun ht=>aM rfl ?_))
  exact am ((),()) sL bZ ht.symm
 rintro ⟨_,_⟩ τ hz;(try dsimp only at hz);subst q4;(try dsimp only at h);dsimp only [aK]
 refine ah (ap [(2,pI 0)] (by kernel_rfl) (dC ?_))
 exact zz r h rfl
def cZ (p0:Zj):Option Int:=(dP p0.Code).bind fun x2=>(gd (!(x2 != 8)) (cR p0.Origin)).bind fun x3=>cond ((x2 != 8)||(!x3)) (some (1:Int)) (cond ((((((((((decide (p0.Company<0))||(decide (999<p0.Company)))||(decide (p0.Day<0)))||(decide (36524<p0.Day)))||(decide (p0.Quantity<0)))||(decide (1000000000<p0.Quantity)))||(decide (p0.Value<0)))||(decide (1000000000000<p0.Value)))||(decide (p0.Granted<0)))||(decide (p0.Quantity<p0.Granted))) (some (2:Int)) (some (0:Int)))
theorem pJ {p0:Zj} {r:Int}  (h:cZ p0=some r):PF 76 [.agg (ck p0)] (pI r):=by
 unfold cZ at h
 refine bo ?_
 refine dZ Tryz.func76 rfl Tryz.ntmps76 Tryz.results76 rfl (dj rfl (bC (cs:=(ck p0)) rfl rfl (fun b1=>br [2] (by kernel_rfl) (cQ (aa h fun x2 hx2 h=>aa h fun x3 hx3 h=>aB [0,0] (rg 3 9) [(12,pB ((x2 != 8)||(!x3)))] (bw 2 (jZ hx2) (eU 7 (fun hc=>ir (cY hx3 hc)) bL)) (by kernel_rfl) (dW rfl h (fun hc4 h=>?_) fun hc4 h=>?_))))))
 ·refine ah ?_
  refine dq [(2,pI 1)] (by kernel_rfl) ?_
  exact zz r h rfl
 refine ae ?_
 refine cQ (aV [0,0,0,0,0,0,0,0,0,0,0] (rg 13 49) [(62,pB ((((((((((decide (p0.Company<0))||(decide (999<p0.Company)))||(decide (p0.Day<0)))||(decide (36524<p0.Day)))||(decide (p0.Quantity<0)))||(decide (1000000000<p0.Quantity)))||(decide (p0.Value<0)))||(decide (1000000000000<p0.Value)))||(decide (p0.Granted<0)))||(decide (p0.Quantity<p0.Granted))))] (by kernel_rfl) (dW rfl h (fun hc5 h=>?_) fun hc5 h=>?_))
 ·refine ah ?_
  refine dq [(2,pI 2)] (by kernel_rfl) ?_
  exact zz r h rfl
 refine ae ?_
 refine cw (ap [(2,pI 0)] (by kernel_rfl) (dC ?_))
 exact zz r h rfl
def i9 (p0:(List Zb)) (p1:Zj):Option (Zq×Int):=(gp p0).bind fun x3=>cond (x3 != 0) (some ((⟨[],0⟩:Zq),x3)) ((cZ p1).bind fun x5=>cond (x5 != 0) (some ((⟨[],0⟩:Zq),x5)) ((ft p0 p1.Code p1.Origin p1.Company p1.Day).bind fun x7=>(bP x7 (fun y8=>gT y8)).bind fun x9=>cond (!x9) (some ((⟨[],0⟩:Zq),(7:Int))) ((iu p1).bind fun x11=>cond (x11.2 != 0) (some ((⟨[],0⟩:Zq),x11.2)) ((bu (S:=Int×(List Zd)×Int) (T:=((List Zd)×Int)⊕(_)) (fun (v14,l16,v19)=>cond (decide (v14<(x11.1.length:Int))) (Option.bind (α:=((List Zd)×Int)⊕_) ((idx x11.1 v14).bind fun m35=>(ff x7 m35).bind fun x37=>cond (x37.2.2 != 0) (some (.inr (.inr (.inr ((⟨[],0⟩:Zq),x37.2.2))))) (cond x37.2.1 ((app 40 l16 [x37.1]).bind fun l43=>some (.inl (l43,(IntKind.i64.wrap (v19+x37.1.Amount))))) (some (.inl (l16,v19))))) (fun q=>match q with | .inl (l32,v33)=>some (.inl ((IntKind.i64.wrap (v14+1)),l32,v33)) | .inr e=>some e)) (some (.inr (.inl (l16,v19))))) FUEL (0,([]:List Zd),0)).bind fun q=>match q with | .inl (l23,v24)=>cond (decide (1000000000000<v24)) (some ((⟨[],0⟩:Zq),(3:Int))) (some ((⟨l23,v24⟩:Zq),(0:Int))) | .inr e=>some e))))
theorem rG {p0:(List Zb)} {p1:Zj} {r:(Zq×Int)}  (h:i9 p0 p1=some r):PF 42 [pL Zb.enc p0,.agg (ck p1)] (.tup [.agg [pL Zd.enc r.1.Lines,pI r.1.Total],pI r.2]):=by
 unfold i9 at h
 refine bo ?_
 refine dZ Tryz.func42 rfl Tryz.ntmps42 Tryz.results42 rfl (dj rfl (bC (cs:=(ck p1)) rfl rfl (fun b1=>aF rfl (aY (cs:=[pN,pI 0]) rfl rfl rfl rfl (fun b2=>br [5] (by kernel_rfl) (cQ (aa h fun x3 hx3 h=>aB [] [17,18] [(6,pI x3)] (bw 1 (oU hx3) bL) (by kernel_rfl) (cw (bU [19] [(20,pB (x3 != 0))] (by kernel_rfl) rfl h (fun hc4 h=>?_) fun hc4 h=>?_)))))))))
 ·refine ah ?_
  refine cP 2 [(21,.agg [pN,pI 0]),(22,pI x3)] (by kernel_rfl) (aH rfl rfl (ag (vs:=[pN,pI 0]) rfl rfl rfl rfl rfl bB nC (aL [(5,pI x3)] (by kernel_rfl) (aW (di (k:=0) (b:=b2) rfl bB (cd (aO ?_)))))))
  obtain rfl:=osi h
  exact aI (bD (cg rfl dt rfl) (aD rfl)) bZ ⟨rfl,rfl⟩
 refine ae ?_
 refine cQ (aa h fun x5 hx5 h=>aB [1] [23,24] [(7,pI x5)] (bw 1 (pJ hx5) bL) (by kernel_rfl) (cw (bU [25] [(26,pB (x5 != 0))] (by kernel_rfl) rfl h (fun hc6 h=>?_) fun hc6 h=>?_)))
 ·refine ah ?_
  refine cP 2 [(27,.agg [pN,pI 0]),(28,pI x5)] (by kernel_rfl) (aH rfl rfl (ag (vs:=[pN,pI 0]) rfl rfl rfl rfl rfl bB nC (aL [(5,pI x5)] (by kernel_rfl) (aW (di (k:=0) (b:=b2) rfl bB (cd (aO ?_)))))))
  obtain rfl:=osi h
  exact aI (bD (cg rfl dt rfl) (aD rfl)) bZ ⟨rfl,rfl⟩
 refine ae ?_
 refine dV h fun x7 hx7 h=>aB [1,1,1,1] (rg 29 10) [(8,pL Zb.enc x7)] (bw 9 (nK hx7) bL) (by kernel_rfl) (cQ (aa h fun x9 hx9 h=>aB [] [39,40] [(41,pB (!x9))] (bw 1 (fV (fun hr=>nj (pA hr)) hx9) bL) (by kernel_rfl) (dW rfl h (fun hc10 h=>?_) fun hc10 h=>?_)))
 ·refine ah ?_
  refine cP 1 [(42,.agg [pN,pI 0])] (by kernel_rfl) (aH rfl rfl (ag (vs:=[pN,pI 0]) rfl rfl rfl rfl rfl bB nC (aL [(5,pI 7)] (by kernel_rfl) (aW (di (k:=0) (b:=b2) rfl bB (cd (aO ?_)))))))
  obtain rfl:=osi h
  exact aI (bD (cg rfl dt rfl) (aD rfl)) bZ ⟨rfl,rfl⟩
 refine ae ?_
 refine dV h fun x11 hx11 h=>aB [1] [44,45,43,46,47] [(9,pL Zg.enc x11.1),(10,pI x11.2)] (bw 1 (qy hx11) bL) (by kernel_rfl) (cQ (bU [48] [(49,pB (x11.2 != 0))] (by kernel_rfl) rfl h (fun hc12 h=>?_) fun hc12 h=>?_))
 ·refine ah ?_
  refine cP 2 [(50,.agg [pN,pI 0]),(51,pI x11.2)] (by kernel_rfl) (aH rfl rfl (ag (vs:=[pN,pI 0]) rfl rfl rfl rfl rfl bB nC (aL [(5,pI x11.2)] (by kernel_rfl) (aW (di (k:=0) (b:=b2) rfl bB (cd (aO ?_)))))))
  obtain rfl:=osi h
  exact aI (bD (cg rfl dt rfl) (aD rfl)) bZ ⟨rfl,rfl⟩
 refine ae ?_
 refine cw (dj rfl (aY (cs:=[pN,pI 0]) rfl rfl rfl rfl (fun b13=>ar (cQ (ap [(52,pL Zg.enc x11.1),(53,pI (x11.1.length:Int)),(54,pI 0)] (by kernel_rfl) (aW (fj 37 5 (aa h fun q26 hq26 h=>?_))))))))
 refine av (Y:=(Option Addr×Nat)×((List Zd)×Int)) (fun ((a21,c22),(l23,v24))=>[(4,pP b2 0),(11,pP b13 0)]) (fun ((a21,c22),(l23,v24))=>[PRes.b b13 25 [pO a21 l23.length c22,pI v24],PRes.b b2 25 [pN,pI 0],PRes.row a21 l23.length c22 37 5 (List.map Zd.enc l23)]) (fun ((a21,c22),(l23,v24))=>q26=Sum.inl (l23,v24)) ?_ ?_
 ·refine aR ?_
  refine aZ (Y:=Option Addr×Nat) (S:=Int×(List Zd)×Int) _ hq26 (fun (a17,c18) (v14,l16,v19)=>[(4,pP b2 0),(8,pL Zb.enc x7),(11,pP b13 0),(52,pL Zg.enc x11.1),(53,pI (x11.1.length:Int)),(54,pI v14)]) (fun (a17,c18) (v14,l16,v19)=>[PRes.b b13 25 [pO a17 l16.length c18,pI v19],PRes.b b2 25 [pN,pI 0],PRes.row a17 l16.length c18 37 5 (List.map Zd.enc l16)]) (none,0) (tL rfl) (bq (aC aN) (bq (aC aN) cq)) ?_
  rintro ⟨a17,c18⟩ ⟨v14,l16,v19⟩ o τ hb25;(try dsimp only at hb25);dsimp only [aK]
  refine ah (ap [(55,pB (decide (v14<(x11.1.length:Int))))] (by kernel_rfl) (cw (kU rfl hb25 (fun hc28 hb25=>?_) fun hc28 hb25=>?_)))
  ·refine ae ?_
   refine dV hb25 fun q34 hq34 hb25=>?_
   refine av (Y:=(Option Addr×Nat)×((List Zd)×Int)) (fun ((a30,c31),(l32,v33))=>[(4,pP b2 0),(8,pL Zb.enc x7),(11,pP b13 0),(52,pL Zg.enc x11.1),(53,pI (x11.1.length:Int)),(54,pI v14)]) (fun ((a30,c31),(l32,v33))=>[PRes.b b13 25 [pO a30 l32.length c31,pI v33],PRes.b b2 25 [pN,pI 0],PRes.row a30 l32.length c31 37 5 (List.map Zd.enc l32)]) (fun ((a30,c31),(l32,v33))=>q34=Sum.inl (l32,v33)) ?_ ?_
   ·skip
    refine jX (aa hq34 fun m35 hm35 hq34=>aj (bp 2 [] [56] [(57,.agg [pI m35.quantity,pI m35.value,pL eI m35.kinds])] (fC 0 Zg.enc hm35 bL) (by kernel_rfl) (aF rfl (aY (cs:=[pI 0,pI 0,pN]) rfl rfl rfl rfl (fun b36=>aH rfl rfl (ag (vs:=[pI m35.quantity,pI m35.value,pL eI m35.kinds]) rfl rfl rfl rfl rfl bB AC (ar (dV hq34 fun x37 hx37 hq34=>aj (bp 7 [0] [59,60,61,58] [(62,.agg [pI x37.1.Kind,pI x37.1.Measure,pI x37.1.Quantity,pI x37.1.Value,pI x37.1.Amount]),(63,pB x37.2.1),(64,pI x37.2.2)] (bw 2 (oT hx37) bL) (by kernel_rfl) (aF rfl (aY (cs:=[pI 0,pI 0,pI 0,pI 0,pI 0]) rfl rfl rfl rfl (fun b38=>aH rfl rfl (ag (vs:=[pI x37.1.Kind,pI x37.1.Measure,pI x37.1.Quantity,pI x37.1.Value,pI x37.1.Amount]) rfl rfl rfl rfl rfl bB zl5 (aL [(15,pB x37.2.1),(16,pI x37.2.2)] (by kernel_rfl) (cQ (bU [65] [(66,pB (x37.2.2 != 0))] (by kernel_rfl) rfl hq34 (fun hc39 hq34=>?_) fun hc39 hq34=>?_))))))))))))))))
    ·refine ah ?_
     refine cP 2 [(67,.agg [pN,pI 0]),(68,pI x37.2.2)] (by kernel_rfl) (aH rfl rfl (ag (vs:=[pN,pI 0]) rfl rfl rfl rfl rfl (bx (bx (bx bB))) nC (aL [(5,pI x37.2.2)] (by kernel_rfl) (aW (di (k:=0) (b:=b2) rfl (bx (bx (bx bB))) (cd (aO (au (bz ?_)))))))))
     obtain rfl:=osi hq34
     refine bH hb25 (fun ht=>?_);subst ht
     refine au (bz ?_)
     obtain rfl:=osi h
     exact aI (bD (cg rfl Ey rfl) (aD rfl)) bZ ⟨rfl,rfl⟩
    refine ae ?_
    refine cw (ap [(69,pB x37.2.1)] (by kernel_rfl) (dW rfl hq34 (fun hc40 hq34=>?_) fun hc40 hq34=>?_))
    ·refine ah ?_
     refine aj (cI 3 [2,0] [70] [(71,pO a17 l16.length c18),(72,.agg [pI x37.1.Kind,pI x37.1.Measure,pI x37.1.Quantity,pI x37.1.Value,pI x37.1.Amount])] (by kernel_rfl) (aF rfl (bg rfl rfl rfl rfl rfl (dI rfl eY) rfl rfl rfl rfl (fun b41=>aa hq34 fun l43 hl43 hq34=>?_))))
     refine aF rfl (bd (enc:=Zd.enc) rfl rfl rfl rfl rfl rfl rfl rfl rfl dt (by exact aC (aC (aC (aC (aC aN))))) hl43 (fun a44 c45=>?_))
     refine bE 1 [(75,pP b13 0)] (by kernel_rfl) (aH rfl rfl (ag (vs:=[pO a44 l43.length c45]) rfl rfl rfl rfl rfl (bx (bx (bx (bx bB)))) cN (ar (aW (aj (cI 6 [4,2] [76,77,78,79] [(80,pI (IntKind.i64.wrap (v19+x37.1.Amount))),(81,pP b13 1)] (by kernel_rfl) (aH rfl rfl (ag (vs:=[pI (IntKind.i64.wrap (v19+x37.1.Amount))]) rfl rfl rfl rfl rfl (bx (bx (bx (bx bB)))) (bf cN) (ar (aq ?_))))))))))
     obtain rfl:=osi hq34
     exact am ((a44,c45),(l43,(IntKind.i64.wrap (v19+x37.1.Amount)))) (tL rfl) (bq (aC (aC (aC (aC aN)))) (bq (aC (aC (aC (aC aN)))) cq)) rfl
    refine ae ?_
    refine aq ?_
    obtain rfl:=osi hq34
    exact am ((a17,c18),(l16,v19)) (tL rfl) (bq (aC (aC aN)) (bq (aC (aC aN)) (bq (aC (aC aN)) bZ))) rfl
   rintro ⟨⟨a30,c31⟩,⟨l32,v33⟩⟩ τ hz;(try dsimp only at hz);subst q34;(try dsimp only at hb25);dsimp only [aK]
   refine an [82] [(54,pI (IntKind.i64.wrap (v14+1)))] (by kernel_rfl) ?_
   exact bt hb25 (a30,c31) (tL rfl) kY
  refine bc ?_
  refine aP (aJ hb25 (fun ht=>aM rfl ?_))
  exact am ((a17,c18),(l16,v19)) (eN rfl) kY ht.symm
 rintro ⟨⟨a21,c22⟩,⟨l23,v24⟩⟩ τ hz;(try dsimp only at hz);subst q26;(try dsimp only at h);dsimp only [aK]
 refine gh (aV [0] [83,84] [(85,pB (decide (1000000000000<v24)))] (by kernel_rfl) (dW rfl h (fun hc47 h=>?_) fun hc47 h=>?_))
 ·refine ah ?_
  refine cP 1 [(86,.agg [pN,pI 0])] (by kernel_rfl) (aH rfl rfl (ag (vs:=[pN,pI 0]) rfl rfl rfl rfl rfl (bx bB) nC (aL [(5,pI 3)] (by kernel_rfl) (aW (di (k:=0) (b:=b2) rfl (bx bB) (cd (aO ?_)))))))
  obtain rfl:=osi h
  exact aI (bD (cg rfl fR rfl) (aD rfl)) bZ ⟨rfl,rfl⟩
 refine ae ?_
 refine cw (aj ?_)
 refine nk (css:=List.map Zd.enc l23) (a:=a21) (by exact aC (aC aN)) ?_
 refine ka (k:=0) (enc:=Zd.enc) (xs:=l23) (b:=b13) (a:=a21) rfl dt (bx bB) (dY 1 [1] [(87,.agg [pL Zd.enc l23,pI v24])] (by kernel_rfl) (aH rfl rfl (ag (vs:=[pL Zd.enc l23,pI v24]) rfl rfl rfl rfl rfl (bx (bx bB)) nC (aL [(5,pI 0)] (by kernel_rfl) (dC ?_)))))
 obtain rfl:=osi h
 exact aI (bD (cg rfl kb rfl) (aD rfl)) bZ ⟨rfl,rfl⟩
def iN (p0:(List Zb)) (p1:Zj):Option (Int×Int):=(i9 p0 p1).bind fun x2=>some (x2.1.Total,x2.2)
theorem sE {p0:(List Zb)} {p1:Zj} {r:(Int×Int)}  (h:iN p0 p1=some r):PF 25 [pL Zb.enc p0,.agg (ck p1)] (.tup [pI r.1,pI r.2]):=by
 unfold iN at h
 refine bo ?_
 refine dZ Tryz.func25 rfl Tryz.ntmps25 Tryz.results25 rfl (dj rfl (bC (cs:=(ck p1)) rfl rfl (fun b1=>br [4,5] (by kernel_rfl) (dV h fun x2 hx2 h=>aj (bp 6 [0] [9,10,11,8] [(12,.agg [pL Zd.enc x2.1.Lines,pI x2.1.Total]),(13,pI x2.2)] (bw 2 (rG hx2) bL) (by kernel_rfl) (aF rfl (aY (cs:=[pN,pI 0]) rfl rfl rfl rfl (fun b3=>aH rfl rfl (ag (vs:=[pL Zd.enc x2.1.Lines,pI x2.1.Total]) rfl rfl rfl rfl rfl bB nC (aL [(7,pI x2.2)] (by kernel_rfl) (cw (aV [0] [14,15,16] [(4,pI x2.1.Total),(5,pI x2.2)] (by kernel_rfl) (dC ?_)))))))))))))
 obtain rfl:=osi h
 exact aI (bD (aD rfl) (aD rfl)) bZ ⟨rfl,rfl⟩
def iO (p0:(List Zb)) (p1:Zk):Option Int:=(fX p1).bind fun x2=>cond (!x2.2) (some (0:Int)) ((iN p0 x2.1).bind fun x5=>cond (x5.2 != 0) (some (0:Int)) (some x5.1))
theorem sF {p0:(List Zb)} {p1:Zk} {r:Int}  (h:iO p0 p1=some r):PF 21 [pL Zb.enc p0,.agg (bj p1)] (pI r):=by
 unfold iO at h
 refine bo ?_
 refine dZ Tryz.func21 rfl Tryz.ntmps21 Tryz.results21 rfl (dj rfl (bC (cs:=(bj p1)) rfl rfl (fun b1=>br [4] (by kernel_rfl) (dV h fun x2 hx2 h=>aj (bp 5 [0] [10,11,9] [(12,.agg (ck x2.1)),(13,pB x2.2)] (bw 1 (mA hx2) bL) (by kernel_rfl) (aF rfl (aY (cs:=[pS ByteArray.empty,pS ByteArray.empty,pB false,pI 0,pI 0,pI 0,pI 0,pI 0]) rfl rfl rfl rfl (fun b3=>aH rfl rfl (ag (vs:=(ck x2.1)) rfl rfl rfl rfl rfl bB AD (aL [(6,pB x2.2)] (by kernel_rfl) (cQ (bU [14] [(15,pB (!x2.2))] (by kernel_rfl) rfl h (fun hc4 h=>?_) fun hc4 h=>?_))))))))))))
 ·refine ah ?_
  refine dq [(4,pI 0)] (by kernel_rfl) ?_
  exact zz r h rfl
 refine ae ?_
 refine dV h fun x5 hx5 h=>aB [0] [17,18,19,16,20,21] [(7,pI x5.1),(8,pI x5.2)] (bw 2 (sE hx5) bL) (by kernel_rfl) (cQ (bU [22] [(23,pB (x5.2 != 0))] (by kernel_rfl) rfl h (fun hc6 h=>?_) fun hc6 h=>?_))
 ·refine ah ?_
  refine dq [(4,pI 0)] (by kernel_rfl) ?_
  exact zz r h rfl
 refine ae ?_
 refine cw (an [24] [(4,pI x5.1)] (by kernel_rfl) (dC ?_))
 exact zz r h rfl
def jd (p0:(List Int)) (p1:(List Int)) (p2:Zk) (p3:Int) (p4:Bool):Option Bool:=Option.bind (cond (!p4) ((kj).bind fun x9=>(fN p3 4).bind fun x10=>(idx x9 x10).bind fun m11=>(fN p3 50).bind fun x12=>(ly 7 m11 (IntKind.i64.wrap (1+x12)) p0).bind fun x13=>some (x13.Source,x13.Code,x13.Units,x13.Facts)) (some (p2.Source,p2.Code,p2.Units,p2.Facts))) (fun (v3,v4,v5,l6)=>cond (decide (260<(l6.length:Int))) ((ju).bind fun x15=>some x15) ((kN).bind fun x16=>Option.bind (cond ((Int.tmod (p1.length:Int) 3) == 1) ((fU p1).bind fun x20=>some x20) (some x16.Measures)) (fun l17=>(fX (⟨v3,v4,v5,l6⟩:Zk)).bind fun x21=>(gD (⟨v3,v4,v5,l6⟩:Zk)).bind fun x23=>(gd ((Zj.eqb x21.1 x23.1)&&(x21.2 == x23.2)) (iO l17 (⟨v3,v4,v5,l6⟩:Zk))).bind fun x25=>(gd ((Zj.eqb x21.1 x23.1)&&(x21.2 == x23.2)) (iJ l17 (⟨v3,v4,v5,l6⟩:Zk))).bind fun x26=>(gd (((Zj.eqb x21.1 x23.1)&&(x21.2 == x23.2))&&(x25 == x26)) (ju)).bind fun x27=>some ((((Zj.eqb x21.1 x23.1)&&(x21.2 == x23.2))&&(x25 == x26))&&x27))))
theorem pK {p0:(List Int)} {p1:(List Int)} {p2:Zk} {p3:Int} {p4:Bool} {r:Bool}  (h:jd p0 p1 p2 p3 p4=some r):PF 5 [pL eI p0,pL eI p1,.agg (bj p2),pI p3,pB p4] (pB r):=by
 unfold jd at h
 refine bo ?_
 refine dZ Tryz.func5 rfl Tryz.ntmps5 Tryz.results5 rfl (dj rfl (bC (cs:=(bj p2)) rfl rfl (fun b1=>br [10] (by kernel_rfl) (cw (aj (dY 1 [0] [(17,.agg (bj p2))] (by kernel_rfl) (aF rfl (aY (cs:=[pI 0,pS ByteArray.empty,pI 0,pN]) rfl rfl rfl rfl (fun b2=>aH rfl rfl (ag (vs:=(bj p2)) rfl rfl rfl rfl rfl bB rW (ar (cQ (an [18] [(19,pB (!p4))] (by kernel_rfl) (ga h fun q7 hq7 h=>?_))))))))))))))
 refine av (Y:=Unit×(Int×ByteArray×Int×(List Za))) (fun (_,(v3,v4,v5,l6))=>[(1,pL eI p1),(11,pP b2 0)]) (fun (_,(v3,v4,v5,l6))=>[PRes.b b2 43 [pI v3,pS v4,pI v5,pL Za.enc l6]]) (fun (_,(v3,v4,v5,l6))=>q7=(v3,v4,v5,l6)) ?_ ?_
 ·skip
  refine kU rfl hq7 (fun hc8 hq7=>?_) fun hc8 hq7=>?_
  ·refine bN (ρd:=[PRes.b b2 _ _]) [(1,0),(5,0),(8,0),(0,1),(2,1),(3,0),(4,0),(6,1),(7,0),(9,1),(10,1)] _ (List.Perm.refl _) (by kernel_rfl) rfl ?_
   refine aa hq7 fun x9 hx9 hq7=>aa hq7 fun x10 hx10 hq7=>aa hq7 fun m11 hm11 hq7=>aa hq7 fun x12 hx12 hq7=>aa hq7 fun x13 hx13 hq7=>cr 10 [] [21,25,28,20,22,23,24,26,27] [(29,.agg (bj x13))] (bw 3 (oY hx9) (bw 4 (lL hx10) (fC 5 eS hm11 (bw 7 (lL hx12) (bw 9 (wO hx13) bL))))) (by kernel_rfl) (np rfl rfl (ag (vs:=(bj x13)) rfl rfl rfl rfl rfl bB rW (cC ?_)))
   obtain rfl:=osi hq7
   exact am ((),(x13.Source,x13.Code,x13.Units,x13.Facts)) (eN rfl) cq rfl
  refine ae ?_
  obtain rfl:=osi hq7
  exact am ((),(p2.Source,p2.Code,p2.Units,p2.Facts)) (eN rfl) cq rfl
 rintro ⟨_,⟨v3,v4,v5,l6⟩⟩ τ hz;(try dsimp only at hz);subst q7;(try dsimp only at h);dsimp only [aK]
 refine gh (aV [0] [30,31,32] [(33,pB (decide (260<(l6.length:Int))))] (by kernel_rfl) (dW rfl h (fun hc14 h=>?_) fun hc14 h=>?_))
 ·refine ah ?_
  refine aa h fun x15 hx15 h=>aB [] [34] [(10,pB x15)] (bw 0 (og hx15) bL) (by kernel_rfl) (ua ?_)
  exact zz r h rfl
 refine ae ?_
 refine dV h fun x16 hx16 h=>aB [] [35,36] [(12,pL Zb.enc x16.Measures)] (bw 0 (uf hx16) bL) (by kernel_rfl) (cQ (an [37,38,39] [(40,pB ((Int.tmod (p1.length:Int) 3) == 1))] (by kernel_rfl) (ga h fun q18 hq18 h=>?_)))
 refine av (Y:=Unit×((List Zb))) (fun (_,l17)=>[(11,pP b2 0),(12,pL Zb.enc l17)]) (fun (_,l17)=>[PRes.b b2 43 [pI v3,pS v4,pI v5,pL Za.enc l6]]) (fun (_,l17)=>q18=l17) ?_ ?_
 ·skip
  refine kU rfl hq18 (fun hc19 hq18=>?_) fun hc19 hq18=>?_
  ·refine aa hq18 ?_;clear hq18;intro x20 hx20 hq18
   refine aB [] [41,42] [(12,pL Zb.enc x20)] (bw 1 (rm hx20) bL) (by kernel_rfl) ?_
   obtain rfl:=osi hq18
   exact am ((),x20) (eN rfl) cq rfl
  refine ae ?_
  obtain rfl:=osi hq18
  exact am ((),x16.Measures) (eN rfl) cq rfl
 rintro ⟨_,l17⟩ τ hz;(try dsimp only at hz);subst q18;(try dsimp only at h);dsimp only [aK]
 refine ah (aa h fun x21 hx21 h=>aj (bp 5 [0] [44,45,43] [(46,.agg (ck x21.1)),(47,pB x21.2)] (bw 1 (mA hx21) bL) (by kernel_rfl) (aF rfl (aY (cs:=[pS ByteArray.empty,pS ByteArray.empty,pB false,pI 0,pI 0,pI 0,pI 0,pI 0]) rfl rfl rfl rfl (fun b22=>aH rfl rfl (ag (vs:=(ck x21.1)) rfl rfl rfl rfl rfl bB AD (aL [(14,pB x21.2)] (by kernel_rfl) (dV h fun x23 hx23 h=>aj (bp 5 [1] [49,50,48] [(51,.agg (ck x23.1)),(52,pB x23.2)] (bw 1 (o7 hx23) bL) (by kernel_rfl) (aF rfl (aY (cs:=[pS ByteArray.empty,pS ByteArray.empty,pB false,pI 0,pI 0,pI 0,pI 0,pI 0]) rfl rfl rfl rfl (fun b24=>aH rfl rfl (ag (vs:=(ck x23.1)) rfl rfl rfl rfl rfl bB AD (aL [(16,pB x23.2)] (by kernel_rfl) (cw (bN (ρd:=[]) [(0,0),(1,0),(2,0),(3,0),(4,0),(5,0),(6,0),(7,0),(8,0),(9,0),(10,0),(12,0),(13,0),(11,1),(14,1),(15,0),(16,0),(17,0),(18,1),(19,0),(20,0)] _ (List.Perm.refl _) (by kernel_rfl) rfl (aa h fun x25 hx25 h=>aa h fun x26 hx26 h=>aa h fun x27 hx27 h=>cr 21 [1,0,2,2] ((rg 53 11)++[65,66,64,67,68,69,70,71,72]) [(10,pB ((((Zj.eqb x21.1 x23.1)&&(x21.2 == x23.2))&&(x25 == x26))&&x27))] (De 2 Zj.eqok32 (eU 13 (fun hc=>sF (cY hx25 hc)) (eU 14 (fun hc=>sB (cY hx26 hc)) (eU 18 (fun hc=>og (cY hx27 hc)) bL)))) (by kernel_rfl) (cC (dC ?_)))))))))))))))))))
 exact zz r h rfl
end SX
namespace SX
open Go
def Digs (l:List Int):Prop:=∀ x∈l,48≤x∧x≤57
def U64 (a:Int):Prop:=0≤a∧a<18446744073709551616
theorem wu (a:Int):IntKind.u64.wrap a=a % 18446744073709551616:=rfl
theorem dD {a:Int} (h:U64 a):IntKind.u64.wrap a=a:=by rw [wu];unfold U64 at h;omega
theorem bv64 {a:Int} (h:U64 a):(BitVec.ofInt 64 a).toNat=a.toNat:=by
 rw [BitVec.toNat_ofInt];unfold U64 at h;omega
theorem AW {a b:Int} (ha:U64 a) (hb:U64 b):ez .u64 a b=((a.toNat &&& b.toNat:Nat):Int):=by
 have hlt:a.toNat &&& b.toNat<18446744073709551616:=Nat.lt_of_le_of_lt Nat.and_le_left (by unfold U64 at ha;omega)
 have e:ez .u64 a b=IntKind.u64.wrap (((BitVec.ofInt 64 a &&& BitVec.ofInt 64 b).toNat:Nat):Int):=rfl
 rw [e,BitVec.toNat_and,bv64 ha,bv64 hb,dD]
 exact ⟨by omega,by omega⟩
theorem DR {a b:Int} (ha:U64 a) (hb:U64 b):oN .u64 a b=((a.toNat ||| b.toNat:Nat):Int):=by
 have hlt:a.toNat ||| b.toNat<2 ^ 64:=Nat.or_lt_two_pow (by unfold U64 at ha;omega) (by unfold U64 at hb;omega)
 have e:oN .u64 a b=IntKind.u64.wrap (((BitVec.ofInt 64 a ||| BitVec.ofInt 64 b).toNat:Nat):Int):=rfl
 rw [e,BitVec.toNat_or,bv64 ha,bv64 hb,dD]
 exact ⟨by omega,by omega⟩
theorem oh {a:Int} (h:U64 a):ez .u64 a 4294967295=a % 4294967296:=by
 rw [AW h ⟨by omega,by omega⟩]
 have:a.toNat &&& (4294967295:Int).toNat=a.toNat % 4294967296:=Nat.and_two_pow_sub_one_eq_mod (n:=32) a.toNat
 rw [this];unfold U64 at h;omega
theorem uw {a:Int} (h:U64 a):ez .u64 a 1=a % 2:=by
 rw [AW h ⟨by omega,by omega⟩]
 have:a.toNat &&& (1:Int).toNat=a.toNat % 2:=Nat.and_two_pow_sub_one_eq_mod (n:=1) a.toNat
 rw [this];unfold U64 at h;omega
theorem AX {a:Int}:cV .u64 a 32=a / 4294967296:=Int.fdiv_eq_ediv_of_nonneg a (show (0:Int)≤4294967296 by omega)
theorem mul64 {a b:Int} (ha:U64 a) (hb:U64 b):∃ h l,gW a b=some (h,l)∧U64 h∧U64 l∧h*18446744073709551616+l=a*b:=by
 unfold gW lb
 rw [oh ha,oh hb]
 simp only [AX]
 unfold U64 at ha hb
 have ea:a=4294967296*(a / 4294967296)+a % 4294967296:=by omega
 have eb:b=4294967296*(b / 4294967296)+b % 4294967296:=by omega
 have h1:0≤a / 4294967296∧a / 4294967296<4294967296:=by omega
 have h2:0≤a % 4294967296∧a % 4294967296<4294967296:=by omega
 have h3:0≤b / 4294967296∧b / 4294967296<4294967296:=by omega
 have h4:0≤b % 4294967296∧b % 4294967296<4294967296:=by omega
 generalize a / 4294967296=x1 at *
 generalize a % 4294967296=x0 at *
 generalize b / 4294967296=y1 at *
 generalize b % 4294967296=y0 at *
 subst ea eb
 have p00:0≤x0*y0∧x0*y0≤4294967295*4294967295:=⟨Int.mul_nonneg h2.1 h4.1,Int.mul_le_mul (by omega) (by omega) h4.1 (by omega)⟩
 have p01:0≤x0*y1∧x0*y1≤4294967295*4294967295:=⟨Int.mul_nonneg h2.1 h3.1,Int.mul_le_mul (by omega) (by omega) h3.1 (by omega)⟩
 have p10:0≤x1*y0∧x1*y0≤4294967295*4294967295:=⟨Int.mul_nonneg h1.1 h4.1,Int.mul_le_mul (by omega) (by omega) h4.1 (by omega)⟩
 have p11:0≤x1*y1∧x1*y1≤4294967295*4294967295:=⟨Int.mul_nonneg h1.1 h3.1,Int.mul_le_mul (by omega) (by omega) h3.1 (by omega)⟩
 have e:(4294967296*x1+x0)*(4294967296*y1+y0)=18446744073709551616*(x1*y1)+4294967296*(x1*y0)+4294967296*(x0*y1)+x0*y0:=by
  rw [Int.add_mul,Int.mul_add,Int.mul_add]
  have t1:4294967296*x1*(4294967296*y1)=18446744073709551616*(x1*y1):=by
   rw [Int.mul_assoc,← Int.mul_assoc x1,Int.mul_comm x1 4294967296,Int.mul_assoc 4294967296 x1,← Int.mul_assoc];rfl
  have t2:4294967296*x1*y0=4294967296*(x1*y0):=Int.mul_assoc _ _ _
  have t3:x0*(4294967296*y1)=4294967296*(x0*y1):=by rw [← Int.mul_assoc,Int.mul_comm x0,Int.mul_assoc]
  rw [t1,t2,t3];omega
 rw [e]
 generalize x0*y0=p at *
 generalize x0*y1=q at *
 generalize x1*y0=r at *
 generalize x1*y1=s at *
 refine ⟨_,_,rfl,?_,?_,?_⟩
 all_goals simp only [wu,U64]
 all_goals first | omega | (rw [oh (by unfold U64;omega)];omega)
def rv (w:Zf):Int:=w.Hi*18446744073709551616+w.Lo
def RW (w:Zf):Prop:=U64 w.Hi∧U64 w.Lo
theorem qJ {p q:Zf} (hp:RW p) (hq:RW q):∃ w b,fg p q=some (w,b)∧RW w∧(rv p+rv q<340282366920938463463374607431768211456→rv w=rv p+rv q):=by
 obtain ⟨ph,pl⟩:=p;obtain ⟨qh,ql⟩:=q
 obtain ⟨⟨a1,a2⟩,⟨a3,a4⟩⟩:=hp
 obtain ⟨⟨b1,b2⟩,⟨b3,b4⟩⟩:=hq
 simp only at a1 a2 a3 a4 b1 b2 b3 b4
 unfold fg lb
 dsimp only
 by_cases h:IntKind.u64.wrap (pl+ql)<pl
 ·rw [det h]
  simp only [dG,dn]
  refine ⟨_,_,rfl,?_,?_⟩
  ·simp only [RW,U64,wu];omega
  rw [wu] at h;simp only [rv,wu];omega
 rw [cD h]
 simp only [eu,dn]
 refine ⟨_,_,rfl,?_,?_⟩
 ·simp only [RW,U64,wu];omega
 rw [wu] at h;simp only [rv,wu];omega
theorem nw {a n:Int} (h:n.toNat≤64):cV .u64 a n=a / 2 ^ n.toNat:=by
 have e:cV .u64 a n=a.fdiv (2 ^ min n.toNat 64):=rfl
 rw [e,Nat.min_eq_left h]
 exact Int.fdiv_eq_ediv_of_nonneg a (Int.le_of_lt (Int.pow_pos (by omega)))
theorem vL (b:Int) (k:Nat):b / 2 ^ k=2*(b / 2 ^ (k+1))+b / 2 ^ k % 2:=by
 have:b / 2 ^ (k+1)=b / 2 ^ k / 2:=by rw [Int.pow_succ,Int.ediv_ediv_of_nonneg (Int.le_of_lt (Int.pow_pos (by omega)))]
 rw [this];omega
theorem AY {a b:Int} (ha:U64 a) (hb:U64 b):∃ w,iH a b=some w∧RW w∧rv w=a*b:=by
 unfold iH
 obtain ⟨t,h5,h6⟩:=iK (body:=fun (v3,v4,v5)=>cond (decide (0≤v3)) (Option.bind (Option.bind (fg (⟨v4,v5⟩:Zf) (⟨v4,v5⟩:Zf)) (fun x14=>Option.bind (oO v3) (fun u15=>cond ((ez .u64 (cV .u64 b v3) 1) == 1) (Option.bind (fg x14.1 (⟨0,a⟩:Zf)) (fun x17=>some (x17.1.Hi,x17.1.Lo))) (some (x14.1.Hi,x14.1.Lo))))) (fun (v11,v12)=>some (.inl ((IntKind.i64.wrap (v3 - 1)),v11,v12)))) (some (.inr (v4,v5))))
  (fun s:Int×Int×Int => -1≤s.1∧s.1≤63∧RW ⟨s.2.1,s.2.2⟩∧rv ⟨s.2.1,s.2.2⟩=a*(b / 2 ^ (s.1+1).toNat)) (fun s=>(s.1+1).toNat) (fun t:Int×Int=>RW ⟨t.1,t.2⟩∧rv ⟨t.1,t.2⟩=a*b)
  (fun s hs=>by
   obtain ⟨v,x,y⟩:=s
   obtain ⟨a1,a2,a3,a4⟩:=hs
   dsimp only at a1 a2 a3 a4 ⊢
   by_cases h0:0≤v
   ·left
    obtain ⟨k,rfl⟩:∃ k:Nat,v=(k:Int):=⟨v.toNat,by omega⟩
    have ek:((k:Int)+1).toNat=k+1:=by omega
    rw [ek] at a4
    have hs:=vL b k
    have hbk:0≤b / 2 ^ k:=Int.ediv_nonneg hb.1 (Int.le_of_lt (Int.pow_pos (by omega)))
    have hbk2:b / 2 ^ k≤b:=Int.ediv_le_self _ hb.1
    have hm:a*(b / 2 ^ k)=2*(a*(b / 2 ^ (k+1)))+a*(b / 2 ^ k % 2):=by
     have:=congrArg (a * ·) hs
     simp only [Int.mul_add] at this
     rw [this,← Int.mul_assoc,Int.mul_comm a 2,Int.mul_assoc]
    have hle:a*(b / 2 ^ k)≤18446744073709551615*18446744073709551615:=Int.mul_le_mul (by unfold U64 at ha;omega) (by unfold U64 at hb;omega) hbk (by omega)
    have hnn:0≤a*(b / 2 ^ k % 2):=Int.mul_nonneg ha.1 (by omega)
    rw [det h0]
    simp only [dG]
    obtain ⟨w,o,c1,c2,c3⟩:=qJ a3 a3
    have c3:=c3 (by omega)
    rw [bS c1]
    have hg:oO (k:Int)=some ():=by unfold oO;rw [if_pos h0]
    rw [bS hg,nw (by omega),Int.toNat_natCast,uw ⟨hbk,by unfold U64 at hb;omega⟩,cj (by omega) (by omega)]
    rcases (by omega:b / 2 ^ k % 2=0∨b / 2 ^ k % 2=1) with e | e
    ·rw [e] at hm ⊢
     refine ⟨_,rfl,⟨by dsimp only;omega,by dsimp only;omega,c2,?_⟩,by dsimp only;omega⟩
     have:((k:Int) - 1+1).toNat=k:=by omega
     dsimp only;rw [this,hm];show rv w=_;omega
    rw [e] at hm ⊢
    obtain ⟨w2,o2,d1,d2,d3⟩:=qJ (p:=w) (q:=⟨0,a⟩) c2 ⟨⟨by simp,by simp⟩,ha⟩
    have e0:rv ⟨0,a⟩=a:=by simp [rv]
    rw [e0] at d3
    have d3:=d3 (by omega)
    simp only [beq_self_eq_true,dG]
    rw [bS d1]
    refine ⟨_,rfl,⟨by dsimp only;omega,by dsimp only;omega,d2,?_⟩,by dsimp only;omega⟩
    have:((k:Int) - 1+1).toNat=k:=by omega
    dsimp only;rw [this,hm];show rv w2=_;omega
   right
   rw [cD h0]
   have:v = -1:=by omega
   subst this
   refine ⟨_,rfl,a3,?_⟩
   rw [a4];simp)
  FUEL (63,0,0) ⟨by simp,by simp,⟨⟨by simp,by simp⟩,⟨by simp,by simp⟩⟩,by
   have:b / 18446744073709551616=0:=Int.ediv_eq_zero_of_lt hb.1 hb.2
   simp [rv,this]⟩ (ip (by simp))
 obtain ⟨t1,t2⟩:=t
 rw [bS h5]
 exact ⟨_,rfl,h6.1,h6.2⟩
theorem iand63:∀ {n:Nat},n<128→ez .i64 (n:Int) 63=((n % 64:Nat):Int):=by decide
theorem DS {a:Int} (h:U64 a):eX .u64 a 1=(2*a) % 18446744073709551616:=by
 have e:eX .u64 a 1=IntKind.u64.wrap (a*2):=rfl
 rw [e,wu,Int.mul_comm]
theorem AZ {a b:Int} (ha:U64 a) (h2:a % 2=0) (hb:b=0∨b=1):oN .u64 a b=a+b:=by
 rw [DR ha (by rcases hb with rfl | rfl <;> exact ⟨by omega,by omega⟩)]
 unfold U64 at ha
 rcases hb with rfl | rfl
 ·simp;omega
 have:a.toNat ||| (1:Int).toNat=a.toNat+1:=by
  have e:a.toNat=2 ^ 1*(a.toNat / 2):=by omega
  have:=Nat.two_pow_add_eq_or_of_lt (i:=1) (b:=1) (by omega) (a.toNat / 2)
  rw [← e] at this
  exact this.symm
 rw [this];omega
theorem bit_lo {h l:Int} (hl:U64 l) {k:Nat} (hk:k<64):(h*18446744073709551616+l) / 2 ^ k % 2=l / 2 ^ k % 2:=by
 have e:(18446744073709551616:Int)=2 ^ k*(2*2 ^ (63 - k)):=by
  have:(2:Int) ^ k*(2*2 ^ (63 - k))=2 ^ (k+(1+(63 - k))):=by rw [Int.pow_add,Int.pow_add];rfl
  rw [this,show k+(1+(63 - k))=64 by omega];rfl
 have hp:(2:Int) ^ k≠0:=Int.ne_of_gt (Int.pow_pos (by omega))
 rw [e,show h*(2 ^ k*(2*2 ^ (63 - k)))+l=l+2 ^ k*(2*(h*2 ^ (63 - k))) by rw [Int.add_comm,Int.mul_left_comm h,Int.mul_left_comm h 2],Int.add_mul_ediv_left _ _ hp,Int.add_mul_emod_self_left]
theorem bit_hi {h l:Int} (hl:U64 l) {k:Nat} (hk:64≤k):(h*18446744073709551616+l) / 2 ^ k=h / 2 ^ (k - 64):=by
 have e:(2:Int) ^ k=18446744073709551616*2 ^ (k - 64):=by
  have:(18446744073709551616:Int)*2 ^ (k - 64)=2 ^ (64+(k - 64)):=by rw [Int.pow_add];rfl
  rw [this,show 64+(k - 64)=k by omega]
 rw [e,← Int.ediv_ediv_of_nonneg (by omega)]
 congr 1
 unfold U64 at hl;omega
theorem ux {p:Zf} {d:Int} (hp:RW p) (hd:U64 d) (h1:1≤d):∃ q r,gF p d=some (q,r)∧RW q∧rv q=rv p / d∧r=rv p % d:=by
 have hN:0≤rv p∧rv p<340282366920938463463374607431768211456:=by obtain ⟨⟨a,b⟩,⟨c,e⟩⟩:=hp;unfold rv;omega
 unfold gF
 obtain ⟨t,h5,h6⟩:=iK (body:=fun (v4,v5,v6,v7)=>cond (decide (0≤v5)) (Option.bind (Option.bind (oO (ez .i64 v5 63)) (fun u18=>lb ((ez .u64 (cV .u64 p.Lo (ez .i64 v5 63)) 1)) (fun w19=>Option.bind (cond (decide (63<v5)) (Option.bind (oO (IntKind.i64.wrap (v5 - 64))) (fun u23=>lb ((ez .u64 (cV .u64 p.Hi (IntKind.i64.wrap (v5 - 64))) 1)) (fun w24=>some w24))) (some w19)) (fun v20=>Option.bind (fg (⟨v6,v7⟩:Zf) (⟨v6,v7⟩:Zf)) (fun x25=>cond (((cV .u64 v4 63) == 1)||(decide (d≤(oN .u64 (eX .u64 v4 1) v20)))) (lb ((IntKind.u64.wrap ((oN .u64 (eX .u64 v4 1) v20) - d))) (fun w27=>some (w27,x25.1.Hi,(oN .u64 x25.1.Lo 1)))) (some ((oN .u64 (eX .u64 v4 1) v20),x25.1.Hi,x25.1.Lo))))))) (fun (v14,v15,v16)=>some (.inl (v14,(IntKind.i64.wrap (v5 - 1)),v15,v16)))) (some (.inr (v4,v6,v7))))
  (fun s:Int×Int×Int×Int => -1≤s.2.1∧s.2.1≤127∧RW ⟨s.2.2.1,s.2.2.2⟩∧0≤s.1∧s.1<d∧rv p / 2 ^ (s.2.1+1).toNat=rv ⟨s.2.2.1,s.2.2.2⟩ * d+s.1) (fun s=>(s.2.1+1).toNat) (fun t:Int×Int×Int=>RW ⟨t.2.1,t.2.2⟩∧0≤t.1∧t.1<d∧rv p=rv ⟨t.2.1,t.2.2⟩ * d+t.1)
  (fun s hs=>by
   obtain ⟨v4,v5,x,y⟩:=s
   obtain ⟨a1,a2,a3,a4,a5,a6⟩:=hs
   dsimp only at a1 a2 a3 a4 a5 a6 ⊢
   by_cases h0:0≤v5
   ·left
    obtain ⟨k,rfl⟩:∃ k:Nat,v5=(k:Int):=⟨v5.toNat,by omega⟩
    have ek:((k:Int)+1).toNat=k+1:=by omega
    rw [ek] at a6
    have hs:=vL (rv p) k
    generalize hbit:rv p / 2 ^ k % 2=bit at hs
    have hb01:bit=0∨bit=1:=by omega
    rw [det h0,iand63 (by omega)]
    simp only [dG]
    have hg:oO ((k % 64:Nat):Int)=some ():=by unfold oO;rw [if_pos (by omega)]
    rw [bS hg]
    unfold lb
    have hv:(cond (decide (63<(k:Int))) (Option.bind (oO (IntKind.i64.wrap ((k:Int) - 64))) (fun _=>some (ez .u64 (cV .u64 p.Hi (IntKind.i64.wrap ((k:Int) - 64))) 1))) (some (ez .u64 (cV .u64 p.Lo ((k % 64:Nat):Int)) 1)))=some bit:=by
     by_cases hk:63<(k:Int)
     ·rw [det hk,cj (by omega) (by omega)]
      have hg2:oO ((k:Int) - 64)=some ():=by unfold oO;rw [if_pos (by omega)]
      simp only [dG]
      rw [bS hg2,nw (by omega),show ((k:Int) - 64).toNat=k - 64 by omega,uw ⟨Int.ediv_nonneg hp.1.1 (Int.le_of_lt (Int.pow_pos (by omega))),Int.lt_of_le_of_lt (Int.ediv_le_self _ hp.1.1) hp.1.2⟩,← hbit]
      unfold rv;rw [bit_hi hp.2 (by omega)]
     rw [cD hk]
     simp only [eu]
     rw [nw (by omega),Int.toNat_natCast,Nat.mod_eq_of_lt (by omega),uw ⟨Int.ediv_nonneg hp.2.1 (Int.le_of_lt (Int.pow_pos (by omega))),Int.lt_of_le_of_lt (Int.ediv_le_self _ hp.2.1) hp.2.2⟩,← hbit]
     unfold rv;rw [bit_lo hp.2 (by omega)]
    dsimp only
    rw [bS hv]
    obtain ⟨w,o,c1,c2,c3⟩:=qJ a3 a3
    have hq0:0≤rv ⟨x,y⟩:=by obtain ⟨⟨b1,b2⟩,⟨b3,b4⟩⟩:=a3;unfold rv;dsimp only at *;omega
    have hqd:rv ⟨x,y⟩≤rv ⟨x,y⟩ * d:=by have:=Int.mul_le_mul_of_nonneg_left h1 hq0;omega
    have hle:rv p / 2 ^ k≤rv p:=Int.ediv_le_self _ hN.1
    have c3:=c3 (by omega)
    rw [bS c1]
    have hu4:U64 v4:=⟨a4,by unfold U64 at hd;omega⟩
    have hsh:cV .u64 v4 63=v4 / 9223372036854775808:=nw (by omega)
    have hlow:oN .u64 (eX .u64 v4 1) bit=(2*v4) % 18446744073709551616+bit:=by rw [DS hu4];exact AZ ⟨by omega,by omega⟩ (by omega) hb01
    rw [hlow,hsh,cj (by omega) (by omega)]
    have ekk:((k:Int) - 1+1).toNat=k:=by omega
    unfold U64 at hd hu4
    by_cases hT:d≤2*v4+bit
    ·have hc:((v4 / 9223372036854775808 == 1)||decide (d≤(2*v4) % 18446744073709551616+bit))=true:=by
      simp only [Bool.or_eq_true,beq_iff_eq,decide_eq_true_eq];omega
     rw [hc]
     simp only [dG]
     obtain ⟨⟨e1,e2⟩,⟨e3,e4⟩⟩:=c2
     have hev:w.Lo % 2=0:=by unfold rv at c3;dsimp only at c3;omega
     rw [AZ ⟨e3,e4⟩ hev (.inr rfl),wu]
     refine ⟨_,rfl,⟨by dsimp only;omega,by dsimp only;omega,⟨⟨e1,e2⟩,⟨by dsimp only;omega,by dsimp only;omega⟩⟩,by dsimp only;omega,by dsimp only;omega,?_⟩,by dsimp only;omega⟩
     dsimp only
     rw [ekk,hs,a6]
     have e5:rv ⟨w.Hi,w.Lo+1⟩=2*rv ⟨x,y⟩+1:=by unfold rv at c3 ⊢;dsimp only at c3 ⊢;omega
     rw [e5,Int.add_mul,Int.mul_assoc];omega
    ·have hc:((v4 / 9223372036854775808 == 1)||decide (d≤(2*v4) % 18446744073709551616+bit))=false:=by
      simp only [Bool.or_eq_false_iff,beq_eq_false_iff_ne,decide_eq_false_iff_not];omega
     rw [hc]
     simp only [eu]
     refine ⟨_,rfl,⟨by dsimp only;omega,by dsimp only;omega,c2,by dsimp only;omega,by dsimp only;omega,?_⟩,by dsimp only;omega⟩
     dsimp only
     rw [ekk,hs,a6,show rv ⟨w.Hi,w.Lo⟩=2*rv ⟨x,y⟩ by show rv w=_;omega,Int.mul_assoc];omega
   right
   rw [cD h0]
   have:v5 = -1:=by omega
   subst this
   refine ⟨_,rfl,a3,a4,a5,?_⟩
   rw [← a6];simp)
  FUEL (0,127,0,0) ⟨by simp,by simp,⟨⟨by simp,by simp⟩,⟨by simp,by simp⟩⟩,by simp,by simp;omega,by
   have:rv p / 340282366920938463463374607431768211456=0:=Int.ediv_eq_zero_of_lt hN.1 hN.2
   simp [rv] at this ⊢;exact this⟩ (ip (by simp))
 obtain ⟨t1,t2,t3⟩:=t
 rw [bS h5]
 obtain ⟨g1,g2,g3,g4⟩:=h6
 dsimp only at g1 g2 g3 g4
 have gd:rv p / d=rv ⟨t2,t3⟩:=by
  rw [g4,Int.add_comm,Int.add_mul_ediv_right _ _ (by omega),Int.ediv_eq_zero_of_lt g2 g3,Int.zero_add]
 refine ⟨_,_,rfl,g1,gd.symm,?_⟩
 have:=Int.emod_add_mul_ediv (rv p) d
 rw [gd,Int.mul_comm] at this
 omega
structure KnInv (u u1 y1 y0 q rh:Int):Prop where
 eq:u=q*y1+rh
 r0:0≤rh
 r1:rh<4294967296
 q0:0≤q
 q1:q≤4294967297
 up:u*4294967296+u1<q*(y1*4294967296+y0)+(y1*4294967296+y0)
section
variable {u u1 y1 y0 q rh:Int} (hu:0≤u) (huy:u<y1*4294967296+y0) (h1:0≤u1) (h1':u1<4294967296) (hy:2147483648≤y1) (hy':y1<4294967296) (hz:0≤y0) (hz':y0<4294967296)
include hu huy h1 h1' hy hy' hz hz'
theorem qK:KnInv u u1 y1 y0 (u / y1) (u % y1):=by
 have hq0:0≤u / y1:=Int.ediv_nonneg hu (by omega)
 have hr0:=Int.emod_nonneg u (show y1≠0 by omega)
 have hr1:=Int.emod_lt_of_pos u (show 0<y1 by omega)
 have he:=Int.emod_add_mul_ediv u y1
 rw [Int.mul_comm] at he
 have hz2:0≤u / y1*y0:=Int.mul_nonneg hq0 hz
 refine ⟨by omega,hr0,by omega,hq0,?_,?_⟩
 ·apply Int.le_of_lt_add_one
  apply Int.ediv_lt_of_lt_mul (by omega)
  omega
 rw [Int.mul_add,← Int.mul_assoc];omega
theorem sW (i:KnInv u u1 y1 y0 q rh) (h:4294967296≤q∨4294967296*rh+u1<q*y0):u*4294967296+u1<q*(y1*4294967296+y0)∧1≤q:=by
 have e:=i.eq
 have hlt:u*4294967296+u1<q*(y1*4294967296+y0):=by
  rcases h with h | h
  ·have:4294967296*(y1*4294967296+y0)≤q*(y1*4294967296+y0):=Int.mul_le_mul_of_nonneg_right h (by omega)
   omega
  rw [Int.mul_add,← Int.mul_assoc];omega
 refine ⟨hlt,?_⟩
 have hq:=i.q0
 by_cases hq0:q=0
 ·subst hq0;rw [Int.zero_mul] at hlt;omega
 omega
theorem A0 (i:KnInv u u1 y1 y0 q rh) (h:4294967296≤q∨4294967296*rh+u1<q*y0) (h2:rh+y1<4294967296):KnInv u u1 y1 y0 (q - 1) (rh+y1):=by
 obtain ⟨hlt,hq⟩:=sW hu huy h1 h1' hy hy' hz hz' i h
 have:=i.eq;have:=i.r0;have:=i.q1
 refine ⟨by rw [Int.sub_mul];omega,by omega,h2,by omega,by omega,?_⟩
 rw [Int.sub_mul];omega
theorem A1 (i:KnInv u u1 y1 y0 q rh) (h:4294967296≤q∨4294967296*rh+u1<q*y0) (h2:4294967296≤rh+y1):(q - 1)*(y1*4294967296+y0)≤u*4294967296+u1∧u*4294967296+u1<(q - 1)*(y1*4294967296+y0)+(y1*4294967296+y0):=by
 obtain ⟨hlt,hq⟩:=sW hu huy h1 h1' hy hy' hz hz' i h
 have e:=i.eq;have:=i.r0;have hq1:=i.q1
 refine ⟨?_,by rw [Int.sub_mul];omega⟩
 have hz2:(q - 1)*y0≤4294967296*4294967295:=Int.mul_le_mul (by omega) (by omega) hz (by omega)
 rw [Int.mul_add,← Int.mul_assoc]
 rw [Int.sub_mul q 1 y1]
 omega
omit hu huy h1 h1' hy hy' hz hz' in
theorem yF (i:KnInv u u1 y1 y0 q rh) (h:¬ (4294967296≤q∨4294967296*rh+u1<q*y0)):q*(y1*4294967296+y0)≤u*4294967296+u1:=by
 have e:=i.eq
 rw [Int.mul_add,← Int.mul_assoc];omega
end
section
variable {u u1 y1 y0:Int} (hu:0≤u) (huy:u<y1*4294967296+y0) (h1:0≤u1) (h1':u1<4294967296) (hy:2147483648≤y1) (hy':y1<4294967296) (hz:0≤y0) (hz':y0<4294967296)
include hu huy h1 h1' hy hy' hz hz'
omit hu huy hy hy' in
theorem A2 {q rh:Int} (i:KnInv u u1 y1 y0 q rh):((decide (4294967296≤q))||(decide ((IntKind.u64.wrap ((IntKind.u64.wrap (4294967296*rh))+u1))<(IntKind.u64.wrap (q*y0)))))=decide (4294967296≤q∨4294967296*rh+u1<q*y0):=by
 have:=i.r0;have:=i.r1;have:=i.q0
 rw [dD (a:=4294967296*rh) ⟨by omega,by omega⟩,dD (a:=4294967296*rh+u1) ⟨by omega,by omega⟩]
 by_cases hq:4294967296≤q
 ·rw [det hq,det (Or.inl hq)];rfl
 have hp:q*y0≤4294967295*4294967295:=Int.mul_le_mul (by omega) (by omega) hz (by omega)
 have hp0:0≤q*y0:=Int.mul_nonneg (by omega) hz
 rw [dD (a:=q*y0) ⟨hp0,by omega⟩,cD hq,Bool.false_or]
 congr 1
 exact propext ⟨.inr,fun h=>h.resolve_left hq⟩
omit hy hy' hz hz' in
theorem w7 {q:Int} (h0:0≤q) (h2:q*(y1*4294967296+y0)≤u*4294967296+u1):q<4294967296:=by
 have:q*(y1*4294967296+y0)<4294967296*(y1*4294967296+y0):=by omega
 exact Int.lt_of_mul_lt_mul_right this (by omega)
def KQ (u u1 y1 y0 q:Int):Prop:=0≤q∧q<4294967296∧q*(y1*4294967296+y0)≤u*4294967296+u1∧u*4294967296+u1<q*(y1*4294967296+y0)+(y1*4294967296+y0)
theorem DT:∃ q,bu (S:=Int×Int) (T:=(Int)) (fun (v18,v19)=>cond ((decide (4294967296≤v18))||(decide ((IntKind.u64.wrap ((IntKind.u64.wrap (4294967296*v19))+u1))<(IntKind.u64.wrap (v18*y0))))) (cond (decide (4294967296≤(IntKind.u64.wrap (v19+y1)))) (some (.inr (IntKind.u64.wrap (v18 - 1)))) (some (.inl ((IntKind.u64.wrap (v18 - 1)),(IntKind.u64.wrap (v19+y1)))))) (some (.inr v18))) FUEL (u / y1,u % y1)=some q∧KQ u u1 y1 y0 q:=by
 refine iK (fun s:Int×Int=>KnInv u u1 y1 y0 s.1 s.2) (fun s=>s.1.toNat) (KQ u u1 y1 y0) ?_ FUEL _ (qK hu huy h1 h1' hy hy' hz hz') ?_
 ·rintro ⟨q,rh⟩ i
  dsimp only at i ⊢
  rw [A2 h1 h1' hz hz' i]
  have i0:=i.r0;have i1:=i.r1;have i2:=i.q0;have i3:=i.q1
  by_cases h:4294967296≤q∨4294967296*rh+u1<q*y0
  ·rw [det h]
   obtain ⟨_,hq1⟩:=sW hu huy h1 h1' hy hy' hz hz' i h
   rw [dD (a:=rh+y1) ⟨by omega,by omega⟩,dD (a:=q - 1) ⟨by omega,by omega⟩]
   by_cases h2:4294967296≤rh+y1
   ·rw [det h2];right
    obtain ⟨e1,e2⟩:=A1 hu huy h1 h1' hy hy' hz hz' i h h2
    exact ⟨_,rfl,by omega,w7 hu huy h1 h1' (by omega) e1,e1,e2⟩
   rw [cD h2];left
   exact ⟨_,rfl,A0 hu huy h1 h1' hy hy' hz hz' i h (by omega),by dsimp only;omega⟩
  rw [cD h];right
  have e1:=yF i h
  exact ⟨_,rfl,i2,w7 hu huy h1 h1' i2 e1,e1,i.up⟩
 have:=(qK hu huy h1 h1' hy hy' hz hz').q1
 exact ip (by dsimp only;omega)
theorem DU:∃ q,bu (S:=Int×Int) (T:=(Int)) (fun (v28,v29)=>cond ((decide (4294967296≤v29))||(decide ((IntKind.u64.wrap ((IntKind.u64.wrap (4294967296*v28))+u1))<(IntKind.u64.wrap (v29*y0))))) (cond (decide (4294967296≤(IntKind.u64.wrap (v28+y1)))) (some (.inr (IntKind.u64.wrap (v29 - 1)))) (some (.inl ((IntKind.u64.wrap (v28+y1)),(IntKind.u64.wrap (v29 - 1)))))) (some (.inr v29))) FUEL (u % y1,u / y1)=some q∧KQ u u1 y1 y0 q:=by
 refine iK (fun s:Int×Int=>KnInv u u1 y1 y0 s.2 s.1) (fun s=>s.2.toNat) (KQ u u1 y1 y0) ?_ FUEL _ (qK hu huy h1 h1' hy hy' hz hz') ?_
 ·rintro ⟨rh,q⟩ i
  dsimp only at i ⊢
  rw [A2 h1 h1' hz hz' i]
  have i0:=i.r0;have i1:=i.r1;have i2:=i.q0;have i3:=i.q1
  by_cases h:4294967296≤q∨4294967296*rh+u1<q*y0
  ·rw [det h]
   obtain ⟨_,hq1⟩:=sW hu huy h1 h1' hy hy' hz hz' i h
   rw [dD (a:=rh+y1) ⟨by omega,by omega⟩,dD (a:=q - 1) ⟨by omega,by omega⟩]
   by_cases h2:4294967296≤rh+y1
   ·rw [det h2];right
    obtain ⟨e1,e2⟩:=A1 hu huy h1 h1' hy hy' hz hz' i h h2
    exact ⟨_,rfl,by omega,w7 hu huy h1 h1' (by omega) e1,e1,e2⟩
   rw [cD h2];left
   exact ⟨_,rfl,A0 hu huy h1 h1' hy hy' hz hz' i h (by omega),by dsimp only;omega⟩
  rw [cD h];right
  have e1:=yF i h
  exact ⟨_,rfl,i2,w7 hu huy h1 h1' i2 e1,e1,i.up⟩
 have:=(qK hu huy h1 h1' hy hy' hz hz').q1
 exact ip (by dsimp only;omega)
end
theorem BU {a v:Int} {k n:Nat} (h:v=a / 2 ^ k) (hn:1≤n) (l:2 ^ (n - 1)≤v) (g:v<2 ^ n):2 ^ (k+n - 1)≤a∧a<2 ^ (k+n):=by
 have hp:(0:Int)<2 ^ k:=Int.pow_pos (by omega)
 have e1:=Int.ediv_mul_le a (Int.ne_of_gt hp)
 have e2:=Int.lt_ediv_add_one_mul_self a hp
 rw [← h] at e1 e2
 constructor
 ·rw [show k+n - 1=(n - 1)+k by omega,Int.pow_add]
  exact Int.le_trans (Int.mul_le_mul_of_nonneg_right l (Int.le_of_lt hp)) e1
 rw [show k+n=n+k by omega,Int.pow_add]
 exact Int.lt_of_lt_of_le e2 (Int.mul_le_mul_of_nonneg_right (by omega) (Int.le_of_lt hp))
def zO:ByteArray:=⟨#[0,1,2,2,3,3,3,3,4,4,4,4,4,4,4,4,5,5,5,5,5,5,5,5,5,5,5,5,5,5,5,5,6,6,6,6,6,6,6,6,6,6,6,6,6,6,6,6,6,6,6,6,6,6,6,6,6,6,6,6,6,6,6,6,7,7,7,7,7,7,7,7,7,7,7,7,7,7,7,7,7,7,7,7,7,7,7,7,7,7,7,7,7,7,7,7,7,7,7,7,7,7,7,7,7,7,7,7,7,7,7,7,7,7,7,7,7,7,7,7,7,7,7,7,7,7,7,7,8,8,8,8,8,8,8,8,8,8,8,8,8,8,8,8,8,8,8,8,8,8,8,8,8,8,8,8,8,8,8,8,8,8,8,8,8,8,8,8,8,8,8,8,8,8,8,8,8,8,8,8,8,8,8,8,8,8,8,8,8,8,8,8,8,8,8,8,8,8,8,8,8,8,8,8,8,8,8,8,8,8,8,8,8,8,8,8,8,8,8,8,8,8,8,8,8,8,8,8,8,8,8,8,8,8,8,8,8,8,8,8,8,8,8,8,8,8,8,8,8,8,8,8,8,8,8,8]⟩
theorem zP:∀ v:Fin 256,(match idx zO.data.toList (v.val:Int) with | some c=>decide (1≤v.val→1≤c.toNat∧2 ^ (c.toNat - 1)≤v.val)&&decide (v.val<2 ^ c.toNat)&&decide (c.toNat≤8) | none=>false)=true:=by decide
theorem BV {v:Int} (h0:0≤v) (h1:v<256):∃ c,idx zO.data.toList v=some c∧(1≤v→1≤c.toNat∧2 ^ (c.toNat - 1)≤v)∧v<2 ^ c.toNat∧c.toNat≤8:=by
 obtain ⟨k,rfl⟩:∃ k:Nat,v=(k:Int):=⟨v.toNat,by omega⟩
 have:=zP ⟨k,by omega⟩
 split at this
 ·rename_i c hc
  simp only [Bool.and_eq_true,decide_eq_true_eq] at this
  obtain ⟨⟨a,b⟩,d⟩:=this
  refine ⟨c,hc,fun h=>⟨(a (by omega)).1,?_⟩,?_,d⟩
  ·have:=(a (by omega)).2;exact_mod_cast this
  exact_mod_cast b
 cases this
theorem len64 {a:Int} (ha:U64 a) (h1:1≤a):∃ n:Nat,eQ a=some (n:Int)∧1≤n∧n≤64∧2 ^ (n - 1)≤a∧a<2 ^ n:=by
 have key:∃ (k:Nat) (v:Int),k≤56∧v=a / 2 ^ k∧1≤v∧v<256∧eQ a=Option.bind (idx zO.data.toList (IntKind.u8.wrap v)) (fun c13=>lb ((IntKind.i64.wrap ((k:Int)+(IntKind.i64.wrap (c13.toNat:Int))))) (fun w14=>some w14)):=by
  unfold U64 at ha
  have s32:∀ x:Int,cV .u64 x 32=x / 4294967296:=fun x=>nw (by decide)
  have s16:∀ x:Int,cV .u64 x 16=x / 65536:=fun x=>nw (by decide)
  have s8:∀ x:Int,cV .u64 x 8=x / 256:=fun x=>nw (by decide)
  unfold eQ
  simp only [s32,s16,s8]
  by_cases c1:4294967296≤a
  ·rw [det c1]
   simp only [dG,dn]
   by_cases c2:65536≤a / 4294967296
   ·rw [det c2]
    simp only [dG,dn]
    by_cases c3:256≤a / 4294967296 / 65536
    ·rw [det c3]
     exact ⟨56,a / 4294967296 / 65536 / 256,by omega,by simp only [Int.reducePow];omega,by omega,by omega,rfl⟩
    rw [cD c3]
    exact ⟨48,a / 4294967296 / 65536,by omega,by simp only [Int.reducePow];omega,by omega,by omega,rfl⟩
   rw [cD c2]
   simp only [eu,dn]
   by_cases c3:256≤a / 4294967296
   ·rw [det c3]
    exact ⟨40,a / 4294967296 / 256,by omega,by simp only [Int.reducePow];omega,by omega,by omega,rfl⟩
   rw [cD c3]
   exact ⟨32,a / 4294967296,by omega,by simp only [Int.reducePow],by omega,by omega,rfl⟩
  rw [cD c1]
  simp only [eu,dn]
  by_cases c2:65536≤a
  ·rw [det c2]
   simp only [dG,dn]
   by_cases c3:256≤a / 65536
   ·rw [det c3]
    exact ⟨24,a / 65536 / 256,by omega,by simp only [Int.reducePow];omega,by omega,by omega,rfl⟩
   rw [cD c3]
   exact ⟨16,a / 65536,by omega,by simp only [Int.reducePow],by omega,by omega,rfl⟩
  rw [cD c2]
  simp only [eu,dn]
  by_cases c3:256≤a
  ·rw [det c3]
   exact ⟨8,a / 256,by omega,by simp only [Int.reducePow],by omega,by omega,rfl⟩
  rw [cD c3]
  exact ⟨0,a,by omega,by simp,by omega,by omega,rfl⟩
 obtain ⟨k,v,k1,k2,k3,k4,k5⟩:=key
 obtain ⟨c,c1,c2,c3,c4⟩:=BV (v:=v) (by omega) k4
 obtain ⟨c5,c6⟩:=c2 k3
 obtain ⟨l1,l2⟩:=BU k2 c5 c6 c3
 rw [k5,wm (by omega),bS c1]
 unfold lb
 rw [cj (r:=(c.toNat:Int)) (by omega) (by omega),cj (by omega) (by omega)]
 exact ⟨k+c.toNat,by simp,by omega,by omega,l1,l2⟩
theorem lz64 {a:Int} (ha:U64 a) (h1:1≤a):∃ s:Nat,dL a=some (s:Int)∧s≤63∧9223372036854775808≤a*2 ^ s∧a*2 ^ s<18446744073709551616:=by
 obtain ⟨n,e1,e2,e3,e4,e5⟩:=len64 ha h1
 unfold dL
 rw [bS e1,cj (by omega) (by omega)]
 refine ⟨64 - n,by congr 1;omega,by omega,?_,?_⟩
 ·have:=Int.mul_le_mul_of_nonneg_right e4 (Int.le_of_lt (show (0:Int)<2 ^ (64 - n) from Int.pow_pos (by decide)))
  rw [← Int.pow_add,show n - 1+(64 - n)=63 by omega] at this
  exact this
 have:=Int.mul_lt_mul_of_pos_right e5 (show (0:Int)<2 ^ (64 - n) from Int.pow_pos (by decide))
 rw [← Int.pow_add,show n+(64 - n)=64 by omega] at this
 exact this
theorem zQ {b:Int} (h:0≤b):oO b=some ():=by unfold oO;rw [if_pos h]
theorem zR {a:Int} {s:Nat} (h:s≤64):eX .u64 a (s:Int)=IntKind.u64.wrap (a*2 ^ s):=by
 have e:eX .u64 a (s:Int)=IntKind.u64.wrap (a*2 ^ min (s:Int).toNat 64):=rfl
 rw [e,Int.toNat_natCast,Nat.min_eq_left h]
theorem ior_sh {h b:Int} {s:Nat} (hh:0≤h) (hb:0≤b) (hb2:b<2 ^ s) (h1:U64 (h*2 ^ s)) (h2:U64 b):oN .u64 (h*2 ^ s) b=h*2 ^ s+b:=by
 rw [DR h1 h2]
 obtain ⟨x,rfl⟩:∃ k:Nat,h=(k:Int):=⟨h.toNat,by omega⟩
 obtain ⟨z,rfl⟩:∃ k:Nat,b=(k:Int):=⟨b.toNat,by omega⟩
 have e:((x:Int)*2 ^ s)=((2 ^ s*x:Nat):Int):=by push_cast;exact Int.mul_comm _ _
 have hz:z<2 ^ s:=by exact_mod_cast hb2
 rw [e,Int.toNat_natCast,Int.toNat_natCast,← Nat.two_pow_add_eq_or_of_lt hz]
 rfl
theorem dm_of {n q r y:Int} (e:n=q*y+r) (h0:0≤r) (h1:r<y):n / y=q∧n % y=r:=by
 have gd:n / y=q:=by
  rw [e,Int.add_comm,Int.add_mul_ediv_right _ _ (by omega),Int.ediv_eq_zero_of_lt h0 h1,Int.zero_add]
 refine ⟨gd,?_⟩
 have:=Int.emod_add_mul_ediv n y
 rw [gd,Int.mul_comm] at this
 omega
theorem div64 {hi lo y:Int} (h1:U64 hi) (h2:U64 lo) (h3:U64 y) (h4:hi<y):fI hi lo y=some ((hi*18446744073709551616+lo) / y,(hi*18446744073709551616+lo) % y):=by
 have hi0:=h1.1
 have hlo:=h2.1
 have hy1:1≤y:=by omega
 unfold fI
 have cy:(y == 0)=false:=by simp;omega
 rw [cy,cD (show ¬ y≤hi by omega)]
 simp only [eu]
 by_cases hz:hi=0
 ·subst hz
  have:((0:Int) == 0)=true:=rfl
  rw [this]
  simp only [dG]
  rw [bS (AJ (show y≠0 by omega)),bS (AJ (show y≠0 by omega)),Int.tdiv_eq_ediv_of_nonneg hlo,Int.tmod_eq_emod_of_nonneg hlo]
  have:lo / y≤lo:=Int.ediv_le_self _ hlo
  rw [dD ⟨Int.ediv_nonneg hlo (by omega),by have:=h2.2;omega⟩]
  simp
 have cz:(hi == 0)=false:=by simp;exact hz
 rw [cz]
 simp only [eu]
 obtain ⟨s,e1,e2,e3,e4⟩:=lz64 h3 hy1
 have hP:(0:Int)<2 ^ s:=Int.pow_pos (by omega)
 have hM:(0:Int)<2 ^ (64 - s):=Int.pow_pos (by omega)
 have hPM:(2:Int) ^ s*2 ^ (64 - s)=18446744073709551616:=by rw [← Int.pow_add,show s+(64 - s)=64 by omega];rfl
 have hhP:hi*2 ^ s<y*2 ^ s:=Int.mul_lt_mul_of_pos_right h4 hP
 have hhP0:0≤hi*2 ^ s:=Int.mul_nonneg hi0 (by omega)
 have hqd0:0≤lo / 2 ^ (64 - s):=Int.ediv_nonneg hlo (by omega)
 have hqd1:lo / 2 ^ (64 - s)<2 ^ s:=by
  apply Int.ediv_lt_of_lt_mul hM
  rw [hPM];exact h2.2
 have hPle:(2:Int) ^ s≤18446744073709551616:=by rw [← hPM];have:=Int.mul_le_mul_of_nonneg_left (show (1:Int)≤2 ^ (64 - s) by omega) (Int.le_of_lt hP);omega
 have f1:IntKind.u64.wrap (s:Int)=(s:Int):=dD ⟨by omega,by omega⟩
 have f2:IntKind.u64.wrap (64 - (s:Int))=((64 - s:Nat):Int):=by rw [dD ⟨by omega,by omega⟩];omega
 have f3:eX .u64 y (s:Int)=y*2 ^ s:=by rw [zR (by omega),dD ⟨by omega,e4⟩]
 have f4:eX .u64 hi (s:Int)=hi*2 ^ s:=by rw [zR (by omega),dD ⟨hhP0,by omega⟩]
 have f5:cV .u64 lo ((64 - s:Nat):Int)=lo / 2 ^ (64 - s):=by rw [nw (by omega),Int.toNat_natCast]
 have f6:eX .u64 lo (s:Int)=(lo*2 ^ s) % 18446744073709551616:=by rw [zR (by omega),wu]
 have f7:oN .u64 (hi*2 ^ s) (lo / 2 ^ (64 - s))=hi*2 ^ s+lo / 2 ^ (64 - s):=ior_sh hi0 hqd0 hqd1 ⟨hhP0,by omega⟩ ⟨hqd0,by omega⟩
 rw [bS e1]
 simp only [lb,f1,f2,f3,f4,f5,f6,f7,zQ (Int.natCast_nonneg s),zQ (Int.natCast_nonneg (64 - s)),dn,AX]
 have hN:(hi*18446744073709551616+lo)*2 ^ s=(hi*2 ^ s+lo / 2 ^ (64 - s))*18446744073709551616+(lo*2 ^ s) % 18446744073709551616:=by
  have g1:=Int.emod_add_mul_ediv lo (2 ^ (64 - s))
  have g2:lo*2 ^ s=lo % 2 ^ (64 - s)*2 ^ s+18446744073709551616*(lo / 2 ^ (64 - s)):=by
   have:=congrArg (· * (2:Int) ^ s) g1
   simp only [Int.add_mul] at this
   rw [← this,← hPM]
   rw [Int.mul_assoc,Int.mul_comm (lo / 2 ^ (64 - s)),← Int.mul_assoc,Int.mul_comm (2 ^ (64 - s)),Int.mul_assoc]
  have g3:0≤lo % 2 ^ (64 - s)*2 ^ s:=Int.mul_nonneg (Int.emod_nonneg _ (by omega)) (by omega)
  have g4:lo % 2 ^ (64 - s)*2 ^ s<18446744073709551616:=by
   rw [← hPM,Int.mul_comm (2 ^ s)]
   exact Int.mul_lt_mul_of_pos_right (Int.emod_lt_of_pos _ hM) hP
  rw [Int.add_mul,Int.mul_right_comm hi]
  generalize lo % 2 ^ (64 - s)*2 ^ s=A at *
  generalize lo / 2 ^ (64 - s)=B at *
  generalize lo*2 ^ s=C at *
  generalize hi*2 ^ s=D at *
  omega
 have hu0:0≤hi*2 ^ s+lo / 2 ^ (64 - s):=by omega
 have huy:hi*2 ^ s+lo / 2 ^ (64 - s)<y*2 ^ s:=by
  have:(hi+1)*2 ^ s≤y*2 ^ s:=Int.mul_le_mul_of_nonneg_right (by omega) (by omega)
  rw [Int.add_mul] at this;omega
 have hU0:0≤(lo*2 ^ s) % 18446744073709551616:=by omega
 have hU1:(lo*2 ^ s) % 18446744073709551616<18446744073709551616:=by omega
 have hfin:∀ q R:Int,(hi*18446744073709551616+lo)*2 ^ s=q*(y*2 ^ s)+R→0≤R→R<y*2 ^ s→(hi*18446744073709551616+lo) / y=q∧(hi*18446744073709551616+lo) % y=R / 2 ^ s:=by
  intro q R hq hR0 hR1
  have hr:R=(hi*18446744073709551616+lo - q*y)*2 ^ s:=by rw [Int.sub_mul,Int.mul_assoc q];omega
  have hd:R / 2 ^ s=hi*18446744073709551616+lo - q*y:=by rw [hr];exact Int.mul_ediv_cancel _ (by omega)
  rw [hd]
  generalize hi*18446744073709551616+lo=n at *
  have:0≤n - q*y:=by
   by_cases hc:0≤n - q*y
   ·exact hc
   have:=Int.mul_le_mul_of_nonneg_right (show n - q*y ≤ -1 by omega) (Int.le_of_lt hP);omega
  have:n - q*y<y:=by
   apply Int.lt_of_mul_lt_mul_right (a:=2 ^ s) _ (by omega)
   omega
  exact dm_of (by omega) (by assumption) (by assumption)
 generalize (hi*18446744073709551616+lo)*2 ^ s=NP at *
 generalize hYe:y*2 ^ s=Y at *
 generalize hi*2 ^ s+lo / 2 ^ (64 - s)=u at *
 generalize (lo*2 ^ s) % 18446744073709551616=U at *
 rw [oh (a:=Y) ⟨by omega,e4⟩,oh (a:=U) ⟨hU0,hU1⟩]
 have k1:Y / 4294967296*4294967296+Y % 4294967296=Y:=by omega
 have k2:2147483648≤Y / 4294967296:=by omega
 have k3:Y / 4294967296<4294967296:=by omega
 have k4:0≤Y % 4294967296:=by omega
 have k5:Y % 4294967296<4294967296:=by omega
 have k6:0≤U / 4294967296:=by omega
 have k7:U / 4294967296<4294967296:=by omega
 have k8:0≤U % 4294967296:=by omega
 have k9:U % 4294967296<4294967296:=by omega
 have k10:U=U / 4294967296*4294967296+U % 4294967296:=by omega
 generalize U / 4294967296=u1 at *
 generalize U % 4294967296=u0 at *
 generalize Y / 4294967296=y1 at *
 generalize Y % 4294967296=y0 at *
 have dv:∀ v:Int,0≤v→v<Y→IntKind.u64.wrap (Int.tdiv v y1)=v / y1∧IntKind.u64.wrap (v - IntKind.u64.wrap (v / y1*y1))=v % y1:=by
  intro v v0 v1
  have:=Int.ediv_le_self y1 v0
  have q0:=Int.ediv_nonneg v0 (show 0≤y1 by omega)
  have m0:=Int.emod_nonneg v (show y1≠0 by omega)
  have m1:=Int.emod_lt_of_pos v (show 0<y1 by omega)
  have e:=Int.emod_add_mul_ediv v y1
  rw [Int.mul_comm] at e
  rw [Int.tdiv_eq_ediv_of_nonneg v0,dD (a:=v / y1) ⟨q0,by omega⟩]
  refine ⟨rfl,?_⟩
  have:0≤v / y1*y1:=Int.mul_nonneg q0 (by omega)
  rw [dD (a:=v / y1*y1) ⟨this,by omega⟩,dD ⟨by omega,by omega⟩]
  omega
 have hnz:nz y1=some ():=AJ (by omega)
 obtain ⟨d1,d2⟩:=dv u hu0 huy
 simp only [hnz,d1,d2,dn]
 obtain ⟨q1,l1,l2,l3,l4,l5⟩:=DT (u:=u) (u1:=u1) (y1:=y1) (y0:=y0) hu0 (by omega) k6 k7 k2 k3 k4 k5
 rw [k1] at l4 l5
 rw [bS l1]
 have w25:IntKind.u64.wrap (IntKind.u64.wrap (IntKind.u64.wrap (u*4294967296)+u1) - IntKind.u64.wrap (q1*Y))=u*4294967296+u1 - q1*Y:=by
  simp only [wu]
  generalize q1*Y=z at *
  omega
 simp only [w25]
 have v0:0≤u*4294967296+u1 - q1*Y:=by omega
 have v1:u*4294967296+u1 - q1*Y<Y:=by omega
 have hv:u*4294967296+u1=q1*Y+(u*4294967296+u1 - q1*Y):=by omega
 generalize u*4294967296+u1 - q1*Y=v at *
 obtain ⟨d3,d4⟩:=dv v v0 v1
 simp only [d3,d4]
 obtain ⟨q0,m1,m2,m3,m4,m5⟩:=DU (u:=v) (u1:=u0) (y1:=y1) (y0:=y0) v0 (by omega) k8 k9 k2 k3 k4 k5
 rw [k1] at m4 m5
 rw [bS m1]
 have w36:IntKind.u64.wrap (IntKind.u64.wrap (q1*4294967296)+q0)=q1*4294967296+q0:=by simp only [wu];omega
 have w37:IntKind.u64.wrap (IntKind.u64.wrap (IntKind.u64.wrap (v*4294967296)+u0) - IntKind.u64.wrap (q0*Y))=v*4294967296+u0 - q0*Y:=by
  simp only [wu]
  generalize q0*Y=z at *
  omega
 rw [w36,w37,nw (by omega),Int.toNat_natCast]
 obtain ⟨g1,g2⟩:=hfin (q1*4294967296+q0) (v*4294967296+u0 - q0*Y) (by
  rw [hN,k10,Int.add_mul,Int.mul_right_comm]
  generalize q1*Y=z at *
  generalize q0*Y=z0 at *
  omega) (by omega) (by omega)
 rw [g1,g2]
def xv (w:Zi):Int:=w.Hi*18446744073709551616+w.Lo
def XW (w:Zi):Prop:=U64 w.Hi∧U64 w.Lo
theorem rH {a b:Int} (ha:U64 a) (hb:U64 b):∃ w,iD a b=some w∧XW w∧xv w=a*b:=by
 obtain ⟨h,l,e1,e2,e3,e4⟩:=mul64 ha hb
 unfold iD;rw [bS e1]
 exact ⟨_,rfl,⟨e2,e3⟩,e4⟩
theorem qL {a b c:Int} (ha:U64 a) (hb:U64 b) (hc:U64 c) (h1:1≤c):jP a b c=some (a*b % c):=by
 unfold jP
 have cc:(c == 0)=false:=by simp;omega
 rw [cc];simp only [eu]
 obtain ⟨w,e1,e2,e3⟩:=rH ha hb
 rw [bS e1]
 unfold jb
 have hm0:0≤w.Hi % c:=Int.emod_nonneg _ (by omega)
 have hm1:w.Hi % c<c:=Int.emod_lt_of_pos _ (by omega)
 rw [bS (AJ (show c≠0 by omega)),Int.tmod_eq_emod_of_nonneg e2.1.1,bS (div64 ⟨hm0,by have:=hc.2;omega⟩ e2.2 hc hm1)]
 simp only [dn]
 congr 1
 rw [← e3,xv,Int.add_emod,Int.mul_emod,Int.emod_emod,← Int.mul_emod,← Int.add_emod]
def xo (n c m:Int):Int:=if m=2∧c≤2*(n % c) then n / c+1 else n / c
theorem vM {w:Zi} {c m:Int} (hw:XW w) (hc:U64 c) (h1:1≤c) (hm:m=0∨m=2):kn w c m=some (if xo (xv w) c m<18446744073709551616 then (xo (xv w) c m,0) else (0,3)):=by
 unfold kn
 have hc0:((((c == 0)||(decide (m<0)))||(decide (3<m))):Bool)=false:=by
  rcases hm with rfl | rfl <;> simp <;> omega
 rw [hc0];simp only [eu]
 have hn0:0≤xv w:=by unfold xv;have:=hw.1.1;have:=hw.2.1;omega
 have hr0:0≤xv w % c:=Int.emod_nonneg _ (by omega)
 have hr1:xv w % c<c:=Int.emod_lt_of_pos _ (by omega)
 have hle:xv w / c≤xo (xv w) c m:=by unfold xo;split <;> omega
 by_cases h:c≤w.Hi
 ·rw [det h]
  have:18446744073709551616≤xv w / c:=by
   apply Int.le_ediv_of_mul_le (by omega)
   have:=Int.mul_le_mul_of_nonneg_left h (show (0:Int)≤18446744073709551616 by omega)
   unfold xv;have:=hw.2.1;omega
  rw [if_neg (by omega)];rfl
 rw [cD h]
 simp only [eu]
 have e:=div64 hw.1 hw.2 hc (by omega)
 rw [show w.Hi*18446744073709551616+w.Lo=xv w from rfl] at e
 rw [bS e]
 have hq:xv w / c<18446744073709551616:=by
  apply Int.ediv_lt_of_lt_mul (by omega)
  have:=Int.mul_le_mul_of_nonneg_right (show w.Hi+1≤c by omega) (show (0:Int)≤18446744073709551616 by omega)
  unfold xv;have:=hw.2.2;rw [Int.mul_comm 18446744073709551616];omega
 have hq0:0≤xv w / c:=Int.ediv_nonneg hn0 (by omega)
 dsimp only
 have er:jN (xv w / c) (xv w % c) c m=some (decide (m=2∧c≤2*(xv w % c))):=by
  unfold jN
  rw [dD (a:=c - xv w % c) ⟨by omega,by have:=hc.2;omega⟩]
  rcases hm with rfl | rfl
  ·simp
  simp;omega
 rw [bS er]
 unfold xo
 by_cases hu:m=2∧c≤2*(xv w % c)
 ·rw [det hu,if_pos hu]
  simp only [Bool.not_true,eu]
  by_cases hx:xv w / c=18446744073709551615
  ·rw [hx];rfl
  have:(xv w / c == 18446744073709551615)=false:=by simp;exact hx
  rw [this,if_pos (by omega),dD ⟨by omega,by omega⟩];rfl
 rw [cD hu,if_neg hu,if_pos hq];rfl
theorem ref_div {w:Zf} {c m:Int} (hw:RW w) (hc:U64 c) (h1:1≤c) (hm:m=0∨m=2):lz w c m=some (if xo (rv w) c m<18446744073709551616 then (xo (rv w) c m,0) else (0,3)):=by
 unfold lz
 have hc0:((((c == 0)||(decide (m<0)))||(decide (3<m))):Bool)=false:=by
  rcases hm with rfl | rfl <;> simp <;> omega
 rw [hc0];simp only [eu]
 have hn0:0≤rv w:=by unfold rv;have:=hw.1.1;have:=hw.2.1;omega
 have hn1:rv w<340282366920938463463374607431768211456:=by unfold rv;have:=hw.1.2;have:=hw.2.2;omega
 have hr0:0≤rv w % c:=Int.emod_nonneg _ (by omega)
 have hr1:rv w % c<c:=Int.emod_lt_of_pos _ (by omega)
 obtain ⟨q,r,e1,e2,e3,e4⟩:=ux hw hc h1
 rw [bS e1]
 dsimp only
 have er:(cond (m == 1) (some (decide (0<r))) (cond (m == 2) (some (decide ((IntKind.u64.wrap (c - r))≤r))) (cond (m == 3) (some ((decide ((IntKind.u64.wrap (c - r))<r))||((r == (IntKind.u64.wrap (c - r)))&&((ez .u64 q.Lo 1) == 1)))) (some false))))=some (decide (m=2∧c≤2*(rv w % c))):=by
  rw [e4,dD (a:=c - rv w % c) ⟨by omega,by have:=hc.2;omega⟩]
  rcases hm with rfl | rfl
  ·simp
  simp;omega
 rw [bS er]
 have hq0:0≤rv w / c:=Int.ediv_nonneg hn0 (by omega)
 unfold xo
 have hfin:∀ z:Zf,RW z→(cond (decide (0<z.Hi)) (some ((0:Int),(3:Int))) (some (z.Lo,0)))=some (if rv z<18446744073709551616 then (rv z,0) else (0,3)):=by
  intro z hz
  obtain ⟨⟨a1,a2⟩,⟨a3,a4⟩⟩:=hz
  by_cases h:0<z.Hi
  ·rw [det h,if_neg (by unfold rv;omega)];rfl
  have:rv z=z.Lo:=by unfold rv;omega
  rw [cD h,this,if_pos a4];rfl
 by_cases hu:m=2∧c≤2*(rv w % c)
 ·rw [det hu,if_pos hu]
  obtain ⟨z,b,f1,f2,f3⟩:=qJ (p:=q) (q:=⟨0,1⟩) e2 ⟨⟨by simp,by simp⟩,⟨by simp,by simp⟩⟩
  have hone:rv ⟨0,1⟩=1:=rfl
  have:rv w / c≤rv w:=Int.ediv_le_self _ hn0
  have hc2:2≤c:=by omega
  have t1:=Int.ediv_mul_le (rv w) (show c≠0 by omega)
  have t2:=Int.mul_le_mul_of_nonneg_left hc2 hq0
  rw [hone,e3] at f3
  have f3:=f3 (by omega)
  simp only [dG]
  rw [bS f1]
  simp only [dn]
  rw [hfin z f2,f3]
 rw [cD hu,if_neg hu]
 simp only [eu,dn]
 rw [hfin q e2,e3]
def W:Int:=18446744073709551616
def xw (n:Int):Zi:=⟨n / 18446744073709551616,n % 18446744073709551616⟩
def rw' (n:Int):Zf:=⟨n / 18446744073709551616,n % 18446744073709551616⟩
def U128 (n:Int):Prop:=0≤n∧n<340282366920938463463374607431768211456
theorem xw_ok {n:Int} (h:U128 n):XW (xw n)∧xv (xw n)=n:=by unfold U128 at h;unfold XW xv xw U64;dsimp only;omega
theorem A3 {n:Int} (h:U128 n):RW (rw' n)∧rv (rw' n)=n:=by unfold U128 at h;unfold RW rv rw' U64;dsimp only;omega
theorem xw_of {w:Zi} (h:XW w):w=xw (xv w)∧U128 (xv w):=by
 obtain ⟨a,b⟩:=w
 unfold XW U64 at h;unfold xw xv U128;dsimp only at *
 refine ⟨?_,by omega⟩
 congr 1 <;> omega
theorem rw_of {w:Zf} (h:RW w):w=rw' (rv w)∧U128 (rv w):=by
 obtain ⟨a,b⟩:=w
 unfold RW U64 at h;unfold rw' rv U128;dsimp only at *
 refine ⟨?_,by omega⟩
 congr 1 <;> omega
theorem xmul {a b:Int} (ha:U64 a) (hb:U64 b):iD a b=some (xw (a*b)):=by
 obtain ⟨w,e1,e2,e3⟩:=rH ha hb
 rw [e1,← e3];exact congrArg some (xw_of e2).1
theorem rmul {a b:Int} (ha:U64 a) (hb:U64 b):iH a b=some (rw' (a*b)):=by
 obtain ⟨w,e1,e2,e3⟩:=AY ha hb
 rw [e1,← e3];exact congrArg some (rw_of e2).1
theorem xadd {a b:Int} (ha:U128 a) (hb:U128 b) (h:U128 (a+b)):mV (xw a) (xw b)=some (xw (a+b),0):=by
 unfold U128 at *
 unfold mV gN xw
 dsimp only
 rw [if_pos (by omega)]
 simp only [dn]
 rw [if_pos (by omega)]
 simp only [dn]
 have:((a / 18446744073709551616+b / 18446744073709551616+(a % 18446744073709551616+b % 18446744073709551616+0) / 18446744073709551616) / 18446744073709551616 != 0)=false:=by simp;omega
 rw [this]
 simp only [eu]
 congr 3 <;> omega
theorem radd {a b:Int} (ha:U128 a) (hb:U128 b) (h:U128 (a+b)):∃ o,fg (rw' a) (rw' b)=some (rw' (a+b),o):=by
 obtain ⟨a1,a2⟩:=A3 ha
 obtain ⟨b1,b2⟩:=A3 hb
 obtain ⟨w,o,e1,e2,e3⟩:=qJ a1 b1
 rw [a2,b2] at e3
 have e3:=e3 h.2
 rw [e1,← e3,← (rw_of e2).1];exact ⟨_,rfl⟩
theorem xcmp {a b:Int} (ha:U128 a) (hb:U128 b):dm (xw a) (xw b)=some (if a<b then -1 else if a=b then 0 else 1):=by
 unfold U128 at *
 unfold dm xw Zi.eqb
 dsimp only
 by_cases h:a<b
 ·have:((decide (a / 18446744073709551616<b / 18446744073709551616))||((a / 18446744073709551616 == b / 18446744073709551616)&&(decide (a % 18446744073709551616<b % 18446744073709551616))))=true:=by
   simp only [Bool.or_eq_true,Bool.and_eq_true,decide_eq_true_eq,beq_iff_eq];omega
  rw [this,if_pos h];rfl
 ·have:((decide (a / 18446744073709551616<b / 18446744073709551616))||((a / 18446744073709551616 == b / 18446744073709551616)&&(decide (a % 18446744073709551616<b % 18446744073709551616))))=false:=by
   simp only [Bool.or_eq_false_iff,Bool.and_eq_false_iff,decide_eq_false_iff_not,beq_eq_false_iff_ne];omega
  rw [this,if_neg h]
  simp only [eu]
  by_cases h2:a=b
  ·subst h2;simp
  rw [if_neg h2]
  have:((a / 18446744073709551616 == b / 18446744073709551616)&&(a % 18446744073709551616 == b % 18446744073709551616))=false:=by
   simp only [Bool.and_eq_false_iff,beq_eq_false_iff_ne];omega
  simp [this]
theorem rless {a b:Int} (ha:U128 a) (hb:U128 b):gH (rw' a) (rw' b)=some (decide (a<b)):=by
 unfold U128 at *
 unfold gH rw'
 dsimp only
 congr 1
 by_cases h:a<b
 ·rw [det h];simp only [Bool.or_eq_true,Bool.and_eq_true,decide_eq_true_eq,beq_iff_eq];omega
 rw [cD h];simp only [Bool.or_eq_false_iff,Bool.and_eq_false_iff,decide_eq_false_iff_not,beq_eq_false_iff_ne];omega
theorem xdiv {n c:Int} (h:U128 n) (hc:U64 c) (h1:1≤c):kn (xw n) c 2=some (if xo n c 2<18446744073709551616 then (xo n c 2,0) else (0,3)):=by
 have:=vM (xw_ok h).1 hc h1 (.inr rfl);rw [(xw_ok h).2] at this;exact this
theorem rdiv {n c:Int} (h:U128 n) (hc:U64 c) (h1:1≤c):lz (rw' n) c 2=some (if xo n c 2<18446744073709551616 then (xo n c 2,0) else (0,3)):=by
 have:=ref_div (A3 h).1 hc h1 (.inr rfl);rw [(A3 h).2] at this;exact this
structure DutyOK (d:Zm):Prop where
 r0:0≤d.Rate
 r1:d.Rate≤10000000
 a0:0≤d.Amount
 a1:d.Amount≤100000000
 p0:0≤d.Per
 p1:d.Per≤1000000
 m0:0≤d.Most
 m1:d.Most≤10000000
 l0:0≤d.Least
 l1:d.Least≤10000000
theorem nA (d:Zm):∃ e,cT d=some e∧(e=0→DutyOK d)∧(e=0∨e=1∨e=2):=by
 unfold cT
 by_cases h1:((((decide (d.Rate<0))||(decide (10000000<d.Rate)))||(decide (d.Amount<0)))||(decide (100000000<d.Amount)))=true
 ·rw [h1];exact ⟨_,rfl,by simp,by simp⟩
 rw [Bool.eq_false_iff.2 h1]
 by_cases h2:(((decide (0<d.Amount))&&((decide (d.Per<1))||(decide (1000000<d.Per))))||((d.Amount == 0)&&(d.Per != 0)))=true
 ·rw [h2];exact ⟨_,rfl,by simp,by simp⟩
 rw [Bool.eq_false_iff.2 h2]
 by_cases h3:((((decide (d.Most<0))||(decide (10000000<d.Most)))||(decide (d.Least<0)))||(decide (10000000<d.Least)))=true
 ·rw [h3];exact ⟨_,rfl,by simp,by simp⟩
 rw [Bool.eq_false_iff.2 h3]
 simp at h1 h2 h3
 have ok:DutyOK d:=by constructor <;> omega
 simp only [eu]
 cases h4:(((d.Most != 0)&&(!d.HasMost))||((d.Least != 0)&&(!d.HasLeast)))
 ·cases h5:((d.HasMost&&d.HasLeast)&&(decide (d.Most<d.Least)))
  ·exact ⟨_,rfl,fun _=>ok,by simp⟩
  exact ⟨_,rfl,by simp,by simp⟩
 exact ⟨_,rfl,by simp,by simp⟩
theorem A4 (d:Zm):ko d=cT d:=by
 unfold ko cT iX gd
 have t1:((decide (0≤d.Rate))&&(decide (d.Rate≤10000000))) = !((decide (d.Rate<0))||(decide (10000000<d.Rate))):=by
  rw [Bool.not_or,← decide_not,← decide_not];simp
 have t2:((decide (0≤d.Amount))&&(decide (d.Amount≤100000000))) = !((decide (d.Amount<0))||(decide (100000000<d.Amount))):=by
  rw [Bool.not_or,← decide_not,← decide_not];simp
 have t3:((decide (0≤d.Most))&&(decide (d.Most≤10000000))) = !((decide (d.Most<0))||(decide (10000000<d.Most))):=by
  rw [Bool.not_or,← decide_not,← decide_not];simp
 have t4:((decide (0≤d.Least))&&(decide (d.Least≤10000000))) = !((decide (d.Least<0))||(decide (10000000<d.Least))):=by
  rw [Bool.not_or,← decide_not,← decide_not];simp
 rw [t1,t2,t3,t4,Bool.or_assoc ((decide (d.Rate<0))||(decide (10000000<d.Rate))),Bool.or_assoc ((decide (d.Most<0))||(decide (10000000<d.Most)))]
 generalize ((decide (d.Rate<0))||(decide (10000000<d.Rate)))=a
 generalize ((decide (d.Amount<0))||(decide (100000000<d.Amount)))=b
 generalize ((decide (d.Most<0))||(decide (10000000<d.Most)))=c
 generalize ((decide (d.Least<0))||(decide (10000000<d.Least)))=e
 generalize ((decide (0<d.Amount))&&((decide (d.Per<1))||(decide (1000000<d.Per))))=f
 generalize ((d.Amount == 0)&&(d.Per != 0))=g
 generalize (((d.Most != 0)&&(!d.HasMost))||((d.Least != 0)&&(!d.HasLeast)))=i
 generalize ((d.HasMost&&d.HasLeast)&&(decide (d.Most<d.Least)))=j
 cases a <;> cases b <;> cases c <;> cases e <;> cases f <;> cases g <;> cases i <;> cases j <;> rfl
def pj (d:Zm) (v q:Int):Int :=
 let p:=dN d.Per 1
 let s:=d.Rate*v*p+d.Amount*q*1000000
 let s:=if d.HasMost=true∧d.Most*v*p<s then d.Most*v*p else s
 if d.HasLeast=true∧s<d.Least*v*p then d.Least*v*p else s
def nB (d:Zm) (v q:Int):Int×Int:=if xo (pj d v q) (1000000*dN d.Per 1) 2≤1000000000000 then (xo (pj d v q) (1000000*dN d.Per 1) 2,0) else (0,3)
theorem xstepM {β:Type} {b:Bool} {s m:Int} {k:Int×Int→Option β} (hs:U128 s) (hm:U128 m):Option.bind (gd b (some (xw m))) (fun x12=>Option.bind (gd b (dm (xw s) x12)) (fun x13=>Option.bind (cond (b&&(decide (0<x13))) (Option.bind (some (xw m)) (fun x18=>some (x18.Hi,x18.Lo))) (some ((xw s).Hi,(xw s).Lo))) k))=k ((xw (if b=true∧m<s then m else s)).Hi,(xw (if b=true∧m<s then m else s)).Lo):=by
 cases b
 ·simp [gd]
 simp only [gd,dG,dn,Bool.true_and]
 rw [xcmp hs hm]
 simp only [dn,true_and]
 by_cases h:m<s
 ·rw [if_neg (by omega),if_neg (by omega),if_pos h];rfl
 rw [if_neg h]
 by_cases h2:s<m
 ·rw [if_pos h2];rfl
 rw [if_neg h2,if_pos (by omega)];rfl
theorem xstepL {β:Type} {b:Bool} {s m:Int} {k:Int×Int→Option β} (hs:U128 s) (hm:U128 m):Option.bind (gd b (some (xw m))) (fun x12=>Option.bind (gd b (dm ⟨(xw s).Hi,(xw s).Lo⟩ x12)) (fun x13=>Option.bind (cond (b&&(decide (x13<0))) (Option.bind (some (xw m)) (fun x18=>some (x18.Hi,x18.Lo))) (some ((xw s).Hi,(xw s).Lo))) k))=k ((xw (if b=true∧s<m then m else s)).Hi,(xw (if b=true∧s<m then m else s)).Lo):=by
 cases b
 ·simp [gd]
 simp only [gd,dG,dn,Bool.true_and]
 rw [show dm ⟨(xw s).Hi,(xw s).Lo⟩ (xw m)=_ from xcmp hs hm]
 simp only [dn,true_and]
 by_cases h:s<m
 ·rw [if_pos h,if_pos h];rfl
 rw [if_neg h,if_neg h]
 split <;> rfl
theorem rstepM {β:Type} {b:Bool} {s m:Int} {k:Int×Int→Option β} (hs:U128 s) (hm:U128 m):Option.bind (cond b (some (rw' m)) (some default)) (fun x12=>Option.bind (cond b (gH x12 (rw' s)) (some default)) (fun x13=>Option.bind (cond (b&&x13) (Option.bind (some (rw' m)) (fun x18=>some (x18.Hi,x18.Lo))) (some ((rw' s).Hi,(rw' s).Lo))) k))=k ((rw' (if b=true∧m<s then m else s)).Hi,(rw' (if b=true∧m<s then m else s)).Lo):=by
 cases b
 ·simp
 simp only [dG,dn,Bool.true_and]
 rw [rless hm hs]
 simp only [dn,true_and]
 by_cases h:m<s
 ·rw [det h,if_pos h];rfl
 rw [cD h,if_neg h];rfl
theorem rstepL {β:Type} {b:Bool} {s m:Int} {k:Int×Int→Option β} (hs:U128 s) (hm:U128 m):Option.bind (cond b (some (rw' m)) (some default)) (fun x12=>Option.bind (cond b (gH ⟨(rw' s).Hi,(rw' s).Lo⟩ x12) (some default)) (fun x13=>Option.bind (cond (b&&x13) (Option.bind (some (rw' m)) (fun x18=>some (x18.Hi,x18.Lo))) (some ((rw' s).Hi,(rw' s).Lo))) k))=k ((rw' (if b=true∧s<m then m else s)).Hi,(rw' (if b=true∧s<m then m else s)).Lo):=by
 cases b
 ·simp
 simp only [dG,dn,Bool.true_and]
 rw [show gH ⟨(rw' s).Hi,(rw' s).Lo⟩ (rw' m)=_ from rless hs hm]
 simp only [dn,true_and]
 by_cases h:s<m
 ·rw [det h,if_pos h];rfl
 rw [cD h,if_neg h];rfl
theorem pM {n c:Int} (h:0≤n) (hc:1≤c):0≤xo n c 2:=by
 have:=Int.ediv_nonneg h (show 0≤c by omega)
 unfold xo;split <;> omega
theorem evFin (r:Int) (h:0≤r):(Option.bind (some (if r<18446744073709551616 then (r,(0:Int)) else (0,3))) (fun x26=>cond ((x26.2 != 0)||(decide (1000000000000<x26.1))) (some ((0:Int),(3:Int))) (some ((IntKind.i64.wrap x26.1),0))))=some (if r≤1000000000000 then (r,0) else (0,3)):=by
 by_cases h1:r≤1000000000000
 ·rw [if_pos (by omega),if_pos h1]
  simp only [dn]
  rw [cD (by omega),cj (by omega) (by omega)];rfl
 rw [if_neg h1]
 by_cases h2:r<18446744073709551616
 ·rw [if_pos h2]
  simp only [dn]
  rw [det (by omega),Bool.or_true];rfl
 rw [if_neg h2];rfl
section
variable {d:Zm} {v q:Int} (hd:DutyOK d) (hv:0≤v) (hv':v≤1000000000000) (hq:0≤q) (hq':q≤1000000000)
include hv hv' in
theorem DV {r:Int} (h0:0≤r) (h1:r≤10000000):U64 (r*v)∧0≤r*v∧r*v≤10000000000000000000:=by
 have a:=Int.mul_nonneg h0 hv
 have b:r*v≤10000000*1000000000000:=Int.mul_le_mul h1 hv' hv (by omega)
 exact ⟨⟨a,by omega⟩,a,by omega⟩
include hq hq' in
theorem DW {r:Int} (h0:0≤r) (h1:r≤100000000):U64 (r*q)∧0≤r*q∧r*q≤100000000000000000:=by
 have a:=Int.mul_nonneg h0 hq
 have b:r*q≤100000000*1000000000:=Int.mul_le_mul h1 hq' hq (by omega)
 exact ⟨⟨a,by omega⟩,a,by omega⟩
include hd in
theorem BW:1≤dN d.Per 1∧dN d.Per 1≤1000000:=by
 have:=hd.p0;have:=hd.p1;unfold dN;split <;> omega
include hd hv hv' in
theorem qM {r:Int} (h0:0≤r) (h1:r≤10000000):U128 (r*v*dN d.Per 1)∧r*v*dN d.Per 1≤10000000000000000000000000:=by
 obtain ⟨_,a,b⟩:=DV hv hv' h0 h1
 obtain ⟨p0,p1⟩:=BW hd
 have c:=Int.mul_nonneg a (show 0≤dN d.Per 1 by omega)
 have e:r*v*dN d.Per 1≤10000000000000000000*1000000:=Int.mul_le_mul b p1 (by omega) (by omega)
 exact ⟨⟨c,by omega⟩,by omega⟩
include hd hv hv' in
theorem DX {r:Int} (h0:0≤r) (h1:r≤10000000):dM r v (IntKind.u64.wrap (dN d.Per 1))=some (xw (r*v*dN d.Per 1)):=by
 obtain ⟨a,_,_⟩:=DV hv hv' h0 h1
 obtain ⟨p0,p1⟩:=BW hd
 unfold dM
 rw [dD (a:=r) ⟨h0,by omega⟩,dD (a:=v) ⟨hv,by omega⟩,dD a,dD (a:=dN d.Per 1) ⟨by omega,by omega⟩,xmul a ⟨by omega,by omega⟩];rfl
include hd hv hv' in
theorem DY {r:Int} (h0:0≤r) (h1:r≤10000000):eZ r v (dN d.Per 1)=some (rw' (r*v*dN d.Per 1)):=by
 obtain ⟨a,_,_⟩:=DV hv hv' h0 h1
 obtain ⟨p0,p1⟩:=BW hd
 unfold eZ
 rw [dD (a:=r) ⟨h0,by omega⟩,dD (a:=v) ⟨hv,by omega⟩,dD a,dD (a:=dN d.Per 1) ⟨by omega,by omega⟩,rmul a ⟨by omega,by omega⟩];rfl
include hd hv hv' hq hq'
theorem uy:U128 (pj d v q)∧pj d v q≤20000000000000000000000000:=by
 obtain ⟨⟨a1,_⟩,a3⟩:=qM hd hv hv' hd.r0 hd.r1
 obtain ⟨⟨b1,_⟩,b3⟩:=qM hd hv hv' hd.m0 hd.m1
 obtain ⟨⟨c1,_⟩,c3⟩:=qM hd hv hv' hd.l0 hd.l1
 obtain ⟨_,e1,e2⟩:=DW hq hq' hd.a0 hd.a1
 unfold pj U128
 dsimp only
 split <;> split <;> omega
theorem BX (hval:cT d=some 0):fc d v q=some (nB d v q):=by
 obtain ⟨A,a3⟩:=qM hd hv hv' hd.r0 hd.r1
 obtain ⟨B,b3⟩:=qM hd hv hv' hd.m0 hd.m1
 obtain ⟨C,c3⟩:=qM hd hv hv' hd.l0 hd.l1
 obtain ⟨e0,e1,e2⟩:=DW hq hq' hd.a0 hd.a1
 obtain ⟨p0,p1⟩:=BW hd
 obtain ⟨G,_⟩:=uy hd hv hv' hq hq'
 have ha0:=hd.a0;have ha1:=hd.a1
 have E:U128 (d.Amount*q*1000000):=⟨by omega,by omega⟩
 have F:U128 (d.Rate*v*dN d.Per 1+d.Amount*q*1000000):=⟨by have:=A.1;omega,by omega⟩
 unfold fc
 rw [bS hval]
 have hc:((((decide (v<0))||(decide (1000000000000<v)))||(decide (q<0)))||(decide (1000000000<q)))=false:=by simp;omega
 rw [hc,DX hd hv hv' hd.r0 hd.r1,dD (a:=d.Amount) ⟨ha0,by omega⟩,dD (a:=q) ⟨hq,by omega⟩,dD e0,xmul e0 ⟨by omega,by omega⟩]
 simp only [bne_self_eq_false,eu,dn]
 rw [xadd A E F]
 simp only [bne_self_eq_false,eu,dn]
 rw [DX hd hv hv' hd.m0 hd.m1,DX hd hv hv' hd.l0 hd.l1,xstepM F B]
 dsimp only
 rw [xstepL (by split <;> assumption) C]
 dsimp only
 rw [dD (a:=dN d.Per 1) ⟨by omega,by omega⟩,dD (a:=1000000*dN d.Per 1) ⟨by omega,by omega⟩]
 have:=xdiv G (c:=1000000*dN d.Per 1) ⟨by omega,by omega⟩ (by omega)
 unfold pj at this
 dsimp only at this
 erw [this]
 unfold nB pj
 dsimp only
 exact evFin _ (pM G.1 (by omega))
theorem yG (hval:cT d=some 0):eg d v q=some (nB d v q):=by
 obtain ⟨A,a3⟩:=qM hd hv hv' hd.r0 hd.r1
 obtain ⟨B,b3⟩:=qM hd hv hv' hd.m0 hd.m1
 obtain ⟨C,c3⟩:=qM hd hv hv' hd.l0 hd.l1
 obtain ⟨e0,e1,e2⟩:=DW hq hq' hd.a0 hd.a1
 obtain ⟨p0,p1⟩:=BW hd
 obtain ⟨G,_⟩:=uy hd hv hv' hq hq'
 have ha0:=hd.a0;have ha1:=hd.a1
 have E:U128 (d.Amount*q*1000000):=⟨by omega,by omega⟩
 have F:U128 (d.Rate*v*dN d.Per 1+d.Amount*q*1000000):=⟨by have:=A.1;omega,by omega⟩
 unfold eg
 rw [A4,bS hval]
 unfold iX
 have hc1:((decide (0≤v))&&(decide (v≤1000000000000)))=true:=by simp;omega
 have hc2:((decide (0≤q))&&(decide (q≤1000000000)))=true:=by simp;omega
 rw [hc1,hc2]
 simp only [bne_self_eq_false,eu,dn,Bool.not_true,Bool.not_false,gd,dG,Bool.or_self]
 rw [DY hd hv hv' hd.r0 hd.r1,dD (a:=d.Amount) ⟨ha0,by omega⟩,dD (a:=q) ⟨hq,by omega⟩,dD e0,rmul e0 ⟨by omega,by omega⟩]
 obtain ⟨o,hadd⟩:=radd A E F
 simp only [dn]
 rw [hadd]
 simp only [dn]
 rw [DY hd hv hv' hd.m0 hd.m1,DY hd hv hv' hd.l0 hd.l1]
 rw [rstepM F B]
 dsimp only
 rw [rstepL (by split <;> assumption) C]
 dsimp only
 rw [dD (a:=dN d.Per 1) ⟨by omega,by omega⟩,Int.mul_comm (dN d.Per 1) 1000000,dD (a:=1000000*dN d.Per 1) ⟨by omega,by omega⟩]
 have:=rdiv G (c:=1000000*dN d.Per 1) ⟨by omega,by omega⟩ (by omega)
 unfold pj at this
 dsimp only at this
 erw [this]
 unfold nB pj
 dsimp only
 exact evFin _ (pM G.1 (by omega))
end
theorem evN_ok (d:Zm) (v q:Int) (h:0≤pj d v q) (hp:1≤dN d.Per 1):((nB d v q).2=0∧0≤(nB d v q).1∧(nB d v q).1≤1000000000000)∨((nB d v q).2=3∧(nB d v q).1=0):=by
 have:=pM (c:=1000000*dN d.Per 1) h (by omega)
 unfold nB;split
 ·left;dsimp only;omega
 right;exact ⟨rfl,rfl⟩
theorem cB {S T β:Type} {body:S→Option (S⊕T)} {N:Nat} {s:S} (s':S) {k:T→Option β} (h:body s=some (.inl s')):(bu body (N+1) s).bind k=(bu body N s').bind k:=by rw [gz,h]
theorem dA {S T β:Type} {body:S→Option (S⊕T)} {N:Nat} {s:S} (t:T) {k:T→Option β} (h:body s=some (.inr t)):(bu body (N+1) s).bind k=k t:=by rw [gz,h];rfl
theorem vN:FUEL=1267650600228229401496703205367+9:=rfl
structure ShareOK (t g r:Int):Prop where
 t0:0≤t
 t1:t≤1000000000000
 g0:0≤g
 g1:g≤1000000000000
 r0:0≤r
 r1:r≤1000000000000
 s1:1≤g+r
def gq (t g r:Int):Int:=t - t*g / (g+r) - t*r / (g+r)
def jT (t g r:Int):Int×Int:=if gq t g r=1 then (if t*g % (g+r)<t*r % (g+r) then (t*g / (g+r),t*r / (g+r)+1) else (t*g / (g+r)+1,t*r / (g+r))) else (t*g / (g+r),t*r / (g+r))
structure ShareFacts (t g r:Int):Prop where
 a0:0≤t*g / (g+r)
 a1:t*g / (g+r)≤t
 b0:0≤t*r / (g+r)
 b1:t*r / (g+r)≤t
 c0:0≤t*g % (g+r)
 c1:t*g % (g+r)<g+r
 d0:0≤t*r % (g+r)
 d1:t*r % (g+r)<g+r
 l01:gq t g r=0∨gq t g r=1
section
variable {t g r:Int} (h:ShareOK t g r)
include h
theorem pQ:ShareFacts t g r:=by
 obtain ⟨t0,t1,g0,g1,r0,r1,s1⟩:=h
 have p1:=Int.mul_nonneg t0 g0
 have p2:=Int.mul_nonneg t0 r0
 have e1:=Int.emod_add_mul_ediv (t*g) (g+r)
 have e2:=Int.emod_add_mul_ediv (t*r) (g+r)
 have a0:=Int.ediv_nonneg p1 (show 0≤g+r by omega)
 have b0:=Int.ediv_nonneg p2 (show 0≤g+r by omega)
 have c0:=Int.emod_nonneg (t*g) (show g+r≠0 by omega)
 have d0:=Int.emod_nonneg (t*r) (show g+r≠0 by omega)
 have c1:=Int.emod_lt_of_pos (t*g) (show 0<g+r by omega)
 have d1:=Int.emod_lt_of_pos (t*r) (show 0<g+r by omega)
 have hs:t*(g+r)=t*g+t*r:=Int.mul_add _ _ _
 have key:(g+r)*gq t g r=t*g % (g+r)+t*r % (g+r):=by
  unfold gq
  rw [Int.mul_sub,Int.mul_sub,Int.mul_comm (g+r) t]
  generalize t*g / (g+r)=x at *
  generalize t*r / (g+r)=y at *
  generalize (g+r)*x=X at *
  generalize (g+r)*y=Y at *
  omega
 have l0:0≤gq t g r:=by
  by_cases hc:0≤gq t g r
  ·exact hc
  have:=Int.mul_le_mul_of_nonneg_left (show gq t g r ≤ -1 by omega) (show 0≤g+r by omega);omega
 have l1:gq t g r≤1:=by
  by_cases hc:gq t g r≤1
  ·exact hc
  have:=Int.mul_le_mul_of_nonneg_left (show 2≤gq t g r by omega) (show 0≤g+r by omega);omega
 refine ⟨a0,?_,b0,?_,c0,c1,d0,d1,by omega⟩
 ·unfold gq at l0;omega
 unfold gq at l0;omega
theorem BY:(jT t g r).1+(jT t g r).2=t∧0≤(jT t g r).1∧(jT t g r).1≤1000000000000∧0≤(jT t g r).2∧(jT t g r).2≤1000000000000:=by
 obtain ⟨a0,a1,b0,b1,c0,c1,d0,d1,l01⟩:=pQ h
 have:=h.t1
 have hl:gq t g r=t - t*g / (g+r) - t*r / (g+r):=rfl
 unfold jT
 split
 ·split <;> (dsimp only;omega)
 dsimp only;omega
theorem A5 {w:Int} (hw:0≤w) (hw1:w≤1000000000000) (hle:t*w / (g+r)≤t):jO t w (g+r) 0=some (t*w / (g+r),0):=by
 obtain ⟨t0,t1,g0,g1,r0,r1,s1⟩:=h
 unfold jO
 obtain ⟨z,e1,e2,e3⟩:=rH (a:=t) (b:=w) ⟨by omega,by omega⟩ ⟨by omega,by omega⟩
 rw [bS e1,vM e2 (c:=g+r) ⟨by omega,by omega⟩ s1 (.inl rfl),e3]
 have:xo (t*w) (g+r) 0=t*w / (g+r):=by unfold xo;rw [if_neg (by omega)]
 rw [this,if_pos (by omega)]
 rfl
theorem DZ {w:Int} (hw:0≤w) (hw1:w≤1000000000000) (hle:t*w / (g+r)≤t):∃ z q,iH t w=some z∧gF z (g+r)=some (q,t*w % (g+r))∧q.Lo=t*w / (g+r):=by
 obtain ⟨t0,t1,g0,g1,r0,r1,s1⟩:=h
 obtain ⟨z,e1,e2,e3⟩:=AY (a:=t) (b:=w) ⟨by omega,by omega⟩ ⟨by omega,by omega⟩
 obtain ⟨q,m,f1,f2,f3,f4⟩:=ux e2 (d:=g+r) ⟨by omega,by omega⟩ s1
 rw [e3] at f3 f4
 refine ⟨z,q,e1,by rw [f1,f4],?_⟩
 obtain ⟨⟨x1,x2⟩,⟨x3,x4⟩⟩:=f2
 unfold rv at f3;omega
theorem check2:gU t [g,r]=some 0:=by
 obtain ⟨t0,t1,g0,g1,r0,r1,s1⟩:=h
 unfold gU
 rw [show decide ((1000:Int)<(([g,r]:List Int).length:Int))=false from rfl,show ((decide (t<0))||(decide (1000000000000<t)))=false by simp;omega,vN]
 simp only [eu]
 refine (cB 1 ?_).trans ((cB 2 ?_).trans ((dA (.inl ()) ?_).trans ?_))
 ·rw [show decide ((0:Int)<(([g,r]:List Int).length:Int))=true from rfl,bS (show idx [g,r] 0=some g from rfl),show ((decide (g<0))||(decide (1000000000000<g)))=false by simp;omega];rfl
 ·rw [show decide ((1:Int)<(([g,r]:List Int).length:Int))=true from rfl,bS (show idx [g,r] 1=some r from rfl),show ((decide (r<0))||(decide (1000000000000<r)))=false by simp;omega];rfl
 ·rfl
 rfl
theorem sum2:gV [g,r]=some (g+r):=by
 obtain ⟨t0,t1,g0,g1,r0,r1,s1⟩:=h
 unfold gV
 rw [vN]
 refine (cB (g,1) ?_).trans ((cB (g+r,2) ?_).trans ((dA (g+r) ?_).trans ?_))
 ·dsimp only
  rw [show decide ((0:Int)<(([g,r]:List Int).length:Int))=true from rfl,bS (show idx [g,r] 0=some g from rfl),cj (by omega) (by omega),Int.zero_add];rfl
 ·dsimp only
  rw [show decide ((1:Int)<(([g,r]:List Int).length:Int))=true from rfl,bS (show idx [g,r] 1=some r from rfl),cj (by omega) (by omega)];rfl
 ·rfl
 rfl
end
theorem cmpI (a b:Int):dB a b=some (if a<b then -1 else if b<a then 1 else 0):=by
 unfold dB hX
 simp only [bne_self_eq_false,dn,eu]
 by_cases h:a<b
 ·rw [det h,if_pos h];rfl
 rw [cD h,if_neg h]
 by_cases h2:b<a
 ·rw [det h2,if_pos h2];rfl
 rw [cD h2,if_neg h2];rfl
theorem cmpU (a b:Int):fu a b=some (if a<b then -1 else if b<a then 1 else 0):=by
 unfold fu gm
 simp only [bne_self_eq_false,dn,eu]
 by_cases h:a<b
 ·rw [det h,if_pos h];rfl
 rw [cD h,if_neg h]
 by_cases h2:b<a
 ·rw [det h2,if_pos h2];rfl
 rw [cD h2,if_neg h2];rfl
theorem len2:kA 2=some 2:=by kernel_rfl
theorem sort2 (s0 m0 s1 m1:Int):ee (⟨()⟩:Zn) [⟨0,s0,m0⟩,⟨1,s1,m1⟩]=some (if m0<m1 then [⟨1,s1,m1⟩,⟨0,s0,m0⟩] else [⟨0,s0,m0⟩,⟨1,s1,m1⟩]):=by
 have hby:cu ⟨1,s1,m1⟩ ⟨0,s0,m0⟩ (⟨()⟩:Zn)=some (if m0<m1 then -1 else 1):=by
  unfold cu iE
  rw [cmpU,cmpI]
  dsimp only
  by_cases h:m0<m1
  ·rw [if_pos h,if_pos h];rfl
  rw [if_neg h,if_neg h]
  by_cases h2:m1<m0
  ·rw [if_pos h2];rfl
  rw [if_neg h2];rfl
 unfold ee bR
 rw [show IntKind.u64.wrap ((([(⟨0,s0,m0⟩:Zc),⟨1,s1,m1⟩]:List Zc).length:Nat):Int)=2 from rfl,bS len2]
 have hins:bJ [⟨0,s0,m0⟩,⟨1,s1,m1⟩] 0 2 (fun y2 y3=>cu y2 y3 (⟨()⟩:Zn))=some (if m0<m1 then [⟨1,s1,m1⟩,⟨0,s0,m0⟩] else [⟨0,s0,m0⟩,⟨1,s1,m1⟩]):=by
  unfold bJ
  rw [vN]
  refine (cB (if m0<m1 then [⟨1,s1,m1⟩,⟨0,s0,m0⟩] else [⟨0,s0,m0⟩,⟨1,s1,m1⟩],2) ?_).trans ((dA _ ?_).trans rfl)
  ·show Option.bind (bu _ _ (([⟨0,s0,m0⟩,⟨1,s1,m1⟩]:List Zc),(1:Int))) _=_
   by_cases h:m0<m1
   ·rw [if_pos h] at hby ⊢
    refine (cB ([⟨1,s1,m1⟩,⟨0,s0,m0⟩],0) ?_).trans ((dA [⟨1,s1,m1⟩,⟨0,s0,m0⟩] ?_).trans rfl)
    ·show Option.bind (gd true (cu ⟨1,s1,m1⟩ ⟨0,s0,m0⟩ (⟨()⟩:Zn))) _=_
     rw [hby];rfl
    rfl
   rw [if_neg h] at hby ⊢
   refine (dA [⟨0,s0,m0⟩,⟨1,s1,m1⟩] ?_).trans rfl
   show Option.bind (gd true (cu ⟨1,s1,m1⟩ ⟨0,s0,m0⟩ (⟨()⟩:Zn))) _=_
   rw [hby];rfl
  rfl
 have hpdq:bI [⟨0,s0,m0⟩,⟨1,s1,m1⟩] 0 2 2 (fun y2 y3=>cu y2 y3 (⟨()⟩:Zn))=some (if m0<m1 then [⟨1,s1,m1⟩,⟨0,s0,m0⟩] else [⟨0,s0,m0⟩,⟨1,s1,m1⟩]):=by
  unfold bI
  rw [vN]
  refine (dA (.inr (if m0<m1 then [⟨1,s1,m1⟩,⟨0,s0,m0⟩] else [⟨0,s0,m0⟩,⟨1,s1,m1⟩])) ?_).trans rfl
  rw [show decide (IntKind.i64.wrap ((2:Int) - 0)≤12)=true from rfl,hins];rfl
 show Option.bind (Option.bind (bI [⟨0,s0,m0⟩,⟨1,s1,m1⟩] 0 2 2 _) _) _=_
 rw [hpdq];rfl
section
variable {t g r:Int} (h:ShareOK t g r)
include h
theorem zS:fJ t [g,r]=some ([(jT t g r).1,(jT t g r).2],0):=by
 obtain ⟨a0,a1,b0,b1,c0,c1,d0,d1,l01⟩:=pQ h
 have md1:=A5 h h.g0 h.g1 a1
 have md2:=A5 h h.r0 h.r1 b1
 have hc:=check2 h
 have hsum:=sum2 h
 obtain ⟨t0,t1,g0,g1,r0,r1,s1⟩:=h
 have mm1:=qL (a:=t) (b:=g) (c:=g+r) ⟨by omega,by omega⟩ ⟨by omega,by omega⟩ ⟨by omega,by omega⟩ s1
 have mm2:=qL (a:=t) (b:=r) (c:=g+r) ⟨by omega,by omega⟩ ⟨by omega,by omega⟩ ⟨by omega,by omega⟩ s1
 unfold fJ
 rw [bS hc]
 simp only [bne_self_eq_false,eu]
 rw [bS hsum]
 have hz:(g+r == 0)=false:=by simp;omega
 rw [hz]
 simp only [eu,dn]
 rw [bS (show mk 24 (⟨(0:Int),(0:Int),(0:Int)⟩:Zc) (([g,r]:List Int).length:Int)=some [⟨0,0,0⟩,⟨0,0,0⟩] from rfl),vN]
 have ws:IntKind.u64.wrap (g+r)=g+r:=dD ⟨by omega,by omega⟩
 have wt:IntKind.u64.wrap t=t:=dD ⟨by omega,by omega⟩
 have wg:IntKind.u64.wrap g=g:=dD ⟨by omega,by omega⟩
 have wr:IntKind.u64.wrap r=r:=dD ⟨by omega,by omega⟩
 have i1:IntKind.i64.wrap (t*g / (g+r))=t*g / (g+r):=cj (by omega) (by omega)
 have i2:IntKind.i64.wrap (t*r / (g+r))=t*r / (g+r):=cj (by omega) (by omega)
 have i3:IntKind.i64.wrap (t - t*g / (g+r))=t - t*g / (g+r):=cj (by omega) (by omega)
 have i4:IntKind.i64.wrap (t - t*g / (g+r) - t*r / (g+r))=gq t g r:=cj (by omega) (by omega)
 refine (cB (t - t*g / (g+r),[⟨0,t*g / (g+r),t*g % (g+r)⟩,⟨0,0,0⟩],1) ?_).trans ((cB (gq t g r,[⟨0,t*g / (g+r),t*g % (g+r)⟩,⟨1,t*r / (g+r),t*r % (g+r)⟩],2) ?_).trans ((dA (gq t g r,[⟨0,t*g / (g+r),t*g % (g+r)⟩,⟨1,t*r / (g+r),t*r % (g+r)⟩]) ?_).trans ?_))
 ·dsimp only
  rw [show decide ((0:Int)<(([g,r]:List Int).length:Int))=true from rfl,ws,wt]
  simp only [dG]
  rw [bS (show idx [g,r] 0=some g from rfl),wg,bS md1,bS mm1]
  dsimp only [lb]
  rw [i1,i3];rfl
 ·dsimp only
  rw [show decide ((1:Int)<(([g,r]:List Int).length:Int))=true from rfl,ws,wt]
  simp only [dG]
  rw [bS (show idx [g,r] 1=some r from rfl),wr,bS md2,bS mm2]
  dsimp only [lb]
  rw [i2,i4];rfl
 ·rfl
 dsimp only
 rw [bS (sort2 _ _ _ _),bS (show mk 8 (0:Int) (([g,r]:List Int).length:Int)=some [0,0] from rfl)]
 have w1:IntKind.i64.wrap (t*g / (g+r)+1)=t*g / (g+r)+1:=cj (by omega) (by omega)
 have w2:IntKind.i64.wrap (t*r / (g+r)+1)=t*r / (g+r)+1:=cj (by omega) (by omega)
 unfold jT
 generalize t*g / (g+r)=x0 at *
 generalize t*r / (g+r)=x1 at *
 generalize t*g % (g+r)=m0 at *
 generalize t*r % (g+r)=m1 at *
 rcases l01 with l | l <;> rw [l] <;> by_cases hm:m0<m1
 ·simp only [if_pos hm]
  refine (cB ([0,x1],1) ?_).trans ((cB ([x0,x1],2) ?_).trans ((dA [x0,x1] ?_).trans rfl))
  ·show some (Sum.inl ([0,IntKind.i64.wrap x1],1))=_;rw [i2]
  ·show some (Sum.inl ([IntKind.i64.wrap x0,x1],2))=_;rw [i1]
  rfl
 ·simp only [if_neg hm]
  refine (cB ([x0,0],1) ?_).trans ((cB ([x0,x1],2) ?_).trans ((dA [x0,x1] ?_).trans rfl))
  ·show some (Sum.inl ([IntKind.i64.wrap x0,0],1))=_;rw [i1]
  ·show some (Sum.inl ([x0,IntKind.i64.wrap x1],2))=_;rw [i2]
  rfl
 ·simp only [if_pos hm]
  refine (cB ([0,x1+1],1) ?_).trans ((cB ([x0,x1+1],2) ?_).trans ((dA [x0,x1+1] ?_).trans rfl))
  ·show some (Sum.inl ([0,IntKind.i64.wrap (IntKind.i64.wrap x1+1)],1))=_;rw [i2,w2]
  ·show some (Sum.inl ([IntKind.i64.wrap x0,x1+1],2))=_;rw [i1]
  rfl
 simp only [if_neg hm]
 refine (cB ([x0+1,0],1) ?_).trans ((cB ([x0+1,x1],2) ?_).trans ((dA [x0+1,x1] ?_).trans rfl))
 ·show some (Sum.inl ([IntKind.i64.wrap (IntKind.i64.wrap x0+1),0],1))=_;rw [i1,w1]
 ·show some (Sum.inl ([x0+1,IntKind.i64.wrap x1],2))=_;rw [i2]
 rfl
end
section
variable {t g r:Int} (h:ShareOK t g r)
include h
theorem BZ:js t [g,r]=some ([(jT t g r).1,(jT t g r).2],0):=by
 obtain ⟨a0,a1,b0,b1,c0,c1,d0,d1,l01⟩:=pQ h
 obtain ⟨z1,q1,u1,u2,u3⟩:=DZ h h.g0 h.g1 a1
 obtain ⟨z2,q2,v1,v2,v3⟩:=DZ h h.r0 h.r1 b1
 obtain ⟨t0,t1,g0,g1,r0,r1,s1⟩:=h
 unfold js
 rw [show decide ((1000:Int)<(([g,r]:List Int).length:Int))=false from rfl,show ((decide (t<0))||(decide (1000000000000<t)))=false by simp;omega,vN]
 simp only [eu]
 refine (cB (false,1) ?_).trans ((cB (false,2) ?_).trans ((dA false ?_).trans ?_))
 ·dsimp only
  rw [show decide ((0:Int)<(([g,r]:List Int).length:Int))=true from rfl]
  simp only [dG]
  rw [bS (show gd (!false) (idx [g,r] 0)=some g from rfl),cD (show ¬ g<0 by omega),bS (show gd (!(false||false)) (idx [g,r] 0)=some g from rfl),cD (show ¬ 1000000000000<g by omega)];rfl
 ·dsimp only
  rw [show decide ((1:Int)<(([g,r]:List Int).length:Int))=true from rfl]
  simp only [dG]
  rw [bS (show gd (!false) (idx [g,r] 1)=some r from rfl),cD (show ¬ r<0 by omega),bS (show gd (!(false||false)) (idx [g,r] 1)=some r from rfl),cD (show ¬ 1000000000000<r by omega)];rfl
 ·rfl
 rw [show ((([g,r]:List Int).length:Int) == 0)=false from rfl,Bool.false_and,eu,eu]
 refine (cB (g,1) ?_).trans ((cB (g+r,2) ?_).trans ((dA (g+r) ?_).trans ?_))
 ·dsimp only
  rw [show decide ((0:Int)<(([g,r]:List Int).length:Int))=true from rfl,bS (show idx [g,r] 0=some g from rfl),cj (by omega) (by omega),Int.zero_add];rfl
 ·dsimp only
  rw [show decide ((1:Int)<(([g,r]:List Int).length:Int))=true from rfl,bS (show idx [g,r] 1=some r from rfl),cj (by omega) (by omega)];rfl
 ·rfl
 rw [bS (show mk 8 (0:Int) (([g,r]:List Int).length:Int)=some [0,0] from rfl),bS (show mk 8 (0:Int) (([g,r]:List Int).length:Int)=some [0,0] from rfl)]
 have hz:(g+r == 0)=false:=by simp;omega
 have hcg:(cond (g+r == 0) (some ((1:Int),(([g,r]:List Int).length:Int))) (some (g,g+r)))=some (g,g+r):=by rw [hz];rfl
 have hcr:(cond (g+r == 0) (some ((1:Int),(([g,r]:List Int).length:Int))) (some (r,g+r)))=some (r,g+r):=by rw [hz];rfl
 have ws:IntKind.u64.wrap (g+r)=g+r:=dD ⟨by omega,by omega⟩
 have wt:IntKind.u64.wrap t=t:=dD ⟨by omega,by omega⟩
 have wg:IntKind.u64.wrap g=g:=dD ⟨by omega,by omega⟩
 have wr:IntKind.u64.wrap r=r:=dD ⟨by omega,by omega⟩
 have i1:IntKind.i64.wrap (t*g / (g+r))=t*g / (g+r):=cj (by omega) (by omega)
 have i2:IntKind.i64.wrap (t*r / (g+r))=t*r / (g+r):=cj (by omega) (by omega)
 have i3:IntKind.i64.wrap (t - t*g / (g+r))=t - t*g / (g+r):=cj (by omega) (by omega)
 have i4:IntKind.i64.wrap (t - t*g / (g+r) - t*r / (g+r))=gq t g r:=cj (by omega) (by omega)
 have i5:IntKind.i64.wrap (t*g % (g+r))=t*g % (g+r):=cj (by omega) (by omega)
 have i6:IntKind.i64.wrap (t*r % (g+r))=t*r % (g+r):=cj (by omega) (by omega)
 refine (cB ([t*g / (g+r),0],[t*g % (g+r),0],t - t*g / (g+r),1) ?_).trans ((cB ([t*g / (g+r),t*r / (g+r)],[t*g % (g+r),t*r % (g+r)],gq t g r,2) ?_).trans ((dA ([t*g / (g+r),t*r / (g+r)],[t*g % (g+r),t*r % (g+r)],gq t g r) ?_).trans ?_))
 ·dsimp only
  rw [show decide ((0:Int)<(([g,r]:List Int).length:Int))=true from rfl,wt,dG]
  rw [bS (show idx [g,r] 0=some g from rfl),bS hcg]
  dsimp only
  rw [ws,wg,bS u1,bS u2,u3]
  dsimp only
  rw [i1,i5]
  show some (Sum.inl ([t*g / (g+r),0],[t*g % (g+r),0],IntKind.i64.wrap (t - t*g / (g+r)),1))=_
  rw [i3]
 ·dsimp only
  rw [show decide ((1:Int)<(([g,r]:List Int).length:Int))=true from rfl,wt,dG]
  rw [bS (show idx [g,r] 1=some r from rfl),bS hcr]
  dsimp only
  rw [ws,wr,bS v1,bS v2,v3]
  dsimp only
  rw [i2,i6]
  show some (Sum.inl ([t*g / (g+r),t*r / (g+r)],[t*g % (g+r),t*r % (g+r)],IntKind.i64.wrap (t - t*g / (g+r) - t*r / (g+r)),2))=_
  rw [i4]
 ·rfl
 dsimp only
 have w1:IntKind.i64.wrap (t*g / (g+r)+1)=t*g / (g+r)+1:=cj (by omega) (by omega)
 have w2:IntKind.i64.wrap (t*r / (g+r)+1)=t*r / (g+r)+1:=cj (by omega) (by omega)
 unfold jT
 generalize t*g / (g+r)=x0 at *
 generalize t*r / (g+r)=x1 at *
 generalize t*g % (g+r)=m0 at *
 generalize t*r % (g+r)=m1 at *
 rcases l01 with l | l <;> rw [l]
 ·exact (dA [x0,x1] rfl).trans rfl
 by_cases hm:m0<m1
 ·simp only [if_pos hm]
  refine (cB ([x0,x1+1],[m0,-1],0) ?_).trans ((dA [x0,x1+1] ?_).trans rfl)
  ·refine (cB (1,2) ?_).trans ((dA 1 ?_).trans ?_)
   ·show Option.bind (Option.bind (some m1) (fun m76=>Option.bind (some m0) (fun m77=>cond (decide (m77<m76)) (some 1) (some 0)))) _=_
    simp only [dn]
    rw [det hm];rfl
   ·rfl
   show some (Sum.inl ([x0,IntKind.i64.wrap (x1+1)],[m0,-1],0))=_
   rw [w2]
  rfl
 simp only [if_neg hm]
 refine (cB ([x0+1,x1],[-1,m1],0) ?_).trans ((dA [x0+1,x1] ?_).trans rfl)
 ·refine (cB (0,2) ?_).trans ((dA 0 ?_).trans ?_)
  ·show Option.bind (Option.bind (some m1) (fun m76=>Option.bind (some m0) (fun m77=>cond (decide (m77<m76)) (some 1) (some 0)))) _=_
   simp only [dn]
   rw [cD hm];rfl
  ·rfl
  show some (Sum.inl ([IntKind.i64.wrap (x0+1),x1],[-1,m1],0))=_
  rw [w1]
 rfl
end
theorem ix0 {α:Type} {a b:α}:idx [a,b] 0=some a:=rfl
theorem ix1 {α:Type} {a b:α}:idx [a,b] 1=some b:=rfl
theorem cond_ex {α:Type} (c:Bool) (x y:α):∃ r,cond c (some x) (some y)=some r∧cond c (some x) (some y)=some r:=by cases c <;> exact ⟨_,rfl,rfl⟩
theorem cap_eq (c:Int):eJ c=some (decide (65≤c)&&decide (c≤90)):=rfl
def lW (s:ByteArray):Bool:=match s.data.toList with | [a,b]=>decide (65≤(a.toNat:Int))&&decide ((a.toNat:Int)≤90)&&decide (65≤(b.toNat:Int))&&decide ((b.toNat:Int)≤90) | _=>false
theorem uz {s:ByteArray} (h:((s.size:Int) == 2)=true):∃ a b,s.data.toList=[a,b]:=by
 have h2:s.data.toList.length=2:=by
  have:=eq_of_beq h
  rw [Array.length_toList];have e:s.size=s.data.size:=rfl;omega
 match hd:s.data.toList,h2 with
 | [a,b],_=>exact ⟨a,b,rfl⟩
theorem xa {s:ByteArray} (h:((s.size:Int) == 2)=false):lW s=false:=by
 unfold lW
 split
 ·rename_i a b hd
  have e:s.size=s.data.toList.length:=by rw [Array.length_toList];rfl
  rw [hd] at e
  have e2:(s.size:Int)=2:=by rw [e];rfl
  rw [e2] at h;cases h
 rfl
theorem mB (s:ByteArray):cR s=some (lW s):=by
 unfold cR
 cases h:((s.size:Int) == 2)
 ·rw [xa h];rfl
 obtain ⟨a,b,hd⟩:=uz h
 simp only [Bool.true_and,dH,cap_eq]
 rw [hd]
 simp only [lW,hd]
 rw [bS ix0]
 simp only [dn]
 cases h1:(decide (65≤(a.toNat:Int))&&decide ((a.toNat:Int)≤90))
 ·rfl
 simp only [dH,Bool.true_and];rw [bS ix1];rfl
theorem mh (s:ByteArray):dK s=some (lW s):=by
 unfold dK
 cases h:((s.size:Int) == 2)
 ·rw [xa h];rfl
 obtain ⟨a,b,hd⟩:=uz h
 simp only [Bool.true_and,dH]
 rw [hd]
 simp only [lW,hd]
 rw [bS ix0]
 cases h1:decide (65≤(a.toNat:Int))
 ·rfl
 simp only [dH,Bool.true_and];rw [bS ix0]
 cases h2:decide ((a.toNat:Int)≤90)
 ·rfl
 simp only [dH,Bool.true_and];rw [bS ix1]
 cases h3:decide (65≤(b.toNat:Int))
 ·rfl
 simp only [dH,Bool.true_and];rw [bS ix1]
theorem rI (s:ByteArray) (hs:s.size≤140737488355328):jq s=some (ig s):=by
 have hz:s.size=s.data.toList.length:=by rw [Array.length_toList];rfl
 unfold jq
 obtain ⟨t,h5,h6⟩:=iK (body:=fun v1=>cond (decide (v1<(s.size:Int))) (Option.bind (idx s.data.toList v1) (fun c5=>Option.bind (gd (!(decide ((c5.toNat:Int)<48))) (idx s.data.toList v1)) (fun c6=>cond ((decide ((c5.toNat:Int)<48))||(decide (57<(c6.toNat:Int)))) (some (.inr (.inr 0))) (some (.inl (IntKind.i64.wrap (v1+1))))))) (some (.inr (.inl ()))))
  (fun v:Int=>0≤v∧v≤s.size∧∀ j,(h:j<s.data.toList.length)→(j:Int)<v→jY (s.data.toList[j]).toNat=true) (fun v=>(s.size:Int).toNat - v.toNat) (fun t:Unit⊕Int=>(t=.inl ()∧lT s=true)∨(t=.inr 0∧lT s=false))
  (fun v hv=>by
   obtain ⟨a1,a2,a3⟩:=hv
   by_cases hl:v<(s.size:Int)
   ·rw [det hl];simp only [dG]
    obtain ⟨k,rfl⟩:∃ k:Nat,v=(k:Int):=⟨v.toNat,by omega⟩
    have hk:k<s.data.toList.length:=by omega
    rw [bS (bV hk)]
    by_cases hd:jY (s.data.toList[k]).toNat=true
    ·left
     have hd2:=hd
     simp only [jY,decide_eq_true_eq] at hd2
     rw [cD (show ¬ ((s.data.toList[k].toNat:Nat):Int)<48 by omega)]
     simp only [Bool.not_false,dH,Bool.false_or]
     rw [bS (bV hk),cD (show ¬ 57<((s.data.toList[k].toNat:Nat):Int) by omega)]
     simp only [eu]
     rw [cj (by omega) (by omega)]
     refine ⟨_,rfl,⟨by omega,by omega,fun j h1 h2=>?_⟩,by omega⟩
     by_cases hj:j=k
     ·subst hj;exact hd
     exact a3 j h1 (by omega)
    right
    refine ⟨.inr 0,?_,.inr ⟨rfl,?_⟩⟩
    ·have hd2:=hd
     simp only [jY,decide_eq_true_eq] at hd2
     by_cases h48:((s.data.toList[k].toNat:Nat):Int)<48
     ·rw [det h48];rfl
     rw [cD h48]
     simp only [Bool.not_false,dH,Bool.false_or]
     rw [bS (bV hk),det (show 57<((s.data.toList[k].toNat:Nat):Int) by omega)];rfl
    cases ha:lT s
    ·rfl
    exfalso;apply hd
    unfold lT bl at ha
    exact List.all_eq_true.1 ha _ (List.getElem_mem hk)
   right
   rw [cD hl]
   refine ⟨.inl (),rfl,.inl ⟨rfl,?_⟩⟩
   unfold lT bl
   rw [List.all_eq_true]
   intro c hc
   obtain ⟨j,hj,rfl⟩:=List.getElem_of_mem hc
   exact a3 j hj (by omega))
  FUEL 0 ⟨by omega,by omega,fun j _ h=>by omega⟩ (ip (by omega))
 rw [bS h5]
 unfold ig
 rcases h6 with ⟨rfl,h⟩ | ⟨rfl,h⟩
 ·simp only [h,and_true]
  by_cases h8:(8:Int)<(s.size:Int)
  ·rw [det h8,if_neg (by omega)];rfl
  rw [cD h8]
  simp only [Bool.false_or]
  have e:Int.tmod (s.size:Int) 2=(s.size:Int) % 2:=Int.tmod_eq_emod_of_nonneg (by omega)
  rw [e]
  by_cases hp:(s.size:Int) % 2=1
  ·rw [hp,if_neg (by omega)];rfl
  have:((s.size:Int) % 2 == 1)=false:=by simpa using hp
  rw [this]
  by_cases h0:s.size=0
  ·rw [if_neg (by omega),h0];rfl
  rw [if_pos (by omega)];rfl
 simp [h]
theorem yH (m:Zj) (h:m.Code.size≤140737488355328):∃ r,cZ m=some r∧ji m=some r:=by
 have e1:dP m.Code=some (ig m.Code):=rfl
 have e:cZ m=ji m:=by
  unfold cZ ji
  rw [e1,rI _ h,mB,mh]
 rw [e]
 unfold ji
 rw [bS (rI _ h)]
 have:∃ b,gd (!(ig m.Code != 8)) (dK m.Origin)=some b:=by rw [mh];cases (!(ig m.Code != 8)) <;> exact ⟨_,rfl⟩
 obtain ⟨b,hb⟩:=this
 rw [bS hb]
 cases ((ig m.Code != 8)||(!b))
 ·simp only [eu]
  exact cond_ex _ _ _
 exact ⟨_,rfl,rfl⟩
structure Good (m:Zj):Prop where
 code:∃ l,m.Code=strOfNums l∧l.length=8∧Digs l
 orig:lW m.Origin=true
 comp:0≤m.Company∧m.Company≤999
 day:0≤m.Day∧m.Day≤36524
 quant:0≤m.Quantity∧m.Quantity≤1000000000
 value:0≤m.Value∧m.Value≤1000000000000
 grant:0≤m.Granted∧m.Granted≤m.Quantity
theorem Good.size {m:Zj} (h:Good m):m.Code.size=8:=by
 obtain ⟨l,e,h1,_⟩:=h.code
 rw [e];simp [strOfNums,ByteArray.size,h1]
theorem zT {k:Int} (h1:0≤k) (h2:k<6) {l:List ByteArray} (hl:dJ=some l):∃ s,idx l k=some s∧lW s=true:=by
 have hl:=Option.some.inj hl;subst hl
 obtain ⟨n,rfl⟩:∃ n:Nat,k=(n:Int):=⟨k.toNat,by omega⟩
 match n,(show n<6 by omega) with
 | 0,_=>exact ⟨_,rfl,rfl⟩
 | 1,_=>exact ⟨_,rfl,rfl⟩
 | 2,_=>exact ⟨_,rfl,rfl⟩
 | 3,_=>exact ⟨_,rfl,rfl⟩
 | 4,_=>exact ⟨_,rfl,rfl⟩
 | 5,_=>exact ⟨_,rfl,rfl⟩
theorem run_inl {α A R:Type} {f:Nat→α→A→A⊕R} (Q:α→Prop) (hf:∀ k x a a',f k x a=.inl a'→Q x):∀ (l:List α) (k:Nat) (a a':A),run f l k a=.inl a'→∀ x∈l,Q x:=by
 intro l
 induction l with
 | nil=>intro k a a' _ x hx;cases hx
 | cons y ys ih =>
  intro k a a' h x hx
  rw [eA] at h
  cases hfy:f k y a with
  | inl b=>rw [hfy] at h;cases hx with
   | head=>exact hf _ _ _ _ hfy
   | tail _ hx=>exact ih _ _ _ h x hx
  | inr r=>rw [hfy] at h;change Sum.inr r=_ at h;cases h
def zU (l:List ByteArray) (k:Nat) (x:ByteArray):Bool := !lW x||(decide (0<k) && !Op.bytesLess (l.getD (k - 1) x).toList x.toList)
def uA (l:List ByteArray):Unit⊕Unit:=run (fun k x _=>if zU l k x then .inr () else .inl ()) l 0 ()
theorem xb (l:List ByteArray) (hl:l.length≤4611686018427387904):dw l=some (match uA l with | .inl _=>true | .inr _=>false):=by
 unfold dw
 obtain ⟨e,_⟩:=fm (T:=Unit⊕Bool) hl (body:=fun v1=>cond (decide (v1<(l.length:Int))) (Option.bind (idx l v1) (fun m5=>Option.bind (cR m5) (fun x6=>Option.bind (gd ((!(!x6))&&(decide (0<v1))) (idx l (IntKind.i64.wrap (v1 - 1)))) (fun m7=>cond ((!x6)||((decide (0<v1))&&(Op.bytesLess m5.toList m7.toList||decide (m5=m7)))) (some (.inr (.inr false))) (some (.inl (IntKind.i64.wrap (v1+1)))))))) (some (.inr (.inl ()))))
  (fun i (_:Unit)=>i) (fun k x _=>if zU l k x then .inr () else .inl ()) (fun _=>.inl ()) (fun (_:Unit)=>.inr false) (fun _ _=>True) (by
   intro k hk a _
   refine ⟨?_,fun _ _=>trivial⟩
   try dsimp only
   rw [uS hk,dG,bS (bV hk),mB,iV hk hl,dn]
   unfold zU
   cases hc:lW l[k]
   ·rfl
   by_cases h0:0<k
   ·rw [det (show (0:Int)<(k:Int) by omega),det h0]
    simp only [Bool.not_true,Bool.not_false,Bool.true_and,Bool.false_or]
    rw [dH,bS (qo h0 hk hl),ns (by omega),str_tot]
    cases Op.bytesLess (l[k-1]'(by omega)).toList l[k].toList <;> rfl
   rw [cD (show ¬ (0:Int)<(k:Int) by omega),cD h0];rfl)
  (by intro a _;(try dsimp only);rw [mw];rfl) () trivial
 rw [bS e]
 unfold uA
 cases run (fun k x _=>if zU l k x then Sum.inr () else Sum.inl ()) l 0 () <;> rfl
def xc (l:List ByteArray) (s:ByteArray):Bool:=l.any fun x=>decide (s=x)
theorem qN (l:List ByteArray) (s:ByteArray):xc l s=true↔s∈l:=by
 unfold xc;simp
theorem yI (l:List ByteArray) (s:ByteArray) (hl:l.length≤4611686018427387904):cW l s=some (xc l s)∧mW l s=some (xc l s):=by
 have hrun:∀ (g:Nat→Int) (xs:List ByteArray) (k:Nat),(∃ j,run (fun k x (_:Unit)=>if s=x then Sum.inr (g k) else Sum.inl ()) xs k ()=.inr (g j)∧s∈xs)∨(run (fun k x (_:Unit)=>if s=x then Sum.inr (g k) else Sum.inl ()) xs k ()=.inl ()∧s ∉ xs):=by
  intro g xs
  induction xs with
  | nil=>intro k;right;exact ⟨rfl,by simp⟩
  | cons y ys ih =>
   intro k
   rw [eA]
   by_cases h:s=y
   ·simp only [if_pos h];left;exact ⟨k,rfl,by simp [h]⟩
   simp only [if_neg h]
   rcases ih (k+1) with ⟨j,h1,h2⟩ | ⟨h1,h2⟩
   ·left;exact ⟨j,h1,by simp [h2]⟩
   right;exact ⟨h1,by simp [h,h2]⟩
 constructor
 ·unfold cW ec
  obtain ⟨e,_⟩:=fm (T:=Unit⊕Int) hl (body:=fun v1=>cond (decide (v1<(l.length:Int))) (Option.bind (idx l v1) (fun m5=>cond (decide (s=m5)) (some (.inr (.inr v1))) (some (.inl (IntKind.i64.wrap (v1+1)))))) (some (.inr (.inl ()))))
   (fun i (_:Unit)=>i) (fun k x _=>if s=x then .inr (k:Int) else .inl ()) (fun _=>.inl ()) (fun (r:Int)=>.inr r) (fun _ _=>True) (by
    intro k hk a _
    refine ⟨?_,fun _ _=>trivial⟩
    try dsimp only
    rw [uS hk,dG,bS (bV hk),iV hk hl]
    by_cases h:s=l[k]
    ·rw [det h,if_pos h];rfl
    rw [cD h,if_neg h];rfl)
   (by intro a _;(try dsimp only);rw [mw];rfl) () trivial
  rw [bS e]
  rcases hrun (fun k=>(k:Int)) l 0 with ⟨j,h1,h2⟩ | ⟨h1,h2⟩
  ·rw [h1,(qN l s).2 h2]
   show some (decide ((0:Int)≤(j:Int)))=_
   rw [det (by omega)]
  rw [h1,show xc l s=false from Bool.eq_false_iff.2 (fun h=>h2 ((qN l s).1 h))];rfl
 unfold mW
 obtain ⟨e,_⟩:=fm (T:=Unit⊕Bool) hl (body:=fun v1=>cond (decide (v1<(l.length:Int))) (Option.bind (idx l v1) (fun m5=>cond (decide (m5=s)) (some (.inr (.inr true))) (some (.inl (IntKind.i64.wrap (v1+1)))))) (some (.inr (.inl ()))))
  (fun i (_:Unit)=>i) (fun k x _=>if s=x then .inr (k:Int) else .inl ()) (fun _=>.inl ()) (fun (r:Int)=>.inr true) (fun _ _=>True) (by
   intro k hk a _
   refine ⟨?_,fun _ _=>trivial⟩
   try dsimp only
   rw [uS hk,dG,bS (bV hk),iV hk hl]
   by_cases h:s=l[k]
   ·rw [det h.symm,if_pos h];rfl
   rw [cD (fun h'=>h h'.symm),if_neg h];rfl)
  (by intro a _;(try dsimp only);rw [mw];rfl) () trivial
 rw [bS e]
 rcases hrun (fun k=>(k:Int)) l 0 with ⟨j,h1,h2⟩ | ⟨h1,h2⟩
 ·rw [h1,(qN l s).2 h2];try rfl
 rw [h1,show xc l s=false from Bool.eq_false_iff.2 (fun h=>h2 ((qN l s).1 h))];rfl
structure MOK (m:Zb):Prop where
 id0:1≤m.ID
 id1:m.ID≤1000000
 k0:1≤m.Kind
 k1:m.Kind≤6
 c0:0≤m.Company
 pre:m.Prefix.size≤8
 orig:m.Origins.length≤20
 reg : -1≤m.Registered
 duty:cT m.Duty=some 0
def pfx (s p:ByteArray):Bool:=decide ((p.size:Int)≤(s.size:Int))&&decide (s.extract 0 p.size=p)
theorem D0 (s p:ByteArray):iI s p=some (pfx s p):=by
 unfold iI pfx
 by_cases h:(p.size:Int)≤(s.size:Int)
 ·rw [det h,dH]
  have e:nq s 0 (p.size:Int)=some (s.extract 0 p.size):=by unfold nq;rw [if_pos (by omega)];rfl
  rw [bS e]
 rw [cD h];rfl
theorem xd (s p:ByteArray):fO s p=some (pfx s p):=by
 unfold fO
 rw [show fy s p=iI s p from rfl,D0];rfl
def cov (m:Zb) (code origin:ByteArray) (company day:Int):Bool:=(((((decide (m.From≤day))&&(decide (day<m.To)))||(((decide (0≤m.Registered))&&(decide (m.Registered≤day)))&&(decide (day<m.From))))&&pfx code m.Prefix)&&(((m.Origins.length:Int) == 0)||xc m.Origins origin))&&((m.Company == 0)||(m.Company == company))
theorem zV (m:Zb) (hm:m.Origins.length≤4611686018427387904) (code origin:ByteArray) (company day:Int):gG m code origin company day=some (cov m code origin company day):=by
 unfold gG kB cov
 rw [dn,D0,(yI m.Origins origin hm).2]
 generalize (((decide (m.From≤day))&&(decide (day<m.To)))||(((decide (0≤m.Registered))&&(decide (m.Registered≤day)))&&(decide (day<m.From))))=a
 generalize pfx code m.Prefix=b
 generalize ((m.Origins.length:Int) == 0)=c
 generalize xc m.Origins origin=d
 generalize ((m.Company == 0)||(m.Company == company))=e
 cases a <;> cases b <;> cases c <;> cases d <;> cases e <;> rfl
theorem yJ (m:Zb) (hm:m.Origins.length≤4611686018427387904) (hr : -1≤m.Registered) (code origin:ByteArray) (company day:Int):ed m code origin company day=some (cov m code origin company day):=by
 unfold ed ja cov
 have:(m.Registered != (-1))=decide (0≤m.Registered):=by
  by_cases h:m.Registered = -1
  ·rw [h];rfl
  rw [det (by omega)];simp [h]
 rw [dn,xd,(yI m.Origins origin hm).1,this]
 generalize (((decide (m.From≤day))&&(decide (day<m.To)))||(((decide (0≤m.Registered))&&(decide (m.Registered≤day)))&&(decide (day<m.From))))=a
 generalize pfx code m.Prefix=b
 generalize ((m.Origins.length:Int) == 0)=c
 generalize xc m.Origins origin=d
 generalize ((m.Company == 0)||(m.Company == company))=e
 cases a <;> cases b <;> cases c <;> cases d <;> cases e <;> rfl
def oj (m:Zb):Int:=(((m.Prefix.size:Int)*2+(if m.Company=0 then 0 else 1))*100+50 - (if m.Origins.length=0 then 21 else (m.Origins.length:Int)))*10000000+m.ID
theorem A6 {m:Zb} (h:MOK m):fW m=some (oj m):=by
 obtain ⟨a1,a2,a3,a4,a5,a6,a7,a8,a9⟩:=h
 unfold fW oj
 have e1:(cond (decide (0<(m.Origins.length:Int))) (some (m.Origins.length:Int)) (some 21))=some (if m.Origins.length=0 then 21 else (m.Origins.length:Int)):=by
  by_cases h:m.Origins.length=0
  ·rw [h];rfl
  rw [det (by omega),if_neg h];rfl
 have e2:(cond (m.Company != 0) (some (1:Int)) (some 0))=some (if m.Company=0 then 0 else 1):=by
  by_cases h:m.Company=0
  ·rw [h];rfl
  rw [if_neg h,show (m.Company != 0)=true by simp [h]];rfl
 rw [bS e1,bS e2]
 have b1:(0:Int)≤(if m.Origins.length=0 then 21 else (m.Origins.length:Int))∧(if m.Origins.length=0 then 21 else (m.Origins.length:Int))≤21:=by split <;> omega
 have b2:(0:Int)≤(if m.Company=0 then 0 else 1)∧(if m.Company=0 then (0:Int) else 1)≤1:=by split <;> omega
 generalize (if m.Origins.length=0 then 21 else (m.Origins.length:Int))=n at *
 generalize (if m.Company=0 then (0:Int) else 1)=c at *
 unfold lb
 have hz:(m.Prefix.size:Int)≤8:=by omega
 have hz0:0≤(m.Prefix.size:Int):=by omega
 generalize (m.Prefix.size:Int)=z at *
 rw [cj (r:=z*2) (by omega) (by omega),cj (r:=z*2+c) (by omega) (by omega),cj (r:=(z*2+c)*100) (by omega) (by omega),cj (r:=(z*2+c)*100+50) (by omega) (by omega),cj (r:=(z*2+c)*100+50 - n) (by omega) (by omega),cj (r:=((z*2+c)*100+50 - n)*10000000) (by omega) (by omega),cj (by omega) (by omega)]
theorem yK {x y:Zb} (hx:MOK x) (hy:MOK y):dF x y=some (decide (oj y<oj x)):=by
 obtain ⟨a1,a2,a3,a4,a5,a6,a7,a8,a9⟩:=hx
 obtain ⟨b1,b2,b3,b4,b5,b6,b7,b8,b9⟩:=hy
 unfold dF oj
 have nx:(x.Origins.length=0∧(if x.Origins.length=0 then 21 else (x.Origins.length:Int))=21)∨(x.Origins.length≠0∧(if x.Origins.length=0 then 21 else (x.Origins.length:Int))=(x.Origins.length:Int)):=by split <;> omega
 have ny:(y.Origins.length=0∧(if y.Origins.length=0 then 21 else (y.Origins.length:Int))=21)∨(y.Origins.length≠0∧(if y.Origins.length=0 then 21 else (y.Origins.length:Int))=(y.Origins.length:Int)):=by split <;> omega
 have cx:(x.Company=0∧(if x.Company=0 then (0:Int) else 1)=0)∨(x.Company≠0∧(if x.Company=0 then (0:Int) else 1)=1):=by split <;> omega
 have cy:(y.Company=0∧(if y.Company=0 then (0:Int) else 1)=0)∨(y.Company≠0∧(if y.Company=0 then (0:Int) else 1)=1):=by split <;> omega
 generalize (if x.Origins.length=0 then 21 else (x.Origins.length:Int))=ox at *
 generalize (if y.Origins.length=0 then 21 else (y.Origins.length:Int))=oy at *
 generalize (if x.Company=0 then (0:Int) else 1)=px at *
 generalize (if y.Company=0 then (0:Int) else 1)=py at *
 have dx:(x.Company != 0)=decide (px=1):=by
  rw [Bool.eq_iff_iff];simp only [bne_iff_ne,decide_eq_true_eq];omega
 have dy:(y.Company != 0)=decide (py=1):=by
  rw [Bool.eq_iff_iff];simp only [bne_iff_ne,decide_eq_true_eq];omega
 rw [dx,dy]
 by_cases h1:(x.Prefix.size:Int)=(y.Prefix.size:Int)
 ·rw [show ((x.Prefix.size:Int) != (y.Prefix.size:Int))=false by rw [h1];simp,eu]
  by_cases h2:px=py
  ·rw [h2,bne_self_eq_false,eu]
   by_cases h3:(x.Origins.length:Int)=(y.Origins.length:Int)
   ·rw [show ((x.Origins.length:Int) != (y.Origins.length:Int))=false by rw [h3];simp,eu]
    congr 1
    apply decide_eq_decide.2
    omega
   rw [show ((x.Origins.length:Int) != (y.Origins.length:Int))=true from bne_iff_ne.2 h3,dG]
   congr 1
   rw [Bool.eq_iff_iff];simp only [Bool.or_eq_true,Bool.and_eq_true,beq_iff_eq,bne_iff_ne,decide_eq_true_eq];omega
  have:(decide (px=1) != decide (py=1))=true:=by
   rw [bne_iff_ne];intro h
   have:=decide_eq_decide.1 h;omega
  rw [this,dG]
  congr 1
  apply decide_eq_decide.2
  omega
 rw [show ((x.Prefix.size:Int) != (y.Prefix.size:Int))=true from bne_iff_ne.2 h1,dG]
 congr 1
 apply decide_eq_decide.2
 omega
theorem yL {R:Type} (l:List ByteArray) (hl:l.length≤4611686018427387904) (k:Unit⊕(Int×Bool)→Option R):Option.bind (bu (S:=Int) (T:=(Unit)⊕(_)) (fun v6=>cond (decide (v6<(l.length:Int))) (Option.bind (idx l v6) (fun m10=>Option.bind (dK m10) (fun x11=>Option.bind (gd ((!(!x11))&&(decide (0<v6))) (idx l (IntKind.i64.wrap (v6 - 1)))) (fun m12=>Option.bind (gd ((!(!x11))&&(decide (0<v6))) (idx l v6)) (fun m13=>cond ((!x11)||((decide (0<v6))&&(!Op.bytesLess m12.toList m13.toList))) (some (.inr (.inr (1,false)))) (some (.inl (IntKind.i64.wrap (v6+1))))))))) (some (.inr (.inl ())))) FUEL 0) k=k (match uA l with | .inl _=>.inl () | .inr _=>.inr (1,false)):=by
 obtain ⟨e,_⟩:=fm (T:=Unit⊕(Int×Bool)) hl (body:=fun v6=>cond (decide (v6<(l.length:Int))) (Option.bind (idx l v6) (fun m10=>Option.bind (dK m10) (fun x11=>Option.bind (gd ((!(!x11))&&(decide (0<v6))) (idx l (IntKind.i64.wrap (v6 - 1)))) (fun m12=>Option.bind (gd ((!(!x11))&&(decide (0<v6))) (idx l v6)) (fun m13=>cond ((!x11)||((decide (0<v6))&&(!Op.bytesLess m12.toList m13.toList))) (some (.inr (.inr (1,false)))) (some (.inl (IntKind.i64.wrap (v6+1))))))))) (some (.inr (.inl ()))))
  (fun i (_:Unit)=>i) (fun k x _=>if zU l k x then .inr () else .inl ()) (fun _=>.inl ()) (fun (_:Unit)=>.inr (1,false)) (fun _ _=>True) (by
   intro k hk a _
   refine ⟨?_,fun _ _=>trivial⟩
   rw [uS hk,dG,bS (bV hk),mh,iV hk hl,dn]
   unfold zU
   cases hc:lW l[k]
   ·rfl
   by_cases h0:0<k
   ·rw [det (show (0:Int)<(k:Int) by omega),det h0]
    simp only [Bool.not_true,Bool.not_false,Bool.true_and,Bool.false_or]
    rw [dH,bS (qo h0 hk hl),dH,bS (bV hk),ns (by omega)]
    cases Op.bytesLess (l[k-1]'(by omega)).toList l[k].toList <;> rfl
   rw [cD (show ¬ (0:Int)<(k:Int) by omega),cD h0];rfl)
  (by intro a _;rw [mw];rfl) () trivial
 rw [bS e]
 unfold uA
 cases run (fun k x _=>if zU l k x then Sum.inr () else Sum.inl ()) l 0 () <;> rfl
def zW (m:Zb):Bool:=((((((decide (m.ID<1))||(decide (1000000<m.ID)))||(decide (m.Kind<1)))||(decide (6<m.Kind)))||(decide (m.Company<0)))||(decide (999<m.Company)))
def B0 (m:Zb):Bool:=(((((decide (m.From<0))||(decide (m.To≤m.From)))||(decide (36525<m.To)))||(decide (m.Registered<(-1))))||(decide (m.From<m.Registered)))
def sG (m:Zb):Int:=if ig m.Prefix=0 then 1 else if 20<m.Origins.length then 8 else match uA m.Origins with | .inr _=>1 | .inl _=>if B0 m then 2 else (cT m.Duty).getD 0
def sH (l:List Zb) (k:Nat) (m:Zb):Int:=if zW m then 2 else if 0<k∧m.ID≤(l.getD (k - 1) m).ID then 9 else sG m
theorem zX {s:ByteArray} (h:ig s≠0):s.size≤8:=by
 unfold ig at h;split at h
 ·rename_i h;omega
 exact absurd rfl h
theorem mErr_ok {l:List Zb} {k:Nat} {m:Zb} (h:sH l k m=0):MOK m:=by
 unfold sH at h
 split at h
 ·cases h
 rename_i hf
 split at h
 ·cases h
 unfold sG at h
 split at h
 ·cases h
 rename_i hl
 split at h
 ·cases h
 rename_i ho
 split at h
 ·cases h
 split at h
 ·cases h
 rename_i hd
 simp [zW] at hf
 simp [B0] at hd
 obtain ⟨e,e1,e2,_⟩:=nA m.Duty
 rw [e1] at h
 have:e=0:=h
 subst this
 exact ⟨by omega,by omega,by omega,by omega,by omega,zX hl,by omega,by omega,e1⟩
theorem one_ok (m:Zb) (hp:m.Prefix.size≤140737488355328) (hf:zW m=false):kp m=some (sG m,(sG m == 0)):=by
 unfold kp sG
 rw [show (((((((decide (m.ID<1))||(decide (1000000<m.ID)))||(decide (m.Kind<1)))||(decide (6<m.Kind)))||(decide (m.Company<0)))||(decide (999<m.Company))):Bool)=false from hf,eu,bS (rI _ hp)]
 by_cases h1:ig m.Prefix=0
 ·rw [if_pos h1,h1];rfl
 rw [if_neg h1,show (ig m.Prefix == 0)=false by simp [h1],eu]
 by_cases h2:20<m.Origins.length
 ·rw [if_pos h2,det (by omega)];rfl
 rw [if_neg h2,cD (by omega),eu,yL _ (by omega)]
 cases uA m.Origins with
 | inr u=>rfl
 | inl u =>
  show cond (((((decide (m.From<0))||(decide (m.To≤m.From)))||(decide (36525<m.To)))||(decide (m.Registered<(-1))))||(decide (m.From<m.Registered))) _ _=_
  rw [show (((((decide (m.From<0))||(decide (m.To≤m.From)))||(decide (36525<m.To)))||(decide (m.Registered<(-1))))||(decide (m.From<m.Registered)))=B0 m from rfl]
  dsimp only
  cases B0 m
  ·obtain ⟨e,e1,_⟩:=nA m.Duty
   rw [eu,A4,e1];rfl
  rfl
theorem run_inr {α A R:Type} {f:Nat→α→A→A⊕R} (Q:R→Prop) (hf:∀ k x a r,f k x a=.inr r→Q r):∀ (l:List α) (k:Nat) (a:A) (r:R),run f l k a=.inr r→Q r:=by
 intro l
 induction l with
 | nil=>intro k a r h;cases h
 | cons y ys ih =>
  intro k a r h
  rw [eA] at h
  cases hfy:f k y a with
  | inl b=>rw [hfy] at h;exact ih _ _ _ h
  | inr r'=>rw [hfy] at h;change Sum.inr r'=Sum.inr r at h;injection h with h;exact h ▸ hf _ _ _ _ hfy
def mF (l:List Zb) (k:Nat) (m:Zb) (_:Unit):Unit⊕Int:=if sH l k m=0 then .inl () else .inr (sH l k m)
def mi (l:List Zb):Int:=if 300<l.length then 8 else match run (mF l) l 0 () with | .inl _=>0 | .inr r=>r
theorem yM {l:List Zb} (h:mi l=0):l.length≤300∧∀ m∈l,MOK m:=by
 unfold mi at h
 split at h
 ·cases h
 refine ⟨by omega,?_⟩
 cases hr:run (mF l) l 0 () with
 | inl a =>
  refine run_inl MOK ?_ l 0 () a hr
  intro k x a a' hx
  unfold mF at hx;split at hx
  ·exact mErr_ok (by assumption)
  ·cases hx
 | inr r =>
  rw [hr] at h
  have:r≠0:=run_inr (fun r=>r≠0) (by
   intro k x a r hx
   unfold mF at hx;split at hx
   ·cases hx
   injection hx with hx;rw [← hx];assumption) l 0 () r hr
  exact absurd h this
theorem uY (l:List Zb):gp l=some (mi l):=by
 unfold gp mi
 by_cases h:300<l.length
 ·rw [det (by omega),if_pos h];rfl
 rw [cD (by omega),if_neg h,eu]
 have hl:l.length≤4611686018427387904:=by omega
 obtain ⟨e,_⟩:=fm (T:=Unit⊕Int) hl (body:=fun v2=>cond (decide (v2<(l.length:Int))) (Option.bind (idx l v2) (fun m6=>cond ((((((decide (m6.ID<1))||(decide (1000000<m6.ID)))||(decide (m6.Kind<1)))||(decide (6<m6.Kind)))||(decide (m6.Company<0)))||(decide (999<m6.Company))) (some (.inr (.inr 2))) (Option.bind (gd (decide (0<v2)) (idx l (IntKind.i64.wrap (v2 - 1)))) (fun m9=>cond ((decide (0<v2))&&(decide (m6.ID≤m9.ID))) (some (.inr (.inr 9))) (Option.bind (dP m6.Prefix) (fun x11=>cond (x11 == 0) (some (.inr (.inr 1))) (cond (decide (20<(m6.Origins.length:Int))) (some (.inr (.inr 8))) (Option.bind (dw m6.Origins) (fun x14=>cond (!x14) (some (.inr (.inr 1))) (cond (((((decide (m6.From<0))||(decide (m6.To≤m6.From)))||(decide (36525<m6.To)))||(decide (m6.Registered<(-1))))||(decide (m6.From<m6.Registered))) (some (.inr (.inr 2))) (Option.bind (cT m6.Duty) (fun x17=>cond (x17 != 0) (some (.inr (.inr x17))) (some (.inl (IntKind.i64.wrap (v2+1)))))))))))))))) (some (.inr (.inl ()))))
  (fun i (_:Unit)=>i) (mF l) (fun _=>.inl ()) (fun r=>.inr r) (fun _ _=>True) (by
   intro k hk a _
   refine ⟨?_,fun _ _=>trivial⟩
   rw [uS hk,dG,bS (bV hk),iV hk hl]
   have fin:∀ z:Option (Int⊕(Unit⊕Int)),z=some (if sH l k l[k]=0 then Sum.inl ((k+1:Nat):Int) else Sum.inr (Sum.inr (sH l k l[k])))→z=some (outc (fun _=>((k+1:Nat):Int)) (fun r=>Sum.inr r) (mF l k l[k] a)):=by
    intro z hz
    rw [hz];unfold mF
    by_cases h:sH l k l[k]=0
    ·rw [if_pos h,if_pos h];rfl
    rw [if_neg h,if_neg h];rfl
   refine fin _ ?_
   unfold sH
   rw [show (((((((decide (l[k].ID<1))||(decide (1000000<l[k].ID)))||(decide (l[k].Kind<1)))||(decide (6<l[k].Kind)))||(decide (l[k].Company<0)))||(decide (999<l[k].Company))):Bool)=zW l[k] from rfl]
   cases hf:zW l[k]
   case true=>rfl
   rw [eu]
   have hrest:∀ c:Bool,(c=true↔0<k∧l[k].ID≤(l.getD (k - 1) l[k]).ID)→cond c (some (Sum.inr (Sum.inr 9)):Option (Int⊕(Unit⊕Int))) (Option.bind (dP l[k].Prefix) (fun x11=>cond (x11 == 0) (some (.inr (.inr 1))) (cond (decide (20<(l[k].Origins.length:Int))) (some (.inr (.inr 8))) (Option.bind (dw l[k].Origins) (fun x14=>cond (!x14) (some (.inr (.inr 1))) (cond (((((decide (l[k].From<0))||(decide (l[k].To≤l[k].From)))||(decide (36525<l[k].To)))||(decide (l[k].Registered<(-1))))||(decide (l[k].From<l[k].Registered))) (some (.inr (.inr 2))) (Option.bind (cT l[k].Duty) (fun x17=>cond (x17 != 0) (some (.inr (.inr x17))) (some (.inl ((k+1:Nat):Int)))))))))))=some (if (if false=true then 2 else if 0<k∧l[k].ID≤(l.getD (k - 1) l[k]).ID then 9 else sG l[k])=0 then Sum.inl ((k+1:Nat):Int) else Sum.inr (Sum.inr (if false=true then 2 else if 0<k∧l[k].ID≤(l.getD (k - 1) l[k]).ID then 9 else sG l[k]))):=by
    intro c hc
    rw [if_neg (show ¬ false=true by decide)]
    cases c
    case true=>rw [if_pos (hc.1 rfl)];rfl
    have hn:¬ (0<k∧l[k].ID≤(l.getD (k - 1) l[k]).ID):=fun h=>by have:=hc.2 h;cases this
    rw [if_neg hn,eu]
    show cond (ig l[k].Prefix == 0) _ _=_
    unfold sG
    by_cases h1:ig l[k].Prefix=0
    ·rw [if_pos h1,h1];rfl
    rw [if_neg h1,show (ig l[k].Prefix == 0)=false by simp [h1],eu]
    by_cases h2:20<l[k].Origins.length
    ·rw [if_pos h2,det (by omega)];rfl
    rw [if_neg h2,cD (by omega),eu,xb _ (by omega)]
    cases uA l[k].Origins with
    | inr u=>rfl
    | inl u =>
     show cond (((((decide (l[k].From<0))||(decide (l[k].To≤l[k].From)))||(decide (36525<l[k].To)))||(decide (l[k].Registered<(-1))))||(decide (l[k].From<l[k].Registered))) _ _=_
     rw [show (((((decide (l[k].From<0))||(decide (l[k].To≤l[k].From)))||(decide (36525<l[k].To)))||(decide (l[k].Registered<(-1))))||(decide (l[k].From<l[k].Registered)))=B0 l[k] from rfl]
     dsimp only
     cases B0 l[k]
     ·obtain ⟨e,e1,_⟩:=nA l[k].Duty
      rw [eu,e1,dn]
      by_cases h3:e=0
      ·subst h3;rfl
      rw [show (e != 0)=true by simp [h3]]
      show _=some (if e=0 then Sum.inl ((k+1:Nat):Int) else Sum.inr (Sum.inr e))
      rw [if_neg h3];rfl
     rfl
   by_cases h0:0<k
   ·rw [det (show (0:Int)<(k:Int) by omega),dH,bS (qo h0 hk hl),Bool.true_and]
    refine hrest _ ?_
    rw [ns (by omega)];simp [h0]
   rw [cD (show ¬ (0:Int)<(k:Int) by omega),kJ,dn,Bool.false_and]
   exact hrest false (by simp [h0]))
  (by intro a _;rw [mw];rfl) () trivial
 rw [bS e]
 cases run (mF l) l 0 () <;> rfl
theorem xe (l:List Zb) (hp:∀ m∈l,m.Prefix.size≤140737488355328):iv l=some (mi l):=by
 unfold iv mi
 by_cases h:300<l.length
 ·rw [det (by omega),if_pos h];rfl
 rw [cD (by omega),if_neg h,eu]
 have hl:l.length≤4611686018427387904:=by omega
 obtain ⟨e,_⟩:=fm (T:=Unit⊕Int) hl (body:=fun v2=>cond (decide (v2<(l.length:Int))) (Option.bind (idx l v2) (fun m6=>cond ((((((decide (m6.ID<1))||(decide (1000000<m6.ID)))||(decide (m6.Kind<1)))||(decide (6<m6.Kind)))||(decide (m6.Company<0)))||(decide (999<m6.Company))) (some (.inr (.inr 2))) (Option.bind (gd (decide (0<v2)) (idx l (IntKind.i64.wrap (v2 - 1)))) (fun m9=>cond ((decide (0<v2))&&(decide (m6.ID≤m9.ID))) (some (.inr (.inr 9))) (Option.bind (kp m6) (fun x11=>cond (x11.1 != 0) (some (.inr (.inr x11.1))) (some (.inl (IntKind.i64.wrap (v2+1)))))))))) (some (.inr (.inl ()))))
  (fun i (_:Unit)=>i) (mF l) (fun _=>.inl ()) (fun r=>.inr r) (fun _ _=>True) (by
   intro k hk a _
   refine ⟨?_,fun _ _=>trivial⟩
   rw [uS hk,dG,bS (bV hk),iV hk hl]
   have fin:∀ z:Option (Int⊕(Unit⊕Int)),z=some (if sH l k l[k]=0 then Sum.inl ((k+1:Nat):Int) else Sum.inr (Sum.inr (sH l k l[k])))→z=some (outc (fun _=>((k+1:Nat):Int)) (fun r=>Sum.inr r) (mF l k l[k] a)):=by
    intro z hz
    rw [hz];unfold mF
    by_cases h:sH l k l[k]=0
    ·rw [if_pos h,if_pos h];rfl
    rw [if_neg h,if_neg h];rfl
   refine fin _ ?_
   unfold sH
   rw [show (((((((decide (l[k].ID<1))||(decide (1000000<l[k].ID)))||(decide (l[k].Kind<1)))||(decide (6<l[k].Kind)))||(decide (l[k].Company<0)))||(decide (999<l[k].Company))):Bool)=zW l[k] from rfl]
   cases hf:zW l[k]
   case true=>rfl
   rw [eu,if_neg (show ¬ false=true by decide)]
   have hrest:∀ c:Bool,(c=true↔0<k∧l[k].ID≤(l.getD (k - 1) l[k]).ID)→cond c (some (Sum.inr (Sum.inr 9)):Option (Int⊕(Unit⊕Int))) (Option.bind (kp l[k]) (fun x11=>cond (x11.1 != 0) (some (.inr (.inr x11.1))) (some (.inl ((k+1:Nat):Int)))))=some (if (if 0<k∧l[k].ID≤(l.getD (k - 1) l[k]).ID then 9 else sG l[k])=0 then Sum.inl ((k+1:Nat):Int) else Sum.inr (Sum.inr (if 0<k∧l[k].ID≤(l.getD (k - 1) l[k]).ID then 9 else sG l[k]))):=by
    intro c hc
    cases c
    case true=>rw [if_pos (hc.1 rfl)];rfl
    have hn:¬ (0<k∧l[k].ID≤(l.getD (k - 1) l[k]).ID):=fun h=>by have:=hc.2 h;cases this
    rw [if_neg hn,eu,bS (one_ok _ (hp _ (List.getElem_mem hk)) hf)]
    by_cases h3:sG l[k]=0
    ·rw [if_pos h3,h3];rfl
    rw [if_neg h3,show (sG l[k] != 0)=true by simp [h3]];rfl
   by_cases h0:0<k
   ·rw [det (show (0:Int)<(k:Int) by omega),dH,bS (qo h0 hk hl),Bool.true_and]
    refine hrest _ ?_
    rw [ns (by omega)];simp [h0]
   rw [cD (show ¬ (0:Int)<(k:Int) by omega),kJ,dn,Bool.false_and]
   exact hrest false (by simp [h0]))
  (by intro a _;rw [mw];rfl) () trivial
 rw [bS e]
 cases run (mF l) l 0 () <;> rfl
theorem xf {α:Type} {l:List α} {b:Int} (h0:0≤b) (h1:b<l.length):idx l b=some (l[b.toNat]'(by omega)):=by
 obtain ⟨k,rfl⟩:∃ k:Nat,b=(k:Int):=⟨b.toNat,by omega⟩
 exact bV (by omega)
def cK (kind:Int) (code origin:ByteArray) (company day:Int) (m:Zb):Bool:=(m.Kind == kind)&&cov m code origin company day
def uB (l:List Zb) (c:Zb→Bool) (k:Nat) (m:Zb) (b:Int):Int:=if c m=true∧(b<0∨oj (l.getD b.toNat m)<oj m) then (k:Int) else b
def A7 (l:List Zb) (c:Zb→Bool) (k:Nat) (m:Zb) (b:Int):Int⊕Unit:=.inl (uB l c k m b)
def ol (l:List Zb) (c:Zb→Bool):Int:=uT id (fun _ => -1) (run (A7 l c) l 0 (-1))
def mj (l:List Zb) (c:Zb→Bool):Option Zb:=if ol l c<0 then none else l[(ol l c).toNat]?
def BP (l:List Zb) (c:Zb→Bool) (k:Nat) (b:Int):Prop := -1≤b∧b<(k:Int)∧(0≤b→∃ m,l[b.toNat]?=some m∧c m=true)
def zeroM:Zb:=⟨0,0,ByteArray.empty,[],0,0,0,0,(⟨0,0,0,false,0,false,0⟩:Zm)⟩
theorem A8 {l:List Zb} {c:Zb→Bool} {k:Nat} (hk:k<l.length) {b:Int} (h:BP l c k b):BP l c (k+1) (uB l c k l[k] b):=by
 obtain ⟨a1,a2,a3⟩:=h
 unfold uB
 split
 ·rename_i h
  exact ⟨by omega,by omega,fun _=>⟨l[k],by simp,h.1⟩⟩
 exact ⟨a1,by omega,a3⟩
theorem D1 (l:List Zb) (c:Zb→Bool):∀ (xs:List Zb) (k:Nat) (b:Int),∃ b',run (A7 l c) xs k b=.inl b':=by
 intro xs
 induction xs with
 | nil=>intro k b;exact ⟨b,rfl⟩
 | cons x xs ih=>intro k b;exact ih (k+1) _
def lu (acc:List Zb) (o:Option Zb):List Zb:=acc++o.toList
theorem om (acc:List Zb) (o:Option Zb):(lu acc o).length≤acc.length+1:=by
 unfold lu;cases o <;> simp
section
variable {l:List Zb} (hl:l.length≤300) (hm:∀ m∈l,MOK m) (kind:Int) (code origin:ByteArray) (company day:Int)
include hl hm
theorem A9:bu (S:=Int×Int) (T:=(Int)) (fun (v5,v6)=>cond (decide (v6<(l.length:Int))) (Option.bind (Option.bind (idx l v6) (fun m13=>Option.bind (gd (m13.Kind == kind) (idx l v6)) (fun m14=>Option.bind (gd (m13.Kind == kind) (gG m14 code origin company day)) (fun x15=>Option.bind (gd (((m13.Kind == kind)&&x15)&&(!(decide (v5<0)))) (idx l v6)) (fun m16=>Option.bind (gd (((m13.Kind == kind)&&x15)&&(!(decide (v5<0)))) (idx l v5)) (fun m17=>Option.bind (gd (((m13.Kind == kind)&&x15)&&(!(decide (v5<0)))) (fW m16)) (fun x18=>Option.bind (gd (((m13.Kind == kind)&&x15)&&(!(decide (v5<0)))) (fW m17)) (fun x19=>cond (((m13.Kind == kind)&&x15)&&((decide (v5<0))||(decide (x19<x18)))) (some v6) (some v5))))))))) (fun v11=>some (.inl (v11,(IntKind.i64.wrap (v6+1)))))) (some (.inr v5))) FUEL ((-1),0)=some (ol l (cK kind code origin company day))∧BP l (cK kind code origin company day) l.length (ol l (cK kind code origin company day)):=by
 have hl':l.length≤4611686018427387904:=by omega
 obtain ⟨e,e2⟩:=fm (S:=Int×Int) (T:=Int) hl' (body:=fun (v5,v6)=>cond (decide (v6<(l.length:Int))) (Option.bind (Option.bind (idx l v6) (fun m13=>Option.bind (gd (m13.Kind == kind) (idx l v6)) (fun m14=>Option.bind (gd (m13.Kind == kind) (gG m14 code origin company day)) (fun x15=>Option.bind (gd (((m13.Kind == kind)&&x15)&&(!(decide (v5<0)))) (idx l v6)) (fun m16=>Option.bind (gd (((m13.Kind == kind)&&x15)&&(!(decide (v5<0)))) (idx l v5)) (fun m17=>Option.bind (gd (((m13.Kind == kind)&&x15)&&(!(decide (v5<0)))) (fW m16)) (fun x18=>Option.bind (gd (((m13.Kind == kind)&&x15)&&(!(decide (v5<0)))) (fW m17)) (fun x19=>cond (((m13.Kind == kind)&&x15)&&((decide (v5<0))||(decide (x19<x18)))) (some v6) (some v5))))))))) (fun v11=>some (.inl (v11,(IntKind.i64.wrap (v6+1)))))) (some (.inr v5)))
  (fun i b=>(b,i)) (A7 l (cK kind code origin company day)) id (fun _ => -1) (BP l (cK kind code origin company day)) (by
   intro k hk b hb
   refine ⟨?_,fun a' h=>by injection h with h;rw [← h];exact A8 hk hb⟩
   have mk:=hm _ (List.getElem_mem hk)
   dsimp only
   rw [uS hk,dG,bS (bV hk),iV hk hl']
   show Option.bind _ _=some (Sum.inl (uB l (cK kind code origin company day) k l[k] b,((k+1:Nat):Int)))
   unfold uB cK
   cases hkd:(l[k].Kind == kind)
   ·rfl
   rw [dH,bS (bV hk),dH,zV _ (by have:=mk.orig;omega)]
   rw [dn]
   cases hc:cov l[k] code origin company day
   ·rfl
   by_cases hb0:b<0
   ·rw [det hb0,if_pos ⟨rfl,.inl hb0⟩];rfl
   obtain ⟨b1,b2,b3⟩:=hb
   have hbl:b<l.length:=by omega
   have mb:=hm _ (List.getElem_mem (show b.toNat<l.length by omega))
   rw [cD hb0]
   simp only [Bool.not_false,Bool.and_self,Bool.true_and,Bool.false_or]
   rw [dH,bS (bV hk),dH,bS (xf (by omega) hbl),dH,bS (A6 mk),dH,bS (A6 mb),ns (by omega)]
   by_cases hr:oj (l[b.toNat]'(by omega))<oj l[k]
   ·rw [det hr,if_pos ⟨trivial,.inr hr⟩];rfl
   rw [cD hr,if_neg (fun h=>h.2.elim hb0 hr)];rfl)
  (by intro b _;dsimp only;rw [mw];rfl) (-1) ⟨by omega,by omega,fun h=>absurd h (by omega)⟩
 refine ⟨e,?_⟩
 obtain ⟨b',hb'⟩:=D1 l (cK kind code origin company day) l 0 (-1)
 have:=e2 b' hb'
 unfold ol;rw [hb'];exact this
theorem D2:bu (S:=Int×Int) (T:=(Int)) (fun (v22,v23)=>cond (decide (v23<(l.length:Int))) (Option.bind (Option.bind (idx l v23) (fun m32=>Option.bind (gd (m32.Kind == kind) (ed m32 code origin company day)) (fun x34=>Option.bind (gd (((m32.Kind == kind)&&x34)&&(!(decide (v22<0)))) (idx l v22)) (fun m35=>Option.bind (gd (((m32.Kind == kind)&&x34)&&(!(decide (v22<0)))) (dF m32 m35)) (fun x36=>cond (((m32.Kind == kind)&&x34)&&((decide (v22<0))||x36)) (some v23) (some v22)))))) (fun v30=>some (.inl (v30,(IntKind.i64.wrap (v23+1)))))) (some (.inr v22))) FUEL ((-1),0)=some (ol l (cK kind code origin company day)):=by
 have hl':l.length≤4611686018427387904:=by omega
 obtain ⟨e,e2⟩:=fm (S:=Int×Int) (T:=Int) hl' (body:=fun (v22,v23)=>cond (decide (v23<(l.length:Int))) (Option.bind (Option.bind (idx l v23) (fun m32=>Option.bind (gd (m32.Kind == kind) (ed m32 code origin company day)) (fun x34=>Option.bind (gd (((m32.Kind == kind)&&x34)&&(!(decide (v22<0)))) (idx l v22)) (fun m35=>Option.bind (gd (((m32.Kind == kind)&&x34)&&(!(decide (v22<0)))) (dF m32 m35)) (fun x36=>cond (((m32.Kind == kind)&&x34)&&((decide (v22<0))||x36)) (some v23) (some v22)))))) (fun v30=>some (.inl (v30,(IntKind.i64.wrap (v23+1)))))) (some (.inr v22)))
  (fun i b=>(b,i)) (A7 l (cK kind code origin company day)) id (fun _ => -1) (BP l (cK kind code origin company day)) (by
   intro k hk b hb
   refine ⟨?_,fun a' h=>by injection h with h;rw [← h];exact A8 hk hb⟩
   have mk:=hm _ (List.getElem_mem hk)
   dsimp only
   rw [uS hk,dG,bS (bV hk),iV hk hl']
   show Option.bind _ _=some (Sum.inl (uB l (cK kind code origin company day) k l[k] b,((k+1:Nat):Int)))
   unfold uB cK
   cases hkd:(l[k].Kind == kind)
   ·rfl
   rw [dH,yJ _ (by have:=mk.orig;omega) mk.reg]
   rw [dn]
   cases hc:cov l[k] code origin company day
   ·rfl
   by_cases hb0:b<0
   ·rw [det hb0,if_pos ⟨rfl,.inl hb0⟩];rfl
   obtain ⟨b1,b2,b3⟩:=hb
   have hbl:b<l.length:=by omega
   have mb:=hm _ (List.getElem_mem (show b.toNat<l.length by omega))
   rw [cD hb0]
   simp only [Bool.not_false,Bool.and_self,Bool.true_and,Bool.false_or]
   rw [dH,bS (xf (by omega) hbl),dH,bS (yK mk mb),ns (by omega)]
   by_cases hr:oj (l[b.toNat]'(by omega))<oj l[k]
   ·rw [det hr,if_pos ⟨trivial,.inr hr⟩];rfl
   rw [cD hr,if_neg (fun h=>h.2.elim hb0 hr)];rfl)
  (by intro b _;dsimp only;rw [mw];rfl) (-1) ⟨by omega,by omega,fun h=>absurd h (by omega)⟩
 exact e
theorem rJ:(mj l (cK kind code origin company day)=none∧ol l (cK kind code origin company day)<0)∨∃ m,mj l (cK kind code origin company day)=some m∧0≤ol l (cK kind code origin company day)∧idx l (ol l (cK kind code origin company day))=some m∧MOK m∧m.Kind=kind∧m∈l:=by
 obtain ⟨_,b1,b2,b3⟩:=A9 hl hm kind code origin company day
 unfold mj
 by_cases h:ol l (cK kind code origin company day)<0
 ·left;rw [if_pos h];exact ⟨rfl,h⟩
 right
 rw [if_neg h]
 obtain ⟨m,h1,h2⟩:=b3 (by omega)
 have hmem:=List.mem_of_getElem? h1
 refine ⟨m,h1,by omega,?_,hm m hmem,?_,hmem⟩
 ·unfold idx;rw [if_pos (by omega)];exact h1
 unfold cK at h2;simp only [Bool.and_eq_true,beq_iff_eq] at h2;exact h2.1
theorem zY:iY l kind code origin company day=some (match mj l (cK kind code origin company day) with | none=>(zeroM,false) | some m=>(m,true)):=by
 unfold iY
 rw [bS (A9 hl hm kind code origin company day).1]
 rcases rJ hl hm kind code origin company day with ⟨h1,h2⟩ | ⟨m,h1,h2,h3,_⟩
 ·rw [h1,det h2];rfl
 rw [h1,cD (by omega),eu,bS h3]
theorem B1 (acc:List Zb) (ha:acc.length≤10):(Option.bind (some (ol l (cK kind code origin company day))) (fun v25=>cond (decide (0≤v25)) (Option.bind (idx l v25) (fun m39=>Option.bind (cA m39.Origins) (fun x41=>Option.bind (app 144 acc [(⟨m39.ID,m39.Kind,m39.Prefix,x41,m39.Company,m39.From,m39.To,m39.Registered,m39.Duty⟩:Zb)]) (fun l47=>some l47)))) (some acc)))=some (lu acc (mj l (cK kind code origin company day))):=by
 rw [dn]
 rcases rJ hl hm kind code origin company day with ⟨h1,h2⟩ | ⟨m,h1,h2,h3,h4,_⟩
 ·rw [h1,cD (by omega)];simp [lu]
 rw [h1,det h2,dG,bS h3]
 have:=h4.orig
 have e1:cA m.Origins=some m.Origins:=by
  unfold cA app;rw [if_pos (by simp;omega)];rfl
 have e2:app 144 acc [m]=some (acc++[m]):=by unfold app;rw [if_pos (by simp;omega)]
 rw [bS e1,show (⟨m.ID,m.Kind,m.Prefix,m.Origins,m.Company,m.From,m.To,m.Registered,m.Duty⟩:Zb)=m from rfl,bS e2];rfl
end
def sI (l:List Zb) (code origin:ByteArray) (company day:Int):List Zb:=lu (lu (lu (lu (lu (lu [] (mj l (cK 1 code origin company day))) (mj l (cK 2 code origin company day))) (mj l (cK 3 code origin company day))) (mj l (cK 4 code origin company day))) (mj l (cK 5 code origin company day))) (mj l (cK 6 code origin company day))
theorem zZ {l:List Zb} (hl:l.length≤300) (hm:∀ m∈l,MOK m) (code origin:ByteArray) (company day:Int):ft l code origin company day=some (sI l code origin company day):=by
  unfold ft
  have hfu:FUEL=1267650600228229401496703205367+9:=rfl
  have hstep:∀ (N:Nat) (acc:List Zb) (k:Int),1≤k→k≤6→acc.length≤10→∀ {β:Type} (c:List Zb→Option β),
      (bu (S:=(List Zb)×Int) (T:=((List Zb))) (fun (l5,v8)=>cond (decide (v8≤6)) (Option.bind (Option.bind (bu (S:=Int×Int) (T:=(Int)) (fun (v22,v23)=>cond (decide (v23<(l.length:Int))) (Option.bind (Option.bind (idx l v23) (fun m32=>Option.bind (gd (m32.Kind == v8) (ed m32 code origin company day)) (fun x34=>Option.bind (gd (((m32.Kind == v8)&&x34)&&(!(decide (v22<0)))) (idx l v22)) (fun m35=>Option.bind (gd (((m32.Kind == v8)&&x34)&&(!(decide (v22<0)))) (dF m32 m35)) (fun x36=>cond (((m32.Kind == v8)&&x34)&&((decide (v22<0))||x36)) (some v23) (some v22)))))) (fun v30=>some (.inl (v30,(IntKind.i64.wrap (v23+1)))))) (some (.inr v22))) FUEL ((-1),0)) (fun v25=>cond (decide (0≤v25)) (Option.bind (idx l v25) (fun m39=>Option.bind (cA m39.Origins) (fun x41=>Option.bind (app 144 l5 [(⟨m39.ID,m39.Kind,m39.Prefix,x41,m39.Company,m39.From,m39.To,m39.Registered,m39.Duty⟩:Zb)]) (fun l47=>some l47)))) (some l5))) (fun l20=>some (.inl (l20,(IntKind.i64.wrap (v8+1)))))) (some (.inr l5))) (N+1) (acc,k)).bind c=(bu (S:=(List Zb)×Int) (T:=((List Zb))) (fun (l5,v8)=>cond (decide (v8≤6)) (Option.bind (Option.bind (bu (S:=Int×Int) (T:=(Int)) (fun (v22,v23)=>cond (decide (v23<(l.length:Int))) (Option.bind (Option.bind (idx l v23) (fun m32=>Option.bind (gd (m32.Kind == v8) (ed m32 code origin company day)) (fun x34=>Option.bind (gd (((m32.Kind == v8)&&x34)&&(!(decide (v22<0)))) (idx l v22)) (fun m35=>Option.bind (gd (((m32.Kind == v8)&&x34)&&(!(decide (v22<0)))) (dF m32 m35)) (fun x36=>cond (((m32.Kind == v8)&&x34)&&((decide (v22<0))||x36)) (some v23) (some v22)))))) (fun v30=>some (.inl (v30,(IntKind.i64.wrap (v23+1)))))) (some (.inr v22))) FUEL ((-1),0)) (fun v25=>cond (decide (0≤v25)) (Option.bind (idx l v25) (fun m39=>Option.bind (cA m39.Origins) (fun x41=>Option.bind (app 144 l5 [(⟨m39.ID,m39.Kind,m39.Prefix,x41,m39.Company,m39.From,m39.To,m39.Registered,m39.Duty⟩:Zb)]) (fun l47=>some l47)))) (some l5))) (fun l20=>some (.inl (l20,(IntKind.i64.wrap (v8+1)))))) (some (.inr l5))) N (lu acc (mj l (cK k code origin company day)),k+1)).bind c:=by
    intro N acc k k0 k1 ha β c
    refine cB _ ?_
    dsimp only
    rw [det k1,dG,D2 hl hm k code origin company day,B1 hl hm k code origin company day acc ha,dn,cj (by omega) (by omega)]
  have l1:=om [] (mj l (cK 1 code origin company day))
  have l2:=om (lu [] (mj l (cK 1 code origin company day))) (mj l (cK 2 code origin company day))
  have l3:=om (lu (lu [] (mj l (cK 1 code origin company day))) (mj l (cK 2 code origin company day))) (mj l (cK 3 code origin company day))
  have l4:=om (lu (lu (lu [] (mj l (cK 1 code origin company day))) (mj l (cK 2 code origin company day))) (mj l (cK 3 code origin company day))) (mj l (cK 4 code origin company day))
  have l5:=om (lu (lu (lu (lu [] (mj l (cK 1 code origin company day))) (mj l (cK 2 code origin company day))) (mj l (cK 3 code origin company day))) (mj l (cK 4 code origin company day))) (mj l (cK 5 code origin company day))
  simp only [List.length_nil] at l1
  refine (hstep 1267650600228229401496703205375 [] 1 (by omega) (by omega) (by simp) _).trans ?_
  refine (hstep 1267650600228229401496703205374 _ 2 (by omega) (by omega) (by omega) _).trans ?_
  refine (hstep 1267650600228229401496703205373 _ 3 (by omega) (by omega) (by omega) _).trans ?_
  refine (hstep 1267650600228229401496703205372 _ 4 (by omega) (by omega) (by omega) _).trans ?_
  refine (hstep 1267650600228229401496703205371 _ 5 (by omega) (by omega) (by omega) _).trans ?_
  refine (hstep 1267650600228229401496703205370 _ 6 (by omega) (by omega) (by omega) _).trans ?_
  exact (dA (sI l code origin company day) rfl)
abbrev LS:=Bool×Int×Int×Int×Int×Int
def Ba:Zd:=⟨0,0,0,0,0⟩
def ml (q v:Int) (st:LS) (m:Zb):LS⊕Int :=
 if (nB m.Duty v q).2≠0 then .inr (nB m.Duty v q).2 else if st.1=false∨(nB m.Duty v q).1<st.2.2.2.2.2 then .inl (true,m.Kind,m.ID,q,v,(nB m.Duty v q).1) else .inl st
def jU (q v:Int) (o:Option Zb) (st:LS):LS⊕Int:=match o with | none=>.inl st | some m=>ml q v st m
def gt (kind q v:Int) (_:Nat) (m:Zb) (st:LS):LS⊕Int:=if m.Kind=kind then ml q v st m else .inl st
def rK (ms:List Zb) (q v:Int) (_:Nat) (k:Int) (st:LS):LS⊕Int:=run (gt k q v) ms 0 st
def Bb (ms:List Zb) (q v:Int) (ks:List Int):LS⊕Int:=run (rK ms q v) ks 0 (false,0,0,0,0,0)
def oo (st:LS):Zd:=⟨st.2.1,st.2.2.1,st.2.2.2.1,st.2.2.2.2.1,st.2.2.2.2.2⟩
section
variable {ms:List Zb} (hl:ms.length≤300) (hm:∀ m∈ms,MOK m) {q v:Int} (hv:0≤v) (hv':v≤1000000000000) (hq:0≤q) (hq':q≤1000000000)
include hl hm hv hv' hq hq'
theorem D3 (ks:List Int) (hks:ks.length≤10):ff ms ⟨q,v,ks⟩=some (uT (fun st=>(oo st,st.1,0)) (fun e=>(Ba,false,e)) (Bb ms q v ks)):=by
 unfold ff
 have inner:∀ (kind:Int) (st:LS),bu (S:=Bool×Int×Int×Int×Int×Int×Int) (T:=(Bool×Int×Int×Int×Int×Int)⊕((Bool×Int×Int×Int×Int×Int×Int)⊕((Bool×Int×Int×Int×Int×Int)⊕(Zd×Bool×Int)))) (fun (v21,v22,v23,v24,v25,v26,v27)=>cond (decide (v22<(ms.length:Int))) (Option.bind (α:=(Bool×Int×Int×Int×Int×Int)⊕_) (Option.bind (idx ms v22) (fun m44=>cond (m44.Kind != kind) (some (.inl (v21,v23,v24,v25,v26,v27))) (Option.bind (fc m44.Duty v q) (fun x47=>cond (x47.2 != 0) (some (.inr (.inr (.inr (.inr (.inr ((⟨0,0,0,0,0⟩:Zd),false,x47.2))))))) (cond ((!v21)||(decide (x47.1<v27))) (some (.inl (true,m44.Kind,m44.ID,q,v,x47.1))) (some (.inl (v21,v23,v24,v25,v26,v27)))))))) (fun q=>match q with | .inl (v37,v38,v39,v40,v41,v42)=>some (.inl (v37,(IntKind.i64.wrap (v22+1)),v38,v39,v40,v41,v42)) | .inr e=>some e)) (some (.inr (.inl (v21,v23,v24,v25,v26,v27))))) FUEL (st.1,0,st.2.1,st.2.2.1,st.2.2.2.1,st.2.2.2.2.1,st.2.2.2.2.2)=some (uT (fun st=>.inl st) (fun e=>.inr (.inr (.inr (Ba,false,e)))) (run (gt kind q v) ms 0 st)):=by
  intro kind st
  have hl':ms.length≤4611686018427387904:=by omega
  exact (fm (S:=Bool×Int×Int×Int×Int×Int×Int) (T:=(Bool×Int×Int×Int×Int×Int)⊕((Bool×Int×Int×Int×Int×Int×Int)⊕((Bool×Int×Int×Int×Int×Int)⊕(Zd×Bool×Int)))) hl' (body:=fun (v21,v22,v23,v24,v25,v26,v27)=>cond (decide (v22<(ms.length:Int))) (Option.bind (α:=(Bool×Int×Int×Int×Int×Int)⊕_) (Option.bind (idx ms v22) (fun m44=>cond (m44.Kind != kind) (some (.inl (v21,v23,v24,v25,v26,v27))) (Option.bind (fc m44.Duty v q) (fun x47=>cond (x47.2 != 0) (some (.inr (.inr (.inr (.inr (.inr ((⟨0,0,0,0,0⟩:Zd),false,x47.2))))))) (cond ((!v21)||(decide (x47.1<v27))) (some (.inl (true,m44.Kind,m44.ID,q,v,x47.1))) (some (.inl (v21,v23,v24,v25,v26,v27)))))))) (fun q=>match q with | .inl (v37,v38,v39,v40,v41,v42)=>some (.inl (v37,(IntKind.i64.wrap (v22+1)),v38,v39,v40,v41,v42)) | .inr e=>some e)) (some (.inr (.inl (v21,v23,v24,v25,v26,v27)))))
   (fun i (st:LS)=>(st.1,i,st.2.1,st.2.2.1,st.2.2.2.1,st.2.2.2.2.1,st.2.2.2.2.2)) (gt kind q v) (fun st=>.inl st) (fun e=>.inr (.inr (.inr (Ba,false,e)))) (fun _ _=>True) (by
    intro k hk st _
    refine ⟨?_,fun _ _=>trivial⟩
    have mk:=hm _ (List.getElem_mem hk)
    obtain ⟨e0,e1,e2,_⟩:=nA ms[k].Duty
    rw [mk.duty] at e1
    have hd:=e2 (Option.some.inj e1).symm
    dsimp only
    rw [uS hk,dG,bS (bV hk),BX hd hv hv' hq hq' mk.duty,iV hk hl',dn]
    unfold gt ml
    by_cases h1:ms[k].Kind=kind
    ·rw [if_pos h1,show (ms[k].Kind != kind)=false by simp [h1],eu]
     by_cases h2:(nB ms[k].Duty v q).2=0
     ·rw [if_neg (by simp [h2]),show ((nB ms[k].Duty v q).2 != 0)=false by simp [h2],eu]
      by_cases h3:st.1=false∨(nB ms[k].Duty v q).1<st.2.2.2.2.2
      ·rw [if_pos h3,show ((!st.1)||(decide ((nB ms[k].Duty v q).1<st.2.2.2.2.2)))=true by simp;exact h3];rfl
      rw [if_neg h3,show ((!st.1)||(decide ((nB ms[k].Duty v q).1<st.2.2.2.2.2)))=false by
       rw [Bool.eq_false_iff];intro h;apply h3;simpa using h];rfl
     rw [if_pos h2,show ((nB ms[k].Duty v q).2 != 0)=true by simp [h2]];rfl
    rw [if_neg h1,show (ms[k].Kind != kind)=true by simp [h1]];rfl)
   (by intro st _;dsimp only;rw [mw];rfl) st trivial).1
 have hk':ks.length≤4611686018427387904:=by omega
 obtain ⟨e,_⟩:=fm (S:=Bool×Int×Int×Int×Int×Int×Int) (T:=(Bool×Int×Int×Int×Int×Int)⊕(Zd×Bool×Int)) hk' (body:=fun (v4,v5,v6,v7,v8,v9,v10)=>cond (decide (v5<(ks.length:Int))) (Option.bind (idx ks v5) (fun m20=>Option.bind (bu (S:=Bool×Int×Int×Int×Int×Int×Int) (T:=(Bool×Int×Int×Int×Int×Int)⊕(_)) (fun (v21,v22,v23,v24,v25,v26,v27)=>cond (decide (v22<(ms.length:Int))) (Option.bind (α:=(Bool×Int×Int×Int×Int×Int)⊕_) (Option.bind (idx ms v22) (fun m44=>cond (m44.Kind != m20) (some (.inl (v21,v23,v24,v25,v26,v27))) (Option.bind (fc m44.Duty v q) (fun x47=>cond (x47.2 != 0) (some (.inr (.inr (.inr (.inr (.inr ((⟨0,0,0,0,0⟩:Zd),false,x47.2))))))) (cond ((!v21)||(decide (x47.1<v27))) (some (.inl (true,m44.Kind,m44.ID,q,v,x47.1))) (some (.inl (v21,v23,v24,v25,v26,v27)))))))) (fun q=>match q with | .inl (v37,v38,v39,v40,v41,v42)=>some (.inl (v37,(IntKind.i64.wrap (v22+1)),v38,v39,v40,v41,v42)) | .inr e=>some e)) (some (.inr (.inl (v21,v23,v24,v25,v26,v27))))) FUEL (v4,0,v6,v7,v8,v9,v10)) (fun q=>match q with | .inl (v28,v29,v30,v31,v32,v33)=>some (.inl (v28,(IntKind.i64.wrap (v5+1)),v29,v30,v31,v32,v33)) | .inr e=>some e))) (some (.inr (.inl (v4,v6,v7,v8,v9,v10)))))
  (fun i (st:LS)=>(st.1,i,st.2.1,st.2.2.1,st.2.2.2.1,st.2.2.2.2.1,st.2.2.2.2.2)) (rK ms q v) (fun st=>.inl st) (fun e=>.inr (Ba,false,e)) (fun _ _=>True) (by
   intro k hk st _
   refine ⟨?_,fun _ _=>trivial⟩
   dsimp only
   rw [uS hk,dG,bS (bV hk),inner,iV hk hk',dn]
   unfold rK
   cases run (gt ks[k] q v) ms 0 st <;> rfl)
  (by intro st _;dsimp only;rw [mw];rfl) (false,0,0,0,0,0) trivial
 dsimp only
 erw [bS e]
 unfold Bb
 cases run (rK ms q v) ks 0 (false,0,0,0,0,0) <;> rfl
end
def eV (x:Zj):Int×Int:=if 0<x.Quantity then jT x.Value x.Granted (x.Quantity - x.Granted) else (0,x.Value)
def ey (x:Zj):List Int:=if x.Proof=true then [1,2,3] else [1,2]
def iS (x:Zj):List Zg:=(if 0<x.Granted then [⟨x.Granted,(eV x).1,ey x++[4]⟩] else [])++(if 0<x.Quantity - x.Granted∨x.Quantity=0 then [⟨x.Quantity - x.Granted,(eV x).2,ey x⟩] else [])++[⟨x.Quantity,x.Value,[5]⟩,⟨x.Quantity,x.Value,[6]⟩]
structure Zt (x:Zj):Prop where
 q0:0≤x.Quantity
 q1:x.Quantity≤1000000000
 v0:0≤x.Value
 v1:x.Value≤1000000000000
 g0:0≤x.Granted
 g1:x.Granted≤x.Quantity
theorem itOK {x:Zj} (h:cZ x=some 0):Zt x:=by
 unfold cZ at h
 rw [show dP x.Code=some (ig x.Code) from rfl,mB,dn] at h
 have:∃ b,gd (!(ig x.Code != 8)) (some (lW x.Origin))=some b:=by cases (!(ig x.Code != 8)) <;> exact ⟨_,rfl⟩
 obtain ⟨b,hb⟩:=this
 rw [bS hb] at h
 cases hc:((ig x.Code != 8)||(!b))
 ·rw [hc,eu] at h
  cases hd:(((((((((((decide (x.Company<0))||(decide (999<x.Company)))||(decide (x.Day<0)))||(decide (36524<x.Day)))||(decide (x.Quantity<0)))||(decide (1000000000<x.Quantity)))||(decide (x.Value<0)))||(decide (1000000000000<x.Value)))||(decide (x.Granted<0)))||(decide (x.Quantity<x.Granted))):Bool)
  ·simp at hd
   exact ⟨by omega,by omega,by omega,by omega,by omega,by omega⟩
  rw [hd] at h;cases h
 rw [hc] at h;cases h
theorem xg {x:Zj} (h:Zt x):(eV x).1+(eV x).2=x.Value∧0≤(eV x).1∧(eV x).1≤1000000000000∧0≤(eV x).2∧(eV x).2≤1000000000000:=by
 obtain ⟨q0,q1,v0,v1,g0,g1⟩:=h
 unfold eV
 split
 ·exact BY ⟨v0,v1,g0,by omega,by omega,by omega,by omega⟩
 dsimp only;omega
theorem D4 {x:Zj} (h:Zt x):iu x=some (iS x,0):=by
  have hok:=h
  obtain ⟨q0,q1,v0,v1,g0,g1⟩:=h
  unfold iu
  rw [cj (r:=x.Quantity - x.Granted) (by omega) (by omega)]
  have e1:(cond (decide (0<x.Quantity)) (Option.bind (fJ x.Value [x.Granted,x.Quantity - x.Granted]) (fun x9=>cond (x9.2 != 0) (some (.inr (([]:List Zg),x9.2))) (some (.inl x9.1)))) (some (.inl [0,x.Value])))=some (Sum.inl [(eV x).1,(eV x).2]:List Int⊕(List Zg×Int)):=by
    unfold eV
    by_cases hq:0<x.Quantity
    · rw [det hq,if_pos hq,dG,bS (zS ⟨v0,v1,g0,by omega,by omega,by omega,by omega⟩)];rfl
    rw [cD hq,if_neg hq];rfl
  rw [bS e1]
  dsimp only
  have e2:(cond x.Proof (Option.bind (app 8 [1,2] [3]) (fun l21=>some l21)) (some [1,2]))=some (ey x):=by
    unfold ey;cases x.Proof <;> rfl
  rw [bS e2]
  have hk3:(ey x).length≤3:=by unfold ey;split <;> simp
  have e3:dR (ey x)=some (ey x):=by unfold dR app;rw [if_pos (by simp;omega)];rfl
  have e4:app 8 (ey x) [4]=some (ey x++[4]):=by unfold app;rw [if_pos (by simp;omega)]
  have e5:(cond (decide (0<x.Granted)) (Option.bind (idx [(eV x).1,(eV x).2] 0) (fun m32=>Option.bind (dR (ey x)) (fun x33=>Option.bind (app 8 x33 [4]) (fun l39=>Option.bind (app 40 ([]:List Zg) [(⟨x.Granted,m32,l39⟩:Zg)]) (fun l44=>some l44))))) (some ([]:(List Zg))))=some (if 0<x.Granted then [⟨x.Granted,(eV x).1,ey x++[4]⟩] else []):=by
    by_cases hg:0<x.Granted
    · rw [det hg,if_pos hg,dG,bS ix0,bS e3,bS e4];rfl
    rw [cD hg,if_neg hg];rfl
  rw [bS e5]
  have e6:∀ p:List Zg,p.length≤1→(cond ((decide (0<x.Quantity - x.Granted))||(x.Quantity == 0)) (Option.bind (idx [(eV x).1,(eV x).2] 1) (fun m54=>Option.bind (app 40 p [(⟨x.Quantity - x.Granted,m54,ey x⟩:Zg)]) (fun l57=>some l57))) (some p))=some (p++(if 0<x.Quantity - x.Granted∨x.Quantity=0 then [⟨x.Quantity - x.Granted,(eV x).2,ey x⟩] else [])):=by
    intro p hp
    by_cases hg:0<x.Quantity - x.Granted∨x.Quantity=0
    · rw [if_pos hg,show ((decide (0<x.Quantity - x.Granted))||(x.Quantity == 0))=true by simpa using hg,dG,bS ix1]
      have:app 40 p [(⟨x.Quantity - x.Granted,(eV x).2,ey x⟩:Zg)]=some (p++[⟨x.Quantity - x.Granted,(eV x).2,ey x⟩]):=by unfold app;rw [if_pos (by simp;omega)]
      rw [bS this]
    rw [if_neg hg,show ((decide (0<x.Quantity - x.Granted))||(x.Quantity == 0))=false by rw [Bool.eq_false_iff];intro h;apply hg;simpa using h,eu,List.append_nil]
  have hp1:(if 0<x.Granted then [(⟨x.Granted,(eV x).1,ey x++[4]⟩:Zg)] else []).length≤1:=by split <;> simp
  rw [bS (e6 _ hp1)]
  have e7:∀ p:List Zg,p.length≤2→app 40 p [(⟨x.Quantity,x.Value,[5]⟩:Zg),(⟨x.Quantity,x.Value,[6]⟩:Zg)]=some (p++[⟨x.Quantity,x.Value,[5]⟩,⟨x.Quantity,x.Value,[6]⟩]):=by
    intro p hp;unfold app;rw [if_pos (by simp;omega)]
  rw [bS (e7 _ (by rw [List.length_append];have:(if 0<x.Quantity - x.Granted∨x.Quantity=0 then [(⟨x.Quantity - x.Granted,(eV x).2,ey x⟩:Zg)] else []).length≤1:=by split <;> simp
                   omega))]
  rfl
abbrev yN (p:LS⊕Int) (f:LS→LS⊕Int):LS⊕Int:=gO p f
def xh:LS:=(false,0,0,0,0,0)
def jv (o:Int→Option Zb) (q v:Int):List Int→LS→LS⊕Int
 | [],st=>.inl st
 | k::ks,st=>yN (jU q v (o k) st) (jv o q v ks)
def oK (l:List Zb) (x:Zj) (k:Int):Option Zb:=mj l (cK k x.Code x.Origin x.Company x.Day)
theorem kw {k q v:Int}:∀ (a b:List Zb) (j:Nat) (st:LS),run (gt k q v) (a++b) j st=yN (run (gt k q v) a j st) (run (gt k q v) b 0):=by
 have shift:∀ (b:List Zb) (j i:Nat) (st:LS),run (gt k q v) b j st=run (gt k q v) b i st:=by
  intro b
  induction b with
  | nil=>intro j i st;rfl
  | cons y ys ih =>
   intro j i st
   rw [eA,eA]
   have:gt k q v j y st=gt k q v i y st:=rfl
   rw [this]
   cases gt k q v i y st with
   | inl a'=>exact ih _ _ _
   | inr r=>rfl
 intro a
 induction a with
 | nil=>intro b j st;exact shift b j 0 st
 | cons y ys ih =>
  intro b j st
  rw [List.cons_append,eA,eA]
  cases gt k q v j y st with
  | inl a'=>exact ih b _ _
  | inr r=>rfl
theorem bindR_l {A B R:Type} (a:A) (g:A→B⊕R):gO (.inl a) g=g a:=rfl
theorem oJ (p:LS⊕Int):gO p (fun s=>.inl s)=p:=by cases p <;> rfl
section
variable {l:List Zb} (hl:l.length≤300) (hm:∀ m∈l,MOK m) (x:Zj)
include hl hm
theorem oq (k:Int):oK l x k=none∨∃ m,oK l x k=some m∧MOK m∧m.Kind=k∧m∈l:=by
 rcases rJ hl hm k x.Code x.Origin x.Company x.Day with ⟨h1,_⟩ | ⟨m,h1,_,_,h2,h3,h4⟩
 ·exact .inl h1
 exact .inr ⟨m,h1,h2,h3,h4⟩
theorem lD (k k' q v:Int):run (gt k q v) (oK l x k').toList 0=fun st=>if k'=k then jU q v (oK l x k) st else .inl st:=by
 funext st
 rcases oq hl hm x k' with h | ⟨m,h,_,h2,_⟩
 ·by_cases e:k'=k
  ·subst e;rw [h,if_pos rfl];rfl
  rw [h,if_neg e];rfl
 rw [h]
 show gO (gt k q v 0 m st) (run (gt k q v) [] 1)=_
 unfold gt
 by_cases e:k'=k
 ·subst e;rw [h,if_pos h2,if_pos rfl]
  show _=ml q v st m
  cases ml q v st m <;> rfl
 rw [if_neg (by rw [h2];exact e),if_neg e];rfl
theorem B2 {k:Int} (h1:1≤k) (h6:k≤6) (q v:Int) (st:LS):run (gt k q v) (sI l x.Code x.Origin x.Company x.Day) 0 st=jU q v (oK l x k) st:=by
 unfold sI lu
 rw [kw,kw,kw,kw,kw,kw]
 rw [show mj l (cK 1 x.Code x.Origin x.Company x.Day)=oK l x 1 from rfl,show mj l (cK 2 x.Code x.Origin x.Company x.Day)=oK l x 2 from rfl,show mj l (cK 3 x.Code x.Origin x.Company x.Day)=oK l x 3 from rfl,show mj l (cK 4 x.Code x.Origin x.Company x.Day)=oK l x 4 from rfl,show mj l (cK 5 x.Code x.Origin x.Company x.Day)=oK l x 5 from rfl,show mj l (cK 6 x.Code x.Origin x.Company x.Day)=oK l x 6 from rfl]
 rw [lD hl hm x k 1,lD hl hm x k 2,lD hl hm x k 3,lD hl hm x k 4,lD hl hm x k 5,lD hl hm x k 6]
 have hk:k=1∨k=2∨k=3∨k=4∨k=5∨k=6:=by omega
 have base:run (gt k q v) [] 0 st=.inl st:=rfl
 rw [base]
 rcases hk with rfl | rfl | rfl | rfl | rfl | rfl <;> simp [bindR_l,oJ]
theorem z6 (q v:Int) (ks:List Int) (hks:∀ k∈ks,1≤k∧k≤6):Bb (sI l x.Code x.Origin x.Company x.Day) q v ks=jv (oK l x) q v ks xh:=by
 unfold Bb
 have:∀ (ks:List Int) (j:Nat) (st:LS),(∀ k∈ks,1≤k∧k≤6)→run (rK (sI l x.Code x.Origin x.Company x.Day) q v) ks j st=jv (oK l x) q v ks st:=by
  intro ks
  induction ks with
  | nil=>intro j st _;rfl
  | cons k ks ih =>
   intro j st h
   have hk:=h k (by simp)
   rw [eA]
   show _=yN (jU q v (oK l x k) st) (jv (oK l x) q v ks)
   unfold rK
   rw [B2 hl hm x hk.1 hk.2]
   cases jU q v (oK l x k) st with
   | inl s=>exact ih _ _ (fun k' h'=>h k' (by simp [h']))
   | inr e=>rfl
 exact this ks 0 _ hks
theorem yO:(sI l x.Code x.Origin x.Company x.Day).length≤300∧∀ m∈sI l x.Code x.Origin x.Company x.Day,MOK m:=by
 have key:∀ k,(∀ m∈(mj l (cK k x.Code x.Origin x.Company x.Day)).toList,MOK m)∧(mj l (cK k x.Code x.Origin x.Company x.Day)).toList.length≤1:=by
  intro k
  rcases oq hl hm x k with h | ⟨m,h,h2,_⟩
  ·rw [show mj l (cK k x.Code x.Origin x.Company x.Day)=none from h];simp
  rw [show mj l (cK k x.Code x.Origin x.Company x.Day)=some m from h];simp;exact h2
 unfold sI lu
 constructor
 ·simp only [List.length_append,List.length_nil]
  have:=(key 1).2;have:=(key 2).2;have:=(key 3).2;have:=(key 4).2;have:=(key 5).2;have:=(key 6).2
  omega
 intro m h
 simp only [List.mem_append,List.not_mem_nil,false_or] at h
 rcases h with ((((h | h) | h) | h) | h) | h
 ·exact (key 1).1 m h
 ·exact (key 2).1 m h
 ·exact (key 3).1 m h
 ·exact (key 4).1 m h
 ·exact (key 5).1 m h
 exact (key 6).1 m h
end
theorem xi (ms:List Zb) (hl:ms.length≤4611686018427387904):bP ms (fun y8=>gT y8)=some (ms.any fun m=>m.Kind == 1):=by
 unfold bP cJ
 obtain ⟨e,_⟩:=fm (T:=Unit⊕Int) hl (body:=fun v1=>cond (decide (v1<(ms.length:Int))) (Option.bind (idx ms v1) (fun m5=>Option.bind ((fun y8=>gT y8) m5) (fun x6=>cond x6 (some (.inr (.inr v1))) (some (.inl (IntKind.i64.wrap (v1+1))))))) (some (.inr (.inl ()))))
  (fun i (_:Unit)=>i) (fun k m _=>if m.Kind == 1 then .inr (k:Int) else .inl ()) (fun _=>.inl ()) (fun r=>.inr r) (fun _ _=>True) (by
   intro k hk a _
   refine ⟨?_,fun _ _=>trivial⟩
   rw [uS hk,dG,bS (bV hk),iV hk hl]
   show Option.bind (some (ms[k].Kind == 1)) _=_
   rw [dn]
   cases (ms[k].Kind == 1) <;> rfl)
  (by intro a _;rw [mw];rfl) () trivial
 rw [bS e]
 have hrun:∀ (xs:List Zb) (k:Nat),(∃ j:Nat,run (fun k (m:Zb) (_:Unit)=>if m.Kind == 1 then Sum.inr (k:Int) else Sum.inl ()) xs k ()=.inr (j:Int)∧(xs.any fun m=>m.Kind == 1)=true)∨(run (fun k (m:Zb) (_:Unit)=>if m.Kind == 1 then Sum.inr (k:Int) else Sum.inl ()) xs k ()=.inl ()∧(xs.any fun m=>m.Kind == 1)=false):=by
  intro xs
  induction xs with
  | nil=>intro k;right;exact ⟨rfl,rfl⟩
  | cons y ys ih =>
   intro k
   rw [eA]
   rw [List.any_cons]
   cases hy:(y.Kind == 1)
   ·exact ih (k+1)
   left;exact ⟨k,rfl,rfl⟩
 rcases hrun ms 0 with ⟨j,h1,h2⟩ | ⟨h1,h2⟩
 ·rw [h1,h2];show some (decide ((0:Int)≤(j:Int)))=_;rw [det (by omega)]
 rw [h1,h2];rfl
def vO (x:Zj):Int:=(cZ x).getD 0
def B3 (e:Int):Zq×Int:=(⟨[],0⟩,e)
def fP (o:Int→Option Zb) (_:Nat) (p:Zg) (st:List Zd×Int):(List Zd×Int)⊕Int:=match jv o p.quantity p.value p.kinds xh with | .inr e=>.inr e | .inl s=>.inl (if s.1=true then (st.1++[oo s],st.2+s.2.2.2.2.2) else st)
def D5 (st:List Zd×Int):Zq×Int:=if 1000000000000<st.2 then B3 3 else (⟨st.1,st.2⟩,0)
def mn (l:List Zb) (x:Zj):Zq×Int:=if mi l≠0 then B3 (mi l) else if vO x≠0 then B3 (vO x) else if oK l x 1=none then B3 7 else uT D5 B3 (run (fP (oK l x)) (iS x) 0 ([],0))
def AmtOK (st:LS):Prop:=0≤st.2.2.2.2.2∧st.2.2.2.2.2≤1000000000000
structure PartOK (p:Zg):Prop where
 v0:0≤p.value
 v1:p.value≤1000000000000
 q0:0≤p.quantity
 q1:p.quantity≤1000000000
 kl:p.kinds.length≤10
 kr:∀ k∈p.kinds,1≤k∧k≤6
theorem B4 (x:Zj):(ey x).length≤3∧∀ k∈ey x,1≤k∧k≤6:=by
 unfold ey;split <;> refine ⟨by simp,?_⟩ <;> intro k hk <;> simp at hk <;> omega
theorem B5 {x:Zj} (h:Zt x):(iS x).length≤4∧∀ p∈iS x,PartOK p:=by
 obtain ⟨s,a0,a1,b0,b1⟩:=xg h
 obtain ⟨k1,k2⟩:=B4 x
 obtain ⟨q0,q1,v0,v1,g0,g1⟩:=h
 unfold iS
 constructor
 ·simp only [List.length_append,List.length_cons,List.length_nil]
  split <;> split <;> simp
 intro p hp
 simp only [List.mem_append,List.mem_cons,List.not_mem_nil,or_false] at hp
 rcases hp with (hp | hp) | hp | hp
 ·split at hp
  ·simp only [List.mem_cons,List.not_mem_nil,or_false] at hp;subst hp
   refine ⟨a0,a1,by dsimp only;omega,by dsimp only;omega,by simp;omega,?_⟩
   intro k hk
   simp only [List.mem_append,List.mem_cons,List.not_mem_nil,or_false] at hk
   rcases hk with hk | rfl
   ·exact k2 k hk
   omega
  cases hp
 ·split at hp
  ·simp only [List.mem_cons,List.not_mem_nil,or_false] at hp;subst hp
   exact ⟨b0,b1,by dsimp only;omega,by dsimp only;omega,by dsimp only;omega,k2⟩
  cases hp
 ·subst hp;exact ⟨v0,v1,q0,q1,by simp,by intro k hk;simp at hk;omega⟩
 subst hp;exact ⟨v0,v1,q0,q1,by simp,by intro k hk;simp at hk;omega⟩
theorem sX {m:Zb} (h:MOK m) {q v:Int} (hv:0≤v) (hv':v≤1000000000000) (hq:0≤q) (hq':q≤1000000000):((nB m.Duty v q).2=0∧0≤(nB m.Duty v q).1∧(nB m.Duty v q).1≤1000000000000)∨((nB m.Duty v q).2=3∧(nB m.Duty v q).1=0):=by
 obtain ⟨e,e1,e2,_⟩:=nA m.Duty
 rw [h.duty] at e1
 have hd:=e2 (Option.some.inj e1).symm
 exact evN_ok m.Duty v q (uy hd hv hv' hq hq').1.1 (BW hd).1
theorem B6 {o:Option Zb} (ho:∀ m,o=some m→MOK m) {q v:Int} (hv:0≤v) (hv':v≤1000000000000) (hq:0≤q) (hq':q≤1000000000) {st:LS} (h:AmtOK st):(∃ s,jU q v o st=.inl s∧AmtOK s∧(st.1=true→s.1=true)∧(o≠none→s.1=true))∨jU q v o st=.inr 3:=by
 cases o with
 | none=>left;exact ⟨st,rfl,h,id,fun h=>absurd rfl h⟩
 | some m =>
  have:=sX (ho m rfl) hv hv' hq hq'
  show (∃ s,ml q v st m=.inl s∧_)∨ml q v st m=.inr 3
  unfold ml
  rcases this with ⟨a,b,c⟩ | ⟨a,b⟩
  ·left
   rw [if_neg (by simp [a])]
   by_cases hc:st.1=false∨(nB m.Duty v q).1<st.2.2.2.2.2
   ·rw [if_pos hc];exact ⟨_,rfl,⟨b,c⟩,fun _=>rfl,fun _=>rfl⟩
   rw [if_neg hc];exact ⟨_,rfl,h,id,fun _=>by cases hs:st.1;exact absurd (.inl hs) hc;rfl⟩
  right;rw [if_pos (by simp [a]),a]
theorem B7 {o:Int→Option Zb} (ho:∀ k m,o k=some m→MOK m) {q v:Int} (hv:0≤v) (hv':v≤1000000000000) (hq:0≤q) (hq':q≤1000000000):∀ (ks:List Int) (st:LS),AmtOK st→(∃ s,jv o q v ks st=.inl s∧AmtOK s∧(st.1=true→s.1=true))∨jv o q v ks st=.inr 3:=by
 intro ks
 induction ks with
 | nil=>intro st h;left;exact ⟨st,rfl,h,id⟩
 | cons k ks ih =>
  intro st h
  show (∃ s,yN (jU q v (o k) st) (jv o q v ks)=.inl s∧_)∨yN (jU q v (o k) st) (jv o q v ks)=.inr 3
  rcases B6 (ho k) hv hv' hq hq' h with ⟨s,h1,h2,h3,_⟩ | h1
  ·rw [h1]
   rcases ih s h2 with ⟨s',g1,g2,g3⟩ | g1
   ·left;exact ⟨s',g1,g2,fun h=>g3 (h3 h)⟩
   right;exact g1
  rw [h1];right;rfl
theorem D6 {l:List Zb} (hl:l.length≤300) (hm:∀ m∈l,MOK m) (x:Zj):((sI l x.Code x.Origin x.Company x.Day).any fun m=>m.Kind == 1)=decide (oK l x 1≠none):=by
 have key:∀ k,((mj l (cK k x.Code x.Origin x.Company x.Day)).toList.any fun m=>m.Kind == 1)=decide (k=1∧oK l x k≠none):=by
  intro k
  rcases oq hl hm x k with h | ⟨m,h,_,h2,_⟩
  ·rw [show mj l (cK k x.Code x.Origin x.Company x.Day)=none from h,h];simp
  rw [show mj l (cK k x.Code x.Origin x.Company x.Day)=some m from h,h];simp [h2]
  by_cases e:k=1 <;> simp [e]
 unfold sI lu
 simp only [List.any_append,List.any_nil,Bool.false_or,key]
 simp
theorem yP (l:List Zb) (x:Zj) (hx:∃ e,cZ x=some e):i9 l x=some (mn l x):=by
 obtain ⟨e,he⟩:=hx
 unfold i9 mn
 have hie:vO x=e:=by unfold vO;rw [he];rfl
 rw [bS (uY l),he,hie]
 rcases Decidable.em (¬ mi l=0) with h1 | h1
 ·rw [if_pos h1,show (mi l != 0)=true by simp [h1]];rfl
 have h1:=Decidable.not_not.1 h1
 obtain ⟨hl,hm⟩:=yM h1
 rw [if_neg (by simp [h1]),show (mi l != 0)=false by simp [h1],eu,dn]
 rcases Decidable.em (¬ e=0) with h2 | h2
 ·rw [if_pos h2,show (e != 0)=true by simp [h2]];rfl
 have h2:=Decidable.not_not.1 h2
 subst h2
 have hit:=itOK he
 rw [if_neg (by simp),bne_self_eq_false,eu,bS (zZ hl hm _ _ _ _),bS (xi _ (by have:=(yO hl hm x).1;omega)),D6 hl hm x]
 by_cases h3:oK l x 1=none
 ·rw [if_pos h3,cD (by simp [h3])];rfl
 rw [if_neg h3,det h3,Bool.not_true,eu,bS (D4 hit),bne_self_eq_false,eu]
 obtain ⟨pl,pa⟩:=B5 hit
 have hpl:(iS x).length≤4611686018427387904:=by omega
 have ho:∀ k m,oK l x k=some m→MOK m:=by
  intro k m h
  rcases oq hl hm x k with h' | ⟨m',h',h2,_⟩
  ·rw [h'] at h;cases h
  rw [h'] at h;injection h with h;exact h ▸ h2
 obtain ⟨e,_⟩:=fm (S:=Int×(List Zd)×Int) (T:=((List Zd)×Int)⊕(Zq×Int)) hpl (body:=fun (v14,l16,v19)=>cond (decide (v14<((iS x).length:Int))) (Option.bind (α:=((List Zd)×Int)⊕_) (Option.bind (idx (iS x) v14) (fun m35=>Option.bind (ff (sI l x.Code x.Origin x.Company x.Day) m35) (fun x37=>cond (x37.2.2 != 0) (some (.inr (.inr (.inr ((⟨[],0⟩:Zq),x37.2.2))))) (cond x37.2.1 (Option.bind (app 40 l16 [x37.1]) (fun l43=>some (.inl (l43,(IntKind.i64.wrap (v19+x37.1.Amount)))))) (some (.inl (l16,v19))))))) (fun q=>match q with | .inl (l32,v33)=>some (.inl ((IntKind.i64.wrap (v14+1)),l32,v33)) | .inr e=>some e)) (some (.inr (.inl (l16,v19)))))
  (fun i (st:List Zd×Int)=>(i,st.1,st.2)) (fP (oK l x)) (fun st=>.inl st) (fun e=>.inr (B3 e)) (fun k st=>st.1.length≤k∧0≤st.2∧st.2≤k*1000000000000) (by
   intro k hk st ⟨s1,s2,s3⟩
   have pk:=pa _ (List.getElem_mem hk)
   obtain ⟨a1,a2⟩:=yO hl hm x
   have hle:=D3 a1 a2 pk.v0 pk.v1 pk.q0 pk.q1 _ pk.kl
   rw [z6 hl hm x _ _ _ pk.kr] at hle
   have hch:=B7 ho pk.v0 pk.v1 pk.q0 pk.q1 (iS x)[k].kinds xh ⟨by unfold xh;simp,by unfold xh;simp⟩
   dsimp only
   rw [uS hk,dG,bS (bV hk),show (iS x)[k]=⟨(iS x)[k].quantity,(iS x)[k].value,(iS x)[k].kinds⟩ from rfl,hle,iV hk hpl,dn]
   unfold fP
   rcases hch with ⟨s,g1,g2,_⟩ | g1
   ·rw [g1]
    dsimp only [uT]
    obtain ⟨b1,b2⟩:=g2
    cases hs:s.1
    ·refine ⟨rfl,fun a' h=>?_⟩
     injection h with h;subst h
     simp;omega
    have hap:app 40 st.1 [oo s]=some (st.1++[oo s]):=by unfold app;rw [if_pos (by simp;omega)]
    rw [bne_self_eq_false,eu,dG,bS hap]
    have hw:IntKind.i64.wrap (st.2+(oo s).Amount)=st.2+s.2.2.2.2.2:=cj (by show -9223372036854775808≤st.2+s.2.2.2.2.2;omega) (by show st.2+s.2.2.2.2.2≤9223372036854775807;omega)
    rw [hw]
    refine ⟨rfl,fun a' h=>?_⟩
    injection h with h;subst h
    simp;omega
   rw [g1]
   exact ⟨rfl,fun a' h=>by cases h⟩)
  (by intro st _;dsimp only;rw [mw];rfl) ([],0) ⟨by simp,by simp,by simp⟩
 refine (bS e).trans ?_
 cases hr:run (fP (oK l x)) (iS x) 0 ([],0) with
 | inr e=>rfl
 | inl st =>
  show cond (decide (1000000000000<st.2)) _ _=some (D5 st)
  unfold D5
  by_cases h:1000000000000<st.2
  ·rw [det h,if_pos h];rfl
  rw [cD h,if_neg h];rfl
end SX
end Go.Proofs.YtmgcadfnkchnfaaGreatDoor
