/- A part of the proof: texts of the walk and of the plain laws, merged. No condition. -/
import Derived.Test.YtgmbmepakpcpaaaGreatDoorM4
set_option linter.unusedVariables false
set_option linter.unusedSimpArgs false
set_option maxHeartbeats 4000000
set_option maxRecDepth 100000
namespace Go.Proofs.YtgmbmepakpcpaaaGreatDoor
namespace SX
open Go
theorem F3 (x y z:ByteArray) (h1:i7 x y=true) (h2:i7 y z=true):i7 x z=true:=by
 rw [qq] at *;exact det (List.lt_trans (of_decide_eq_true h1) (of_decide_eq_true h2))
theorem CQ (x:ByteArray):i7 x x=false:=by rw [qq];exact cb (List.lt_irrefl _)
theorem lS:∀ l:List ByteArray,kK i7 l=true↔l.Pairwise (fun a b=>i7 a b=true)
 | []=>by simp [kK]
 | [a]=>by simp [kK]
 | a::b::l=>by
  rw [kK,Bool.and_eq_true,lS (b::l)]
  constructor
  ·rintro ⟨h1,h2⟩
   refine List.pairwise_cons.2 ⟨fun c hc=>?_,h2⟩
   rcases List.mem_cons.1 hc with rfl | hc
   ·exact h1
   exact F3 _ _ _ h1 ((List.pairwise_cons.1 h2).1 c hc)
  intro h;obtain ⟨h1,h2⟩:=List.pairwise_cons.1 h;exact ⟨h1 b (by simp),h2⟩
theorem o9 {α:Type} {l C:List α} {v:Nat} (h:l.Sublist (C.take v)) (hv:v<C.length):(l++[C[v]]).Sublist (C.take (v+1))∧l.Sublist (C.take (v+1)):=by
 have e:C.take (v+1)=C.take v++[C[v]]:=by rw [List.take_add_one,List.getElem?_eq_getElem hv];rfl
 rw [e]
 exact ⟨h.append (List.Sublist.refl _),h.trans (List.sublist_append_left _ _)⟩
def C6:List ByteArray:=[(⟨#[65,65]⟩:ByteArray),(⟨#[66,66]⟩:ByteArray),(⟨#[67,67]⟩:ByteArray),(⟨#[68,68]⟩:ByteArray),(⟨#[69,69]⟩:ByteArray),(⟨#[70,70]⟩:ByteArray)]
def P5:List ByteArray:=[(⟨#[57,52]⟩:ByteArray),(⟨#[57,52,48,49]⟩:ByteArray),(⟨#[57,52,48,49,48,50]⟩:ByteArray),(⟨#[57,53]⟩:ByteArray),(⟨#[57,53,48,50]⟩:ByteArray)]
theorem C6_ok:C6.all mL=true∧kK i7 C6=true∧(C6.all fun s=>decide (s.size≤100))=true:=⟨by kernel_rfl,by kernel_rfl,by kernel_rfl⟩
theorem P5_ok:P5.all A8=true∧kK i7 P5=true∧(P5.all fun s=>decide (s.size≤100))=true:=⟨by kernel_rfl,by kernel_rfl,by kernel_rfl⟩
structure MA (i:Nat) (a:Zb):Prop where
 id:a.ID=2+5*(i:Int)
 kind:1≤a.Kind∧a.Kind≤3
 par:a.Parties.Sublist C6
 pre:(a.Rules.map (·.Prefix)).Sublist P5
 good:∀ x∈a.Rules,Good x.Rule (o8 1)
 ne:a.Rules≠[]
structure MAs (l:List Zb):Prop where
 len:1≤l.length∧l.length≤4
 all:∀ (i:Nat) (a:Zb),l[i]?=some a→MA i a
theorem P5_len {a:Zb} (h:(a.Rules.map (·.Prefix)).Sublist P5):a.Rules.length≤5:=by have:=h.length_le;simpa [P5] using this
theorem MA.strs {i:Nat} {a:Zb} (h:MA i a):StrsOk a.Parties:=by
 refine ⟨?_,fun s hs=>?_⟩
 ·have:=h.par.length_le;have h6:C6.length=6:=rfl;omega
 have:=of_decide_eq_true (List.all_eq_true.1 C6_ok.2.2 s (h.par.subset hs));omega
theorem MA.aok {i:Nat} {a:Zb} (h:MA i a):AOk a:=by
 refine ⟨h.strs,by have:=P5_len h.pre;omega,fun x hx=>?_⟩
 have hp:=of_decide_eq_true (List.all_eq_true.1 P5_ok.2.2 x.Prefix (h.pre.subset (List.mem_map_of_mem hx)))
 have hg:=h.good x hx
 exact ⟨by omega,hg.ok,by have h1:=oZ x.Rule;have h2:=hg.size;simp only [o8] at h2;omega⟩
theorem MAs.ok {l:List Zb} (h:MAs l):ASOk l:=⟨by have:=h.len;omega,fun a ha=>by
 obtain ⟨i,hi,rfl⟩:=List.getElem_of_mem ha;exact (h.all i _ (List.getElem?_eq_getElem hi)).aok⟩
theorem MA.parties {i:Nat} {a:Zb} (h:MA i a):jb a.Parties=true:=by
 unfold jb
 rw [Bool.and_eq_true]
 refine ⟨List.all_eq_true.2 fun s hs=>List.all_eq_true.1 C6_ok.1 s (h.par.subset hs),?_⟩
 rw [lS];exact List.Pairwise.sublist h.par ((lS _).1 C6_ok.2.1)
theorem MA.rulesE {i:Nat} {a:Zb} (h:MA i a):rulesE a.Rules=0:=by
 have:bT (mu a.Rules) a.Rules 0=none:=by
  rw [mY]
  intro k x hx
  obtain ⟨hk,rfl⟩:=List.getElem?_eq_some_iff.1 hx
  have hmem:a.Rules[k]∈a.Rules:=List.getElem_mem hk
  have h1:=List.all_eq_true.1 P5_ok.1 _ (h.pre.subset (List.mem_map_of_mem hmem))
  have hg:=h.good _ hmem
  have h2:kF a.Rules[k].Rule=0:=(np _).2 ⟨by have:=hg.size;simp only [o8] at this;omega,hg.valid⟩
  unfold mu
  rw [Nat.zero_add,h1,h2]
  have hpw:=List.Pairwise.sublist h.pre ((lS _).1 P5_ok.2.1)
  by_cases h0:0<k
  ·rw [dt (show k - 1<a.Rules.length by omega)]
   have:=(List.pairwise_iff_getElem.1 (List.pairwise_map.1 hpw)) (k - 1) k (by omega) hk (by omega)
   rw [this];simp
  simp [h0]
 unfold SX.rulesE;rw [this];rfl
theorem MAs.valid {l:List Zb} (h:MAs l):sB l=0:=by
 have:bT (uE l) l 0=none:=by
  rw [mY]
  intro k x hx
  obtain ⟨hk,rfl⟩:=List.getElem?_eq_some_iff.1 hx
  have hm:=h.all k _ hx
  have hl:=h.len
  unfold uE
  rw [Nat.zero_add,hm.parties,hm.rulesE]
  have i1:(decide (l[k].ID<1)||decide (1000<l[k].ID)||decide (l[k].Kind<1)||decide (3<l[k].Kind))=false:=by
   have e1:=hm.id;have e2:=hm.kind
   rw [cb (by omega),cb (by omega),cb (by omega),cb (by omega)];rfl
  have i2:(decide (12<l[k].Parties.length)||decide (12<l[k].Rules.length))=false:=by
   have e1:=hm.par.length_le;have e2:=P5_len hm.pre;have h6:C6.length=6:=rfl
   rw [cb (by omega),cb (by omega)];rfl
  rw [i1,i2]
  by_cases h0:0<k
  ·rw [dt (show k - 1<l.length by omega)]
   have hm2:=h.all (k - 1) _ (List.getElem?_eq_getElem (by omega))
   have e1:=hm.id;have e2:=hm2.id
   rw [cb (show ¬ l[k].ID≤(l[k-1]'(by omega)).ID by omega)];simp
  simp [h0]
 unfold sB
 rw [det (by have:=h.len;omega),this];rfl
theorem sC:gO=some C6:=rfl
def bitI (m:Int) (v:Int):Bool:=dq .i64 (cD .i64 m v) 1 == 1
theorem F4:((List.range 31).all fun m=>(List.range 5).any fun v=>bitI ((m+1:Nat):Int) (v:Int))=true:=by kernel_rfl
theorem has_bit {m:Int} (h1:1≤m) (h2:m≤31):∃ v:Nat,v<5∧bitI m (v:Int)=true:=by
 have:=List.all_eq_true.1 F4 (m.toNat - 1) (List.mem_range.2 (by omega))
 obtain ⟨v,hv,h⟩:=List.any_eq_true.1 this
 rw [show ((m.toNat - 1+1:Nat):Int)=m by omega] at h
 exact ⟨v,List.mem_range.1 hv,h⟩
theorem pa (v:Nat):lF (v:Int)=some ():=by unfold lF;rw [if_pos (by omega)]
theorem DU {c:Int→Bool}:Y (aT (S:=Int×(List ByteArray)) (T:=((List ByteArray))) (fun (v22,l24)=>cond (decide (v22<6)) (Option.bind (Option.bind (lF v22) (fun _=>cond (c v22) (Option.bind (gO) (fun x44=>Option.bind (idx x44 v22) (fun m45=>Option.bind (app 16 l24 [m45]) (fun l48=>some l48)))) (some l24))) (fun l40=>some (.inl ((IntKind.i64.wrap (v22+1)),l40)))) (some (.inr l24))) FUEL (0,([]:List ByteArray))) (fun l=>l.Sublist C6):=by
 refine Y.loop (fun s=>∃ v:Nat,s.1=(v:Int)∧v≤6∧s.2.Sublist (C6.take v)) (fun s=>(6 - s.1).toNat) ⟨0,rfl,by omega,List.Sublist.refl _⟩ (by dsimp only;omega) fun s hs=>?_
 obtain ⟨i,l⟩:=s
 obtain ⟨v,rfl,h1,h2⟩:=hs
 dsimp only at h2 ⊢
 have hlen:l.length≤6:=by have:=h2.length_le;have h6:C6.length=6:=rfl;rw [List.length_take] at this;omega
 refine Y.cond (fun hc=>?_) (fun hc=>Y.ret (h2.trans (List.take_sublist _ _)))
 have hv:v<6:=by have:=of_decide_eq_true hc;omega
 have hs:=o9 h2 (show v<C6.length from hv)
 refine Y.bind (P:=fun m:List ByteArray=>m.Sublist (C6.take (v+1))) (Y.eq (pa v) (Y.cond (fun _=>?_) fun _=>Y.ret hs.2)) fun m hm=>Y.ret ⟨⟨v+1,?_,by omega,hm⟩,?_⟩
 ·refine Y.eq sC (Y.idx rfl (show v<C6.length from hv) ?_)
  rw [df (by simp;omega) (by simp;omega)];exact Y.ret hs.1
 ·show IntKind.i64.wrap ((v:Int)+1)=_;rw [cM (by omega) (by omega)];omega
 show (6 - IntKind.i64.wrap ((v:Int)+1)).toNat<(6 - (v:Int)).toNat;rw [cM (by omega) (by omega)];omega
theorem yU (p0:List Int):Y (iu p0) MAs:=by
 unfold iu
 refine (cut_Y p0 200 (by omega) (by omega)).bind fun x1 hx1=>?_
 refine (eV hx1 4 (by omega) (by omega)).bind fun x3 ⟨a1,a2,a3⟩=>?_
 rw [cM (r:=1+x3.1) (by omega) (by omega)]
 refine Y.bind (P:=MAs) ?_ fun l hl=>Y.ret hl
 refine Y.loop (fun s:List Zb×Int×List Int×Int=>(s.2.1=(s.1.length:Int)∧s.2.1≤1+x3.1)∧SOK ⟨s.2.2.1,s.2.2.2⟩∧∀ i a,s.1[i]?=some a→MA i a) (fun s=>(1+x3.1 - s.2.1).toNat) ⟨⟨rfl,by dsimp only;omega⟩,a3,by simp⟩ (by dsimp only;omega) fun s hs=>?_
 obtain ⟨l5,v8,l9,v10⟩:=s
 obtain ⟨⟨h1,h2⟩,h3,h4⟩:=hs
 dsimp only at h1 h2 h3 h4 ⊢
 refine Y.cond (fun hc=>?_) (fun hc=>Y.ret ⟨?_,h4⟩)
 rotate_left
 ·have hc:=of_decide_eq_false hc;omega
 have hc:=of_decide_eq_true hc
 refine (eV h3 3 (by omega) (by omega)).bind fun x19 ⟨b1,b2,b3⟩=>?_
 refine (eV b3 64 (by omega) (by omega)).bind fun x21 ⟨c1,c2,c3⟩=>?_
 refine (DU (c:=fun v=>dq .i64 (cD .i64 (oz .i64 x21.1 3) v) 1 == 1)).bind fun l31 hl31=>?_
 refine Y.bind (P:=fun r:Int×Zj=>SOK r.2) (Y.gdp (fun _=>(eV c3 2 (by omega) (by omega)).mono fun r hr=>hr.2.2) fun _=>c3) fun x53 hx53=>?_
 refine Y.bind (P:=fun t:List Int×Int×List Zh=>SOK ⟨t.1,t.2.1⟩∧(t.2.2.map (·.Prefix)).Sublist P5∧(∀ x∈t.2.2,Good x.Rule (o8 1))∧t.2.2≠[]) ?_ fun t ⟨t1,t2,t3,t4⟩=>?_
 ·refine Y.cond (fun hc2=>?_) fun hc2=>?_
  ·simp only [Bool.and_eq_true,decide_eq_true_eq] at hc2
   obtain ⟨j,hj⟩:∃ j:Nat,v8 - 1=(j:Int):=⟨(v8 - 1).toNat,by omega⟩
   refine Y.idx (n:=j) (by rw [cM (by omega) (by omega)];exact hj) (show j<l5.length by omega) ?_
   have:=h4 j _ (List.getElem?_eq_getElem (by omega))
   exact Y.ret ⟨hx53,this.pre,this.good,this.ne⟩
  refine (eV hx53 31 (by omega) (by omega)).bind fun x64 ⟨d1,d2,d3⟩=>?_
  refine Y.bind (P:=fun t:List Int×Int×List Zh=>SOK ⟨t.1,t.2.1⟩∧(t.2.2.map (·.Prefix)).Sublist P5∧(∀ x∈t.2.2,Good x.Rule (o8 1))∧t.2.2≠[]) ?_ fun t ht=>Y.ret ht
  refine Y.loop (fun s:Int×List Int×Int×List Zh=>∃ v:Nat,s.1=(v:Int)∧v≤5∧SOK ⟨s.2.1,s.2.2.1⟩∧(s.2.2.2.map (·.Prefix)).Sublist (P5.take v)∧(∀ x∈s.2.2.2,Good x.Rule (o8 1))∧(s.2.2.2≠[]∨∀ u:Nat,u<v→bitI (1+x64.1) (u:Int)=false)) (fun s=>(5 - s.1).toNat) ⟨0,rfl,by omega,d3,List.Sublist.refl _,by simp,.inr (fun u hu=>absurd hu (Nat.not_lt_zero _))⟩ (by dsimp only;omega) fun s hs=>?_
  obtain ⟨i,l,k,m⟩:=s
  obtain ⟨v,rfl,e1,e2,e3,e4,e5⟩:=hs
  dsimp only at e2 e3 e4 e5 ⊢
  have hlen:m.length≤5:=by have:=e3.length_le;have h6:P5.length=5:=rfl;rw [List.length_take,List.length_map] at this;omega
  refine Y.cond (fun hc3=>?_) (fun hc3=>Y.ret ⟨e2,e3.trans (List.take_sublist _ _),e4,?_⟩)
  rotate_left
  ·have h5:v=5:=by have:=of_decide_eq_false hc3;omega
   rcases e5 with e5 | e5
   ·exact e5
   obtain ⟨u,hu,hb⟩:=has_bit (m:=1+x64.1) (by omega) (by omega)
   rw [e5 u (by omega)] at hb;cases hb
  have hv:v<5:=by have:=of_decide_eq_true hc3;omega
  have hs:=o9 e3 (show v<P5.length from hv)
  refine Y.bind (P:=fun t:List Int×Int×List Zh=>SOK ⟨t.1,t.2.1⟩∧(t.2.2.map (·.Prefix)).Sublist (P5.take (v+1))∧(∀ x∈t.2.2,Good x.Rule (o8 1))∧(t.2.2≠[]∨∀ u:Nat,u<v+1→bitI (1+x64.1) (u:Int)=false)) (Y.eq (pa v) (Y.cond (fun _=>?_) fun hbit=>Y.ret ⟨e2,hs.2,e4,?_⟩)) fun t ⟨t1,t2,t3,t4⟩=>Y.ret ⟨⟨v+1,?_,by omega,t1,t2,t3,t4⟩,?_⟩
  ·refine Y.idx (xs:=P5) rfl (show v<P5.length from hv) ?_
   refine (rule_Y 1 FUEL ⟨l,k⟩ 0 (jv (by omega)) (by omega) e2 (.inl rfl)).bind fun r ⟨r1,r2,r3⟩=>?_
   rw [df (by simp;omega) (by simp;omega)]
   refine Y.ret ⟨r3,by rw [List.map_append];exact hs.1,fun z hz=>?_,.inl (by simp)⟩
   rcases List.mem_append.1 hz with hz | hz
   ·exact e4 z hz
   rw [List.mem_singleton.1 hz];exact r1
  ·rcases e5 with e5 | e5
   ·exact .inl e5
   refine .inr fun u hu=>?_
   rcases Nat.lt_or_ge u v with h | h
   ·exact e5 u h
   obtain rfl:u=v:=by omega
   rw [cM (by omega) (by omega)] at hbit;exact hbit
  ·show IntKind.i64.wrap ((v:Int)+1)=_;rw [cM (by omega) (by omega)];omega
  show (5 - IntKind.i64.wrap ((v:Int)+1)).toNat<(5 - (v:Int)).toNat;rw [cM (by omega) (by omega)];omega
 obtain ⟨l55,v56,l58⟩:=t
 dsimp only at t1 t2 t3 ⊢
 rw [df (by simp;omega) (by simp;omega),bc,cM (r:=v8+1) (by omega) (by omega),cM (r:=1+x19.1) (by omega) (by omega),cM (r:=5*v8) (by omega) (by omega),cM (by omega) (by omega)]
 refine Y.ret ⟨⟨⟨by simp;omega,by dsimp only;omega⟩,t1,fun i a ha=>?_⟩,by dsimp only;omega⟩
 rw [List.getElem?_append] at ha
 split at ha
 ·exact h4 i a ha
 rename_i hi
 have hi0:i - l5.length=0:=by have:=(List.getElem?_eq_some_iff.1 ha).1;simp at this;omega
 rw [hi0] at ha
 simp only [List.getElem?_cons_zero,eQ] at ha
 subst ha
 exact ⟨by dsimp only;omega,⟨by dsimp only;omega,by dsimp only;omega⟩,hl31,t2,t3,t4⟩
structure RawA (a:Zb):Prop where
 par:StrsOk a.Parties
 len:a.Rules.length≤140737488355328
 rules:∀ x∈a.Rules,x.Prefix.size≤140737488355328∧ROk x.Rule
theorem CR {m:Nat}:∀ {l:List Zd},(∀ a∈l,r9 a≤m)→uD l≤m
 | [],_=>by rw [uD];omega
 | a::l,h=>by rw [uD];have h1:=h a (by simp);have h2:=CR (l:=l) fun b hb=>h b (by simp [hb]);omega
theorem CS {α:Type} {L:List α} (hL:L.length≤4611686018427387904) {body:List α×Int→Option ((List α×Int)⊕List α)} (P Q:α→Prop) (hP:∀ x∈L,P x)
    (step:∀ (l:List α) (k:Nat) (hk:k<l.length),l.length=L.length→P l[k]→Y (body (l,(k:Int))) (fun o=>∃ y,Q y∧o=.inl (l.set k y,((k+1:Nat):Int))))
    (hend:∀ l,l.length=L.length→body (l,(L.length:Int))=some (.inr l)):Y (aT body FUEL (L,0)) (fun r=>r.length=L.length∧∀ x∈r,Q x):=by
  refine Y.loop (fun s=>∃ v:Nat,s.2=(v:Int)∧v≤L.length∧s.1.length=L.length∧(∀ (i:Nat) (x:α),s.1[i]?=some x→i<v→Q x)∧(∀ (i:Nat) (x:α),s.1[i]?=some x→v≤i→P x)) (fun s=>L.length - s.2.toNat) ⟨0,rfl,by omega,rfl,by omega,fun i x hx _=>hP x (List.mem_of_getElem? hx)⟩ (by dsimp only;omega) fun s hs=>?_
  obtain ⟨l,i⟩:=s
  obtain ⟨v,rfl,h1,h2,h3,h4⟩:=hs
  dsimp only at h2 h3 h4 ⊢
  rcases Nat.lt_or_ge v L.length with hv | hv
  · have hk:v<l.length:=by omega
    refine (step l v hk h2 (h4 v _ (List.getElem?_eq_getElem hk) (Nat.le_refl _))).mono fun o ⟨y,hy,ho⟩=>?_
    subst ho
    refine ⟨⟨v+1,rfl,by omega,by simp [h2],fun i x hx hi=>?_,fun i x hx hi=>?_⟩,by dsimp only;omega⟩
    · rw [List.getElem?_set] at hx
      split at hx
      · injection hx with hx;exact hx ▸ hy
      exact h3 i x hx (by omega)
    rw [List.getElem?_set] at hx
    rw [if_neg (by omega)] at hx
    exact h4 i x hx (by omega)
  have e:v=L.length:=by omega
  subst e
  rw [hend l h2]
  refine Y.ret ⟨h2,fun x hx=>?_⟩
  obtain ⟨i,hi,rfl⟩:=List.getElem_of_mem hx
  exact h3 i _ (List.getElem?_eq_getElem hi) (by omega)
theorem gH {α:Type} {b:Nat} {l:List α} (h:l.length≤1000000000) (hb:b≤1000):app b ([]:List α) l=some l:=by
 have:=Nat.mul_le_mul h hb
 exact df (by simpa using (by omega:l.length*b≤140737488355328)) (by simp;omega)
theorem F5 (d:Nat):∀ (n:Nat) (r:Zd),d<n→d≤100→ROk r→Y (jG n r (d:Int)) (fun r'=>ROk r'∧r9 r'≤d+1):=by
 induction d with
 | zero =>
  intro n r hn hd hr
  obtain ⟨n,rfl⟩:∃ m,n=m+1:=⟨n - 1,by omega⟩
  show Y (gG (jG n) r 0) _
  unfold gG
  rw [show decide ((5:Int)≤0)=false from rfl,show decide ((0:Int)<1)=true from rfl]
  simp only [bv,bL,bc]
  rw [uP _ _ (by omega)]
  simp only [bc]
  rw [show (0:Int).toNat=0 from rfl,List.take_zero,gH (by simp) (by omega),bc]
  refine Y.bind (CS (L:=([]:List Zd)) (by simp) (fun _=>True) (fun _=>False) (by simp) (fun l k hk hl _=>by simp at hl;simp [hl] at hk) (fun l hl=>by simp only [List.length_nil];rfl)) fun l ⟨h1,h2⟩=>Y.ret ⟨?_,?_⟩
  ·exact ⟨_,hr.ex,hr.nm,by dsimp only;simp at h1;simp [h1],fun a ha=>(h2 a ha).elim⟩
  ·rw [js];dsimp only;simp at h1;rw [h1];rw [uD];omega
 | succ d ih =>
  intro n r hn hd hr
  obtain ⟨n,rfl⟩:∃ m,n=m+1:=⟨n - 1,by omega⟩
  show Y (gG (jG n) r ((d+1:Nat):Int)) _
  unfold gG
  refine Y.bind (P:=fun v:Int=>0≤v∧v≤8) (Y.cond (fun _=>Y.ret (by omega)) fun _=>Y.ret (by omega)) fun v3 hv3=>?_
  refine Y.bind (P:=fun v:Int=>0≤v∧v≤8) (Y.cond (fun _=>Y.ret (by omega)) fun _=>Y.ret hv3) fun v6 hv6=>?_
  rw [uP _ _ hv6.1,bc,gH (by simp;omega) (by omega),bc]
  have hlen:(r.Args.take v6.toNat).length≤8:=by simp;omega
  refine Y.bind (CS (L:=r.Args.take v6.toNat) (by omega) ROk (fun x=>ROk x∧r9 x≤d+1) (fun x hx=>hr.arg (List.mem_of_mem_take hx)) (fun l k hk hl hp=>?_) (fun l hl=>by simp only [cN,bv])) fun l ⟨h1,h2⟩=>Y.ret ⟨?_,?_⟩
  ·rw [← hl]
   simp only [gY hk,bL,aQ hk,bc,bM hk (show l.length≤4611686018427387904 by omega)]
   rw [cM (by omega) (by omega),show ((d+1:Nat):Int) - 1=(d:Int) by omega]
   refine (ih n _ (by omega) (by omega) hp).bind fun x hx=>Y.ret ⟨x,hx,by simp⟩
  ·exact ⟨_,hr.ex,hr.nm,by dsimp only;omega,fun a ha=>(h2 a ha).1⟩
  rw [js];have:=CR fun a ha=>(h2 a ha).2;dsimp only;omega
def k0 (W:World):Kr:=⟨W,fun b=>b<W.heap.size⟩
theorem bp {t:Nat} {z:Value} {s b:Nat} (h:gr t=some (z,s,b)):Tryz.prog.cellsOf t=s∧Tryz.prog.bytesOf t=b:=by
 obtain ⟨i,h1,h2,h3,h4⟩:=qO h
 constructor
 ·simp [Program.cellsOf,h1,h3]
 simp [Program.bytesOf,h1,h4]
def Light {H:Type} (t:Nat) (d:DataW H):Prop:=∀ n∈d.weights Tryz.prog t,n≤reachBytes
theorem F6 {H:Type} (d:DataW H):1≤Rows.uptoBulk d:=by
 cases d with
 | lit l=>cases l <;> simp [Rows.uptoBulk]
 | nil=>simp [Rows.uptoBulk]
 | ptr d=>simp [Rows.uptoBulk]
 | slice elems spare=>simp [Rows.uptoBulk]
 | agg parts=>simp [Rows.uptoBulk]
 | iface t d=>simp [Rows.uptoBulk]
 | map entries=>simp [Rows.uptoBulk]
 | held h=>simp [Rows.uptoBulk]
theorem DV {H:Type} {d:DataW H} {l:List (DataW H)} (h:d∈l):Rows.uptoBulk d≤Rows.uptoBulkAll l:=by
 induction l with
 | nil=>cases h
 | cons x r ih =>
  simp only [Rows.uptoBulkAll]
  cases List.mem_cons.1 h with
  | inl e=>subst e;omega
  | inr e=>have:=ih e;omega
theorem F7 {H:Type} (l:List (DataW H)):l.length≤Rows.uptoBulkAll l:=by
 induction l with
 | nil=>simp [Rows.uptoBulkAll]
 | cons x r ih=>have:=F6 x;simp only [Rows.uptoBulkAll,List.length_cons];omega
def Opens {H:Type} (eh:TypeId×Value→H) {α:Type} (n:Nat) (t:Nat) (e:α→List PV) (B:α→Prop):Prop :=
 ∀ (W:World) (fuel:Nat) (cs:List Value) (x:DataW H×List MemPlace),DataW.trod eh Tryz.prog W 0 (fun _=>true) true fuel t cs=some x→Light t x.1→Rows.uptoBulk x.1≤n→∃ m,Rps (k0 W) (e m) cs∧One cs∧B m
section
variable {H:Type} {eh:TypeId×Value→H} {nb:Nat}
theorem F8 {v:Value} (h:v.oneCell'=true):One [v]:=fun u hu=>by rw [List.mem_singleton.1 hu];exact h
theorem DW {t:Nat} {k:IntKind} (h:eY t=some (.int k)):Opens eh nb t (fun x:Int=>[.v (.int k x)]) (fun _=>True):=fun W fuel cs x hx _ _=>by
 obtain ⟨n,rfl,_,_⟩:=DataW.trod_int (bq h) hx
 exact ⟨n,.cons (.v rfl) .nil,F8 rfl,trivial⟩
theorem BN {t:Nat} (h:eY t=some .bool):Opens eh nb t eT (fun _=>True):=fun W fuel cs x hx _ _=>by
 obtain ⟨n,rfl,_⟩:=DataW.trod_bool (bq h) hx
 exact ⟨n,.cons (.v rfl) .nil,F8 rfl,trivial⟩
theorem DX {t:Nat} (h:eY t=some .string):Opens eh nb t eS (fun _=>True):=fun W fuel cs x hx hw _=>by
 obtain ⟨s,rfl,rfl,_⟩:=DataW.trod_string (bq h) hx
 have:=hw s.data.toList.length (by simp [DataW.weights])
 refine ⟨s,.cons (.v ?_) .nil,F8 rfl,trivial⟩
 unfold reachBytes at this
 have e:s.data.toList.length=s.size:=by simp
 exact Nat.ble_eq_true_of_le (by omega)
theorem qz {e:Nat}:∀ {l:List (DataW H)} {d:DataW H} {n:Nat},d∈l→n∈d.weights Tryz.prog e→n∈DataW.weightsAll Tryz.prog e l
 | d'::l,d,n,hd,hn=>by
  simp only [DataW.weightsAll,List.mem_append]
  rcases List.mem_cons.1 hd with rfl | hd
  ·exact .inl hn
  exact .inr (qz hd hn)
theorem CT {α β:Type} {R:α→β→Prop}:∀ (l:List β),(∀ b∈l,∃ a,R a b)→∃ la:List α,la.length=l.length∧∀ (i:Nat) (b:β),l[i]?=some b→∃ a,la[i]?=some a∧R a b
 | [],_=>⟨[],rfl,fun i b h=>by simp at h⟩
 | b::l,h=>by
  obtain ⟨a,ha⟩:=h b (by simp)
  obtain ⟨la,h1,h2⟩:=CT l fun b hb=>h b (by simp [hb])
  refine ⟨a::la,by simp [h1],fun i b' hb=>?_⟩
  cases i with
  | zero=>simp only [List.getElem?_cons_zero,eQ] at hb;subst hb;exact ⟨a,rfl,ha⟩
  | succ i=>simp only [List.getElem?_cons_succ] at hb ⊢;exact h2 i b' hb
def OpensN {H:Type} (eh:TypeId×Value→H) {α:Type} (N n:Nat) (t:Nat) (e:α→List PV) (B:α→Prop):Prop :=
 ∀ (W:World) (fuel:Nat) (cs:List Value) (x:DataW H×List MemPlace),fuel<N→DataW.trod eh Tryz.prog W 0 (fun _=>true) true fuel t cs=some x→Light t x.1→Rows.uptoBulk x.1≤n→∃ m,Rps (k0 W) (e m) cs∧One cs∧B m
theorem sD {α:Type} {N t E sz by':Nat} {z:Value} {e:α→List PV} {B:α→Prop} (hu:eY t=some (.slice E)) (hi:gr E=some (z,sz,by')) (h0:Nat.blt 0 sz=true) (hb0:Nat.blt 0 by'=true) (hE:OpensN eh N nb E e B):OpensN eh (N+1) nb t (eL e) (fun l=>l.length*by'≤140737488355328∧l.length≤nb∧∀ x∈l,B x):=fun W fuel cs x hfu hx hw hbk=>by
 obtain ⟨hcz,hby⟩:=bp hi
 have hsz:0<sz:=by have:=h0;simp [Nat.blt] at this;omega
 have hbp:0<by':=by have:=hb0;simp [Nat.blt] at this;omega
 rcases DataW.trod_slice (bq hu) hx with ⟨rfl,_⟩ | ⟨a,len,cap,elems,rest,n,rfl,rfl,rfl,_,hl,hm,hlen,hel,_,_⟩
 ·exact ⟨[],.cons (.slc (sz:=sz) (css:=[]) Sl.nil (Nat.zero_le _) (fun _ h=>by cases h) .nil) .nil,F8 rfl,by simp,Nat.zero_le _,fun _ h=>by cases h⟩
 rw [hcz] at hel
 have hwl:(elems.length+rest.length)*by'≤reachBytes:=by
  have:=hw ((elems.length+rest.length)*by') (by simp only [DataW.weights,bq hu,hby,List.length_map];exact List.mem_cons_self)
  exact this
 have hn:len≤140737488355328:=by
  unfold reachBytes at hwl
  have:elems.length*1≤(elems.length+rest.length)*by':=Nat.mul_le_mul (by omega) (by omega)
  omega
 have hcells:∀ i∈List.range len,∃ p:α×List Value,W.cells? 0 (a.add (i*sz)) sz=some p.2∧Rps (k0 W) (e p.1) p.2∧One p.2∧B p.1:=fun i hi'=>by
  have hi':i<len:=List.mem_range.1 hi'
  have h1:=hel i hi'
  have hlt:i<elems.length:=by omega
  rw [List.getElem?_eq_getElem hlt] at h1
  obtain ⟨cs,h2,h3⟩:=Option.bind_eq_some_iff.1 h1
  obtain ⟨m,k1,k2,k3⟩:=hE W n cs _ (by omega) h3 (fun q hq=>hw q (by
   simp only [DataW.weights,bq hu]
   exact List.mem_cons_of_mem _ (List.mem_append.2 (.inl (qz (List.mem_map.2 ⟨_,List.getElem_mem hlt,rfl⟩) hq))))) (by
   have h9:=DV (l:=elems.map (·.1)) (List.mem_map.2 ⟨_,List.getElem_mem hlt,rfl⟩)
   simp only [Rows.uptoBulk] at hbk
   omega)
  exact ⟨(m,cs),h2,k1,k2,k3⟩
 obtain ⟨ps,g1,g2⟩:=CT (R:=fun (p:α×List Value) i=>W.cells? 0 (a.add (i*sz)) sz=some p.2∧Rps (k0 W) (e p.1) p.2∧One p.2∧B p.1) (List.range len) hcells
 rw [List.length_range] at g1
 have g3:∀ (i:Nat) (p:α×List Value),ps[i]?=some p→W.cells? 0 (a.add (i*sz)) sz=some p.2∧Rps (k0 W) (e p.1) p.2∧One p.2∧B p.1:=fun i p hp=>by
  have hlt:=(List.getElem?_eq_some_iff.1 hp).1
  obtain ⟨p',h1,h2⟩:=g2 i i (by rw [List.getElem?_range (by omega)])
  rw [hp] at h1;injection h1 with h1;subst h1;exact h2
 have hps:(ps.map (·.1)).length=len:=by simp [g1]
 refine ⟨ps.map (·.1),?_,F8 rfl,?_,?_,?_⟩
 rotate_left
 ·rw [hps]
  have h9:len*by'≤(elems.length+rest.length)*by':=Nat.mul_le_mul_right _ (by omega)
  unfold reachBytes at hwl
  omega
 ·rw [hps]
  have h9:=F7 (elems.map (·.1))
  rw [List.length_map] at h9
  simp only [Rows.uptoBulk] at hbk
  omega
 ·intro x hx
  obtain ⟨p,hp,rfl⟩:=List.mem_map.1 hx
  obtain ⟨i,hi',rfl⟩:=List.getElem_of_mem hp
  exact (g3 i _ (List.getElem?_eq_getElem hi')).2.2.2
 unfold eL;rw [hps]
 refine .cons (.slc (sz:=sz) (css:=ps.map (·.2)) ⟨by simp [g1],hl,?_,?_⟩ hn ?_ ?_) .nil
 ·intro c hc
  obtain ⟨p,hp,rfl⟩:=List.mem_map.1 hc
  obtain ⟨i,hi',rfl⟩:=List.getElem_of_mem hp
  exact (World.cells?_some (g3 i _ (List.getElem?_eq_getElem hi')).1).2.1
 ·intro hpos
  have hp0:0<ps.length:=by omega
  have hc0:=(World.cells?_some (g3 0 _ (List.getElem?_eq_getElem hp0)).1)
  have hread:=hc0.2.2 0 hsz
  have hspot:a.spot=none:=by
   have hlt:0<(ps[0]).2.length:=by rw [hc0.2.1];exact hsz
   rw [List.getElem?_eq_getElem hlt] at hread
   unfold World.cell? at hread
   cases hs:a.spot with
   | none=>rfl
   | some q =>
    have hsp:((a.add (0*sz)).add 0).spot.isSome=true:=by simp [Addr.add,hs]
    split at hread
    ·rw [if_pos hsp] at hread;cases hread
    cases hread
  obtain ⟨ab,ao,asp⟩:=a
  simp only at hspot;subst hspot
  refine ⟨ab,ao,rfl,fun j c hj=>?_⟩
  rw [List.getElem?_map] at hj
  cases hpj:ps[j]? with
  | none=>rw [hpj] at hj;cases hj
  | some p =>
   rw [hpj] at hj;simp only [Option.map_some,eQ] at hj;subst hj
   have hcj:=World.cells?_some (g3 j p hpj).1
   refine ⟨?_,fun i u hu'=>?_⟩
   ·have h1:=hcj.2.2 0 hsz
    have hlt:0<p.2.length:=by rw [hcj.2.1];exact hsz
    rw [List.getElem?_eq_getElem hlt,ik,ik] at h1
    unfold World.cell? at h1
    split at h1
    ·rename_i heq
     have:=oJ heq
     exact this
    cases h1
   have hlt:i<sz:=by have:=(List.getElem?_eq_some_iff.1 hu').1;omega
   have h1:=hcj.2.2 i hlt
   rw [ik,ik] at h1
   rw [← hu'];exact h1
 ·intro c hc
  obtain ⟨p,hp,rfl⟩:=List.mem_map.1 hc
  obtain ⟨i,hi',rfl⟩:=List.getElem_of_mem hp
  exact (g3 i _ (List.getElem?_eq_getElem hi')).2.2.1
 have:∀ (l:List (α×List Value)),(∀ p∈l,Rps (k0 W) (e p.1) p.2)→Rpss (k0 W) ((l.map (·.1)).map e) (l.map (·.2)):=fun l=>by
  induction l with
  | nil=>exact fun _=>.nil
  | cons p l ih=>exact fun h=>.cons (h p (by simp)) (ih fun q hq=>h q (by simp [hq]))
 refine this ps fun p hp=>?_
 obtain ⟨i,hi',rfl⟩:=List.getElem_of_mem hp
 exact (g3 i _ (List.getElem?_eq_getElem hi')).2.1
theorem hX {α:Type} {t E sz by':Nat} {z:Value} {e:α→List PV} {B:α→Prop} (hu:eY t=some (.slice E)) (hi:gr E=some (z,sz,by')) (h0:Nat.blt 0 sz=true) (hb0:Nat.blt 0 by'=true) (hE:Opens eh nb E e B):Opens eh nb t (eL e) (fun l=>l.length*by'≤140737488355328∧l.length≤nb∧∀ x∈l,B x):=fun W fuel cs x hx hw =>
 sD (N:=fuel) hu hi h0 hb0 (fun W' f' cs' x' _=>hE W' f' cs' x') W fuel cs x (Nat.lt_succ_self _) hx hw
theorem cI {κ:Kr} {cs:List Value} {off sz:Nat} {ps qs:List PV} (h:Rps κ ps ((cs.drop off).take sz)) (h2:Rps κ qs (cs.drop (off+sz))):Rps κ (ps++qs) (cs.drop off):=by
 have e:cs.drop off=(cs.drop off).take sz++cs.drop (off+sz):=by rw [← List.drop_drop,List.take_append_drop]
 rw [e];exact h.app h2
theorem cJ {cs:List Value} {off sz:Nat} (h:One ((cs.drop off).take sz)) (h2:One (cs.drop (off+sz))):One (cs.drop off):=by
 have e:cs.drop off=(cs.drop off).take sz++cs.drop (off+sz):=by rw [← List.drop_drop,List.take_append_drop]
 rw [e];exact fun u hu=>(List.mem_append.1 hu).elim (h u) (h2 u)
theorem pb {κ:Kr} {cs:List Value} {off:Nat} (h:cs.length=off):Rps κ [] (cs.drop off):=by rw [List.drop_of_length_le (by omega)];exact .nil
theorem pg {cs:List Value} {off:Nat} (h:cs.length=off):One (cs.drop off):=by rw [List.drop_of_length_le (by omega)];exact fun _ h=>by cases h
end
end SX
end Go.Proofs.YtgmbmepakpcpaaaGreatDoor
set_option maxRecDepth 100000
namespace Go.Proofs.YtgmbmepakpcpaaaGreatDoor
open Go Go.ChangeShapes Go.WideShapes Go.RowKit
namespace SX
theorem own_ok:ownKnob Tryz.prog.godebug=none:=by kernel_rfl
theorem BO:laidOutB Tryz.prog=true:=by kernel_rfl
def xN:List (String×DataW Unit):=[("unicode/utf8.acceptRanges",Rows.laid_unicode_utf8_acceptRanges),("customs/nomenclature.lengths",Rows.laid_customs_nomenclature_lengths),("unicode/utf8.first",Rows.laid_unicode_utf8_first)]
mutual
def BP:DataW Unit→List Value
 | .lit (.int k n)=>[.int k n]
 | .agg ds=>CU ds
 | _=>[]
def CU:List (DataW Unit)→List Value
 | []=>[]
 | d::r=>BP d++CU r
end
def c_acc:Array Value:=(BP Rows.laid_unicode_utf8_acceptRanges).toArray
def Ax:Array Value:=#[.int .i64 2,.int .i64 4,.int .i64 6,.int .i64 8]
def CV:Array Value:=(BP Rows.laid_unicode_utf8_first).toArray
def F9 (h:Array Obj) (g:Nat) (cs:Array Value):Array Obj:=h.modify g fun | .cells _ t frozen=>.cells cs t frozen | o=>o
noncomputable def laidWorld (os:Os):World :=
 { World.holding Tryz.prog os ⟨#[],#[],[]⟩ with heap:=F9 (F9 (F9 (World.holding Tryz.prog os ⟨#[],#[],[]⟩).heap 4 c_acc) 0 Ax) 3 CV }
theorem wg:(xN.filter fun x=>x.2.handleName?.isSome)=[]:=by kernel_rfl
def Ga (w:World):MemPlace→Bool
 | .cell b off=>match w.heap[b]? with
  | some (.cells c _ (0,0))=>match c[off]? with | some (.iface _ _)=>false | _=>true
  | _=>false
 | _=>true
theorem BQ {w:World} {ps:List MemPlace} (h:ps.all (Ga w)=true):∀ b off,MemPlace.cell b off∈ps→(∃ c t,w.heap[b]?=some (.cells c t (0,0)))∧∀ u v,w.cell? ⟨b,off,none⟩=some (.iface u v)→Value.okWide Tryz.prog w .any 0 u v:=fun b off hm=>by
 have:=List.all_eq_true.1 h _ hm
 unfold Ga at this
 split at this
 ·rename_i b' off' e
  injection e with e1 e2;subst e1;subst e2
  split at this
  ·rename_i c t heq
   refine ⟨⟨c,t,heq⟩,fun u v hc=>?_⟩
   simp only [World.cell?,heq] at hc
   split at this
   ·cases this
   rename_i hno;exact absurd hc (by simpa using hno u v)
  cases this
 rename_i hno;exact absurd rfl (hno b off)
theorem xc (os:Os) (args:Array Value):laidMetH Tryz.prog xN ((laidWorld os).forCall (fun _ _=>0) ⟨#[],args,[]⟩).memory:=by
 unfold laidMetH
 rw [wg]
 refine ⟨_,⟨4,275,c_acc,8,[],_,by kernel_rfl,by kernel_rfl,by kernel_rfl,by kernel_rfl,⟨0,213,Ax,8,[],_,by kernel_rfl,by kernel_rfl,by kernel_rfl,by kernel_rfl,⟨3,272,CV,8,[],_,by kernel_rfl,by kernel_rfl,by kernel_rfl,by kernel_rfl,rfl,rfl⟩,rfl⟩,rfl⟩,?_,?_⟩
 ·exact of_decide_eq_true (by kernel_rfl)
 exact BQ (by kernel_rfl)
theorem nE {H:Type} {eh:TypeId×Value→H} {P:Program} {w:World} {base:Nat} {sp:Nat→Bool} {held:Bool} {fuel:Nat} {t:TypeId} {k:IntKind} {c:Value} {y:DataW H×List MemPlace} (ht:P.underlying t=some (.int k)) (h:DataW.trod eh P w base sp held fuel t [c]=some y):∃ n,c=.int k n∧y=(.lit (.int k n),[]):=by
 obtain ⟨n,h1,h2,_⟩:=DataW.trod_int ht h
 injection h1 with h1 _
 exact ⟨n,h1,h2⟩
theorem Ay {W:World} (h:laidMetH Tryz.prog xN W):GOK (k0 W):=by
 unfold laidMetH at h
 rw [wg] at h
 obtain ⟨ps,⟨_,_,_,_,_,_,_,_,_,_,⟨g,t,cs,fuel,p,q,hg,ht,hvar,hd,_,_⟩,_⟩,_⟩:=h
 obtain rfl:=Option.some.inj ((show Tryz.prog.globalNamed "customs/nomenclature.lengths" = some 0 by kernel_rfl).symm.trans hg)
 obtain rfl:=Option.some.inj ((show (Tryz.prog.globals[0]?).map (·.type)=some 213 by kernel_rfl).symm.trans ht)
 have hcs:cs=Ax:=by
  obtain ⟨l⟩:=cs
  cases fuel with
  | zero=>simp [DataW.trod] at hd
  | succ fuel =>
   have hc1:=(bp (t:=213) rfl).1
   have hc2:=(bp (t:=3) rfl).1
   have hu1:Tryz.prog.underlying 213=some (.array 4 3):=bq rfl
   simp only [DataW.trod,hu1,hc1,hc2] at hd
   split at hd
   ·rename_i hl
    obtain ⟨c0,c1,c2,c3,rfl⟩:∃ c0 c1 c2 c3,l=[c0,c1,c2,c3]:=by
     match l,hl with
     | [a,b,c,d],_=>exact ⟨a,b,c,d,rfl⟩
    have e:List.range 4=[0,1,2,3]:=rfl
    rw [e] at hd
    simp only [Option.map_eq_some_iff,List.mapM_cons,List.mapM_nil,Option.bind_eq_bind,Option.bind_eq_some_iff,Option.pure_def,eQ] at hd
    obtain ⟨xs,⟨y0,h0,_,⟨y1,h1,_,⟨y2,h2,_,⟨y3,h3,_,rfl,rfl⟩,rfl⟩,rfl⟩,rfl⟩,hx⟩:=hd
    have hui:Tryz.prog.underlying 3=some (.int .i64):=bq rfl
    obtain ⟨n0,rfl,rfl⟩:=nE hui h0
    obtain ⟨n1,rfl,rfl⟩:=nE hui h1
    obtain ⟨n2,rfl,rfl⟩:=nE hui h2
    obtain ⟨n3,rfl,rfl⟩:=nE hui h3
    simp [Rows.laid_customs_nomenclature_lengths] at hx
    obtain ⟨⟨rfl,rfl,rfl,rfl⟩,_⟩:=hx
    rfl
   cases hd
 subst hcs
 have hcell:∀ j u,Ax[j]?=some u→W.cell? ⟨0,j,none⟩=some u:=fun j u hu=>by
  have:=World.var?_cell hg hvar j
  rw [this];exact hu
 refine ⟨?_,fun j u hu=>?_⟩
 ·have h0:=hcell 0 _ rfl
  unfold World.cell? at h0
  split at h0
  ·rename_i heq;exact oJ heq
  cases h0
 rw [Nat.zero_add];exact hcell j u (by simpa [Ax] using hu)
end SX
end Go.Proofs.YtgmbmepakpcpaaaGreatDoor
set_option maxRecDepth 100000
namespace Go.Proofs.YtgmbmepakpcpaaaGreatDoor
open Go Go.ChangeShapes Go.WideShapes Go.RowKit
namespace SX
theorem inv0 (W:World):Zp ⟨k0 W,[]⟩ [] (k0 W):=⟨.refl _ _,fun _ h=>h,(fun _ h=>by cases h),(fun _ h=>by cases h),.nil⟩
theorem Gb {W:World} {ρ:List Res} {κ:Kr} (h:Zp ⟨k0 W,[]⟩ ρ κ):Below W.heap.size W κ.w:=⟨h.le.os,h.le.tape,h.le.output,h.le.kle.size,fun k hk=>h.le.same k hk (by simp)⟩
section
variable {H:Type} {eh:TypeId×Value→H}
theorem xd {W W':World} (hb:Below W.heap.size W W') {ts:List TypeId} (hr:∀ t∈ts,Tryz.prog.readableRec t=true∧t<Tryz.prog.types.size):∀ {vs:List Value} {ds:List (DataW H)} {ps:List MemPlace},DataW.TrodAll eh Tryz.prog W 0 (fun _=>true) true ts vs ds ps→(∀ p∈ps,p.block<W.heap.size)→DataW.TrodAll eh Tryz.prog W' 0 (fun b=>decide (b<W.heap.size)) true ts vs ds ps:=by
 induction ts with
 | nil=>intro vs ds ps h _;cases vs <;> cases ds <;> first | exact h | cases h
 | cons t ts ih =>
  intro vs ds ps h hlt
  cases vs with
  | nil=>cases h
  | cons v vs =>
   cases ds with
   | nil=>cases h
   | cons d ds =>
    obtain ⟨p,q,h1,h2,e⟩:=h
    have ht:=hr t (by simp)
    exact ⟨p,q,Below.trod BO ht.1 ht.2 h1 hb (fun x hx=>hlt x (by rw [e];simp [hx])),ih (fun u hu=>hr u (by simp [hu])) h2 (fun x hx=>hlt x (by rw [e];simp [hx])),e⟩
theorem readB {ts:List TypeId} (h:(ts.all fun t=>Tryz.prog.readableRec t&&Nat.blt t Tryz.prog.types.size)=true):∀ t∈ts,Tryz.prog.readableRec t=true∧t<Tryz.prog.types.size:=fun t ht=>by
 have:=List.all_eq_true.1 h t ht
 rw [Bool.and_eq_true] at this
 exact ⟨this.1,by have h2:=this.2;exact Nat.le_of_ble_eq_true h2⟩
theorem Gc {f tb:Nat} {fn:Func} {s:ChangeSpec} {W:World} {args:Array Value} {ds gs:List (DataW H)} {before:List MemPlace} {pargs:List PV}
    (hrd:∀ t∈fn.params.toList,Tryz.prog.readableRec t=true∧t<Tryz.prog.types.size) (hres:fn.resultTypes=#[tb]) (hub:Tryz.prog.underlying tb=some .bool) (hvars:s.vars=[])
    (hspec:s.fn H ds={ results:=[.lit (.bool true)],args:=ds }) (hW:DataW.Whole eh Tryz.prog fn.params.toList s.vars false W args.toList ds gs before) (hG:GOK (k0 W)) (hargs:Rps (k0 W) pargs args.toList) (hPF:PF f pargs (.v (.bool true))) :
    Calls Tryz.prog f args W fun e W'=>∃ v,e=.returned v∧s.post eh Tryz.prog fn false true false false W args v W':=by
  have hc:=(hPF (k0 W) args.toList hG hargs).2 (inv0 W)
  have e:args.toList.toArray=args:=by simp
  rw [e] at hc
  refine Calls.mono hc fun en W' ⟨v,ρ',κ',h1,h2,h3,h4,h5⟩=>⟨v,h1,?_⟩
  subst h2
  have hv:=h5.val
  subst hv
  have hb:=Gb h3
  have hW':=hW
  obtain ⟨p,q,hA,hV,rfl,hfz,hnd⟩:=hW
  rw [hvars] at hV
  obtain ⟨rfl,rfl⟩:gs=[]∧q=[]:=by
    cases gs with
    | nil=>exact ⟨rfl,hV⟩
    | cons g r=>exact absurd hV (by intro h;cases h)
  refine ⟨ds,[],_,[],p,[],hW',?_,?_,?_,hb.frame _,fun h=>by cases h⟩
  · rw [List.append_nil,hspec,hres];exact trodAll_mk1 (shut_bool hub true)
  · rw [List.append_nil,hspec];exact xd hb hrd hA (DataW.TrodAll.lt hA)
  rw [hvars,List.append_nil,hspec];rfl
theorem trodAll_cons {W:World} {t:TypeId} {ts:List TypeId} {vs:List Value} {ds:List (DataW H)} {ps:List MemPlace} (h:DataW.TrodAll eh Tryz.prog W 0 (fun _=>true) true (t::ts) vs ds ps):∃ v vs' d ds' p q,vs=v::vs'∧ds=d::ds'∧DataW.Trod eh Tryz.prog W 0 (fun _=>true) true t v d p∧DataW.TrodAll eh Tryz.prog W 0 (fun _=>true) true ts vs' ds' q:=by
 cases vs with
 | nil=>cases h
 | cons v vs =>
  cases ds with
  | nil=>cases h
  | cons d ds=>obtain ⟨p,q,h1,h2,_⟩:=h;exact ⟨v,vs,d,ds,p,q,rfl,rfl,h1,h2⟩
theorem trodAll_nil {W:World} {vs:List Value} {ds:List (DataW H)} {ps:List MemPlace} (h:DataW.TrodAll eh Tryz.prog W 0 (fun _=>true) true [] vs ds ps):vs=[]∧ds=[]:=by
 cases vs <;> cases ds <;> first | exact ⟨rfl,rfl⟩ | cases h
theorem Az {l:Array TypeId} (h:(l.toList.all fun t => !Tryz.prog.wantsStandIn t)=true) {j:Nat} {t:TypeId} (ht:l[j]?=some t):Tryz.prog.wantsStandIn t=false:=by
 have:=List.all_eq_true.1 h t (by have:=Array.mem_of_getElem? ht;simpa using this)
 simpa using this
theorem light_head {t:Nat} {ts:List Nat} {d:DataW H} {ds:List (DataW H)} (h:(DataW.weightsEach Tryz.prog (t::ts) (d::ds)).all (· ≤ reachBytes)=true):Light t d∧(DataW.weightsEach Tryz.prog ts ds).all (· ≤ reachBytes)=true:=by
 simp only [DataW.weightsEach,List.all_append,Bool.and_eq_true] at h
 exact ⟨fun n hn=>by simpa using List.all_eq_true.1 h.1 n hn,h.2⟩
def wh:TypeDesc→Bool
 | .int _ | .bool | .string | .slice _=>true
 | _=>false
theorem not_agg {W:World} {r:Reach} {base t:Nat} {v:Value} {D:TypeDesc} (hu:eY t=some D) (hD:wh D=true) (h:Value.okWide Tryz.prog W r base t v):∀ cs,v.cells.toList=[cs]→v=cs:=fun cs he=>by
 cases v with
 | agg arr =>
  exfalso
  unfold Value.okWide at h
  rw [bq hu] at h
  cases D <;> first | (revert hD;simp [wh];done) | (simp only at h;unfold Cell.okWide at h;rw [bq hu] at h;simp only at h;unfold Cell.ok at h;rw [bq hu] at h;simp at h)
 | _=>simpa [Value.cells] using he
theorem qV {nb:Nat} {W:World} {r:Reach} {base t:Nat} {v:Value} {D:TypeDesc} {α:Type} {e:α→List PV} {B:α→Prop} {d:DataW H} {ps:List MemPlace} (hu:eY t=some D) (hD:wh D=true) (hO:Opens eh nb t e B) (h1:∀ m,∃ p,e m=[p]) (h:Value.okWide Tryz.prog W r base t v) (hd:DataW.Trod eh Tryz.prog W 0 (fun _=>true) true t v d ps) (hl:Light t d) (hn:Rows.uptoBulk d≤nb):∃ m,Rps (k0 W) (e m) [v]∧B m:=by
 obtain ⟨fuel,hf⟩:=hd
 obtain ⟨m,h2,_,h9⟩:=hO W fuel _ _ hf hl hn
 refine ⟨m,?_,h9⟩
 obtain ⟨p,hp⟩:=h1 m
 rw [hp] at h2
 generalize hc:v.cells.toList=cs at h2
 obtain ⟨w,ws,rfl,h3,h4⟩:=h2.cons_inv
 rw [h4.nil_inv] at hc
 rw [not_agg hu hD h w hc,hp]
 exact .cons h3 .nil
end
theorem uS {κ:Kr} {ps:List PV} {vs:List Value} {k:Nat} {s:ByteArray} (h:Rps κ ps vs) (hk:ps[k]?=some (.v (.string s))):s.size≤140737488355328:=by
 obtain ⟨v,_,h2⟩:=h.get hk
 exact Nat.le_of_ble_eq_true h2.ok
theorem pj {κ:Kr} {ps:List PV} {vs:List Value} {k mm:Nat} {xs:List (List PV)} (h:Rps κ ps vs) (hk:ps[k]?=some (.slc mm xs)):xs.length≤140737488355328:=by
 obtain ⟨v,_,h2⟩:=h.get hk
 cases h2 with
 | slc hs hb _ hss=>rw [hss.len,hs.len];exact hb
theorem oq {κ:Kr} {ps:List PV} {vs:List Value} {k mm:Nat} {xs:List (List PV)} {x:List PV} (h:Rps κ ps vs) (hk:ps[k]?=some (.slc mm xs)) (hx:x∈xs):∃ ds,Rps κ x ds:=by
 obtain ⟨v,_,h2⟩:=h.get hk
 cases h2 with
 | slc hs hb _ hss =>
  obtain ⟨i,hi,rfl⟩:=List.getElem_of_mem hx
  obtain ⟨ds,_,h3⟩:=hss.get (List.getElem?_eq_getElem hi)
  exact ⟨ds,h3⟩
end SX
end Go.Proofs.YtgmbmepakpcpaaaGreatDoor
namespace Go.Proofs.YtgmbmepakpcpaaaGreatDoor
namespace SX
open Go
theorem yV {κ:Kr} {ps:List PV} {vs:List Value} {k:Nat} {l:List ByteArray} (h:Rps κ ps vs) (hk:ps[k]?=some (pL eS l)):StrsOk l:=by
 refine ⟨by have:=pj h hk;simpa using this,fun s hs=>?_⟩
 obtain ⟨ds,hd⟩:=oq h hk (List.mem_map_of_mem (f:=eS) hs)
 exact uS (k:=0) hd rfl
mutual
theorem Gd {κ:Kr}:∀ (r:Zd) (ds:List Value),Rps κ (Zd.enc r) ds→ROk r
 | ⟨k,d,e,t,m,n,l⟩,ds,h=>by
  rw [Zd.enc_eq] at h
  have hl:l.length≤140737488355328:=by have:=pj (k:=6) h rfl;simpa using this
  exact ⟨_,yV (k:=2) h rfl,uS (k:=5) h rfl,hl,CW l (fun a ha=>oq (k:=6) h rfl (List.mem_map_of_mem (f:=Zd.enc) ha))⟩
theorem CW {κ:Kr}:∀ (l:List Zd),(∀ a∈l,∃ ds,Rps κ (Zd.enc a) ds)→∀ a∈l,ROk a
 | [],_,_,h=>by cases h
 | b::l,h,a,ha=>by
  rcases List.mem_cons.1 ha with e | ha
  ·obtain ⟨ds,hd⟩:=h b (by simp)
   rw [e];exact Gd b ds hd
  exact CW l (fun a ha=>h a (by simp [ha])) a ha
end
theorem rfok_of {κ:Kr} {x:Zh} {ds:List Value} (h:Rps κ (Zh.enc x) ds):x.Prefix.size≤140737488355328∧ROk x.Rule:=by
 refine ⟨uS (k:=0) h rfl,?_⟩
 have:=h.drop 1
 exact Gd x.Rule _ (by rw [Zd.enc_eq];exact this)
theorem rawA_of {κ:Kr} {a:Zb} {ds:List Value} (h:Rps κ (Zb.enc a) ds):RawA a:=by
 refine ⟨yV (k:=2) h rfl,by have:=pj (k:=3) h rfl;simpa using this,fun x hx=>?_⟩
 obtain ⟨ds,hd⟩:=oq (k:=3) h rfl (List.mem_map_of_mem (f:=Zh.enc) hx)
 exact rfok_of hd
theorem Ge {κ:Kr} {l:List Zb} {ds:List Value} (h:Rps κ (eL Zb.enc l) ds):∀ a∈l,RawA a:=fun a ha=>by
 obtain ⟨ds,hd⟩:=oq (k:=0) h rfl (List.mem_map_of_mem (f:=Zb.enc) ha)
 exact rawA_of hd
def iC (s p:ByteArray):Bool:=decide (p.size≤s.size)&&decide (s.extract 0 p.size=p)
theorem AA (s p:ByteArray):Option.bind (gd (decide ((p.size:Int)≤(s.size:Int))) (ko s 0 (p.size:Int))) (fun s1=>some ((decide ((p.size:Int)≤(s.size:Int)))&&(decide (s1=p))))=some (iC s p):=by
 unfold iC
 by_cases h:p.size≤s.size
 ·rw [det h,show decide ((p.size:Int)≤(s.size:Int))=true from det (by omega),cu]
  unfold ko;rw [if_pos (by omega)];rfl
 rw [cb h,show decide ((p.size:Int)≤(s.size:Int))=false from cb (by omega)];rfl
theorem tB (s p:ByteArray):dE s p=some (iC s p):=by
 unfold dE fY;rw [AA];rfl
theorem AB (s p:ByteArray):ie s p=some (iC s p):=by unfold ie;exact AA s p
def jJ (l:List Zh) (code:ByteArray) (k:Nat) (x:Zh) (b:Option Nat):Option Nat :=
 cond (iC code x.Prefix&&(match b with | none=>true | some j=>decide ((l.getD j x).Prefix.size<x.Prefix.size))) (some k) b
def noE {α:Type} (e:Empty):α:=nomatch e
def sE (l:List Zh) (code:ByteArray):Option Nat:=wX (fun b=>b) noE (run (fun k x b=>(.inl (jJ l code k x b):Option Nat⊕Empty)) l 0 none)
def uF:Option Nat→Int
 | none => -1
 | some j=>(j:Int)
theorem sF (b:Option Nat):decide (uF b<0)=b.isNone:=by
 cases b with
 | none=>rfl
 | some j=>exact cb (by simp only [uF];omega)
def inB (n:Nat) (b:Option Nat):Prop:=∀ j,b=some j→j<n
theorem yW {l:List Zh} {code:ByteArray} {k:Nat} {x:Zh} {b:Option Nat} (h:inB k b):inB (k+1) (jJ l code k x b):=by
 intro j hj
 unfold jJ at hj
 split at hj
 all_goals (cases hc:(iC code x.Prefix&&_) <;> rw [hc] at hj <;> simp only [bL,bv] at hj)
 all_goals first | (injection hj with hj;omega) | (have:=h j hj;omega) | (cases hj)
theorem Gf (l:List Zh) (code:ByteArray):inB l.length (sE l code):=by
 have key:∀ (m:List Zh) (i:Nat) (b:Option Nat),inB i b→inB (i+m.length) (wX (fun b=>b) noE (run (fun k x b=>(.inl (jJ l code k x b):Option Nat⊕Empty)) m i b)):=by
  intro m
  induction m with
  | nil=>intro i b h;exact h
  | cons x m ih =>
   intro i b h
   rw [jx,List.length_cons,show i+(m.length+1)=(i+1)+m.length by omega]
   exact ih _ _ (yW h)
 have:=key l 0 none (fun j h=>by cases h)
 rwa [Nat.zero_add] at this
theorem DY (l:List Zh) (code:ByteArray) (hl:l.length≤140737488355328) {β:Type} (K:Int→Option β):Option.bind (aT (S:=Int×Int) (T:=(Int)) (fun (v3,v4)=>cond (decide (v4<(l.length:Int))) (Option.bind (Option.bind (idx l v4) (fun m11=>Option.bind (dE code m11.Prefix) (fun x13=>Option.bind (gd (x13&&(!(decide (v3<0)))) (idx l v3)) (fun m14=>cond (x13&&((decide (v3<0))||(decide ((m14.Prefix.size:Int)<(m11.Prefix.size:Int))))) (some v4) (some v3))))) (fun v9=>some (.inl (v9,(IntKind.i64.wrap (v4+1)))))) (some (.inr v3))) FUEL ((-1),0)) K=K (uF (sE l code)):=by
 have h62:l.length≤4611686018427387904:=by omega
 refine (ku (l:=l) h62 (fun i (b:Option Nat)=>(uF b,i)) (fun k x b=>(.inl (jJ l code k x b):Option Nat⊕Empty)) uF noE (fun k b=>inB k b) none (fun j h=>by cases h) (fun k hk b hb=>⟨?_,fun b' h=>by injection h with h;rw [← h];exact yW hb⟩) (fun b hb=>by simp only [cN,bv])).trans ?_
 ·simp only [gY hk,bL,aQ hk,bc,tB,bM hk h62,Ak,sF]
  unfold jJ
  cases hp:iC code l[k].Prefix
  ·rfl
  cases b with
  | none=>rfl
  | some j =>
   have hj:=hb j rfl
   simp only [Option.isNone_some,Bool.not_false,Bool.and_true,cu,uF,aQ (show j<l.length by omega),bc,Bool.true_and,Bool.false_or,dt (show j<l.length by omega)]
   have e:decide (((l[j]'(by omega)).Prefix.size:Int)<(l[k].Prefix.size:Int))=decide ((l[j]'(by omega)).Prefix.size<l[k].Prefix.size):=decide_eq_decide.2 (by omega)
   rw [e]
   cases decide ((l[j]'(by omega)).Prefix.size<l[k].Prefix.size) <;> rfl
 unfold sE
 congr 1
 cases run (fun k x b=>(.inl (jJ l code k x b):Option Nat⊕Empty)) l 0 none with
 | inl b=>rfl
 | inr e=>nomatch e
theorem Gg (l:List Zh) (code:ByteArray) (hl:l.length≤140737488355328) {β:Type} (K:Int→Option β):Option.bind (aT (S:=Int×Int) (T:=(Int)) (fun (v3,v4)=>cond (decide (v4<(l.length:Int))) (Option.bind (Option.bind (idx l v4) (fun m11=>Option.bind (ie code m11.Prefix) (fun x12=>Option.bind (gd (x12&&(!(decide (v3<0)))) (idx l v4)) (fun m13=>Option.bind (gd (x12&&(!(decide (v3<0)))) (idx l v3)) (fun m14=>cond (x12&&((decide (v3<0))||(decide ((m14.Prefix.size:Int)<(m13.Prefix.size:Int))))) (some v4) (some v3)))))) (fun v9=>some (.inl (v9,(IntKind.i64.wrap (v4+1)))))) (some (.inr v3))) FUEL ((-1),0)) K=K (uF (sE l code)):=by
 have h62:l.length≤4611686018427387904:=by omega
 refine (ku (l:=l) h62 (fun i (b:Option Nat)=>(uF b,i)) (fun k x b=>(.inl (jJ l code k x b):Option Nat⊕Empty)) uF noE (fun k b=>inB k b) none (fun j h=>by cases h) (fun k hk b hb=>⟨?_,fun b' h=>by injection h with h;rw [← h];exact yW hb⟩) (fun b hb=>by simp only [cN,bv])).trans ?_
 ·simp only [gY hk,bL,aQ hk,bc,AB,bM hk h62,Ak,sF]
  unfold jJ
  cases hp:iC code l[k].Prefix
  ·rfl
  cases b with
  | none=>rfl
  | some j =>
   have hj:=hb j rfl
   simp only [Option.isNone_some,Bool.not_false,Bool.and_true,cu,uF,aQ (show j<l.length by omega),bc,Bool.true_and,Bool.false_or,dt (show j<l.length by omega)]
   have e:decide (((l[j]'(by omega)).Prefix.size:Int)<(l[k].Prefix.size:Int))=decide ((l[j]'(by omega)).Prefix.size<l[k].Prefix.size):=decide_eq_decide.2 (by omega)
   rw [e]
   cases decide ((l[j]'(by omega)).Prefix.size<l[k].Prefix.size) <;> rfl
 unfold sE
 congr 1
 cases run (fun k x b=>(.inl (jJ l code k x b):Option Nat⊕Empty)) l 0 none with
 | inl b=>rfl
 | inr e=>nomatch e
def gW {α:Type} (z:α):Option α→α×Bool
 | some r=>(r,true)
 | none=>(z,false)
def rp:Zd:=⟨0,0,[],0,0,ByteArray.empty,[]⟩
def dw (a:Zb) (code:ByteArray):Option Zd:=(sE a.Rules code).bind fun j=>(a.Rules[j]?).map (·.Rule)
theorem pm (a:Zb) (code:ByteArray):(sE a.Rules code=none∧dw a code=none)∨∃ j,∃ h:j<a.Rules.length,sE a.Rules code=some j∧dw a code=some a.Rules[j].Rule:=by
 cases hb:sE a.Rules code with
 | none=>left;exact ⟨rfl,by unfold dw;rw [hb];rfl⟩
 | some j =>
  have hj:=Gf a.Rules code j hb
  right;exact ⟨j,hj,rfl,by unfold dw;rw [hb,bc,List.getElem?_eq_getElem hj];rfl⟩
theorem pn (a:Zb) (code:ByteArray) (hl:a.Rules.length≤140737488355328):fb a code=some (gW rp (dw a code)):=by
 unfold fb
 rw [Gg _ _ hl]
 rcases pm a code with ⟨h1,h2⟩ | ⟨j,hj,h1,h2⟩
 ·rw [h1,h2];rfl
 rw [h1,h2,sF];simp only [Option.isNone_some,bv,uF,aQ hj,bc];rfl
theorem j9 {r:Zd} (h:dG r=true):r.Args.length≤6∧(∀ a∈r.Args,dG a=true)∧r.Except.length≤6:=by
 rw [gV,Bool.and_eq_true] at h
 obtain ⟨h1,h2⟩:=h
 unfold kE at h1
 simp only [Bool.and_eq_true,Bool.or_eq_true] at h1
 obtain ⟨⟨⟨p1,p2⟩,p3⟩,p4⟩:=h1
 have hE:r.Except.length≤6:=by
  rcases p1 with p1 | ⟨⟨_,p1⟩,_⟩
  ·have hk:=eq_of_beq p1
   rw [hk] at h2
   simp only [j7,hk] at h2
   have h3:lq r.Except=true:=by
    cases hc:lq r.Except
    ·rw [hc] at h2;simp at h2
    rfl
   unfold lq at h3
   simp only [Bool.and_eq_true,decide_eq_true_eq] at h3
   exact h3.1
  have:=List.isEmpty_iff.1 p1;rw [this];simp
 cases h56:(r.Kind == 5||r.Kind == 6)
 ·rw [Bool.or_eq_false_iff] at h56
  rcases p4 with (p4 | p4) | p4
  ·rw [h56.1] at p4;cases p4
  ·rw [h56.2] at p4;cases p4
  have:=List.isEmpty_iff.1 p4;rw [this];exact ⟨by simp,by simp,hE⟩
 rw [h56] at h2
 simp only [bL,Bool.and_eq_true,decide_eq_true_eq,List.all_eq_true] at h2
 exact ⟨h2.1.2,fun a ha=>(h2.2 a ha).2,hE⟩
theorem clone_F (n:Nat):∀ (r:Zd),dG r=true→r9 r≤n→fA n r=some r:=by
 induction n with
 | zero=>intro r _ hd;rw [js] at hd;omega
 | succ n ih =>
  intro r hr hd
  obtain ⟨h1,h2,h3⟩:=j9 hr
  show eo (fA n) r=_
  unfold eo bU
  rw [gH (by omega) (by omega),bc,BH (by omega) (by omega),bc]
  refine (cB (l:=r.Args) (by omega) (fun i (a:List Zd)=>(a,i)) (fun a x=>a++[x]) (fun a=>a) (fun k a=>a.length=k) [] rfl (fun k hk a ha=>⟨?_,by simp [ha]⟩) (fun a ha=>by simp only [cN,bv])).1.trans ?_
  ·simp only [gY hk,bL,aQ hk,bc,bM hk (show r.Args.length≤4611686018427387904 by omega)]
   rw [ih _ (h2 _ (List.getElem_mem hk)) (by have:=iQ (List.getElem_mem hk);omega),bc,df (by simp;omega) (by simp;omega)];rfl
  have:∀ (m acc:List Zd),m.foldl (fun a x=>a++[x]) acc=acc++m:=by
   intro m
   induction m with
   | nil=>intro acc;simp
   | cons x m ih=>intro acc;rw [List.foldl_cons,ih];simp
  rw [this,List.nil_append];cases r;rfl
theorem BR (r:Zd) (h:dG r=true) (hd:r9 r≤1000):iY r=some r:=clone_F FUEL r h (by have hf:FUEL=1267650600228229401496703205376:=rfl;omega)
structure VA (a:Zb):Prop where
 ok:AOk a
 rules:∀ x∈a.Rules,kF x.Rule=0
 len:a.Rules.length≤12∧a.Parties.length≤12
theorem qA (a:Zb) (code:ByteArray) (ha:VA a):dF a code=some (gW rp (dw a code)):=by
 unfold dF
 rw [DY _ _ ha.ok.len]
 rcases pm a code with ⟨h1,h2⟩ | ⟨j,hj,h1,h2⟩
 ·rw [h1,h2];rfl
 have hm:=List.getElem_mem hj
 have hr:=ha.ok.rules _ hm
 have hv:=ha.rules _ hm
 rw [h1,h2,sF]
 simp only [Option.isNone_some,Bool.not_false,cu,uF,aQ hj,bc,oo _ hr.rule hr.deep,hv,bne_self_eq_false,Bool.or_self,bv,BR _ ((np _).1 hv).2 hr.deep]
 rfl
theorem qB {α T:Type} (p:α→Bool) (f:Nat→T):∀ (l:List α) (i:Nat),(bT (fun k x=>cond (p x) (some (f k)) none) l i=none∧l.find? p=none)∨∃ j,∃ h:j<l.length,bT (fun k x=>cond (p x) (some (f k)) none) l i=some (f (i+j))∧l.find? p=some l[j]
 | [],_=>.inl ⟨rfl,rfl⟩
 | x::xs,i=>by
  rw [bT,List.find?_cons]
  cases hp:p x
  ·rcases qB p f xs (i+1) with ⟨h1,h2⟩ | ⟨j,hj,h1,h2⟩
   ·exact .inl ⟨h1,h2⟩
   exact .inr ⟨j+1,by simpa using hj,by rw [show i+(j+1)=i+1+j by omega];exact h1,h2⟩
  exact .inr ⟨0,by simp,rfl,rfl⟩
def mj (l:List ByteArray) (s:ByteArray):Bool:=l.any fun x=>decide (x=s)
theorem Gh (l:List ByteArray) (s:ByteArray):mj l s=true↔s∈l:=by
 unfold mj;simp
theorem sG (l:List ByteArray) (s:ByteArray) (hl:l.length≤140737488355328):bJ l s=some (mj l s):=by
 unfold bJ
 have e:dl l s=some (match bT (fun k x=>cond (decide (x=s)) (some (Sum.inr (k:Int):Unit⊕Int)) none) l 0 with | some (.inr k)=>k | _ => -1):=by
  unfold dl
  refine (bD (l:=l) (by omega) (fun k x=>cond (decide (x=s)) (some (.inr (k:Int))) none) (.inl ()) (fun k hk=>?_) (by simp only [cN,bv])).trans ?_
  ·simp only [gY hk,bL,aQ hk,bc,bM hk (show l.length≤4611686018427387904 by omega)]
   have e:decide (s=l[k])=decide (l[k]=s):=decide_eq_decide.2 eq_comm
   rw [e];cases decide (l[k]=s) <;> rfl
  cases bT (fun k x=>cond (decide (x=s)) (some (Sum.inr (k:Int):Unit⊕Int)) none) l 0 with
  | none=>rfl
  | some t=>cases t <;> rfl
 rw [e,bc]
 rcases qB (fun x=>decide (x=s)) (fun k=>(Sum.inr (k:Int):Unit⊕Int)) l 0 with ⟨h1,h2⟩ | ⟨j,hj,h1,h2⟩
 ·rw [h1]
  have:mj l s=false:=by unfold mj;rw [List.any_eq_false];exact fun x hx=>by have:=List.find?_eq_none.1 h2 x hx;simpa using this
  rw [this];rfl
 rw [h1]
 have:mj l s=true:=by
  have:=List.find?_some h2
  rw [Gh];rw [← of_decide_eq_true this];exact List.getElem_mem hj
 rw [this]
 show some (decide (0≤((0+j:Nat):Int)))=_
 rw [det (by omega)]
theorem qW (l:List ByteArray) (s:ByteArray) (hl:l.length≤140737488355328):iI l s=some (mj l s):=by
 unfold iI
 refine (bD (l:=l) (by omega) (fun _ x=>cond (decide (x=s)) (some (.inr true)) none) (.inl ()) (fun k hk=>?_) (by simp only [cN,bv])).trans ?_
 ·simp only [gY hk,bL,aQ hk,bc,bM hk (show l.length≤4611686018427387904 by omega)]
  cases decide (l[k]=s) <;> rfl
 rw [qS (fun x=>decide (x=s))]
 unfold mj;cases (l.any fun x=>decide (x=s)) <;> rfl
def ka (l:List Zb) (id:Int):Option Zb:=l.find? fun a=>a.ID == id
def DZ:Zb:=⟨0,0,[],[]⟩
theorem qX (l:List Zb) (id:Int) (hl:l.length≤140737488355328):dT l id=some (gW DZ (ka l id)):=by
 unfold dT ka
 refine (bD (l:=l) (by omega) (fun _ x=>cond (x.ID == id) (some (.inr (x,true))) none) (.inl ()) (fun k hk=>?_) (by simp only [cN,bv])).trans ?_
 ·simp only [gY hk,bL,aQ hk,bc,bM hk (show l.length≤4611686018427387904 by omega)]
  cases (l[k].ID == id) <;> rfl
 rw [iV (fun x:Zb=>x.ID == id) (fun x=>(Sum.inr (x,true):Unit⊕(Zb×Bool)))]
 cases l.find? (fun x:Zb=>x.ID == id) <;> rfl
theorem rV (l:List Zb) (id:Int) (hl:l.length≤140737488355328):eG l id=some (gW DZ (ka l id)):=by
 unfold eG ka
 have e:bE l (fun y3=>gx y3 id)=some (match bT (fun k (x:Zb)=>cond (x.ID == id) (some (Sum.inr (k:Int):Unit⊕Int)) none) l 0 with | some (.inr k)=>k | _ => -1):=by
  unfold bE gx
  refine (bD (l:=l) (by omega) (fun k x=>cond (x.ID == id) (some (.inr (k:Int))) none) (.inl ()) (fun k hk=>?_) (by simp only [cN,bv])).trans ?_
  ·simp only [gY hk,bL,aQ hk,bc,bM hk (show l.length≤4611686018427387904 by omega)]
   cases (l[k].ID == id) <;> rfl
  cases bT (fun k (x:Zb)=>cond (x.ID == id) (some (Sum.inr (k:Int):Unit⊕Int)) none) l 0 with
  | none=>rfl
  | some t=>cases t <;> rfl
 rw [e,bc]
 rcases qB (fun x:Zb=>x.ID == id) (fun k=>(Sum.inr (k:Int):Unit⊕Int)) l 0 with ⟨h1,h2⟩ | ⟨j,hj,h1,h2⟩
 ·rw [h1,h2];rfl
 rw [h1,h2]
 show cond (decide (((0+j:Nat):Int)<0)) _ (Option.bind (idx l ((0+j:Nat):Int)) _)=_
 rw [cb (by omega),Nat.zero_add,aQ hj];rfl
def xe {α:Type} (R:α→α→Bool):List α→List α→Bool
 | [],_=>true
 | _::_,[]=>true
 | x::a,y::b=>R x y&&xe R a b
def kL {α:Type} (R:α→α→Bool) (a b:List α):Bool:=a.length == b.length&&xe R a b
theorem xO {α T:Type} (R:α→α→Bool) (t:T) (B:List α):∀ (a b:List α) (i:Nat),B.drop i=b→a.length=b.length→bT (fun k x=>cond (R x (B.getD k x)) none (some t)) a i=cond (xe R a b) none (some t)
 | [],b,_,_,_=>by cases b <;> rfl
 | x::a,[],_,_,h=>by simp at h
 | x::a,y::b,i,hd,h=>by
  have hi:i<B.length:=by
   rcases Nat.lt_or_ge i B.length with h | h
   ·exact h
   rw [List.drop_of_length_le h] at hd;cases hd
  rw [List.drop_eq_getElem_cons hi] at hd
  injection hd with h1 h2
  rw [bT,xe,dt hi,h1,xO R t B a b (i+1) h2 (by simpa using h)]
  cases R x y <;> rfl
theorem wi {α:Type} {R:α→α→Bool}:∀ {a b:List α},(∀ x∈a,∀ y∈b,R x y=true↔x=y)→(kL R a b=true↔a=b)
 | [],[],_=>by simp [kL,xe]
 | [],y::b,_=>by simp [kL]
 | x::a,[],_=>by simp [kL]
 | x::a,y::b,h=>by
  have ih:=wi (R:=R) (a:=a) (b:=b) fun u hu v hv=>h u (by simp [hu]) v (by simp [hv])
  have h0:=h x (by simp) y (by simp)
  unfold kL at ih ⊢
  rw [xe]
  simp only [List.length_cons,Bool.and_eq_true,beq_iff_eq,Nat.add_right_cancel_iff,List.cons.injEq] at ih ⊢
  constructor
  ·rintro ⟨h1,h2,h3⟩;exact ⟨h0.1 h2,ih.1 ⟨h1,h3⟩⟩
  rintro ⟨h1,h2⟩;exact ⟨(ih.2 h2).1,h0.2 h1,(ih.2 h2).2⟩
theorem qY {α:Type} (a b:List α):((a.length:Int) != (b.length:Int)) = !(a.length == b.length):=by
 by_cases h:a.length=b.length
 ·rw [h];simp
 have h2:¬ (a.length:Int)=(b.length:Int):=by omega
 have e1:(a.length == b.length)=false:=by simpa using h
 have e2:((a.length:Int) == (b.length:Int))=false:=by simpa using h2
 rw [e1,bne,e2]
theorem qZ {α:Type} {a b:List α} (ha:a.length≤140737488355328) (R:α→α→Bool) {body:Int→Option (Int⊕(Unit⊕Bool))} {k:Unit⊕Bool→Option Bool} (hk:k (.inl ())=some true∧k (.inr false)=some false) (hab:a.length=b.length)
    (hstep:∀ (k:Nat) (hk:k<a.length) (hk2:k<b.length),body (k:Int)=some (ra k (cond (R a[k] b[k]) none (some (.inr false))))) (hend:body (a.length:Int)=some (.inr (.inl ()))):Option.bind (aT body FUEL 0) k=some (xe R a b):=by
  refine (bD (l:=a) (by omega) (fun i x=>cond (R x (b.getD i x)) none (some (.inr false))) (.inl ()) (fun i hi=>?_) hend).trans ?_
  · rw [hstep i hi (by omega),dt (show i<b.length by omega)]
  rw [xO R (Sum.inr false:Unit⊕Bool) b a b 0 rfl hab]
  cases xe R a b
  · exact hk.2
  exact hk.1
theorem qC (a b:List ByteArray) (ha:a.length≤140737488355328):gy a b=some (decide (a=b)):=by
 have hiff:kL (fun x y=>decide (x=y)) a b=decide (a=b):=by
  have:=wi (R:=fun x y:ByteArray=>decide (x=y)) (a:=a) (b:=b) (fun x _ y _=>by simp)
  cases h:kL (fun x y=>decide (x=y)) a b
  ·rw [h] at this;exact (cb fun e=>by have:=this.2 e;cases this).symm
  exact (det (this.1 h)).symm
 rw [← hiff]
 unfold gy kL
 rw [qY]
 cases h:(a.length == b.length)
 ·rfl
 simp only [Bool.not_true,bv,Bool.true_and]
 refine qZ ha _ ⟨rfl,rfl⟩ (eq_of_beq h) (fun k hk hk2=>?_) (by simp only [cN,bv])
 simp only [gY hk,bL,aQ hk,aQ hk2,bc,bM hk (show a.length≤4611686018427387904 by omega)]
 cases decide (a[k]=b[k]) <;> rfl
theorem uG (a b:List ByteArray) (ha:a.length≤140737488355328):eu a b=some (decide (a=b)):=by
 rw [← qC a b ha];rfl
theorem rq (a b:List Za) (ha:a.length≤140737488355328):fJ a b=some (decide (a=b)):=by
 have hiff:kL Za.eqb a b=decide (a=b):=by
  have:=wi (R:=Za.eqb) (a:=a) (b:=b) (fun x _ y _=>Za.eqb_iff)
  cases h:kL Za.eqb a b
  ·rw [h] at this;exact (cb fun e=>by have:=this.2 e;cases this).symm
  exact (det (this.1 h)).symm
 rw [← hiff]
 unfold fJ kL
 rw [qY]
 cases h:(a.length == b.length)
 ·rfl
 simp only [Bool.not_true,bv,Bool.true_and]
 refine qZ ha _ ⟨rfl,rfl⟩ (eq_of_beq h) (fun k hk hk2=>?_) (by simp only [cN,bv])
 simp only [gY hk,bL,aQ hk,aQ hk2,bc,bM hk (show a.length≤4611686018427387904 by omega)]
 cases Za.eqb a[k] b[k] <;> rfl
mutual
def ii:Zd→Zd→Bool
 | ⟨k,d,e,t,m,n,l⟩,⟨k',d',e',t',m',n',l'⟩=>k == k'&&d == d'&&t == t'&&m == m'&&decide (n=n')&&decide (e=e')&&jP l l'
def jP:List Zd→List Zd→Bool
 | [],[]=>true
 | [],_::_=>false
 | _::_,[]=>false
 | a::l,b::m=>ii a b&&jP l m
end
mutual
theorem BS:∀ a b:Zd,ii a b=true↔a=b
 | ⟨k,d,e,t,m,n,l⟩,⟨k',d',e',t',m',n',l'⟩=>by
  rw [ii]
  simp only [Bool.and_eq_true,beq_iff_eq,decide_eq_true_eq,ub l l',Zd.mk.injEq]
  constructor
  ·rintro ⟨⟨⟨⟨⟨⟨h1,h2⟩,h3⟩,h4⟩,h5⟩,h6⟩,h7⟩;exact ⟨h1,h2,h6,h3,h4,h5,h7⟩
  rintro ⟨h1,h2,h6,h3,h4,h5,h7⟩;exact ⟨⟨⟨⟨⟨⟨h1,h2⟩,h3⟩,h4⟩,h5⟩,h6⟩,h7⟩
theorem ub:∀ a b:List Zd,jP a b=true↔a=b
 | [],[]=>by simp [jP]
 | [],_::_=>by simp [jP]
 | _::_,[]=>by simp [jP]
 | a::l,b::m=>by rw [jP,Bool.and_eq_true,BS a b,ub l m,List.cons.injEq]
end
theorem uc:∀ a b:List Zd,jP a b=kL ii a b
 | [],[]=>by simp [jP,kL,xe]
 | [],_::_=>by simp [jP,kL]
 | _::_,[]=>by simp [jP,kL]
 | a::l,b::m=>by
  rw [jP,uc l m]
  unfold kL
  rw [xe,List.length_cons,List.length_cons]
  have:(l.length+1 == m.length+1)=(l.length == m.length):=by
   cases h:(l.length == m.length)
   ·have:=(beq_eq_false_iff_ne).1 h;exact beq_eq_false_iff_ne.2 (by omega)
   have:=eq_of_beq h;rw [this];simp
  rw [this]
  cases ii a b <;> cases (l.length == m.length) <;> rfl
theorem wj (a b:Zd):ii a b=(a.Kind == b.Kind&&a.Digits == b.Digits&&a.Tolerance == b.Tolerance&&a.Limit == b.Limit&&decide (a.Name=b.Name)&&decide (a.Except=b.Except)&&kL ii a.Args b.Args):=by
 cases a;cases b;rw [ii,uc]
theorem BT (n:Nat):∀ (a b:Zd),ROk a→r9 a≤n→jf n a b=some (ii a b):=by
 induction n with
 | zero=>intro a b _ hd;rw [js] at hd;omega
 | succ n ih =>
  intro a b ha hd
  show gQ (jf n) a b=_
  unfold gQ
  rw [qC _ _ ha.ex.1,wj,qY]
  simp only [bne]
  have hl:=ha.len
  cases (a.Kind == b.Kind)
  ·rfl
  cases (a.Digits == b.Digits)
  ·rfl
  cases (a.Tolerance == b.Tolerance)
  ·rfl
  cases (a.Limit == b.Limit)
  ·rfl
  cases decide (a.Name=b.Name)
  ·rfl
  simp only [Bool.not_true,Bool.or_self,Bool.not_false,cu,bc,Bool.false_or,Bool.and_self,Bool.true_and]
  cases decide (a.Except=b.Except)
  ·rfl
  unfold kL
  cases h:(a.Args.length == b.Args.length)
  ·rfl
  simp only [Bool.not_true,Bool.or_self,bv,Bool.true_and]
  refine qZ hl _ ⟨rfl,rfl⟩ (eq_of_beq h) (fun k hk hk2=>?_) (by simp only [cN,bv])
  simp only [gY hk,bL,aQ hk,aQ hk2,bc,bM hk (show a.Args.length≤4611686018427387904 by omega)]
  rw [ih _ _ (ha.arg (List.getElem_mem hk)) (by have:=iQ (List.getElem_mem hk);omega),bc]
  cases ii a.Args[k] b.Args[k] <;> rfl
theorem AC (n:Nat):∀ (a b:Zd),ROk a→r9 a≤n→ez n a b=some (ii a b):=by
 induction n with
 | zero=>intro a b _ hd;rw [js] at hd;omega
 | succ n ih =>
  intro a b ha hd
  have hl:=ha.len
  have hA:br a.Args b.Args (fun y4 y5=>ez n y4 y5)=some (kL ii a.Args b.Args):=by
   unfold br kL
   rw [qY]
   cases h:(a.Args.length == b.Args.length)
   ·rfl
   simp only [Bool.not_true,bv,Bool.true_and]
   refine qZ hl _ ⟨rfl,rfl⟩ (eq_of_beq h) (fun k hk hk2=>?_) (by simp only [cN,bv])
   simp only [gY hk,bL,aQ hk,aQ hk2,bc,bM hk (show a.Args.length≤4611686018427387904 by omega)]
   rw [ih _ _ (ha.arg (List.getElem_mem hk)) (by have:=iQ (List.getElem_mem hk);omega),bc]
   cases ii a.Args[k] b.Args[k] <;> rfl
  show ey (ez n) a b=_
  unfold ey
  rw [uG _ _ ha.ex.1,wj,hA]
  cases (a.Kind == b.Kind&&a.Digits == b.Digits&&a.Tolerance == b.Tolerance&&a.Limit == b.Limit&&decide (a.Name=b.Name))
  ·rfl
  cases decide (a.Except=b.Except)
  ·rfl
  cases kL ii a.Args b.Args <;> rfl
def AD (x y:Zh):Bool:=decide (x.Prefix=y.Prefix)&&ii x.Rule y.Rule
theorem xf (a b:List Zh) (ha:a.length≤140737488355328) (hr:∀ x∈a,RFOk x):iy a b=some (kL AD a b):=by
 unfold iy kL
 rw [qY]
 cases h:(a.length == b.length)
 ·rfl
 simp only [Bool.not_true,bv,Bool.true_and]
 refine qZ ha _ ⟨rfl,rfl⟩ (eq_of_beq h) (fun k hk hk2=>?_) (by simp only [cN,bv])
 have hx:=hr _ (List.getElem_mem hk)
 simp only [gY hk,bL,aQ hk,aQ hk2,bc,bM hk (show a.length≤4611686018427387904 by omega),AD]
 cases decide (a[k].Prefix=b[k].Prefix)
 ·rfl
 have e:nh a[k].Rule b[k].Rule=some (ii a[k].Rule b[k].Rule):=BT FUEL _ _ hx.rule (by have hf:FUEL=1267650600228229401496703205376:=rfl;have:=hx.deep;omega)
 simp only [Bool.not_true,Bool.not_false,cu,bc,e,Bool.false_or,Bool.true_and]
 cases ii a[k].Rule b[k].Rule <;> rfl
theorem wk (a b:List Zh) (ha:a.length≤140737488355328) (hr:∀ x∈a,RFOk x) (hv:∀ x∈a,kF x.Rule=0):eP a b=some (kL AD a b):=by
 unfold eP bm kL
 rw [qY]
 cases h:(a.length == b.length)
 ·rfl
 simp only [Bool.not_true,bv,Bool.true_and]
 rw [qZ ha AD ⟨rfl,rfl⟩ (eq_of_beq h) (fun k hk hk2=>?_) (by simp only [cN,bv])]
 ·rfl
 have hx:=hr _ (List.getElem_mem hk)
 have hxv:=hv _ (List.getElem_mem hk)
 simp only [gY hk,bL,aQ hk,aQ hk2,bc,bM hk (show a.length≤4611686018427387904 by omega),AD]
 unfold fj
 cases decide (a[k].Prefix=b[k].Prefix)
 ·rfl
 have e:iZ a[k].Rule b[k].Rule=some (ii a[k].Rule b[k].Rule):=AC FUEL _ _ hx.rule (by have hf:FUEL=1267650600228229401496703205376:=rfl;have:=hx.deep;omega)
 simp only [cu,oo _ hx.rule hx.deep,hxv,bc,beq_self_eq_true,Bool.and_self,e,Bool.true_and]
 cases ii a[k].Rule b[k].Rule <;> rfl
def Digs (l:List Int):Prop:=∀ x∈l,48≤x∧x≤57
theorem code_Y {p:Zj} (hp:SOK p) (n:Nat) (hn:n=6∨n=8):Y (gN p (n:Int)) (fun r=>(∃ l:List Int,r.1=strOfNums l∧l.length=n∧Digs l)∧SOK r.2):=by
 unfold gN
 refine (eV hp 2 (by omega) (by omega)).bind fun a ⟨a1,a2,a3⟩=>?_
 rw [cM (by omega) (by omega),yr (by omega)]
 refine Y.bind (P:=fun t:List Int×List Int×Int=>t.1.length=n∧Digs t.1∧SOK ⟨t.2.1,t.2.2⟩) ?_ fun t ⟨t1,t2,t3⟩=>?_
 ·refine Y.loop (fun s:List Int×List Int×Int=>(s.1.length % 2=0∧s.1.length≤n)∧Digs s.1∧SOK ⟨s.2.1,s.2.2⟩) (fun s=>n - s.1.length) ⟨⟨by simp,by simp;omega⟩,fun x hx=>by simp at hx;omega,a3⟩ (by dsimp only;omega) fun s hs=>?_
  obtain ⟨l,m,i⟩:=s
  obtain ⟨⟨s0,s1⟩,s2,s3⟩:=hs
  dsimp only at s0 s1 s2 s3 ⊢
  refine Y.cond (fun hc=>?_) (fun hc=>Y.ret ⟨by have:=of_decide_eq_false hc;dsimp only;omega,s2,s3⟩)
  have hc:=of_decide_eq_true hc
  refine (eV s3 3 (by omega) (by omega)).bind fun x ⟨x1,x2,x3⟩=>?_
  rw [df (by simp;omega) (by simp;omega),bc,cM (by omega) (by omega),yr (by omega)]
  refine Y.ret ⟨⟨⟨by simp;omega,by simp;omega⟩,fun z hz=>?_,x3⟩,by simp;omega⟩
  rcases List.mem_append.1 hz with hz | hz
  ·exact s2 z hz
  simp only [List.mem_cons,List.not_mem_nil,or_false] at hz;omega
 obtain ⟨l,m,i⟩:=t
 exact Y.ret ⟨⟨l,rfl,t1,t2⟩,t3⟩
theorem Gi {l:List Int} {n:Nat} (hn:n=6∨n=8) (h1:l.length=n) (h2:Digs l):cQ (strOfNums l)=(n:Int)∧(strOfNums l).size=n:=by
 have hs:(strOfNums l).size=n:=by
  unfold strOfNums
  show (Array.mk _).size=n
  simp [h1]
 have hd:lp (strOfNums l)=true:=by
  unfold lp bl strOfNums
  rw [List.all_eq_true]
  intro c hc
  simp only [List.mem_map] at hc
  obtain ⟨x,hx,rfl⟩:=hc
  have:=h2 x hx
  have h3:(UInt8.ofNat x.toNat).toNat=x.toNat:=by
   rw [UInt8.toNat_ofNat'];omega
  simp only [kB,h3,decide_eq_true_eq]
  omega
 refine ⟨?_,hs⟩
 unfold cQ
 rw [if_pos ⟨by omega,hd⟩,hs]
def W5:List ByteArray:=[(⟨#[97,110,100]⟩:ByteArray),(⟨#[99,117,116]⟩:ByteArray),(⟨#[111,114]⟩:ByteArray),(⟨#[115,101,119]⟩:ByteArray),(⟨#[115,112,105,110]⟩:ByteArray)]
theorem W5_ok:W5.all hU=true∧kK i7 W5=true∧(W5.all fun s=>decide (s.size≤100))=true:=⟨by kernel_rfl,by kernel_rfl,by kernel_rfl⟩
theorem AE {p:Zj} (hp:SOK p):Y (eN p) (fun r=>r.1.Sublist W5∧SOK r.2):=by
 unfold eN
 refine (eV hp 32 (by omega) (by omega)).bind fun a ⟨a1,a2,a3⟩=>?_
 refine Y.bind (P:=fun l:List ByteArray=>l.Sublist W5) ?_ fun l hl=>Y.ret ⟨hl,a3⟩
 refine Y.loop (fun s=>∃ v:Nat,s.2=(v:Int)∧v≤5∧s.1.Sublist (W5.take v)) (fun s=>(5 - s.2).toNat) ⟨0,rfl,by omega,List.Sublist.refl _⟩ (by dsimp only;omega) fun s hs=>?_
 obtain ⟨l,i⟩:=s
 obtain ⟨v,rfl,h1,h2⟩:=hs
 dsimp only at h2 ⊢
 have hlen:l.length≤5:=by have:=h2.length_le;have h6:W5.length=5:=rfl;rw [List.length_take] at this;omega
 refine Y.cond (fun hc=>?_) (fun hc=>Y.ret (h2.trans (List.take_sublist _ _)))
 have hv:v<5:=by have:=of_decide_eq_true hc;omega
 have hs:=o9 h2 (show v<W5.length from hv)
 refine Y.bind (P:=fun m:List ByteArray=>m.Sublist (W5.take (v+1))) (Y.eq (pa v) (Y.cond (fun _=>?_) fun _=>Y.ret hs.2)) fun m hm=>Y.ret ⟨⟨v+1,?_,by omega,hm⟩,?_⟩
 ·refine Y.idx (xs:=W5) rfl (show v<W5.length from hv) ?_
  rw [df (by simp;omega) (by simp;omega)];exact Y.ret hs.1
 ·show IntKind.i64.wrap ((v:Int)+1)=_;rw [cM (by omega) (by omega)];omega
 show (5 - IntKind.i64.wrap ((v:Int)+1)).toNat<(5 - (v:Int)).toNat;rw [cM (by omega) (by omega)];omega
theorem codeN {x:Int} (h1:0≤x) (h2:x<2):∃ n:Nat,(n=6∨n=8)∧IntKind.i64.wrap (6+IntKind.i64.wrap (2*x))=(n:Int):=by
 rw [cM (r:=2*x) (by omega) (by omega),cM (by omega) (by omega)]
 exact ⟨(6+2*x).toNat,by omega,by omega⟩
structure MProd (n:Nat) (i:Nat) (p:Zc):Prop where
 id:p.ID=3*((i:Int)+1)
 lvl:(cQ p.Code=6∨cQ p.Code=8)∧6≤p.Code.size∧p.Code.size≤8
 ctr:p.Country∈C6
 price:1≤p.Price∧p.Price≤200
 proc:p.Processes.Sublist W5
 few:p.Inputs.length≤4
 asc:p.Inputs.Pairwise fun a b=>a.Product<b.Product
 inp:∀ x∈p.Inputs,(∃ k:Nat,k<n∧x.Product=3*((k:Int)+1))∧0≤x.Value∧x.Value<100
 obt:p.Obtained=true→p.Inputs=[]
structure MPs (l:List Zc):Prop where
 len:1≤l.length∧l.length≤10
 all:∀ (i:Nat) (p:Zc),l[i]?=some p→MProd l.length i p
theorem plan_Y (p0:List Int):Y (n9 p0) MPs:=by
 unfold n9
 refine (cut_Y p0 300 (by omega) (by omega)).bind fun x1 hx1=>?_
 refine (eV hx1 10 (by omega) (by omega)).bind fun x3 ⟨a1,a2,a3⟩=>?_
 rw [cM (r:=1+x3.1) (by omega) (by omega)]
 obtain ⟨n,hn⟩:∃ n:Nat,1+x3.1=(n:Int):=⟨(1+x3.1).toNat,by omega⟩
 rw [hn]
 have hn1:1≤n∧n≤10:=by omega
 refine Y.bind (P:=MPs) ?_ fun l hl=>Y.ret hl
 refine Y.loop (fun s:List Zc×Int×List Int×Int=>(s.2.1=(s.1.length:Int)+1∧s.1.length≤n)∧SOK ⟨s.2.2.1,s.2.2.2⟩∧∀ i p,s.1[i]?=some p→MProd n i p) (fun s=>n - s.1.length) ⟨⟨rfl,by simp⟩,a3,by simp⟩ (by dsimp only;omega) fun s hs=>?_
 obtain ⟨l5,v8,l9,v10⟩:=s
 obtain ⟨⟨h1,h2⟩,h3,h4⟩:=hs
 dsimp only at h1 h2 h3 h4 ⊢
 refine Y.cond (fun hc=>?_) (fun hc=>Y.ret ?_)
 rotate_left
 ·have hc:=of_decide_eq_false hc
  have e:l5.length=n:=by omega
  exact ⟨by omega,by rw [e];exact h4⟩
 have hc:=of_decide_eq_true hc
 refine (eV h3 2 (by omega) (by omega)).bind fun x19 ⟨b1,b2,b3⟩=>?_
 obtain ⟨w,hw,e⟩:=codeN b1 b2
 rw [e]
 refine (code_Y b3 w hw).bind fun x20 ⟨⟨cl,hc1,hc2,hc3⟩,hx20⟩=>?_
 have hcode:=Gi hw hc2 hc3
 refine Y.eq sC ?_
 refine (eV hx20 4 (by omega) (by omega)).bind fun x22 ⟨c1,c2,c3⟩=>?_
 obtain ⟨j,hj⟩:∃ j:Nat,x22.1=(j:Int):=⟨x22.1.toNat,by omega⟩
 refine Y.idx hj (show j<C6.length by have h6:C6.length=6:=rfl;omega) ?_
 refine (eV c3 200 (by omega) (by omega)).bind fun x24 ⟨d1,d2,d3⟩=>?_
 refine (AE d3).bind fun x25 ⟨hpr,hx25⟩=>?_
 refine (eV hx25 4 (by omega) (by omega)).bind fun x26 ⟨_,_,h26⟩=>?_
 refine (eV h26 1024 (by omega) (by omega)).bind fun x28 ⟨_,_,h28⟩=>?_
 refine Y.bind (P:=fun t:List Int×Int×List Zi=>SOK ⟨t.1,t.2.1⟩∧t.2.2.length≤4∧(t.2.2.Pairwise fun a b=>a.Product<b.Product)∧(∀ x∈t.2.2,(∃ k:Nat,k<n∧x.Product=3*((k:Int)+1))∧0≤x.Value∧x.Value<100)∧((x26.1 == 1)=true→t.2.2=[])) ?_ fun t ⟨t1,t2,t3,t4,t5⟩=>?_
 ·refine Y.loop (fun s:Int×List Int×Int×List Zi=>∃ v:Nat,s.1=(v:Int)+1∧v≤n∧SOK ⟨s.2.1,s.2.2.1⟩∧s.2.2.2.length≤4∧(s.2.2.2.Pairwise fun a b=>a.Product<b.Product)∧(∀ x∈s.2.2.2,(∃ k:Nat,k<v∧x.Product=3*((k:Int)+1))∧0≤x.Value∧x.Value<100)∧((x26.1 == 1)=true→s.2.2.2=[])) (fun s=>(n+1 - s.1).toNat) ⟨0,rfl,by omega,h28,by simp,List.Pairwise.nil,by simp,fun _=>rfl⟩ (by dsimp only;omega) fun s hs=>?_
  obtain ⟨i,l,k,m⟩:=s
  obtain ⟨v,rfl,s1,s2,s3,s4,s5,s6⟩:=hs
  dsimp only at s2 s3 s4 s5 s6 ⊢
  refine Y.cond (fun hc3=>?_) (fun hc3=>Y.ret ⟨s2,s3,s4,fun x hx=>?_,s6⟩)
  rotate_left
  ·obtain ⟨⟨k,h5,h6⟩,h7⟩:=s5 x hx;exact ⟨⟨k,by omega,h6⟩,h7⟩
  simp only [Bool.and_eq_true,decide_eq_true_eq,Bool.not_eq_true'] at hc3
  obtain ⟨⟨hc4,hc5⟩,hc6⟩:=hc3
  rw [cM (r:=(v:Int)+1 - 1) (by omega) (by omega),cM (r:=(v:Int)+1+1) (by omega) (by omega),cM (r:=3*((v:Int)+1)) (by omega) (by omega)]
  refine Y.bind (P:=fun t:List Int×Int×List Zi=>SOK ⟨t.1,t.2.1⟩∧t.2.2.length≤4∧(t.2.2.Pairwise fun a b=>a.Product<b.Product)∧(∀ x∈t.2.2,(∃ k:Nat,k<v+1∧x.Product=3*((k:Int)+1))∧0≤x.Value∧x.Value<100)) ?_ fun t ⟨t1,t2,t3,t4⟩=>Y.ret ⟨⟨v+1,by dsimp only;omega,by omega,t1,t2,t3,t4,fun h=>by rw [hc6] at h;cases h⟩,by dsimp only;omega⟩
  rw [show (v:Int)+1 - 1=(v:Int) by omega]
  refine Y.eq (pa v) ?_
  refine Y.bind (P:=fun r:Int×Zj=>SOK r.2) (Y.gdp (fun _=>(eV s2 3 (by omega) (by omega)).mono fun r hr=>hr.2.2) fun _=>s2) fun x56 hx56=>?_
  refine Y.cond (fun _=>?_) (fun _=>Y.ret ⟨hx56,s3,s4,fun x hx=>?_⟩)
  rotate_left
  ·obtain ⟨⟨k,h5,h6⟩,h7⟩:=s5 x hx;exact ⟨⟨k,by omega,h6⟩,h7⟩
  refine (eV hx56 100 (by omega) (by omega)).bind fun x58 ⟨e1,e2,e3⟩=>?_
  rw [df (by simp;omega) (by simp;omega),bc]
  refine Y.ret ⟨e3,by simp;omega,?_,fun x hx=>?_⟩
  ·rw [List.pairwise_append]
   refine ⟨s4,List.pairwise_singleton _ _,fun a ha b hb=>?_⟩
   rw [List.mem_singleton.1 hb]
   obtain ⟨⟨k,h5,h6⟩,_⟩:=s5 a ha
   dsimp only;omega
  rcases List.mem_append.1 hx with hx | hx
  ·obtain ⟨⟨k,h5,h6⟩,h7⟩:=s5 x hx;exact ⟨⟨k,by omega,h6⟩,h7⟩
  rw [List.mem_singleton.1 hx];exact ⟨⟨v,by omega,rfl⟩,e1,e2⟩
 obtain ⟨l37,v38,l42⟩:=t
 dsimp only at t1 t2 t3 t4 t5 ⊢
 rw [df (by simp;omega) (by simp;omega),bc,cM (r:=v8+1) (by omega) (by omega),cM (r:=1+x24.1) (by omega) (by omega),cM (r:=3*v8) (by omega) (by omega)]
 refine Y.ret ⟨⟨⟨by simp;omega,by simp;omega⟩,t1,fun i p hp=>?_⟩,by simp;omega⟩
 rw [List.getElem?_append] at hp
 split at hp
 ·exact h4 i p hp
 rename_i hi
 have hi0:i - l5.length=0:=by have:=(List.getElem?_eq_some_iff.1 hp).1;simp at this;omega
 rw [hi0] at hp
 simp only [List.getElem?_cons_zero,eQ] at hp
 subst hp
 refine ⟨by dsimp only;omega,?_,List.getElem_mem _,⟨by dsimp only;omega,by dsimp only;omega⟩,hpr,t2,t3,t4,t5⟩
 dsimp only;rw [hc1,hcode.1,hcode.2];omega
structure Sorted (l:List Zc):Prop where
 len:l.length≤1000000
 asc:l.Pairwise fun a b=>a.ID<b.ID
 small:∀ p∈l,p.Processes.length≤1000000∧p.Inputs.length≤1000000
def co (l:List Zc) (id:Int):Option Zc:=l.find? fun p=>p.ID == id
def AF:Zc:=⟨0,ByteArray.empty,ByteArray.empty,0,false,[],[]⟩
theorem tC (l:List Zc) (id:Int) (hl:l.length≤140737488355328):dV l id=some (gW AF (co l id)):=by
 unfold dV co
 refine (bD (l:=l) (by omega) (fun _ x=>cond (x.ID == id) (some (.inr (x,true))) none) (.inl ()) (fun k hk=>?_) (by simp only [cN,bv])).trans ?_
 ·simp only [gY hk,bL,aQ hk,bc,bM hk (show l.length≤4611686018427387904 by omega)]
  cases (l[k].ID == id) <;> rfl
 rw [iV (fun x:Zc=>x.ID == id) (fun x=>(Sum.inr (x,true):Unit⊕(Zc×Bool)))]
 cases l.find? (fun x:Zc=>x.ID == id) <;> rfl
theorem half_u (x:Nat) (h:x≤10000000):IntKind.i64.wrap (cD .u64 (IntKind.u64.wrap (IntKind.i64.wrap (x:Int))) 1)=((x / 2:Nat):Int):=by
 rw [cM (r:=(x:Int)) (by omega) (by omega),u64s (by omega) (by omega)]
 have:cD .u64 (x:Int) 1=(x:Int) / 2:=Int.fdiv_eq_ediv_of_nonneg _ (by decide)
 rw [this,cM (by omega) (by omega)];omega
theorem D0 (l:List Zc) (id:Int) (h:Sorted l):∃ j:Nat,gu l id=some ((j:Int),(co l id).isSome)∧(∀ p,co l id=some p→∃ hj:j<l.length,l[j]=p):=by
 have hl:=h.len
 have cmp:∀ p:Zc,eC p id=some (if p.ID<id then -1 else if id<p.ID then 1 else 0):=fun p=>by unfold eC;rw [FU];rfl
 unfold gu bI
 have hloop:Y (aT (S:=Int×Int) (T:=(Int×Int)) (fun (v1,v2)=>cond (decide (v1<v2)) (lb ((IntKind.i64.wrap (cD .u64 (IntKind.u64.wrap (IntKind.i64.wrap (v1+v2))) 1))) (fun w8=>Option.bind (idx l w8) (fun m9=>Option.bind (eC m9 id) (fun x10=>cond (decide (x10<0)) (some (.inl ((IntKind.i64.wrap (w8+1)),v2))) (some (.inl (v1,w8))))))) (some (.inr (id,v1)))) FUEL (0,(l.length:Int))) (fun t=>t.1=id∧∃ j:Nat,t.2=(j:Int)∧j≤l.length∧(∀ (k:Nat) (p:Zc),l[k]?=some p→k<j→p.ID<id)∧(∀ (k:Nat) (p:Zc),l[k]?=some p→j≤k→id≤p.ID)):=by
  refine Y.loop (fun s:Int×Int=>∃ i j:Nat,s.1=(i:Int)∧s.2=(j:Int)∧i≤j∧j≤l.length∧(∀ (k:Nat) (p:Zc),l[k]?=some p→k<i→p.ID<id)∧(∀ (k:Nat) (p:Zc),l[k]?=some p→j≤k→id≤p.ID)) (fun s=>(s.2 - s.1).toNat) ⟨0,l.length,rfl,rfl,by omega,by omega,fun k p _ hk=>absurd hk (Nat.not_lt_zero _),fun k p hp hk=>by have:=(List.getElem?_eq_some_iff.1 hp).1;omega⟩ (by dsimp only;omega) fun s hs=>?_
  obtain ⟨a,b⟩:=s
  obtain ⟨i,j,rfl,rfl,h1,h2,h3,h4⟩:=hs
  dsimp only
  refine Y.cond (fun hc=>?_) (fun hc=>Y.ret ⟨rfl,i,rfl,by omega,h3,fun k p hp hk=>h4 k p hp (by have:=of_decide_eq_false hc;omega)⟩)
  have hc:i<j:=by have:=of_decide_eq_true hc;omega
  unfold lb
  rw [show (i:Int)+(j:Int)=((i+j:Nat):Int) by omega,half_u _ (by omega)]
  have hm:(i+j) / 2<l.length:=by omega
  have pw:=List.pairwise_iff_getElem.1 h.asc
  refine Y.idx rfl hm (Y.eq (cmp _) ?_)
  by_cases hlt:l[(i+j) / 2].ID<id
  ·rw [if_pos hlt]
   refine Y.ret ⟨⟨(i+j) / 2+1,j,?_,rfl,by omega,h2,fun k p hp hk=>?_,h4⟩,?_⟩
   ·show IntKind.i64.wrap _=_;rw [cM (by omega) (by omega)];omega
   ·obtain ⟨hk2,rfl⟩:=List.getElem?_eq_some_iff.1 hp
    rcases Nat.lt_or_ge k ((i+j) / 2) with h5 | h5
    ·have:=pw k ((i+j) / 2) hk2 hm h5;omega
    have e:k=(i+j) / 2:=by omega
    subst e;exact hlt
   show ((j:Int) - IntKind.i64.wrap _).toNat<_;rw [cM (by omega) (by omega)];omega
  rw [if_neg hlt]
  have hd:decide ((if id<l[(i+j) / 2].ID then (1:Int) else 0)<0)=false:=by split <;> rfl
  rw [hd]
  refine Y.ret ⟨⟨i,(i+j) / 2,rfl,rfl,by omega,by omega,h3,fun k p hp hk=>?_⟩,by dsimp only;omega⟩
  obtain ⟨hk2,rfl⟩:=List.getElem?_eq_some_iff.1 hp
  rcases Nat.lt_or_ge ((i+j) / 2) k with h5 | h5
  ·have:=pw ((i+j) / 2) k hm hk2 h5;omega
  have e:k=(i+j) / 2:=by omega
  subst e;omega
 obtain ⟨⟨t1,t2⟩,e,rfl,j,hj,h1,h2,h3⟩:=hloop
 dsimp only at hj
 subst hj
 rw [e]
 simp only [bc]
 by_cases hjl:j<l.length
 ·rw [det (show (j:Int)<(l.length:Int) by omega),cu,aQ hjl,bc,cu,cmp,bc]
  have h4:=h3 j _ (List.getElem?_eq_getElem hjl) (Nat.le_refl _)
  rw [if_neg (by omega)]
  by_cases heq:t1<l[j].ID
  ·have hn:co l t1=none:=by
    unfold co;rw [List.find?_eq_none]
    intro p hp
    obtain ⟨k,hk,rfl⟩:=List.getElem_of_mem hp
    have:l[k].ID≠t1:=by
     rcases Nat.lt_or_ge k j with h5 | h5
     ·have:=h2 k _ (List.getElem?_eq_getElem hk) h5;omega
     rcases Nat.lt_or_ge j k with h6 | h6
     ·have:=List.pairwise_iff_getElem.1 h.asc j k hjl hk h6;omega
     have e:k=j:=by omega
     subst e;omega
    simpa using this
   rw [if_pos heq,hn];exact ⟨j,rfl,fun p hp=>by cases hp⟩
  ·have hid:l[j].ID=t1:=by omega
   have hs:co l t1=some l[j]:=by
    unfold co
    rw [List.find?_eq_some_iff_getElem]
    refine ⟨by simpa using hid,j,hjl,rfl,fun k hk=>?_⟩
    have:=h2 k _ (List.getElem?_eq_getElem (by omega)) hk
    have:l[k].ID≠t1:=by omega
    simpa using this
   rw [if_neg heq,hs];exact ⟨j,rfl,fun p hp=>by injection hp with hp;exact ⟨hjl,hp⟩⟩
 rw [cb (show ¬ (j:Int)<(l.length:Int) by omega),iO,bc,iO,bc]
 have hn:co l t1=none:=by
  unfold co;rw [List.find?_eq_none]
  intro p hp
  obtain ⟨k,hk,rfl⟩:=List.getElem_of_mem hp
  have:=h2 k _ (List.getElem?_eq_getElem hk) (by omega)
  have:l[k].ID≠t1:=by omega
  simpa using this
 rw [hn];exact ⟨j,rfl,fun p hp=>by cases hp⟩
theorem wl (l:List Zc) (id:Int) (h:Sorted l):cU l id=some (gW AF (co l id)):=by
 unfold cU
 obtain ⟨j,e,hj⟩:=D0 l id h
 rw [e,bc]
 cases hf:co l id with
 | none=>rfl
 | some p =>
  obtain ⟨hjl,rfl⟩:=hj p hf
  have hs:=h.small _ (List.getElem_mem hjl)
  simp only [Option.isSome_some,Bool.not_true,bv,aQ hjl,bc]
  unfold bU ca
  rw [gH (by omega) (by omega),bc,gH (by omega) (by omega),bc];rfl
theorem MPs.sorted {l:List Zc} (h:MPs l):Sorted l:=by
 refine ⟨by have:=h.len;omega,?_,fun p hp=>?_⟩
 ·rw [List.pairwise_iff_getElem]
  intro i j hi hj hij
  have h1:=(h.all i _ (List.getElem?_eq_getElem hi)).id
  have h2:=(h.all j _ (List.getElem?_eq_getElem hj)).id
  omega
 obtain ⟨i,hi,rfl⟩:=List.getElem_of_mem hp
 have hm:=h.all i _ (List.getElem?_eq_getElem hi)
 have h1:=hm.proc.length_le;have h2:=hm.few;have h6:W5.length=5:=rfl
 omega
structure VAs (l:List Zb):Prop where
 len:l.length≤1000
 all:∀ a∈l,VA a
theorem nq {l:List Zb} (h:VAs l) {id:Int} {a:Zb} (ha:ka l id=some a):VA a∧a.ID=id∧a∈l:=by
 have hm:=List.mem_of_find?_eq_some ha
 exact ⟨h.all a hm,by have:=List.find?_some ha;simpa using this,hm⟩
def yX (a:Zb) (x y:ByteArray):Bool:=mj a.Parties x&&mj a.Parties y
theorem xP (a:Zb) (x y:ByteArray) (ha:VA a):dK a x y=some (yX a x y):=by
 have:=ha.ok.par.1
 unfold dK yX
 rw [sG _ _ this,sG _ _ this,bc]
 cases mj a.Parties x <;> rfl
def jk (p:List Zc) (l:List Zb) (i:ByteArray) (c:Za):Bool:=match co p c.Product,ka l c.Agreement with
 | some q,some a => !decide (q.Country=i)&&yX a q.Country i&&(dw a q.Code).isSome
 | _,_=>false
theorem wm (p:List Zc) (l:List Zb) (i:ByteArray) (c:Za) (hp:Sorted p) (hl:VAs l):cg p l i c=some (jk p l i c):=by
 unfold cg jk
 have:=hl.len
 rw [wl _ _ hp,bc]
 cases co p c.Product with
 | none=>rfl
 | some q =>
  rw [rV _ _ (by omega)]
  simp only [gW,Bool.not_true,bv,bc]
  cases ha:ka l c.Agreement with
  | none=>rfl
  | some a =>
   have hv:=(nq hl ha).1
   rw [xP _ _ _ hv,qA _ _ hv]
   by_cases hq:q.Country=i
   ·simp [hq,gd]
   cases h1:yX a q.Country i
   ·simp [hq,gd,h1]
   cases h2:dw a q.Code <;> simp [hq,gd,gW,h1,h2]
theorem yY (p:List Zc) (l:List Zb) (i:ByteArray) (c:Za) (hp:p.length≤140737488355328) (hl:VAs l):cW p l i c=some (jk p l i c):=by
 unfold cW jk
 have:=hl.len
 rw [tC _ _ hp,bc,qX _ _ (by omega),bc]
 cases ha:ka l c.Agreement with
 | none =>
  rw [pn _ _ (by simp [gW,DZ]),bc]
  cases co p c.Product with
  | none=>rfl
  | some q=>rfl
 | some a =>
  have hv:=(nq hl ha).1
  rw [show (gW DZ (some a)).1=a from rfl,pn _ _ hv.ok.len,bc,qW _ _ hv.ok.par.1,qW _ _ hv.ok.par.1]
  cases co p c.Product with
  | none=>rfl
  | some q =>
   unfold yX
   cases hr:dw a q.Code with
   | none=>simp [gW,gd,hr]
   | some r =>
    by_cases hq:q.Country=i
    ·simp [gW,gd,hr,hq]
    cases h1:mj a.Parties q.Country
    ·simp [gW,gd,hr,hq,h1]
    cases h2:mj a.Parties i <;> simp [gW,gd,hr,hq,h1,h2]
def po (a:Zb) (id:Int) (e i:ByteArray) (b:Zb):Bool := !(b.ID == id)&&yX b e i&&kL AD a.Rules b.Rules
def eW (l:List Zb) (id:Int) (e i:ByteArray):List Int:=match ka l id with
 | none=>[]
 | some a=>id::cond (a.Kind == 2) ((l.filter (po a id e i)).map (·.ID)) []
theorem qD (P:Zb→Bool):∀ (l:List Zb) (acc:List Int),l.foldl (fun acc b=>cond (P b) (acc++[b.ID]) acc) acc=acc++(l.filter P).map (·.ID)
 | [],acc=>by simp
 | b::l,acc=>by
  rw [List.foldl_cons,qD P l,List.filter_cons]
  cases P b <;> simp
theorem xg (l:List Zb) (id:Int) (e i:ByteArray) (hl:VAs l):eD l id e i=some (eW l id e i):=by
 unfold eD eW
 have hlen:=hl.len
 rw [rV _ _ (by omega),bc]
 cases ha:ka l id with
 | none=>rfl
 | some a =>
  have hv:=(nq hl ha).1
  simp only [gW,Bool.not_true,bv,bne]
  cases hk:(a.Kind == 2)
  ·rfl
  simp only [Bool.not_true,bv,bL]
  refine (cB (l:=l) (by omega) (fun i (a:List Int)=>(a,i)) (fun acc b=>cond (po a id e i b) (acc++[b.ID]) acc) (fun a=>a) (fun k acc=>acc.length≤k+1) [id] (by simp) (fun k hk acc hacc=>⟨?_,?_⟩) (fun acc _=>by simp only [cN,bv])).1.trans ?_
  ·have hb:=hl.all _ (List.getElem_mem hk)
   simp only [gY hk,bL,aQ hk,bc,bM hk (show l.length≤4611686018427387904 by omega),po,bne]
   rw [xP _ _ _ hb,wk _ _ hv.ok.len hv.ok.rules hv.rules]
   cases (l[k].ID == id)
   ·cases yX l[k] e i
    ·rfl
    cases kL AD a.Rules l[k].Rules
    ·rfl
    simp only [Bool.not_false,cu,bc,Bool.and_self,bL]
    rw [df (by simp;omega) (by simp;omega)];rfl
   rfl
  ·cases po a id e i l[k] <;> simp <;> omega
  rw [qD];rfl
theorem yZ (l:List Zb) (id:Int) (e i:ByteArray) (hl:VAs l):i4 l id e i=some (eW l id e i):=by
 unfold i4 eW
 have hlen:=hl.len
 rw [qX _ _ (by omega),bc]
 cases ha:ka l id with
 | none=>rfl
 | some a =>
  have hv:=(nq hl ha).1
  simp only [gW,Bool.not_true,bv]
  cases hk:(a.Kind == 2)
  ·refine (cB (l:=([]:List Zb)) (by simp) (fun i (a:List Int)=>(a,i)) (fun acc b=>acc) (fun a=>a) (fun k acc=>True) [id] trivial (fun k hk acc hacc=>by simp at hk) (fun acc _=>by simp only [Bool.and_false,bv])).1.trans ?_
   rfl
  simp only [Bool.and_true,bL]
  refine (cB (l:=l) (by omega) (fun i (a:List Int)=>(a,i)) (fun acc b=>cond (po a id e i b) (acc++[b.ID]) acc) (fun a=>a) (fun k acc=>acc.length≤k+1) [id] (by simp) (fun k hk acc hacc=>⟨?_,?_⟩) (fun acc _=>by simp only [cN,bv])).1.trans ?_
  ·have hb:=hl.all _ (List.getElem_mem hk)
   simp only [gY hk,bL,aQ hk,bc,bM hk (show l.length≤4611686018427387904 by omega),po,bne,yX]
   rw [qW _ _ hb.ok.par.1,qW _ _ hb.ok.par.1,xf _ _ hv.ok.len hv.ok.rules]
   cases (l[k].ID == id)
   ·cases mj l[k].Parties e
    ·rfl
    cases mj l[k].Parties i
    ·rfl
    cases kL AD a.Rules l[k].Rules
    ·rfl
    simp only [Bool.not_false,cu,bc,Bool.and_self,bL]
    rw [df (by simp;omega) (by simp;omega)];rfl
   rfl
  ·cases po a id e i l[k] <;> simp <;> omega
  rw [qD];rfl
def AscA (l:List Zb):Prop:=l.Pairwise fun a b=>a.ID<b.ID
theorem D1 {l:List Zb} (h:AscA l) {a:Zb} (ha:a∈l):ka l a.ID=some a:=by
 obtain ⟨i,hi,rfl⟩:=List.getElem_of_mem ha
 unfold ka
 rw [List.find?_eq_some_iff_getElem]
 refine ⟨by simp,i,hi,rfl,fun k hk=>?_⟩
 have:=List.pairwise_iff_getElem.1 h k i (by omega) hi hk
 have:l[k].ID≠l[i].ID:=by omega
 simpa using this
theorem MAs.asc {l:List Zb} (h:MAs l):AscA l:=by
 unfold AscA;rw [List.pairwise_iff_getElem]
 intro i j hi hj hij
 have h1:=(h.all i _ (List.getElem?_eq_getElem hi)).id
 have h2:=(h.all j _ (List.getElem?_eq_getElem hj)).id
 omega
theorem sH (l:List Zb) (id:Int) (e i:ByteArray):(eW l id e i).length≤l.length+1:=by
 unfold eW
 cases ka l id with
 | none=>simp
 | some a=>cases h:(a.Kind == 2) <;> simp [h];exact List.length_filter_le _ _
end SX
end Go.Proofs.YtgmbmepakpcpaaaGreatDoor
set_option maxRecDepth 100000
set_option linter.unusedSectionVars false
namespace Go.Proofs.YtgmbmepakpcpaaaGreatDoor
namespace SX
open Go
section
variable {α:Type} [DecidableEq α]
def dd:List α→List α
 | []=>[]
 | [x]=>[x]
 | x::y::l=>cond (decide (x=y)) (dd (y::l)) (x::dd (y::l))
theorem y7 (x y:α):∀ l:List α,dd (l++[x,y])=cond (decide (x=y)) (dd (l++[x])) (dd (l++[x])++[y])
 | []=>by
  show dd [x,y]=_
  rw [dd]
  cases h:decide (x=y)
  ·rfl
  ·have:=of_decide_eq_true h;subst this;rfl
 | [a]=>by
  have ih:=y7 x y []
  simp only [List.nil_append] at ih
  simp only [List.cons_append,List.nil_append]
  rw [show dd [a,x,y]=cond (decide (a=x)) (dd [x,y]) (a::dd [x,y]) from rfl,ih,show dd [a,x]=cond (decide (a=x)) (dd [x]) (a::dd [x]) from rfl]
  cases decide (x=y) <;> cases decide (a=x) <;> rfl
 | a::b::l=>by
  show dd (a::b::(l++[x,y]))=_
  have ih:=y7 x y (b::l)
  simp only [List.cons_append] at ih
  rw [dd,ih]
  show _=cond _ (dd (a::b::(l++[x]))) (dd (a::b::(l++[x]))++[y])
  rw [dd]
  cases decide (x=y) <;> cases decide (a=b) <;> rfl
theorem BU:∀ {l:List α} {z:α},z∈dd l↔z∈l
 | [],z=>Iff.rfl
 | [x],z=>Iff.rfl
 | x::y::l,z=>by
  rw [dd]
  have ih:=BU (l:=y::l) (z:=z)
  cases h:decide (x=y)
  ·rw [bv,List.mem_cons,ih];simp
  have:=of_decide_eq_true h;subst this
  rw [bL,ih];simp
theorem Gj:∀ l:List α,(dd l).length≤l.length
 | []=>Nat.le_refl _
 | [x]=>Nat.le_refl _
 | x::y::l=>by
  rw [dd]
  have ih:=Gj (y::l)
  cases decide (x=y)
  ·simp only [bv,List.length_cons] at ih ⊢;omega
  simp only [bL,List.length_cons] at ih ⊢;omega
theorem y8:∀ {l:List α},(∀ i,(h:i+1<l.length)→l[i]≠l[i+1])→dd l=l
 | [],_=>rfl
 | [x],_=>rfl
 | x::y::l,h=>by
  have h0:=h 0 (by simp)
  simp only [List.getElem_cons_zero,List.getElem_cons_succ,Nat.zero_add] at h0
  rw [dd,cb h0,bv,y8 (l:=y::l) fun i hi=>by have:=h (i+1) (by simpa using hi);simpa using this]
variable {lt:α→α→Bool}
def Strict (lt:α→α→Bool) (l:List α):Prop:=l.Pairwise fun a b=>lt a b=true
theorem xQ (htot:∀ x y,lt x y=false→lt y x=false→x=y) (htr:∀ x y z,lt x y=true→lt y z=true→lt x z=true):∀ {l:List α},l.Pairwise (fun a b=>lt b a=false)→Strict lt (dd l)
 | [],_=>List.Pairwise.nil
 | [x],_=>List.pairwise_singleton _ _
 | x::y::l,h=>by
  obtain ⟨h1,h2⟩:=List.pairwise_cons.1 h
  have ih:=xQ htot htr h2
  rw [dd]
  cases hxy:decide (x=y)
  ·refine List.pairwise_cons.2 ⟨fun z hz=>?_,ih⟩
   have hz:=BU.1 hz
   have hne:x≠y:=of_decide_eq_false hxy
   have hlt:lt x y=true:=by
    cases hl:lt x y
    ·exact absurd (htot x y hl (h1 y (by simp))) hne
    rfl
   rcases List.mem_cons.1 hz with rfl | hz
   ·exact hlt
   cases hyz:lt y z
   ·have:=(List.pairwise_cons.1 h2).1 z hz
    rw [← htot y z hyz this];exact hlt
   exact htr _ _ _ hlt hyz
  exact ih
theorem ud (hir:∀ x,lt x x=false) (htr:∀ x y z,lt x y=true→lt y z=true→lt x z=true):∀ {l m:List α},Strict lt l→Strict lt m→(∀ z,z∈l↔z∈m)→l=m
 | [],[],_,_,_=>rfl
 | [],y::m,_,_,h=>absurd ((h y).2 (by simp)) (by simp)
 | x::l,[],_,_,h=>absurd ((h x).1 (by simp)) (by simp)
 | x::l,y::m,h1,h2,h=>by
  obtain ⟨a1,a2⟩:=List.pairwise_cons.1 h1
  obtain ⟨b1,b2⟩:=List.pairwise_cons.1 h2
  have hxy:x=y:=by
   rcases List.mem_cons.1 ((h x).1 (by simp)) with e | hx
   ·exact e
   rcases List.mem_cons.1 ((h y).2 (by simp)) with e | hy
   ·exact e.symm
   have:=htr _ _ _ (a1 y hy) (b1 x hx);rw [hir] at this;cases this
  subst hxy
  congr 1
  refine ud hir htr a2 b2 fun z=>?_
  constructor
  ·intro hz
   rcases List.mem_cons.1 ((h z).1 (by simp [hz])) with rfl | hz2
   ·have:=a1 z hz;rw [hir] at this;cases this
   exact hz2
  intro hz
  rcases List.mem_cons.1 ((h z).2 (by simp [hz])) with rfl | hz2
  ·have:=b1 z hz;rw [hir] at this;cases this
  exact hz2
def aZ (l:List α) (c:α):Bool:=l.any fun x=>decide (x=c)
theorem gX {l:List α} {c:α}:aZ l c=true↔c∈l:=by unfold aZ;rw [List.any_eq_true];exact ⟨fun ⟨x,h1,h2⟩=>of_decide_eq_true h2 ▸ h1,fun h=>⟨c,h,det rfl⟩⟩
theorem qE {l:List α} {c:α}:aZ l c=false↔c ∉ l:=by rw [← gX];simp
def iD (lt:α→α→Bool) (l:List α) (c:α):List α:=cond (aZ l c) l (l.takeWhile (fun x=>lt x c)++c::l.dropWhile (fun x=>lt x c))
theorem sI (l:List α) (c z:α):z∈iD lt l c↔z=c∨z∈l:=by
 unfold iD
 cases h:aZ l c
 ·rw [bv,List.mem_append,List.mem_cons]
  have:z∈l↔z∈l.takeWhile (fun x=>lt x c)∨z∈l.dropWhile (fun x=>lt x c):=by
   rw [← List.mem_append,List.takeWhile_append_dropWhile]
  rw [this]
  constructor
  ·rintro (h | h | h);exact .inr (.inl h);exact .inl h;exact .inr (.inr h)
  rintro (h | h | h);exact .inr (.inl h);exact .inl h;exact .inr (.inr h)
 have:=gX.1 h
 rw [bL]
 constructor
 ·exact fun h=>.inr h
 rintro (rfl | h);exact this;exact h
theorem qF (htot:∀ x y,lt x y=false→lt y x=false→x=y) (htr:∀ x y z,lt x y=true→lt y z=true→lt x z=true) {l:List α} {c:α} (h:Strict lt l):Strict lt (iD lt l c):=by
 unfold iD
 cases hc:aZ l c
 ·have hc:=qE.1 hc
  rw [bv]
  have hd:∀ z∈l.dropWhile (fun x=>lt x c),lt c z=true:=by
   have key:∀ m:List α,Strict lt m→c ∉ m→∀ z∈m.dropWhile (fun x=>lt x c),lt c z=true:=by
    intro m
    induction m with
    | nil=>intro _ _ z hz;cases hz
    | cons x m ih =>
     intro hm hcm z hz
     obtain ⟨m1,m2⟩:=List.pairwise_cons.1 hm
     rw [List.dropWhile_cons] at hz
     cases hx:lt x c
     ·rw [hx] at hz
      simp only [Bool.false_eq_true,if_false] at hz
      have hcx:lt c x=true:=by
       cases h2:lt c x
       ·exact absurd (htot x c hx h2) (fun e=>hcm (by simp [e]))
       rfl
      rcases List.mem_cons.1 hz with rfl | hz
      ·exact hcx
      exact htr _ _ _ hcx (m1 z hz)
     rw [hx] at hz
     simp only [if_true] at hz
     exact ih m2 (fun h=>hcm (by simp [h])) z hz
   exact key l h hc
  have ht:∀ z∈l.takeWhile (fun x=>lt x c),lt z c=true:=by
   have key:∀ m:List α,∀ z∈m.takeWhile (fun x=>lt x c),lt z c=true:=by
    intro m
    induction m with
    | nil=>intro z hz;cases hz
    | cons x m ih =>
     intro z hz
     rw [List.takeWhile_cons] at hz
     cases hx:lt x c
     ·rw [hx] at hz;cases hz
     rw [hx] at hz
     simp only [if_true] at hz
     rcases List.mem_cons.1 hz with rfl | hz
     ·exact hx
     exact ih z hz
   exact key l
  refine List.pairwise_append.2 ⟨h.sublist (List.takeWhile_sublist _),List.pairwise_cons.2 ⟨hd,h.sublist (List.dropWhile_sublist _)⟩,fun a ha b hb=>?_⟩
  rcases List.mem_cons.1 hb with rfl | hb
  ·exact ht a ha
  exact htr _ _ _ (ht a ha) (hd b hb)
 exact h
theorem lT (l:List α) (c:α):(iD lt l c).length≤l.length+1:=by
 unfold iD
 cases aZ l c
 ·rw [bv,List.length_append,List.length_cons]
  have:=congrArg List.length (List.takeWhile_append_dropWhile (p:=fun x=>lt x c) (l:=l))
  rw [List.length_append] at this;omega
 exact Nat.le_succ _
def sd (lt:α→α→Bool) (l:List α):List α:=dd (lH lt l)
theorem Gk (l:List α) (z:α):z∈sd lt l↔z∈l:=by unfold sd;rw [BU,kX.mem_iff]
theorem Gl (l:List α):(sd lt l).length≤l.length:=by unfold sd;have:=Gj (lH lt l);rw [om] at this;exact this
structure Ord (lt:α→α→Bool):Prop where
 irr:∀ x,lt x x=false
 tr:∀ x y z,lt x y=true→lt y z=true→lt x z=true
 ntr:∀ x y z,lt x y=false→lt y z=false→lt x z=false
 tot:∀ x y,lt x y=false→lt y x=false→x=y
theorem tD (o:Ord lt) (l:List α):Strict lt (sd lt l):=xQ o.tot o.tr (mA o.tr o.ntr o.irr l)
theorem sJ (o:Ord lt):∀ (l acc:List α),Strict lt acc→Strict lt (l.foldl (iD lt) acc)∧(∀ z,z∈l.foldl (iD lt) acc↔z∈acc∨z∈l)∧(l.foldl (iD lt) acc).length≤acc.length+l.length
 | [],acc,h=>⟨h,fun z=>by simp,by simp⟩
 | c::l,acc,h=>by
  obtain ⟨h1,h2,h3⟩:=sJ o l (iD lt acc c) (qF o.tot o.tr h)
  refine ⟨h1,fun z=>?_,?_⟩
  ·rw [List.foldl_cons,h2,sI,List.mem_cons]
   constructor
   ·rintro ((h | h) | h);exact .inr (.inl h);exact .inl h;exact .inr (.inr h)
   rintro (h | h | h);exact .inl (.inr h);exact .inl (.inl h);exact .inr h
  rw [List.foldl_cons,List.length_cons];have:=lT (lt:=lt) acc c;omega
theorem ue (o:Ord lt) (l:List α):l.foldl (iD lt) []=sd lt l :=
 ud o.irr o.tr (sJ o l [] List.Pairwise.nil).1 (tD o l) fun z=>by rw [(sJ o l [] List.Pairwise.nil).2.1,Gk];simp
end
theorem BV:Ord i7:=⟨CQ,F3,fun x y z h1 h2=>by
 rw [qq] at *;exact cb (List.not_lt.2 (List.le_trans (List.not_lt.1 (of_decide_eq_false h2)) (List.not_lt.1 (of_decide_eq_false h1)))),fun x y h1 h2=>by
 rw [qq] at h1 h2
 exact str_ext.2 (List.le_antisymm (List.not_lt.1 (of_decide_eq_false h2)) (List.not_lt.1 (of_decide_eq_false h1)))⟩
theorem ordC:Ord bu:=⟨t7,wb,t8,ua⟩
section
variable {α:Type} [DecidableEq α]
theorem CX {p:List α} {n:Nat} (h0:1≤n) (h:n<p.length):dd (p.take (n+1))=cond (decide (p[n-1]'(by omega)=p[n])) (dd (p.take n)) (dd (p.take n)++[p[n]]):=by
 obtain ⟨m,rfl⟩:∃ m,n=m+1:=⟨n - 1,by omega⟩
 have e1:p.take (m+1)=p.take m++[p[m]'(by omega)]:=by rw [List.take_add_one,List.getElem?_eq_getElem (by omega)];rfl
 have e3:p.take (m+1+1)=p.take (m+1)++[p[m+1]]:=by rw [List.take_add_one,List.getElem?_eq_getElem h];rfl
 have e2:p.take (m+1+1)=p.take m++[p[m]'(by omega),p[m+1]]:=by rw [e3,e1,List.append_assoc];rfl
 rw [e2,y7,e1];rfl
structure CInv (p:List α) (v:Nat) (l:List α) (k i:Nat):Prop where
 i1:1≤i
 le:v+i≤p.length
 len:l.length=p.length
 kk:k=(dd (p.take (v+i))).length
 klt:k+1≤v+i
 pre:l.take k=dd (p.take (v+i))
 suf:∀ j,v+i≤j+1→l[j]?=p[j]?
theorem CInv.step {p l:List α} {v k i:Nat} (c:CInv p v l k i) (h:v+i<p.length) (hv:1≤v):∃ x y,l[v+i]?=some x∧l[v+i - 1]?=some y∧(decide (x=y)=true→CInv p v l k (i+1))∧(decide (x=y)=false→k<l.length∧CInv p v (l.set k x) (k+1) (i+1)):=by
 have hx:=c.suf (v+i) (by omega)
 have hy:=c.suf (v+i - 1) (by omega)
 rw [List.getElem?_eq_getElem h] at hx
 rw [List.getElem?_eq_getElem (show v+i - 1<p.length by omega)] at hy
 have hd:=CX (p:=p) (n:=v+i) (by omega) h
 refine ⟨_,_,hx,hy,fun e=>?_,fun e=>?_⟩
 ·have e':decide (p[v+i - 1]'(by omega)=p[v+i])=true:=det (of_decide_eq_true e).symm
  rw [e',bL] at hd
  exact ⟨by omega,by omega,c.len,by rw [← Nat.add_assoc,hd];exact c.kk,by have:=c.klt;omega,by rw [← Nat.add_assoc,hd];exact c.pre,fun j hj=>c.suf j (by omega)⟩
 have e':decide (p[v+i - 1]'(by omega)=p[v+i])=false:=cb (fun q=>of_decide_eq_false e q.symm)
 rw [e',bv] at hd
 have hk:k<l.length:=by have:=c.klt;have:=c.len;omega
 refine ⟨hk,by omega,by omega,by rw [List.length_set];exact c.len,by rw [← Nat.add_assoc,hd,List.length_append,← c.kk];rfl,by have:=c.klt;omega,?_,fun j hj=>?_⟩
 ·rw [← Nat.add_assoc,hd,← c.pre]
  rw [List.take_add_one,List.getElem?_set]
  simp only [if_true,hk]
  rw [List.take_set_of_le (Nat.le_refl k)];rfl
 rw [List.getElem?_set,if_neg (by have:=c.klt;omega)];exact c.suf j (by omega)
theorem CInv.start {p:List α} {v:Nat} (hv:1≤v) (h:v<p.length) (he:p[v]=p[v-1]'(by omega)) (hb:∀ j,1≤j→(hj:j<v)→p[j]'(by omega)≠p[j-1]'(by omega)):CInv p v p v 1:=by
 have e1:dd (p.take v)=p.take v:=y8 fun i hi=>by
  rw [List.length_take] at hi
  rw [List.getElem_take,List.getElem_take]
  have:=hb (i+1) (by omega) (by omega)
  exact fun e=>this e.symm
 have hd:=CX (p:=p) (n:=v) hv h
 rw [det he.symm,bL,e1] at hd
 exact ⟨Nat.le_refl _,by omega,rfl,by rw [hd,List.length_take];omega,by omega,by rw [hd],fun j _=>rfl⟩
end
end SX
end Go.Proofs.YtgmbmepakpcpaaaGreatDoor
namespace Go.Proofs.YtgmbmepakpcpaaaGreatDoor
namespace SX
open Go
theorem za {α:Type} (l:List α) (n:Nat):idx l (n:Int)=l[n]?:=by unfold idx;rw [if_pos (by omega)];simp
theorem uf {α:Type} [DecidableEq α] (E:α→α→Bool) (hE:∀ x y,E x y=decide (x=y)) (z:α) (p:List α) (hp:p.length≤1000000000) :
    cond (decide (((p.length:Nat):Int)<2)) (some p) (Option.bind (aT (S:=Int) (T:=(Unit)⊕(List α)) (fun v2=>cond (decide (v2<((p.length:Nat):Int))) (Option.bind (idx p v2) (fun m7=>Option.bind (idx p (IntKind.i64.wrap (v2 - 1))) (fun m8=>cond (E m7 m8) (Option.bind (sub p v2 (p.length:Int)) (fun _=>Option.bind (aT (S:=(List α)×Int×Int) (T:=((List α)×Int)) (fun (l12,v13,v14)=>cond (decide (v14<((p.length - v2.toNat:Nat):Int))) (Option.bind (Option.bind (lF v14) (fun _=>Option.bind (idx l12 (v2+v14)) (fun m26=>Option.bind (lF (IntKind.i64.wrap (v14 - 1))) (fun _=>Option.bind (idx l12 (v2+(IntKind.i64.wrap (v14 - 1)))) (fun m28=>cond (!(E m26 m28)) (Option.bind (lF v14) (fun _=>Option.bind (idx l12 (v2+v14)) (fun m31=>Option.bind (idx l12 v13) (fun _=>some ((l12.set v13.toNat m31),(IntKind.i64.wrap (v13+1))))))) (some (l12,v13))))))) (fun (l22,v23)=>some (.inl (l22,v23,(IntKind.i64.wrap (v14+1)))))) (some (.inr (l12,v13)))) FUEL (p,v2,1)) (fun (l16,v17)=>Option.bind (sub l16 v17 (l16.length:Int)) (fun _=>Option.bind (sub (List.take v17.toNat l16++List.replicate (p.length - v17.toNat) z) 0 v17) (fun l35=>some (.inr (.inr l35))))))) (some (.inl (IntKind.i64.wrap (v2+1))))))) (some (.inr (.inl ())))) FUEL 1) (fun q=>match q with | .inl _=>some p | .inr e=>some e))=some (dd p):=by
  by_cases h2:p.length<2
  · rw [det (show ((p.length:Nat):Int)<2 by omega)]
    match p,h2 with
    | [],_=>rfl
    | [x],_=>rfl
  rw [cb (by omega),bv]
  have hl:Y (aT (S:=Int) (T:=(Unit)⊕(List α)) (fun v2=>cond (decide (v2<((p.length:Nat):Int))) (Option.bind (idx p v2) (fun m7=>Option.bind (idx p (IntKind.i64.wrap (v2 - 1))) (fun m8=>cond (E m7 m8) (Option.bind (sub p v2 (p.length:Int)) (fun _=>Option.bind (aT (S:=(List α)×Int×Int) (T:=((List α)×Int)) (fun (l12,v13,v14)=>cond (decide (v14<((p.length - v2.toNat:Nat):Int))) (Option.bind (Option.bind (lF v14) (fun _=>Option.bind (idx l12 (v2+v14)) (fun m26=>Option.bind (lF (IntKind.i64.wrap (v14 - 1))) (fun _=>Option.bind (idx l12 (v2+(IntKind.i64.wrap (v14 - 1)))) (fun m28=>cond (!(E m26 m28)) (Option.bind (lF v14) (fun _=>Option.bind (idx l12 (v2+v14)) (fun m31=>Option.bind (idx l12 v13) (fun _=>some ((l12.set v13.toNat m31),(IntKind.i64.wrap (v13+1))))))) (some (l12,v13))))))) (fun (l22,v23)=>some (.inl (l22,v23,(IntKind.i64.wrap (v14+1)))))) (some (.inr (l12,v13)))) FUEL (p,v2,1)) (fun (l16,v17)=>Option.bind (sub l16 v17 (l16.length:Int)) (fun _=>Option.bind (sub (List.take v17.toNat l16++List.replicate (p.length - v17.toNat) z) 0 v17) (fun l35=>some (.inr (.inr l35))))))) (some (.inl (IntKind.i64.wrap (v2+1))))))) (some (.inr (.inl ())))) FUEL 1) (fun t=>match t with | .inl _=>dd p=p | .inr e=>e=dd p):=by
    refine Y.loop (fun s:Int=>∃ v:Nat,s=(v:Int)∧1≤v∧v≤p.length∧∀ j,1≤j→(hj:j<v)→(hp:j<p.length)→p[j]≠p[j-1]'(by omega)) (fun s=>(p.length - s).toNat) ⟨1,rfl,by omega,by omega,fun j h1 h2=>by omega⟩ (by omega) fun s hs=>?_
    obtain ⟨v,rfl,h1,h3,h4⟩:=hs
    refine Y.cond (fun hc=>?_) (fun hc=>Y.ret (y8 fun i hi=>?_))
    rotate_left
    · have hc:=of_decide_eq_false hc
      have:=h4 (i+1) (by omega) (by omega) hi
      exact fun e=>this e.symm
    have hv:v<p.length:=by have:=of_decide_eq_true hc;omega
    refine Y.idx rfl hv ?_
    refine Y.idx (n:=v - 1) (by rw [cM (by omega) (by omega)];omega) (by omega) ?_
    rw [hE]
    refine Y.cond (fun he=>?_) (fun he=>Y.ret ⟨⟨v+1,?_,by omega,by omega,fun j g1 g2 g3=>?_⟩,?_⟩)
    · rw [lY (Nat.le_of_lt hv) (Nat.le_refl _),bc]
      have he:=of_decide_eq_true he
      have c0:=CInv.start h1 hv he fun j g1 g2=>h4 j g1 g2 (by omega)
      refine Y.bind (P:=fun t:List α×Int=>∃ k:Nat,t.2=(k:Int)∧k≤p.length∧t.1.length=p.length∧t.1.take k=dd p) ?_ fun t ⟨k,t1,t2,t3,t4⟩=>?_
      · refine Y.loop (fun s:List α×Int×Int=>∃ k i:Nat,s.2.1=(k:Int)∧s.2.2=(i:Int)∧CInv p v s.1 k i) (fun s=>(p.length - v - s.2.2).toNat) ⟨v,1,rfl,rfl,c0⟩ (by dsimp only;omega) fun s hs=>?_
        obtain ⟨l,a,b⟩:=s
        obtain ⟨k,i,rfl,rfl,c⟩:=hs
        dsimp only at c ⊢
        have ci:=c.i1;have cl:=c.le;have ck:=c.klt;have cn:=c.len
        refine Y.cond (fun hc=>?_) (fun hc=>Y.ret ⟨k,rfl,by omega,c.len,?_⟩)
        rotate_left
        · have hc:=of_decide_eq_false hc
          have e:v+i=p.length:=by rw [Int.toNat_natCast] at hc;omega
          have:=c.pre
          rw [e,List.take_length] at this;exact this
        have hlt:v+i<p.length:=by have:=of_decide_eq_true hc;rw [Int.toNat_natCast] at this;omega
        obtain ⟨x,y,hx,hy,s1,s2⟩:=c.step hlt h1
        refine Y.bind (P:=fun t:List α×Int=>∃ k':Nat,t.2=(k':Int)∧CInv p v t.1 k' (i+1)) ?_ fun t ⟨k',t1,t2⟩=>Y.ret ⟨⟨k',i+1,t1,?_,t2⟩,?_⟩
        · refine Y.eq (pa i) ?_
          rw [show (v:Int)+(i:Int)=((v+i:Nat):Int) by omega]
          refine Y.eq (by rw [za];exact hx) ?_
          rw [cM (r:=(i:Int) - 1) (by omega) (by omega),show (i:Int) - 1=((i - 1:Nat):Int) by omega]
          refine Y.eq (pa (i - 1)) ?_
          rw [show (v:Int)+((i - 1:Nat):Int)=((v+i - 1:Nat):Int) by omega]
          refine Y.eq (by rw [za];exact hy) ?_
          rw [hE]
          refine Y.cond (fun hne=>?_) (fun hne=>Y.ret ⟨k,rfl,s1 (by simpa using hne)⟩)
          obtain ⟨hk,c2⟩:=s2 (by simpa using hne)
          refine Y.eq (pa i) (Y.eq (by rw [za];exact hx) (Y.idx rfl hk (Y.ret ⟨k+1,?_,c2⟩)))
          show IntKind.i64.wrap ((k:Int)+1)=_;rw [cM (by omega) (by omega)];omega
        · show IntKind.i64.wrap ((i:Int)+1)=_;rw [cM (by omega) (by omega)];omega
        show ((p.length:Int) - v - IntKind.i64.wrap ((i:Int)+1)).toNat<((p.length:Int) - v - (i:Int)).toNat;rw [cM (by omega) (by omega)];omega
      obtain ⟨l,b⟩:=t
      dsimp only at t1 t3 t4 ⊢
      subst t1
      have e1:sub l (k:Int) (l.length:Int)=some ((l.take l.length).drop k):=lY (by omega) (Nat.le_refl _)
      rw [e1,bc,Int.toNat_natCast]
      have e2:sub (List.take k l++List.replicate (p.length - k) z) 0 (k:Int)=some (((List.take k l++List.replicate (p.length - k) z).take k).drop 0):=lY (a:=0) (by omega) (by simp;omega)
      rw [e2,bc]
      refine Y.ret ?_
      show ((List.take k l++List.replicate (p.length - k) z).take k).drop 0=dd p
      rw [List.drop_zero,List.take_append_of_le_length (by rw [List.length_take];omega),List.take_take,Nat.min_self,t4]
    · show IntKind.i64.wrap ((v:Int)+1)=_;rw [cM (by omega) (by omega)];omega
    · rcases Nat.lt_or_ge j v with h | h
      · exact h4 j g1 h g3
      have e:j=v:=by omega
      subst e;exact of_decide_eq_false he
    show ((p.length:Int) - IntKind.i64.wrap ((v:Int)+1)).toNat<((p.length:Int) - (v:Int)).toNat;rw [cM (by omega) (by omega)];omega
  obtain ⟨t,e,ht⟩:=hl
  rw [e]
  cases t with
  | inl u=>dsimp only at ht;rw [bc,ht]
  | inr u=>dsimp only at ht;rw [bc,ht]
theorem Gm (p:List ByteArray) (hp:p.length≤1000000000):dS p=some (dd p):=by
 refine Eq.trans ?_ (uf (fun x y=>decide (x=y)) (fun _ _=>rfl) ByteArray.empty p hp)
 kernel_rfl
theorem CY (x y:Za):Za.eqb x y=decide (x=y):=by
 cases h:Za.eqb x y
 ·exact (cb fun e=>by rw [Za.eqb_iff.2 e] at h;cases h).symm
 exact (det (Za.eqb_iff.1 h)).symm
theorem Gn (p:List Za) (hp:p.length≤1000000000):bC p=some (dd p):=by
 refine Eq.trans ?_ (uf Za.eqb CY ⟨0,0⟩ p hp)
 kernel_rfl
theorem mM (l:List Za) (c:Za) (hl:l.length≤140737488355328):cG l c=some (aZ l c):=by
 unfold cG
 refine (bD (l:=l) (by omega) (fun _ x=>cond (Za.eqb x c) (some (.inr true)) none) (.inl ()) (fun k hk=>?_) (by simp only [cN,bv])).trans ?_
 ·simp only [gY hk,bL,aQ hk,bc,bM hk (show l.length≤4611686018427387904 by omega)]
  cases Za.eqb l[k] c <;> rfl
 rw [qS (fun x=>Za.eqb x c)]
 have:(l.any fun x=>Za.eqb x c)=aZ l c:=by unfold aZ;congr 1;funext x;exact CY x c
 rw [this];cases aZ l c <;> rfl
theorem pq {α:Type} (P:α→Bool):∀ (l:List α) (k:Nat),k≤l.length→(∀ j x,l[j]?=some x→j<k→P x=true)→(∀ x,l[k]?=some x→P x=false)→l.takeWhile P=l.take k∧l.dropWhile P=l.drop k
 | [],k,h,_,_=>by simp at h;subst h;exact ⟨rfl,rfl⟩
 | x::l,0,_,_,h=>by rw [List.takeWhile_cons,List.dropWhile_cons,h x rfl];exact ⟨rfl,rfl⟩
 | x::l,k+1,h,h1,h2=>by
  obtain ⟨e1,e2⟩:=pq P l k (by simpa using h) (fun j y hy hj=>h1 (j+1) y (by simpa using hy) (by omega)) (fun y hy=>h2 y (by simpa using hy))
  rw [List.takeWhile_cons,List.dropWhile_cons,h1 0 x rfl (by omega)]
  simp only [if_true,List.take_succ_cons,List.drop_succ_cons]
  rw [e1,e2];exact ⟨rfl,rfl⟩
theorem tE (l:List Za) (c:Za) (hl:l.length≤1000000000):eU l c=some (iD bu l c):=by
 unfold eU iD
 rw [mM _ _ (by omega),bc]
 cases aZ l c
 rotate_left
 ·rfl
 simp only [bv]
 have hw:Y (aT (S:=Int) (T:=(Int)) (fun v4=>Option.bind (gd (decide (v4<(l.length:Int))) (idx l v4)) (fun m8=>Option.bind (gd (decide (v4<(l.length:Int))) (ld m8 c)) (fun x9=>cond ((decide (v4<(l.length:Int)))&&x9) (some (.inl (IntKind.i64.wrap (v4+1)))) (some (.inr v4))))) FUEL 0) (fun t=>∃ k:Nat,t=(k:Int)∧k≤l.length∧l.takeWhile (fun x=>bu x c)=l.take k∧l.dropWhile (fun x=>bu x c)=l.drop k):=by
  refine Y.loop (fun s:Int=>∃ k:Nat,s=(k:Int)∧k≤l.length∧∀ j x,l[j]?=some x→j<k→bu x c=true) (fun s=>(l.length - s).toNat) ⟨0,rfl,by omega,fun j x _ h=>absurd h (Nat.not_lt_zero _)⟩ (by omega) fun s hs=>?_
  obtain ⟨k,rfl,h1,h2⟩:=hs
  rcases Nat.lt_or_ge k l.length with hk | hk
  ·rw [gY hk,cu,aQ hk,bc,cu]
   have e:ld l[k] c=some (bu l[k] c):=by unfold ld bu;rfl
   rw [e,bc]
   cases hlt:bu l[k] c
   ·exact Y.ret ⟨k,rfl,h1,pq _ l k h1 h2 fun x hx=>by rw [List.getElem?_eq_getElem hk] at hx;injection hx with hx;rw [← hx];exact hlt⟩
   refine Y.ret ⟨⟨k+1,?_,by omega,fun j x hx hj=>?_⟩,?_⟩
   ·show IntKind.i64.wrap ((k:Int)+1)=_;rw [cM (by omega) (by omega)];omega
   ·rcases Nat.lt_or_ge j k with h | h
    ·exact h2 j x hx h
    have e:j=k:=by omega
    subst e;rw [List.getElem?_eq_getElem hk] at hx;injection hx with hx;rw [← hx];exact hlt
   show ((l.length:Int) - IntKind.i64.wrap ((k:Int)+1)).toNat<((l.length:Int) - (k:Int)).toNat;rw [cM (by omega) (by omega)];omega
  have e:k=l.length:=by omega
  subst e
  rw [cN,iO,bc,iO,bc]
  exact Y.ret ⟨l.length,rfl,h1,pq _ l _ h1 h2 fun x hx=>by have:=(List.getElem?_eq_some_iff.1 hx).1;omega⟩
 obtain ⟨t,e,k,rfl,h1,h2,h3⟩:=hw
 rw [e,bc]
 have s1:sub l 0 (k:Int)=some ((l.take k).drop 0):=lY (a:=0) (by omega) h1
 have s2:sub l (k:Int) (l.length:Int)=some ((l.take l.length).drop k):=lY h1 (Nat.le_refl _)
 rw [s1,bc,s2,bc,List.drop_zero,List.take_length,gH (by rw [List.length_take];omega) (by omega),bc,df (by simp;omega) (by simp;omega),bc,df (by simp;omega) (by simp;omega),bc,h2,h3,List.append_assoc];rfl
theorem xR (l:List ByteArray) (c:ByteArray) (hl:l.length≤1000000000) (hs:Strict i7 l):lc l c=some (iD i7 l c):=by
 unfold lc iD
 have hw:Y (aT (S:=Int) (T:=(ByteArray×Int)) (fun v1=>Option.bind (gd (decide (v1<(l.length:Int))) (idx l v1)) (fun m6=>cond ((decide (v1<(l.length:Int)))&&(Op.bytesLess m6.toList c.toList)) (some (.inl (IntKind.i64.wrap (v1+1)))) (some (.inr (c,v1))))) FUEL 0) (fun t=>t.1=c∧∃ k:Nat,t.2=(k:Int)∧k≤l.length∧(∀ j x,l[j]?=some x→j<k→i7 x c=true)∧(∀ x,l[k]?=some x→i7 x c=false)):=by
  refine Y.loop (fun s:Int=>∃ k:Nat,s=(k:Int)∧k≤l.length∧∀ j x,l[j]?=some x→j<k→i7 x c=true) (fun s=>(l.length - s).toNat) ⟨0,rfl,by omega,fun j x _ h=>absurd h (Nat.not_lt_zero _)⟩ (by omega) fun s hs=>?_
  obtain ⟨k,rfl,h1,h2⟩:=hs
  rcases Nat.lt_or_ge k l.length with hk | hk
  ·rw [gY hk,cu,aQ hk,bc]
   cases hlt:i7 l[k] c
   ·have hlt':Op.bytesLess l[k].toList c.toList=false:=hlt
    rw [hlt']
    exact Y.ret ⟨rfl,k,rfl,h1,h2,fun x hx=>by rw [List.getElem?_eq_getElem hk] at hx;injection hx with hx;rw [← hx];exact hlt⟩
   have hlt':Op.bytesLess l[k].toList c.toList=true:=hlt
   rw [hlt']
   refine Y.ret ⟨⟨k+1,?_,by omega,fun j x hx hj=>?_⟩,?_⟩
   ·show IntKind.i64.wrap ((k:Int)+1)=_;rw [cM (by omega) (by omega)];omega
   ·rcases Nat.lt_or_ge j k with h | h
    ·exact h2 j x hx h
    have e:j=k:=by omega
    subst e;rw [List.getElem?_eq_getElem hk] at hx;injection hx with hx;rw [← hx];exact hlt
   show ((l.length:Int) - IntKind.i64.wrap ((k:Int)+1)).toNat<((l.length:Int) - (k:Int)).toNat;rw [cM (by omega) (by omega)];omega
  have e:k=l.length:=by omega
  subst e
  rw [cN,iO,bc]
  exact Y.ret ⟨rfl,l.length,rfl,h1,h2,fun x hx=>by have:=(List.getElem?_eq_some_iff.1 hx).1;omega⟩
 obtain ⟨⟨t1,t2⟩,e,rfl,k,hk,h1,h2,h3⟩:=hw
 dsimp only at hk
 subst hk
 obtain ⟨w1,w2⟩:=pq (fun x=>i7 x t1) l k h1 h2 h3
 rw [e,bc]
 dsimp only
 have key:t1∈l↔l[k]?=some t1:=by
  constructor
  ·intro hm
   obtain ⟨j,hj,hjt⟩:=List.getElem_of_mem hm
   have hjk:k≤j:=by
    rcases Nat.lt_or_ge j k with h | h
    ·have:=h2 j l[j] (List.getElem?_eq_getElem hj) h;rw [hjt,CQ] at this;cases this
    exact h
   rcases Nat.lt_or_ge k j with h | h
   ·have hkl:k<l.length:=by omega
    have g1:=h3 l[k] (List.getElem?_eq_getElem hkl)
    have g2:=(List.pairwise_iff_getElem.1 hs) k j hkl hj h
    rw [hjt,g1] at g2;cases g2
   have e:j=k:=by omega
   subst e;rw [List.getElem?_eq_getElem hj,hjt]
  exact fun h=>List.mem_of_getElem? h
 rcases Nat.lt_or_ge k l.length with hkl | hkl
 ·rw [gY hkl,cu,aQ hkl,bc,Bool.true_and]
  by_cases hm:l[k]=t1
  ·rw [det hm,gX.2 (key.2 (by rw [List.getElem?_eq_getElem hkl,hm]))];rfl
  rw [cb hm,qE.2 (fun h=>hm (by have:=key.1 h;rw [List.getElem?_eq_getElem hkl] at this;injection this))]
  simp only [bv]
  have s1:sub l 0 (k:Int)=some ((l.take k).drop 0):=lY (a:=0) (by omega) h1
  have s2:sub l (k:Int) (l.length:Int)=some ((l.take l.length).drop k):=lY h1 (Nat.le_refl _)
  rw [s1,bc,s2,bc,List.drop_zero,List.take_length,gH (by rw [List.length_take];omega) (by omega),bc,df (by simp;omega) (by simp;omega),bc,df (by simp;omega) (by simp;omega),bc,w1,w2,List.append_assoc];rfl
 have e:k=l.length:=by omega
 subst e
 rw [cN,iO,bc,Bool.false_and,qE.2 (fun h=>by have:=key.1 h;rw [List.getElem?_eq_none (Nat.le_refl _)] at this;cases this)]
 simp only [bv]
 have s1:sub l 0 ((l.length:Nat):Int)=some ((l.take l.length).drop 0):=lY (a:=0) (by omega) h1
 have s2:sub l ((l.length:Nat):Int) (l.length:Int)=some ((l.take l.length).drop l.length):=lY h1 (Nat.le_refl _)
 rw [s1,bc,s2,bc,List.drop_zero,List.take_length,gH (by omega) (by omega),bc,df (by simp;omega) (by simp;omega),bc,df (by simp;omega) (by simp;omega),bc,w1,w2,List.append_assoc,List.take_length];rfl
def nR (a b:List ByteArray):List ByteArray:=sd i7 (a++b)
theorem concat2 (a b:List ByteArray) (h:a.length+b.length≤1000000):dc [a,b]=some (a++b):=by
 unfold dc eJ
 refine (ku (l:=[a,b]) (by simp) (fun i (s:Nat)=>((s:Int),i)) (fun _ x s=>(.inl (s+x.length):Nat⊕Empty)) (fun (s:Nat)=>(s:Int)) noE (fun k s=>s≤1000000∧s=([a,b].take k).flatten.length) 0 ⟨by omega,rfl⟩ (fun k hk s hs=>⟨?_,fun s' h'=>?_⟩) (fun s _=>by simp only [cN,bv])).trans ?_
 ·have hb:s+([a,b][k]).length≤1000000:=by
   obtain ⟨_,e⟩:=hs
   match k,hk with
   | 0,_=>simp at e;subst e;simp;omega
   | 1,_=>simp at e;subst e;simp;omega
  simp only [gY hk,bL,aQ hk,bc,bM hk (show [a,b].length≤4611686018427387904 by simp),Ak]
  rw [cM (by omega) (by omega),cb (by omega)]
  simp only [bv,Int.natCast_add]
 ·injection h' with h'
  obtain ⟨h1,h2⟩:=hs
  subst h'
  match k,hk with
  | 0,_=>simp at h2 ⊢;subst h2;simp;omega
  | 1,_=>simp at h2 ⊢;subst h2;omega
 show Option.bind (Option.bind (DM 16 ((0+a.length+b.length:Nat):Int)) _) _=_
 rw [BH (by omega) (by omega),bc,bc]
 refine (cB (l:=[a,b]) (by simp) (fun i (s:List ByteArray)=>(s,i)) (fun s x=>s++x) (fun s=>s) (fun k s=>s=([a,b].take k).flatten) [] rfl (fun k hk s hs=>⟨?_,?_⟩) (fun s _=>by simp only [cN,bv])).1.trans ?_
 ·have hb:s.length+([a,b][k]).length≤1000000:=by
   match k,hk with
   | 0,_=>simp at hs;subst hs;simp;omega
   | 1,_=>simp at hs;subst hs;simp;omega
  simp only [gY hk,bL,aQ hk,bc,bM hk (show [a,b].length≤4611686018427387904 by simp)]
  rw [df (by omega) (by omega)];rfl
 ·match k,hk with
  | 0,_=>simp at hs;subst hs;simp
  | 1,_=>simp at hs;subst hs;simp
 simp
theorem BW (a b:List ByteArray) (h:a.length+b.length≤1000000):j6 a b=some (nR a b):=by
 unfold j6
 rw [concat2 a b h,bc]
 show Option.bind (some (lH i7 (a++b))) _=_
 rw [bc,Gm _ (by rw [om];simp;omega)];rfl
theorem D2 (a b:List ByteArray) (h:a.length+b.length≤1000000):jW a b=some (nR a b):=by
 unfold jW
 have ha:=sJ BV a [] List.Pairwise.nil
 refine (cB (l:=a) (by omega) (fun i (s:List ByteArray)=>(s,i)) (iD i7) (fun s=>(b,s)) (fun k s=>Strict i7 s∧s.length≤k) [] ⟨List.Pairwise.nil,by simp⟩ (fun k hk s hs=>⟨?_,qF BV.tot BV.tr hs.1,by have:=lT (lt:=i7) s a[k];omega⟩) (fun s _=>by simp only [cN,bv])).1.trans ?_
 ·simp only [gY hk,bL,aQ hk,bc,bM hk (show a.length≤4611686018427387904 by omega)]
  rw [xR _ _ (by omega) hs.1];rfl
 dsimp only
 refine (cB (l:=b) (by omega) (fun i (s:List ByteArray)=>(s,i)) (iD i7) (fun s=>s) (fun k s=>Strict i7 s∧s.length≤a.length+k) (a.foldl (iD i7) []) ⟨ha.1,by have:=ha.2.2;simpa using this⟩ (fun k hk s hs=>⟨?_,qF BV.tot BV.tr hs.1,by have:=lT (lt:=i7) s b[k];omega⟩) (fun s _=>by simp only [cN,bv])).1.trans ?_
 ·simp only [gY hk,bL,aQ hk,bc,bM hk (show b.length≤4611686018427387904 by omega)]
  rw [xR _ _ (by omega) hs.1];rfl
 unfold nR
 rw [← ue BV,List.foldl_append]
def U64 (a:Int):Prop:=0≤a∧a<18446744073709551616
theorem wu (a:Int):IntKind.u64.wrap a=a % 18446744073709551616:=rfl
theorem fG {a:Int} (h:U64 a):IntKind.u64.wrap a=a:=by rw [wu];unfold U64 at h;omega
theorem bv64 {a:Int} (h:U64 a):(BitVec.ofInt 64 a).toNat=a.toNat:=by
 rw [BitVec.toNat_ofInt];unfold U64 at h;omega
theorem CZ {a b:Int} (ha:U64 a) (hb:U64 b):dq .u64 a b=((a.toNat &&& b.toNat:Nat):Int):=by
 have hlt:a.toNat &&& b.toNat<18446744073709551616:=Nat.lt_of_le_of_lt Nat.and_le_left (by unfold U64 at ha;omega)
 have e:dq .u64 a b=IntKind.u64.wrap (((BitVec.ofInt 64 a &&& BitVec.ofInt 64 b).toNat:Nat):Int):=rfl
 rw [e,BitVec.toNat_and,bv64 ha,bv64 hb,fG]
 exact ⟨by omega,by omega⟩
theorem Gp {a b:Int} (ha:U64 a) (hb:U64 b):oz .u64 a b=((a.toNat ||| b.toNat:Nat):Int):=by
 have hlt:a.toNat ||| b.toNat<2 ^ 64:=Nat.or_lt_two_pow (by unfold U64 at ha;omega) (by unfold U64 at hb;omega)
 have e:oz .u64 a b=IntKind.u64.wrap (((BitVec.ofInt 64 a ||| BitVec.ofInt 64 b).toNat:Nat):Int):=rfl
 rw [e,BitVec.toNat_or,bv64 ha,bv64 hb,fG]
 exact ⟨by omega,by omega⟩
theorem qG {a:Int} (h:U64 a):dq .u64 a 4294967295=a % 4294967296:=by
 rw [CZ h ⟨by omega,by omega⟩]
 have:a.toNat &&& (4294967295:Int).toNat=a.toNat % 4294967296:=Nat.and_two_pow_sub_one_eq_mod (n:=32) a.toNat
 rw [this];unfold U64 at h;omega
theorem wn {a:Int} (h:U64 a):dq .u64 a 1=a % 2:=by
 rw [CZ h ⟨by omega,by omega⟩]
 have:a.toNat &&& (1:Int).toNat=a.toNat % 2:=Nat.and_two_pow_sub_one_eq_mod (n:=1) a.toNat
 rw [this];unfold U64 at h;omega
theorem C0 {a:Int}:cD .u64 a 32=a / 4294967296:=Int.fdiv_eq_ediv_of_nonneg a (show (0:Int)≤4294967296 by omega)
theorem mul64 {a b:Int} (ha:U64 a) (hb:U64 b):∃ h l,iw a b=some (h,l)∧U64 h∧U64 l∧h*18446744073709551616+l=a*b:=by
 unfold iw lb
 rw [qG ha,qG hb]
 simp only [C0]
 unfold U64 at ha hb
 have ea:a=4294967296*(a / 4294967296)+a % 4294967296:=by omega
 have eb:b=4294967296*(b / 4294967296)+b % 4294967296:=by omega
 have h1:0≤a / 4294967296∧a / 4294967296<4294967296:=by omega
 have h2:0≤a % 4294967296∧a % 4294967296<4294967296:=by omega
 have h3:0≤b / 4294967296∧b / 4294967296<4294967296:=by omega
 have h4:0≤b % 4294967296∧b % 4294967296<4294967296:=by omega
 generalize a / 4294967296=x1 at *
 generalize a % 4294967296=x0 at *
 generalize b / 4294967296=y1 at *
 generalize b % 4294967296=y0 at *
 subst ea eb
 have p00:0≤x0*y0∧x0*y0≤4294967295*4294967295:=⟨Int.mul_nonneg h2.1 h4.1,Int.mul_le_mul (by omega) (by omega) h4.1 (by omega)⟩
 have p01:0≤x0*y1∧x0*y1≤4294967295*4294967295:=⟨Int.mul_nonneg h2.1 h3.1,Int.mul_le_mul (by omega) (by omega) h3.1 (by omega)⟩
 have p10:0≤x1*y0∧x1*y0≤4294967295*4294967295:=⟨Int.mul_nonneg h1.1 h4.1,Int.mul_le_mul (by omega) (by omega) h4.1 (by omega)⟩
 have p11:0≤x1*y1∧x1*y1≤4294967295*4294967295:=⟨Int.mul_nonneg h1.1 h3.1,Int.mul_le_mul (by omega) (by omega) h3.1 (by omega)⟩
 have e:(4294967296*x1+x0)*(4294967296*y1+y0)=18446744073709551616*(x1*y1)+4294967296*(x1*y0)+4294967296*(x0*y1)+x0*y0:=by
  rw [Int.add_mul,Int.mul_add,Int.mul_add]
  have t1:4294967296*x1*(4294967296*y1)=18446744073709551616*(x1*y1):=by
   rw [Int.mul_assoc,← Int.mul_assoc x1,Int.mul_comm x1 4294967296,Int.mul_assoc 4294967296 x1,← Int.mul_assoc];rfl
  have t2:4294967296*x1*y0=4294967296*(x1*y0):=Int.mul_assoc _ _ _
  have t3:x0*(4294967296*y1)=4294967296*(x0*y1):=by rw [← Int.mul_assoc,Int.mul_comm x0,Int.mul_assoc]
  rw [t1,t2,t3];omega
 rw [e]
 generalize x0*y0=p at *
 generalize x0*y1=q at *
 generalize x1*y0=r at *
 generalize x1*y1=s at *
 refine ⟨_,_,rfl,?_,?_,?_⟩
 all_goals simp only [wu,U64]
 all_goals first | omega | (rw [qG (by unfold U64;omega)];omega)
def rv (w:Zm):Int:=w.Hi*18446744073709551616+w.Lo
def RW (w:Zm):Prop:=U64 w.Hi∧U64 w.Lo
theorem uT {p q:Zm} (hp:RW p) (hq:RW q):∃ w b,gS p q=some (w,b)∧RW w∧(rv p+rv q<340282366920938463463374607431768211456→rv w=rv p+rv q):=by
 obtain ⟨ph,pl⟩:=p;obtain ⟨qh,ql⟩:=q
 obtain ⟨⟨a1,a2⟩,⟨a3,a4⟩⟩:=hp
 obtain ⟨⟨b1,b2⟩,⟨b3,b4⟩⟩:=hq
 simp only at a1 a2 a3 a4 b1 b2 b3 b4
 unfold gS lb
 dsimp only
 by_cases h:IntKind.u64.wrap (pl+ql)<pl
 ·rw [det h]
  simp only [bL,bc]
  refine ⟨_,_,rfl,?_,?_⟩
  ·simp only [RW,U64,wu];omega
  rw [wu] at h;simp only [rv,wu];omega
 rw [cb h]
 simp only [bv,bc]
 refine ⟨_,_,rfl,?_,?_⟩
 ·simp only [RW,U64,wu];omega
 rw [wu] at h;simp only [rv,wu];omega
theorem pr {a n:Int} (h:n.toNat≤64):cD .u64 a n=a / 2 ^ n.toNat:=by
 have e:cD .u64 a n=a.fdiv (2 ^ min n.toNat 64):=rfl
 rw [e,Nat.min_eq_left h]
 exact Int.fdiv_eq_ediv_of_nonneg a (Int.le_of_lt (Int.pow_pos (by omega)))
theorem xS (b:Int) (k:Nat):b / 2 ^ k=2*(b / 2 ^ (k+1))+b / 2 ^ k % 2:=by
 have:b / 2 ^ (k+1)=b / 2 ^ k / 2:=by rw [Int.pow_succ,Int.ediv_ediv_of_nonneg (Int.le_of_lt (Int.pow_pos (by omega)))]
 rw [this];omega
theorem C1 {a b:Int} (ha:U64 a) (hb:U64 b):∃ w,jX a b=some w∧RW w∧rv w=a*b:=by
 unfold jX
 obtain ⟨t,h5,h6⟩:=mO (body:=fun (v3,v4,v5)=>cond (decide (0≤v3)) (Option.bind (Option.bind (gS (⟨v4,v5⟩:Zm) (⟨v4,v5⟩:Zm)) (fun x14=>Option.bind (lF v3) (fun u15=>cond ((dq .u64 (cD .u64 b v3) 1) == 1) (Option.bind (gS x14.1 (⟨0,a⟩:Zm)) (fun x17=>some (x17.1.Hi,x17.1.Lo))) (some (x14.1.Hi,x14.1.Lo))))) (fun (v11,v12)=>some (.inl ((IntKind.i64.wrap (v3 - 1)),v11,v12)))) (some (.inr (v4,v5))))
  (fun s:Int×Int×Int => -1≤s.1∧s.1≤63∧RW ⟨s.2.1,s.2.2⟩∧rv ⟨s.2.1,s.2.2⟩=a*(b / 2 ^ (s.1+1).toNat)) (fun s=>(s.1+1).toNat) (fun t:Int×Int=>RW ⟨t.1,t.2⟩∧rv ⟨t.1,t.2⟩=a*b)
  (fun s hs=>by
   obtain ⟨v,x,y⟩:=s
   obtain ⟨a1,a2,a3,a4⟩:=hs
   dsimp only at a1 a2 a3 a4 ⊢
   by_cases h0:0≤v
   ·left
    obtain ⟨k,rfl⟩:∃ k:Nat,v=(k:Int):=⟨v.toNat,by omega⟩
    have ek:((k:Int)+1).toNat=k+1:=by omega
    rw [ek] at a4
    have hs:=xS b k
    have hbk:0≤b / 2 ^ k:=Int.ediv_nonneg hb.1 (Int.le_of_lt (Int.pow_pos (by omega)))
    have hbk2:b / 2 ^ k≤b:=Int.ediv_le_self _ hb.1
    have hm:a*(b / 2 ^ k)=2*(a*(b / 2 ^ (k+1)))+a*(b / 2 ^ k % 2):=by
     have:=congrArg (a * ·) hs
     simp only [Int.mul_add] at this
     rw [this,← Int.mul_assoc,Int.mul_comm a 2,Int.mul_assoc]
    have hle:a*(b / 2 ^ k)≤18446744073709551615*18446744073709551615:=Int.mul_le_mul (by unfold U64 at ha;omega) (by unfold U64 at hb;omega) hbk (by omega)
    have hnn:0≤a*(b / 2 ^ k % 2):=Int.mul_nonneg ha.1 (by omega)
    rw [det h0]
    simp only [bL]
    obtain ⟨w,o,c1,c2,c3⟩:=uT a3 a3
    have c3:=c3 (by omega)
    rw [pA c1]
    have hg:lF (k:Int)=some ():=by unfold lF;rw [if_pos h0]
    rw [pA hg,pr (by omega),Int.toNat_natCast,wn ⟨hbk,by unfold U64 at hb;omega⟩,cM (by omega) (by omega)]
    rcases (by omega:b / 2 ^ k % 2=0∨b / 2 ^ k % 2=1) with e | e
    ·rw [e] at hm ⊢
     refine ⟨_,rfl,⟨by dsimp only;omega,by dsimp only;omega,c2,?_⟩,by dsimp only;omega⟩
     have:((k:Int) - 1+1).toNat=k:=by omega
     dsimp only;rw [this,hm];show rv w=_;omega
    rw [e] at hm ⊢
    obtain ⟨w2,o2,d1,d2,d3⟩:=uT (p:=w) (q:=⟨0,a⟩) c2 ⟨⟨by simp,by simp⟩,ha⟩
    have e0:rv ⟨0,a⟩=a:=by simp [rv]
    rw [e0] at d3
    have d3:=d3 (by omega)
    simp only [beq_self_eq_true,bL]
    rw [pA d1]
    refine ⟨_,rfl,⟨by dsimp only;omega,by dsimp only;omega,d2,?_⟩,by dsimp only;omega⟩
    have:((k:Int) - 1+1).toNat=k:=by omega
    dsimp only;rw [this,hm];show rv w2=_;omega
   right
   rw [cb h0]
   have:v = -1:=by omega
   subst this
   refine ⟨_,rfl,a3,?_⟩
   rw [a4];simp)
  FUEL (63,0,0) ⟨by simp,by simp,⟨⟨by simp,by simp⟩,⟨by simp,by simp⟩⟩,by
   have:b / 18446744073709551616=0:=Int.ediv_eq_zero_of_lt hb.1 hb.2
   simp [rv,this]⟩ (jv (by simp))
 obtain ⟨t1,t2⟩:=t
 rw [pA h5]
 exact ⟨_,rfl,h6.1,h6.2⟩
theorem iand63:∀ {n:Nat},n<128→dq .i64 (n:Int) 63=((n % 64:Nat):Int):=by decide
theorem Gq {a:Int} (h:U64 a):fz .u64 a 1=(2*a) % 18446744073709551616:=by
 have e:fz .u64 a 1=IntKind.u64.wrap (a*2):=rfl
 rw [e,wu,Int.mul_comm]
theorem C2 {a b:Int} (ha:U64 a) (h2:a % 2=0) (hb:b=0∨b=1):oz .u64 a b=a+b:=by
 rw [Gp ha (by rcases hb with rfl | rfl <;> exact ⟨by omega,by omega⟩)]
 unfold U64 at ha
 rcases hb with rfl | rfl
 ·simp;omega
 have:a.toNat ||| (1:Int).toNat=a.toNat+1:=by
  have e:a.toNat=2 ^ 1*(a.toNat / 2):=by omega
  have:=Nat.two_pow_add_eq_or_of_lt (i:=1) (b:=1) (by omega) (a.toNat / 2)
  rw [← e] at this
  exact this.symm
 rw [this];omega
theorem bit_lo {h l:Int} (hl:U64 l) {k:Nat} (hk:k<64):(h*18446744073709551616+l) / 2 ^ k % 2=l / 2 ^ k % 2:=by
 have e:(18446744073709551616:Int)=2 ^ k*(2*2 ^ (63 - k)):=by
  have:(2:Int) ^ k*(2*2 ^ (63 - k))=2 ^ (k+(1+(63 - k))):=by rw [Int.pow_add,Int.pow_add];rfl
  rw [this,show k+(1+(63 - k))=64 by omega];rfl
 have hp:(2:Int) ^ k≠0:=Int.ne_of_gt (Int.pow_pos (by omega))
 rw [e,show h*(2 ^ k*(2*2 ^ (63 - k)))+l=l+2 ^ k*(2*(h*2 ^ (63 - k))) by rw [Int.add_comm,Int.mul_left_comm h,Int.mul_left_comm h 2],Int.add_mul_ediv_left _ _ hp,Int.add_mul_emod_self_left]
theorem bit_hi {h l:Int} (hl:U64 l) {k:Nat} (hk:64≤k):(h*18446744073709551616+l) / 2 ^ k=h / 2 ^ (k - 64):=by
 have e:(2:Int) ^ k=18446744073709551616*2 ^ (k - 64):=by
  have:(18446744073709551616:Int)*2 ^ (k - 64)=2 ^ (64+(k - 64)):=by rw [Int.pow_add];rfl
  rw [this,show 64+(k - 64)=k by omega]
 rw [e,← Int.ediv_ediv_of_nonneg (by omega)]
 congr 1
 unfold U64 at hl;omega
theorem BX {p:Zm} {d:Int} (hp:RW p) (hd:U64 d) (h1:1≤d):∃ q r,kz p d=some (q,r)∧RW q∧rv q=rv p / d∧r=rv p % d:=by
 have hN:0≤rv p∧rv p<340282366920938463463374607431768211456:=by obtain ⟨⟨a,b⟩,⟨c,e⟩⟩:=hp;unfold rv;omega
 unfold kz
 obtain ⟨t,h5,h6⟩:=mO (body:=fun (v4,v5,v6,v7)=>cond (decide (0≤v5)) (Option.bind (Option.bind (lF (dq .i64 v5 63)) (fun u18=>lb ((dq .u64 (cD .u64 p.Lo (dq .i64 v5 63)) 1)) (fun w19=>Option.bind (cond (decide (63<v5)) (Option.bind (lF (IntKind.i64.wrap (v5 - 64))) (fun u23=>lb ((dq .u64 (cD .u64 p.Hi (IntKind.i64.wrap (v5 - 64))) 1)) (fun w24=>some w24))) (some w19)) (fun v20=>Option.bind (gS (⟨v6,v7⟩:Zm) (⟨v6,v7⟩:Zm)) (fun x25=>cond (((cD .u64 v4 63) == 1)||(decide (d≤(oz .u64 (fz .u64 v4 1) v20)))) (lb ((IntKind.u64.wrap ((oz .u64 (fz .u64 v4 1) v20) - d))) (fun w27=>some (w27,x25.1.Hi,(oz .u64 x25.1.Lo 1)))) (some ((oz .u64 (fz .u64 v4 1) v20),x25.1.Hi,x25.1.Lo))))))) (fun (v14,v15,v16)=>some (.inl (v14,(IntKind.i64.wrap (v5 - 1)),v15,v16)))) (some (.inr (v4,v6,v7))))
  (fun s:Int×Int×Int×Int => -1≤s.2.1∧s.2.1≤127∧RW ⟨s.2.2.1,s.2.2.2⟩∧0≤s.1∧s.1<d∧rv p / 2 ^ (s.2.1+1).toNat=rv ⟨s.2.2.1,s.2.2.2⟩ * d+s.1) (fun s=>(s.2.1+1).toNat) (fun t:Int×Int×Int=>RW ⟨t.2.1,t.2.2⟩∧0≤t.1∧t.1<d∧rv p=rv ⟨t.2.1,t.2.2⟩ * d+t.1)
  (fun s hs=>by
   obtain ⟨v4,v5,x,y⟩:=s
   obtain ⟨a1,a2,a3,a4,a5,a6⟩:=hs
   dsimp only at a1 a2 a3 a4 a5 a6 ⊢
   by_cases h0:0≤v5
   ·left
    obtain ⟨k,rfl⟩:∃ k:Nat,v5=(k:Int):=⟨v5.toNat,by omega⟩
    have ek:((k:Int)+1).toNat=k+1:=by omega
    rw [ek] at a6
    have hs:=xS (rv p) k
    generalize hbit:rv p / 2 ^ k % 2=bit at hs
    have hb01:bit=0∨bit=1:=by omega
    rw [det h0,iand63 (by omega)]
    simp only [bL]
    have hg:lF ((k % 64:Nat):Int)=some ():=by unfold lF;rw [if_pos (by omega)]
    rw [pA hg]
    unfold lb
    have hv:(cond (decide (63<(k:Int))) (Option.bind (lF (IntKind.i64.wrap ((k:Int) - 64))) (fun _=>some (dq .u64 (cD .u64 p.Hi (IntKind.i64.wrap ((k:Int) - 64))) 1))) (some (dq .u64 (cD .u64 p.Lo ((k % 64:Nat):Int)) 1)))=some bit:=by
     by_cases hk:63<(k:Int)
     ·rw [det hk,cM (by omega) (by omega)]
      have hg2:lF ((k:Int) - 64)=some ():=by unfold lF;rw [if_pos (by omega)]
      simp only [bL]
      rw [pA hg2,pr (by omega),show ((k:Int) - 64).toNat=k - 64 by omega,wn ⟨Int.ediv_nonneg hp.1.1 (Int.le_of_lt (Int.pow_pos (by omega))),Int.lt_of_le_of_lt (Int.ediv_le_self _ hp.1.1) hp.1.2⟩,← hbit]
      unfold rv;rw [bit_hi hp.2 (by omega)]
     rw [cb hk]
     simp only [bv]
     rw [pr (by omega),Int.toNat_natCast,Nat.mod_eq_of_lt (by omega),wn ⟨Int.ediv_nonneg hp.2.1 (Int.le_of_lt (Int.pow_pos (by omega))),Int.lt_of_le_of_lt (Int.ediv_le_self _ hp.2.1) hp.2.2⟩,← hbit]
     unfold rv;rw [bit_lo hp.2 (by omega)]
    dsimp only
    rw [pA hv]
    obtain ⟨w,o,c1,c2,c3⟩:=uT a3 a3
    have hq0:0≤rv ⟨x,y⟩:=by obtain ⟨⟨b1,b2⟩,⟨b3,b4⟩⟩:=a3;unfold rv;dsimp only at *;omega
    have hqd:rv ⟨x,y⟩≤rv ⟨x,y⟩ * d:=by have:=Int.mul_le_mul_of_nonneg_left h1 hq0;omega
    have hle:rv p / 2 ^ k≤rv p:=Int.ediv_le_self _ hN.1
    have c3:=c3 (by omega)
    rw [pA c1]
    have hu4:U64 v4:=⟨a4,by unfold U64 at hd;omega⟩
    have hsh:cD .u64 v4 63=v4 / 9223372036854775808:=pr (by omega)
    have hlow:oz .u64 (fz .u64 v4 1) bit=(2*v4) % 18446744073709551616+bit:=by rw [Gq hu4];exact C2 ⟨by omega,by omega⟩ (by omega) hb01
    rw [hlow,hsh,cM (by omega) (by omega)]
    have ekk:((k:Int) - 1+1).toNat=k:=by omega
    unfold U64 at hd hu4
    by_cases hT:d≤2*v4+bit
    ·have hc:((v4 / 9223372036854775808 == 1)||decide (d≤(2*v4) % 18446744073709551616+bit))=true:=by
      simp only [Bool.or_eq_true,beq_iff_eq,decide_eq_true_eq];omega
     rw [hc]
     simp only [bL]
     obtain ⟨⟨e1,e2⟩,⟨e3,e4⟩⟩:=c2
     have hev:w.Lo % 2=0:=by unfold rv at c3;dsimp only at c3;omega
     rw [C2 ⟨e3,e4⟩ hev (.inr rfl),wu]
     refine ⟨_,rfl,⟨by dsimp only;omega,by dsimp only;omega,⟨⟨e1,e2⟩,⟨by dsimp only;omega,by dsimp only;omega⟩⟩,by dsimp only;omega,by dsimp only;omega,?_⟩,by dsimp only;omega⟩
     dsimp only
     rw [ekk,hs,a6]
     have e5:rv ⟨w.Hi,w.Lo+1⟩=2*rv ⟨x,y⟩+1:=by unfold rv at c3 ⊢;dsimp only at c3 ⊢;omega
     rw [e5,Int.add_mul,Int.mul_assoc];omega
    ·have hc:((v4 / 9223372036854775808 == 1)||decide (d≤(2*v4) % 18446744073709551616+bit))=false:=by
      simp only [Bool.or_eq_false_iff,beq_eq_false_iff_ne,decide_eq_false_iff_not];omega
     rw [hc]
     simp only [bv]
     refine ⟨_,rfl,⟨by dsimp only;omega,by dsimp only;omega,c2,by dsimp only;omega,by dsimp only;omega,?_⟩,by dsimp only;omega⟩
     dsimp only
     rw [ekk,hs,a6,show rv ⟨w.Hi,w.Lo⟩=2*rv ⟨x,y⟩ by show rv w=_;omega,Int.mul_assoc];omega
   right
   rw [cb h0]
   have:v5 = -1:=by omega
   subst this
   refine ⟨_,rfl,a3,a4,a5,?_⟩
   rw [← a6];simp)
  FUEL (0,127,0,0) ⟨by simp,by simp,⟨⟨by simp,by simp⟩,⟨by simp,by simp⟩⟩,by simp,by simp;omega,by
   have:rv p / 340282366920938463463374607431768211456=0:=Int.ediv_eq_zero_of_lt hN.1 hN.2
   simp [rv] at this ⊢;exact this⟩ (jv (by simp))
 obtain ⟨t1,t2,t3⟩:=t
 rw [pA h5]
 obtain ⟨g1,g2,g3,g4⟩:=h6
 dsimp only at g1 g2 g3 g4
 have gd:rv p / d=rv ⟨t2,t3⟩:=by
  rw [g4,Int.add_comm,Int.add_mul_ediv_right _ _ (by omega),Int.ediv_eq_zero_of_lt g2 g3,Int.zero_add]
 refine ⟨_,_,rfl,g1,gd.symm,?_⟩
 have:=Int.emod_add_mul_ediv (rv p) d
 rw [gd,Int.mul_comm] at this
 omega
structure KnInv (u u1 y1 y0 q rh:Int):Prop where
 eq:u=q*y1+rh
 r0:0≤rh
 r1:rh<4294967296
 q0:0≤q
 q1:q≤4294967297
 up:u*4294967296+u1<q*(y1*4294967296+y0)+(y1*4294967296+y0)
section
variable {u u1 y1 y0 q rh:Int} (hu:0≤u) (huy:u<y1*4294967296+y0) (h1:0≤u1) (h1':u1<4294967296) (hy:2147483648≤y1) (hy':y1<4294967296) (hz:0≤y0) (hz':y0<4294967296)
include hu huy h1 h1' hy hy' hz hz'
theorem sK:KnInv u u1 y1 y0 (u / y1) (u % y1):=by
 have hq0:0≤u / y1:=Int.ediv_nonneg hu (by omega)
 have hr0:=Int.emod_nonneg u (show y1≠0 by omega)
 have hr1:=Int.emod_lt_of_pos u (show 0<y1 by omega)
 have he:=Int.emod_add_mul_ediv u y1
 rw [Int.mul_comm] at he
 have hz2:0≤u / y1*y0:=Int.mul_nonneg hq0 hz
 refine ⟨by omega,hr0,by omega,hq0,?_,?_⟩
 ·apply Int.le_of_lt_add_one
  apply Int.ediv_lt_of_lt_mul (by omega)
  omega
 rw [Int.mul_add,← Int.mul_assoc];omega
theorem uU (i:KnInv u u1 y1 y0 q rh) (h:4294967296≤q∨4294967296*rh+u1<q*y0):u*4294967296+u1<q*(y1*4294967296+y0)∧1≤q:=by
 have e:=i.eq
 have hlt:u*4294967296+u1<q*(y1*4294967296+y0):=by
  rcases h with h | h
  ·have:4294967296*(y1*4294967296+y0)≤q*(y1*4294967296+y0):=Int.mul_le_mul_of_nonneg_right h (by omega)
   omega
  rw [Int.mul_add,← Int.mul_assoc];omega
 refine ⟨hlt,?_⟩
 have hq:=i.q0
 by_cases hq0:q=0
 ·subst hq0;rw [Int.zero_mul] at hlt;omega
 omega
theorem C3 (i:KnInv u u1 y1 y0 q rh) (h:4294967296≤q∨4294967296*rh+u1<q*y0) (h2:rh+y1<4294967296):KnInv u u1 y1 y0 (q - 1) (rh+y1):=by
 obtain ⟨hlt,hq⟩:=uU hu huy h1 h1' hy hy' hz hz' i h
 have:=i.eq;have:=i.r0;have:=i.q1
 refine ⟨by rw [Int.sub_mul];omega,by omega,h2,by omega,by omega,?_⟩
 rw [Int.sub_mul];omega
theorem C4 (i:KnInv u u1 y1 y0 q rh) (h:4294967296≤q∨4294967296*rh+u1<q*y0) (h2:4294967296≤rh+y1):(q - 1)*(y1*4294967296+y0)≤u*4294967296+u1∧u*4294967296+u1<(q - 1)*(y1*4294967296+y0)+(y1*4294967296+y0):=by
 obtain ⟨hlt,hq⟩:=uU hu huy h1 h1' hy hy' hz hz' i h
 have e:=i.eq;have:=i.r0;have hq1:=i.q1
 refine ⟨?_,by rw [Int.sub_mul];omega⟩
 have hz2:(q - 1)*y0≤4294967296*4294967295:=Int.mul_le_mul (by omega) (by omega) hz (by omega)
 rw [Int.mul_add,← Int.mul_assoc]
 rw [Int.sub_mul q 1 y1]
 omega
omit hu huy h1 h1' hy hy' hz hz' in
theorem AG (i:KnInv u u1 y1 y0 q rh) (h:¬ (4294967296≤q∨4294967296*rh+u1<q*y0)):q*(y1*4294967296+y0)≤u*4294967296+u1:=by
 have e:=i.eq
 rw [Int.mul_add,← Int.mul_assoc];omega
end
section
variable {u u1 y1 y0:Int} (hu:0≤u) (huy:u<y1*4294967296+y0) (h1:0≤u1) (h1':u1<4294967296) (hy:2147483648≤y1) (hy':y1<4294967296) (hz:0≤y0) (hz':y0<4294967296)
include hu huy h1 h1' hy hy' hz hz'
omit hu huy hy hy' in
theorem C5 {q rh:Int} (i:KnInv u u1 y1 y0 q rh):((decide (4294967296≤q))||(decide ((IntKind.u64.wrap ((IntKind.u64.wrap (4294967296*rh))+u1))<(IntKind.u64.wrap (q*y0)))))=decide (4294967296≤q∨4294967296*rh+u1<q*y0):=by
 have:=i.r0;have:=i.r1;have:=i.q0
 rw [fG (a:=4294967296*rh) ⟨by omega,by omega⟩,fG (a:=4294967296*rh+u1) ⟨by omega,by omega⟩]
 by_cases hq:4294967296≤q
 ·rw [det hq,det (Or.inl hq)];rfl
 have hp:q*y0≤4294967295*4294967295:=Int.mul_le_mul (by omega) (by omega) hz (by omega)
 have hp0:0≤q*y0:=Int.mul_nonneg (by omega) hz
 rw [fG (a:=q*y0) ⟨hp0,by omega⟩,cb hq,Bool.false_or]
 congr 1
 exact propext ⟨.inr,fun h=>h.resolve_left hq⟩
omit hy hy' hz hz' in
theorem zb {q:Int} (h0:0≤q) (h2:q*(y1*4294967296+y0)≤u*4294967296+u1):q<4294967296:=by
 have:q*(y1*4294967296+y0)<4294967296*(y1*4294967296+y0):=by omega
 exact Int.lt_of_mul_lt_mul_right this (by omega)
def KQ (u u1 y1 y0 q:Int):Prop:=0≤q∧q<4294967296∧q*(y1*4294967296+y0)≤u*4294967296+u1∧u*4294967296+u1<q*(y1*4294967296+y0)+(y1*4294967296+y0)
theorem Gr:∃ q,aT (S:=Int×Int) (T:=(Int)) (fun (v18,v19)=>cond ((decide (4294967296≤v18))||(decide ((IntKind.u64.wrap ((IntKind.u64.wrap (4294967296*v19))+u1))<(IntKind.u64.wrap (v18*y0))))) (cond (decide (4294967296≤(IntKind.u64.wrap (v19+y1)))) (some (.inr (IntKind.u64.wrap (v18 - 1)))) (some (.inl ((IntKind.u64.wrap (v18 - 1)),(IntKind.u64.wrap (v19+y1)))))) (some (.inr v18))) FUEL (u / y1,u % y1)=some q∧KQ u u1 y1 y0 q:=by
 refine mO (fun s:Int×Int=>KnInv u u1 y1 y0 s.1 s.2) (fun s=>s.1.toNat) (KQ u u1 y1 y0) ?_ FUEL _ (sK hu huy h1 h1' hy hy' hz hz') ?_
 ·rintro ⟨q,rh⟩ i
  dsimp only at i ⊢
  rw [C5 h1 h1' hz hz' i]
  have i0:=i.r0;have i1:=i.r1;have i2:=i.q0;have i3:=i.q1
  by_cases h:4294967296≤q∨4294967296*rh+u1<q*y0
  ·rw [det h]
   obtain ⟨_,hq1⟩:=uU hu huy h1 h1' hy hy' hz hz' i h
   rw [fG (a:=rh+y1) ⟨by omega,by omega⟩,fG (a:=q - 1) ⟨by omega,by omega⟩]
   by_cases h2:4294967296≤rh+y1
   ·rw [det h2];right
    obtain ⟨e1,e2⟩:=C4 hu huy h1 h1' hy hy' hz hz' i h h2
    exact ⟨_,rfl,by omega,zb hu huy h1 h1' (by omega) e1,e1,e2⟩
   rw [cb h2];left
   exact ⟨_,rfl,C3 hu huy h1 h1' hy hy' hz hz' i h (by omega),by dsimp only;omega⟩
  rw [cb h];right
  have e1:=AG i h
  exact ⟨_,rfl,i2,zb hu huy h1 h1' i2 e1,e1,i.up⟩
 have:=(sK hu huy h1 h1' hy hy' hz hz').q1
 exact jv (by dsimp only;omega)
theorem Gs:∃ q,aT (S:=Int×Int) (T:=(Int)) (fun (v28,v29)=>cond ((decide (4294967296≤v29))||(decide ((IntKind.u64.wrap ((IntKind.u64.wrap (4294967296*v28))+u1))<(IntKind.u64.wrap (v29*y0))))) (cond (decide (4294967296≤(IntKind.u64.wrap (v28+y1)))) (some (.inr (IntKind.u64.wrap (v29 - 1)))) (some (.inl ((IntKind.u64.wrap (v28+y1)),(IntKind.u64.wrap (v29 - 1)))))) (some (.inr v29))) FUEL (u % y1,u / y1)=some q∧KQ u u1 y1 y0 q:=by
 refine mO (fun s:Int×Int=>KnInv u u1 y1 y0 s.2 s.1) (fun s=>s.2.toNat) (KQ u u1 y1 y0) ?_ FUEL _ (sK hu huy h1 h1' hy hy' hz hz') ?_
 ·rintro ⟨rh,q⟩ i
  dsimp only at i ⊢
  rw [C5 h1 h1' hz hz' i]
  have i0:=i.r0;have i1:=i.r1;have i2:=i.q0;have i3:=i.q1
  by_cases h:4294967296≤q∨4294967296*rh+u1<q*y0
  ·rw [det h]
   obtain ⟨_,hq1⟩:=uU hu huy h1 h1' hy hy' hz hz' i h
   rw [fG (a:=rh+y1) ⟨by omega,by omega⟩,fG (a:=q - 1) ⟨by omega,by omega⟩]
   by_cases h2:4294967296≤rh+y1
   ·rw [det h2];right
    obtain ⟨e1,e2⟩:=C4 hu huy h1 h1' hy hy' hz hz' i h h2
    exact ⟨_,rfl,by omega,zb hu huy h1 h1' (by omega) e1,e1,e2⟩
   rw [cb h2];left
   exact ⟨_,rfl,C3 hu huy h1 h1' hy hy' hz hz' i h (by omega),by dsimp only;omega⟩
  rw [cb h];right
  have e1:=AG i h
  exact ⟨_,rfl,i2,zb hu huy h1 h1' i2 e1,e1,i.up⟩
 have:=(sK hu huy h1 h1' hy hy' hz hz').q1
 exact jv (by dsimp only;omega)
end
theorem D3 {a v:Int} {k n:Nat} (h:v=a / 2 ^ k) (hn:1≤n) (l:2 ^ (n - 1)≤v) (g:v<2 ^ n):2 ^ (k+n - 1)≤a∧a<2 ^ (k+n):=by
 have hp:(0:Int)<2 ^ k:=Int.pow_pos (by omega)
 have e1:=Int.ediv_mul_le a (Int.ne_of_gt hp)
 have e2:=Int.lt_ediv_add_one_mul_self a hp
 rw [← h] at e1 e2
 constructor
 ·rw [show k+n - 1=(n - 1)+k by omega,Int.pow_add]
  exact Int.le_trans (Int.mul_le_mul_of_nonneg_right l (Int.le_of_lt hp)) e1
 rw [show k+n=n+k by omega,Int.pow_add]
 exact Int.lt_of_lt_of_le e2 (Int.mul_le_mul_of_nonneg_right (by omega) (Int.le_of_lt hp))
def BY:ByteArray:=⟨#[0,1,2,2,3,3,3,3,4,4,4,4,4,4,4,4,5,5,5,5,5,5,5,5,5,5,5,5,5,5,5,5,6,6,6,6,6,6,6,6,6,6,6,6,6,6,6,6,6,6,6,6,6,6,6,6,6,6,6,6,6,6,6,6,7,7,7,7,7,7,7,7,7,7,7,7,7,7,7,7,7,7,7,7,7,7,7,7,7,7,7,7,7,7,7,7,7,7,7,7,7,7,7,7,7,7,7,7,7,7,7,7,7,7,7,7,7,7,7,7,7,7,7,7,7,7,7,7,8,8,8,8,8,8,8,8,8,8,8,8,8,8,8,8,8,8,8,8,8,8,8,8,8,8,8,8,8,8,8,8,8,8,8,8,8,8,8,8,8,8,8,8,8,8,8,8,8,8,8,8,8,8,8,8,8,8,8,8,8,8,8,8,8,8,8,8,8,8,8,8,8,8,8,8,8,8,8,8,8,8,8,8,8,8,8,8,8,8,8,8,8,8,8,8,8,8,8,8,8,8,8,8,8,8,8,8,8,8,8,8,8,8,8,8,8,8,8,8,8,8,8,8,8,8,8,8]⟩
theorem BZ:∀ v:Fin 256,(match idx BY.data.toList (v.val:Int) with | some c=>decide (1≤v.val→1≤c.toNat∧2 ^ (c.toNat - 1)≤v.val)&&decide (v.val<2 ^ c.toNat)&&decide (c.toNat≤8) | none=>false)=true:=by decide
theorem D4 {v:Int} (h0:0≤v) (h1:v<256):∃ c,idx BY.data.toList v=some c∧(1≤v→1≤c.toNat∧2 ^ (c.toNat - 1)≤v)∧v<2 ^ c.toNat∧c.toNat≤8:=by
 obtain ⟨k,rfl⟩:∃ k:Nat,v=(k:Int):=⟨v.toNat,by omega⟩
 have:=BZ ⟨k,by omega⟩
 split at this
 ·rename_i c hc
  simp only [Bool.and_eq_true,decide_eq_true_eq] at this
  obtain ⟨⟨a,b⟩,d⟩:=this
  refine ⟨c,hc,fun h=>⟨(a (by omega)).1,?_⟩,?_,d⟩
  ·have:=(a (by omega)).2;exact_mod_cast this
  exact_mod_cast b
 cases this
theorem len64 {a:Int} (ha:U64 a) (h1:1≤a):∃ n:Nat,gn a=some (n:Int)∧1≤n∧n≤64∧2 ^ (n - 1)≤a∧a<2 ^ n:=by
 have key:∃ (k:Nat) (v:Int),k≤56∧v=a / 2 ^ k∧1≤v∧v<256∧gn a=Option.bind (idx BY.data.toList (IntKind.u8.wrap v)) (fun c13=>lb ((IntKind.i64.wrap ((k:Int)+(IntKind.i64.wrap (c13.toNat:Int))))) (fun w14=>some w14)):=by
  unfold U64 at ha
  have s32:∀ x:Int,cD .u64 x 32=x / 4294967296:=fun x=>pr (by decide)
  have s16:∀ x:Int,cD .u64 x 16=x / 65536:=fun x=>pr (by decide)
  have s8:∀ x:Int,cD .u64 x 8=x / 256:=fun x=>pr (by decide)
  unfold gn
  simp only [s32,s16,s8]
  by_cases c1:4294967296≤a
  ·rw [det c1]
   simp only [bL,bc]
   by_cases c2:65536≤a / 4294967296
   ·rw [det c2]
    simp only [bL,bc]
    by_cases c3:256≤a / 4294967296 / 65536
    ·rw [det c3]
     exact ⟨56,a / 4294967296 / 65536 / 256,by omega,by simp only [Int.reducePow];omega,by omega,by omega,rfl⟩
    rw [cb c3]
    exact ⟨48,a / 4294967296 / 65536,by omega,by simp only [Int.reducePow];omega,by omega,by omega,rfl⟩
   rw [cb c2]
   simp only [bv,bc]
   by_cases c3:256≤a / 4294967296
   ·rw [det c3]
    exact ⟨40,a / 4294967296 / 256,by omega,by simp only [Int.reducePow];omega,by omega,by omega,rfl⟩
   rw [cb c3]
   exact ⟨32,a / 4294967296,by omega,by simp only [Int.reducePow],by omega,by omega,rfl⟩
  rw [cb c1]
  simp only [bv,bc]
  by_cases c2:65536≤a
  ·rw [det c2]
   simp only [bL,bc]
   by_cases c3:256≤a / 65536
   ·rw [det c3]
    exact ⟨24,a / 65536 / 256,by omega,by simp only [Int.reducePow];omega,by omega,by omega,rfl⟩
   rw [cb c3]
   exact ⟨16,a / 65536,by omega,by simp only [Int.reducePow],by omega,by omega,rfl⟩
  rw [cb c2]
  simp only [bv,bc]
  by_cases c3:256≤a
  ·rw [det c3]
   exact ⟨8,a / 256,by omega,by simp only [Int.reducePow],by omega,by omega,rfl⟩
  rw [cb c3]
  exact ⟨0,a,by omega,by simp,by omega,by omega,rfl⟩
 obtain ⟨k,v,k1,k2,k3,k4,k5⟩:=key
 obtain ⟨c,c1,c2,c3,c4⟩:=D4 (v:=v) (by omega) k4
 obtain ⟨c5,c6⟩:=c2 k3
 obtain ⟨l1,l2⟩:=D3 k2 c5 c6 c3
 rw [k5,yr (by omega),pA c1]
 unfold lb
 rw [cM (r:=(c.toNat:Int)) (by omega) (by omega),cM (by omega) (by omega)]
 exact ⟨k+c.toNat,by simp,by omega,by omega,l1,l2⟩
theorem lz64 {a:Int} (ha:U64 a) (h1:1≤a):∃ s:Nat,dN a=some (s:Int)∧s≤63∧9223372036854775808≤a*2 ^ s∧a*2 ^ s<18446744073709551616:=by
 obtain ⟨n,e1,e2,e3,e4,e5⟩:=len64 ha h1
 unfold dN
 rw [pA e1,cM (by omega) (by omega)]
 refine ⟨64 - n,by congr 1;omega,by omega,?_,?_⟩
 ·have:=Int.mul_le_mul_of_nonneg_right e4 (Int.le_of_lt (show (0:Int)<2 ^ (64 - n) from Int.pow_pos (by decide)))
  rw [← Int.pow_add,show n - 1+(64 - n)=63 by omega] at this
  exact this
 have:=Int.mul_lt_mul_of_pos_right e5 (show (0:Int)<2 ^ (64 - n) from Int.pow_pos (by decide))
 rw [← Int.pow_add,show n+(64 - n)=64 by omega] at this
 exact this
theorem B0 {b:Int} (h:0≤b):lF b=some ():=by unfold lF;rw [if_pos h]
theorem B1 {a:Int} {s:Nat} (h:s≤64):fz .u64 a (s:Int)=IntKind.u64.wrap (a*2 ^ s):=by
 have e:fz .u64 a (s:Int)=IntKind.u64.wrap (a*2 ^ min (s:Int).toNat 64):=rfl
 rw [e,Int.toNat_natCast,Nat.min_eq_left h]
theorem ior_sh {h b:Int} {s:Nat} (hh:0≤h) (hb:0≤b) (hb2:b<2 ^ s) (h1:U64 (h*2 ^ s)) (h2:U64 b):oz .u64 (h*2 ^ s) b=h*2 ^ s+b:=by
 rw [Gp h1 h2]
 obtain ⟨x,rfl⟩:∃ k:Nat,h=(k:Int):=⟨h.toNat,by omega⟩
 obtain ⟨z,rfl⟩:∃ k:Nat,b=(k:Int):=⟨b.toNat,by omega⟩
 have e:((x:Int)*2 ^ s)=((2 ^ s*x:Nat):Int):=by push_cast;exact Int.mul_comm _ _
 have hz:z<2 ^ s:=by exact_mod_cast hb2
 rw [e,Int.toNat_natCast,Int.toNat_natCast,← Nat.two_pow_add_eq_or_of_lt hz]
 rfl
theorem dm_of {n q r y:Int} (e:n=q*y+r) (h0:0≤r) (h1:r<y):n / y=q∧n % y=r:=by
 have gd:n / y=q:=by
  rw [e,Int.add_comm,Int.add_mul_ediv_right _ _ (by omega),Int.ediv_eq_zero_of_lt h0 h1,Int.zero_add]
 refine ⟨gd,?_⟩
 have:=Int.emod_add_mul_ediv n y
 rw [gd,Int.mul_comm] at this
 omega
theorem div64 {hi lo y:Int} (h1:U64 hi) (h2:U64 lo) (h3:U64 y) (h4:hi<y):iv hi lo y=some ((hi*18446744073709551616+lo) / y,(hi*18446744073709551616+lo) % y):=by
 have hi0:=h1.1
 have hlo:=h2.1
 have hy1:1≤y:=by omega
 unfold iv
 have cy:(y == 0)=false:=by simp;omega
 rw [cy,cb (show ¬ y≤hi by omega)]
 simp only [bv]
 by_cases hz:hi=0
 ·subst hz
  have:((0:Int) == 0)=true:=rfl
  rw [this]
  simp only [bL]
  rw [pA (FK (show y≠0 by omega)),pA (FK (show y≠0 by omega)),Int.tdiv_eq_ediv_of_nonneg hlo,Int.tmod_eq_emod_of_nonneg hlo]
  have:lo / y≤lo:=Int.ediv_le_self _ hlo
  rw [fG ⟨Int.ediv_nonneg hlo (by omega),by have:=h2.2;omega⟩]
  simp
 have cz:(hi == 0)=false:=by simp;exact hz
 rw [cz]
 simp only [bv]
 obtain ⟨s,e1,e2,e3,e4⟩:=lz64 h3 hy1
 have hP:(0:Int)<2 ^ s:=Int.pow_pos (by omega)
 have hM:(0:Int)<2 ^ (64 - s):=Int.pow_pos (by omega)
 have hPM:(2:Int) ^ s*2 ^ (64 - s)=18446744073709551616:=by rw [← Int.pow_add,show s+(64 - s)=64 by omega];rfl
 have hhP:hi*2 ^ s<y*2 ^ s:=Int.mul_lt_mul_of_pos_right h4 hP
 have hhP0:0≤hi*2 ^ s:=Int.mul_nonneg hi0 (by omega)
 have hqd0:0≤lo / 2 ^ (64 - s):=Int.ediv_nonneg hlo (by omega)
 have hqd1:lo / 2 ^ (64 - s)<2 ^ s:=by
  apply Int.ediv_lt_of_lt_mul hM
  rw [hPM];exact h2.2
 have hPle:(2:Int) ^ s≤18446744073709551616:=by rw [← hPM];have:=Int.mul_le_mul_of_nonneg_left (show (1:Int)≤2 ^ (64 - s) by omega) (Int.le_of_lt hP);omega
 have f1:IntKind.u64.wrap (s:Int)=(s:Int):=fG ⟨by omega,by omega⟩
 have f2:IntKind.u64.wrap (64 - (s:Int))=((64 - s:Nat):Int):=by rw [fG ⟨by omega,by omega⟩];omega
 have f3:fz .u64 y (s:Int)=y*2 ^ s:=by rw [B1 (by omega),fG ⟨by omega,e4⟩]
 have f4:fz .u64 hi (s:Int)=hi*2 ^ s:=by rw [B1 (by omega),fG ⟨hhP0,by omega⟩]
 have f5:cD .u64 lo ((64 - s:Nat):Int)=lo / 2 ^ (64 - s):=by rw [pr (by omega),Int.toNat_natCast]
 have f6:fz .u64 lo (s:Int)=(lo*2 ^ s) % 18446744073709551616:=by rw [B1 (by omega),wu]
 have f7:oz .u64 (hi*2 ^ s) (lo / 2 ^ (64 - s))=hi*2 ^ s+lo / 2 ^ (64 - s):=ior_sh hi0 hqd0 hqd1 ⟨hhP0,by omega⟩ ⟨hqd0,by omega⟩
 rw [pA e1]
 simp only [lb,f1,f2,f3,f4,f5,f6,f7,B0 (Int.natCast_nonneg s),B0 (Int.natCast_nonneg (64 - s)),bc,C0]
 have hN:(hi*18446744073709551616+lo)*2 ^ s=(hi*2 ^ s+lo / 2 ^ (64 - s))*18446744073709551616+(lo*2 ^ s) % 18446744073709551616:=by
  have g1:=Int.emod_add_mul_ediv lo (2 ^ (64 - s))
  have g2:lo*2 ^ s=lo % 2 ^ (64 - s)*2 ^ s+18446744073709551616*(lo / 2 ^ (64 - s)):=by
   have:=congrArg (· * (2:Int) ^ s) g1
   simp only [Int.add_mul] at this
   rw [← this,← hPM]
   rw [Int.mul_assoc,Int.mul_comm (lo / 2 ^ (64 - s)),← Int.mul_assoc,Int.mul_comm (2 ^ (64 - s)),Int.mul_assoc]
  have g3:0≤lo % 2 ^ (64 - s)*2 ^ s:=Int.mul_nonneg (Int.emod_nonneg _ (by omega)) (by omega)
  have g4:lo % 2 ^ (64 - s)*2 ^ s<18446744073709551616:=by
   rw [← hPM,Int.mul_comm (2 ^ s)]
   exact Int.mul_lt_mul_of_pos_right (Int.emod_lt_of_pos _ hM) hP
  rw [Int.add_mul,Int.mul_right_comm hi]
  generalize lo % 2 ^ (64 - s)*2 ^ s=A at *
  generalize lo / 2 ^ (64 - s)=B at *
  generalize lo*2 ^ s=C at *
  generalize hi*2 ^ s=D at *
  omega
 have hu0:0≤hi*2 ^ s+lo / 2 ^ (64 - s):=by omega
 have huy:hi*2 ^ s+lo / 2 ^ (64 - s)<y*2 ^ s:=by
  have:(hi+1)*2 ^ s≤y*2 ^ s:=Int.mul_le_mul_of_nonneg_right (by omega) (by omega)
  rw [Int.add_mul] at this;omega
 have hU0:0≤(lo*2 ^ s) % 18446744073709551616:=by omega
 have hU1:(lo*2 ^ s) % 18446744073709551616<18446744073709551616:=by omega
 have hfin:∀ q R:Int,(hi*18446744073709551616+lo)*2 ^ s=q*(y*2 ^ s)+R→0≤R→R<y*2 ^ s→(hi*18446744073709551616+lo) / y=q∧(hi*18446744073709551616+lo) % y=R / 2 ^ s:=by
  intro q R hq hR0 hR1
  have hr:R=(hi*18446744073709551616+lo - q*y)*2 ^ s:=by rw [Int.sub_mul,Int.mul_assoc q];omega
  have hd:R / 2 ^ s=hi*18446744073709551616+lo - q*y:=by rw [hr];exact Int.mul_ediv_cancel _ (by omega)
  rw [hd]
  generalize hi*18446744073709551616+lo=n at *
  have:0≤n - q*y:=by
   by_cases hc:0≤n - q*y
   ·exact hc
   have:=Int.mul_le_mul_of_nonneg_right (show n - q*y ≤ -1 by omega) (Int.le_of_lt hP);omega
  have:n - q*y<y:=by
   apply Int.lt_of_mul_lt_mul_right (a:=2 ^ s) _ (by omega)
   omega
  exact dm_of (by omega) (by assumption) (by assumption)
 generalize (hi*18446744073709551616+lo)*2 ^ s=NP at *
 generalize hYe:y*2 ^ s=Y at *
 generalize hi*2 ^ s+lo / 2 ^ (64 - s)=u at *
 generalize (lo*2 ^ s) % 18446744073709551616=U at *
 rw [qG (a:=Y) ⟨by omega,e4⟩,qG (a:=U) ⟨hU0,hU1⟩]
 have k1:Y / 4294967296*4294967296+Y % 4294967296=Y:=by omega
 have k2:2147483648≤Y / 4294967296:=by omega
 have k3:Y / 4294967296<4294967296:=by omega
 have k4:0≤Y % 4294967296:=by omega
 have k5:Y % 4294967296<4294967296:=by omega
 have k6:0≤U / 4294967296:=by omega
 have k7:U / 4294967296<4294967296:=by omega
 have k8:0≤U % 4294967296:=by omega
 have k9:U % 4294967296<4294967296:=by omega
 have k10:U=U / 4294967296*4294967296+U % 4294967296:=by omega
 generalize U / 4294967296=u1 at *
 generalize U % 4294967296=u0 at *
 generalize Y / 4294967296=y1 at *
 generalize Y % 4294967296=y0 at *
 have dv:∀ v:Int,0≤v→v<Y→IntKind.u64.wrap (Int.tdiv v y1)=v / y1∧IntKind.u64.wrap (v - IntKind.u64.wrap (v / y1*y1))=v % y1:=by
  intro v v0 v1
  have:=Int.ediv_le_self y1 v0
  have q0:=Int.ediv_nonneg v0 (show 0≤y1 by omega)
  have m0:=Int.emod_nonneg v (show y1≠0 by omega)
  have m1:=Int.emod_lt_of_pos v (show 0<y1 by omega)
  have e:=Int.emod_add_mul_ediv v y1
  rw [Int.mul_comm] at e
  rw [Int.tdiv_eq_ediv_of_nonneg v0,fG (a:=v / y1) ⟨q0,by omega⟩]
  refine ⟨rfl,?_⟩
  have:0≤v / y1*y1:=Int.mul_nonneg q0 (by omega)
  rw [fG (a:=v / y1*y1) ⟨this,by omega⟩,fG ⟨by omega,by omega⟩]
  omega
 have hnz:nz y1=some ():=FK (by omega)
 obtain ⟨d1,d2⟩:=dv u hu0 huy
 simp only [hnz,d1,d2,bc]
 obtain ⟨q1,l1,l2,l3,l4,l5⟩:=Gr (u:=u) (u1:=u1) (y1:=y1) (y0:=y0) hu0 (by omega) k6 k7 k2 k3 k4 k5
 rw [k1] at l4 l5
 rw [pA l1]
 have w25:IntKind.u64.wrap (IntKind.u64.wrap (IntKind.u64.wrap (u*4294967296)+u1) - IntKind.u64.wrap (q1*Y))=u*4294967296+u1 - q1*Y:=by
  simp only [wu]
  generalize q1*Y=z at *
  omega
 simp only [w25]
 have v0:0≤u*4294967296+u1 - q1*Y:=by omega
 have v1:u*4294967296+u1 - q1*Y<Y:=by omega
 have hv:u*4294967296+u1=q1*Y+(u*4294967296+u1 - q1*Y):=by omega
 generalize u*4294967296+u1 - q1*Y=v at *
 obtain ⟨d3,d4⟩:=dv v v0 v1
 simp only [d3,d4]
 obtain ⟨q0,m1,m2,m3,m4,m5⟩:=Gs (u:=v) (u1:=u0) (y1:=y1) (y0:=y0) v0 (by omega) k8 k9 k2 k3 k4 k5
 rw [k1] at m4 m5
 rw [pA m1]
 have w36:IntKind.u64.wrap (IntKind.u64.wrap (q1*4294967296)+q0)=q1*4294967296+q0:=by simp only [wu];omega
 have w37:IntKind.u64.wrap (IntKind.u64.wrap (IntKind.u64.wrap (v*4294967296)+u0) - IntKind.u64.wrap (q0*Y))=v*4294967296+u0 - q0*Y:=by
  simp only [wu]
  generalize q0*Y=z at *
  omega
 rw [w36,w37,pr (by omega),Int.toNat_natCast]
 obtain ⟨g1,g2⟩:=hfin (q1*4294967296+q0) (v*4294967296+u0 - q0*Y) (by
  rw [hN,k10,Int.add_mul,Int.mul_right_comm]
  generalize q1*Y=z at *
  generalize q0*Y=z0 at *
  omega) (by omega) (by omega)
 rw [g1,g2]
def xv (w:Zo):Int:=w.Hi*18446744073709551616+w.Lo
def XW (w:Zo):Prop:=U64 w.Hi∧U64 w.Lo
theorem xU {a b:Int} (ha:U64 a) (hb:U64 b):∃ w,jV a b=some w∧XW w∧xv w=a*b:=by
 obtain ⟨h,l,e1,e2,e3,e4⟩:=mul64 ha hb
 unfold jV;rw [pA e1]
 exact ⟨_,rfl,⟨e2,e3⟩,e4⟩
def C7 (n c m:Int):Int:=if (m=2∧c≤2*(n % c))∨(m=1∧0<n % c) then n / c+1 else n / c
theorem D5 {w:Zo} {c m:Int} (hw:XW w) (hc:U64 c) (h1:1≤c) (hm:m=0∨m=1∨m=2):oh w c m=some (if C7 (xv w) c m<18446744073709551616 then (C7 (xv w) c m,0) else (0,3)):=by
 unfold oh
 have hc0:((((c == 0)||(decide (m<0)))||(decide (3<m))):Bool)=false:=by
  rcases hm with rfl | rfl | rfl <;> simp <;> omega
 rw [hc0];simp only [bv]
 have hn0:0≤xv w:=by unfold xv;have:=hw.1.1;have:=hw.2.1;omega
 have hr0:0≤xv w % c:=Int.emod_nonneg _ (by omega)
 have hr1:xv w % c<c:=Int.emod_lt_of_pos _ (by omega)
 have hle:xv w / c≤C7 (xv w) c m:=by unfold C7;split <;> omega
 by_cases h:c≤w.Hi
 ·rw [det h]
  have:18446744073709551616≤xv w / c:=by
   apply Int.le_ediv_of_mul_le (by omega)
   have:=Int.mul_le_mul_of_nonneg_left h (show (0:Int)≤18446744073709551616 by omega)
   unfold xv;have:=hw.2.1;omega
  rw [if_neg (by omega)];rfl
 rw [cb h]
 simp only [bv]
 have e:=div64 hw.1 hw.2 hc (by omega)
 rw [show w.Hi*18446744073709551616+w.Lo=xv w from rfl] at e
 rw [pA e]
 have hq:xv w / c<18446744073709551616:=by
  apply Int.ediv_lt_of_lt_mul (by omega)
  have:=Int.mul_le_mul_of_nonneg_right (show w.Hi+1≤c by omega) (show (0:Int)≤18446744073709551616 by omega)
  unfold xv;have:=hw.2.2;rw [Int.mul_comm 18446744073709551616];omega
 have hq0:0≤xv w / c:=Int.ediv_nonneg hn0 (by omega)
 dsimp only
 have er:ky (xv w / c) (xv w % c) c m=some (decide ((m=2∧c≤2*(xv w % c))∨(m=1∧0<xv w % c))):=by
  unfold ky
  rw [fG (a:=c - xv w % c) ⟨by omega,by have:=hc.2;omega⟩]
  rcases hm with rfl | rfl | rfl
  ·simp
  ·simp
  simp;omega
 rw [pA er]
 unfold C7
 by_cases hu:(m=2∧c≤2*(xv w % c))∨(m=1∧0<xv w % c)
 ·rw [det hu,if_pos hu]
  simp only [Bool.not_true,bv]
  by_cases hx:xv w / c=18446744073709551615
  ·rw [hx];rfl
  have:(xv w / c == 18446744073709551615)=false:=by simp;exact hx
  rw [this,if_pos (by omega),fG ⟨by omega,by omega⟩];rfl
 rw [cb hu,if_neg hu,if_pos hq];rfl
theorem ref_div {w:Zm} {c m:Int} (hw:RW w) (hc:U64 c) (h1:1≤c) (hm:m=0∨m=1∨m=2):ol w c m=some (if C7 (rv w) c m<18446744073709551616 then (C7 (rv w) c m,0) else (0,3)):=by
 unfold ol
 have hc0:((((c == 0)||(decide (m<0)))||(decide (3<m))):Bool)=false:=by
  rcases hm with rfl | rfl | rfl <;> simp <;> omega
 rw [hc0];simp only [bv]
 have hn0:0≤rv w:=by unfold rv;have:=hw.1.1;have:=hw.2.1;omega
 have hn1:rv w<340282366920938463463374607431768211456:=by unfold rv;have:=hw.1.2;have:=hw.2.2;omega
 have hr0:0≤rv w % c:=Int.emod_nonneg _ (by omega)
 have hr1:rv w % c<c:=Int.emod_lt_of_pos _ (by omega)
 obtain ⟨q,r,e1,e2,e3,e4⟩:=BX hw hc h1
 rw [pA e1]
 dsimp only
 have er:(cond (m == 1) (some (decide (0<r))) (cond (m == 2) (some (decide ((IntKind.u64.wrap (c - r))≤r))) (cond (m == 3) (some ((decide ((IntKind.u64.wrap (c - r))<r))||((r == (IntKind.u64.wrap (c - r)))&&((dq .u64 q.Lo 1) == 1)))) (some false))))=some (decide ((m=2∧c≤2*(rv w % c))∨(m=1∧0<rv w % c))):=by
  rw [e4,fG (a:=c - rv w % c) ⟨by omega,by have:=hc.2;omega⟩]
  rcases hm with rfl | rfl | rfl
  ·simp
  ·simp
  simp;omega
 rw [pA er]
 have hq0:0≤rv w / c:=Int.ediv_nonneg hn0 (by omega)
 unfold C7
 have hfin:∀ z:Zm,RW z→(cond (decide (0<z.Hi)) (some ((0:Int),(3:Int))) (some (z.Lo,0)))=some (if rv z<18446744073709551616 then (rv z,0) else (0,3)):=by
  intro z hz
  obtain ⟨⟨a1,a2⟩,⟨a3,a4⟩⟩:=hz
  by_cases h:0<z.Hi
  ·rw [det h,if_neg (by unfold rv;omega)];rfl
  have:rv z=z.Lo:=by unfold rv;omega
  rw [cb h,this,if_pos a4];rfl
 by_cases hu:(m=2∧c≤2*(rv w % c))∨(m=1∧0<rv w % c)
 ·rw [det hu,if_pos hu]
  obtain ⟨z,b,f1,f2,f3⟩:=uT (p:=q) (q:=⟨0,1⟩) e2 ⟨⟨by simp,by simp⟩,⟨by simp,by simp⟩⟩
  have hone:rv ⟨0,1⟩=1:=rfl
  have:rv w / c≤rv w:=Int.ediv_le_self _ hn0
  have hc2:2≤c:=by omega
  have t1:=Int.ediv_mul_le (rv w) (show c≠0 by omega)
  have t2:=Int.mul_le_mul_of_nonneg_left hc2 hq0
  rw [hone,e3] at f3
  have f3:=f3 (by omega)
  simp only [bL]
  rw [pA f1]
  simp only [bc]
  rw [hfin z f2,f3]
 rw [cb hu,if_neg hu]
 simp only [bv,bc]
 rw [hfin q e2,e3]
structure VProd (l:List Zc) (p:Zc):Prop where
 price:1≤p.Price∧p.Price≤1000000000000
 lvl:6≤cQ p.Code
 ctr:mL p.Country=true
 proc:ig p.Processes=true
 few:p.Inputs.length≤8
 asc:p.Inputs.Pairwise fun a b=>a.Product<b.Product
 inp:∀ x∈p.Inputs,(co l x.Product).isSome=true∧0≤x.Value∧x.Value≤1000000000000
 obt:p.Obtained=true→p.Inputs=[]
structure VPs (l:List Zc):Prop where
 len:l.length≤64
 asc:l.Pairwise fun a b=>a.ID<b.ID
 all:∀ p∈l,VProd l p
theorem kG {l:List ByteArray} (h:ig l=true):l.length≤8∧(∀ s∈l,hU s=true)∧Strict i7 l:=by
 unfold ig at h
 simp only [Bool.and_eq_true,decide_eq_true_eq] at h
 exact ⟨h.1,fun s hs=>List.all_eq_true.1 h.2.1 s hs,(lS _).1 h.2.2⟩
theorem VPs.sorted {l:List Zc} (h:VPs l):Sorted l:=⟨by have:=h.len;omega,h.asc,fun p hp=>by have h1:=(kG (h.all p hp).proc).1;have h2:=(h.all p hp).few;omega⟩
def bP (l:List Zc) (id:Int):Zc:=(co l id).getD AF
theorem wo {α:Type} (z:α) (o:Option α):(gW z o).1=o.getD z:=by cases o <;> rfl
theorem tF {l:List Zc} {id:Int} {p:Zc} (h:co l id=some p):p∈l∧p.ID=id:=⟨List.mem_of_find?_eq_some h,by have:=List.find?_some h;simpa using this⟩
theorem kH {l:List Zc} (h:VPs l) {id:Int} (hs:(co l id).isSome=true):bP l id∈l∧VProd l (bP l id)∧(bP l id).ID=id:=by
 cases hf:co l id with
 | none=>rw [hf] at hs;cases hs
 | some p =>
  have:=tF hf
  unfold bP;rw [hf];exact ⟨this.1,h.all p this.1,this.2⟩
abbrev CSet:=Za→Bool
def gf (ps:List Int) (S:CSet) (q:Zc) (v:Int):Zk×Option Za:=match ps.find? (fun id=>S ⟨q.ID,id⟩) with
 | some id=>(⟨q.Code,v,true⟩,some ⟨q.ID,id⟩)
 | none=>(⟨q.Code,v,false⟩,none)
def ee (v part price:Int):Int:=if C7 (v*part) price 1≤1000000000000 then C7 (v*part) price 1 else 1000000000000
def ug (a:Zb) (q:Zc):Bool:=a.Kind == 3&&mj a.Parties q.Country
def f9 (plan:List Zc) (a:Zb) (ps:List Int) (S:CSet) (x:Zi):List (Zk×Option Za) :=
 cond ((gf ps S (bP plan x.Product) x.Value).2.isSome || !ug a (bP plan x.Product)||(bP plan x.Product).Inputs.isEmpty) [gf ps S (bP plan x.Product) x.Value]
  ((bP plan x.Product).Inputs.map fun y=>gf ps S (bP plan y.Product) (ee x.Value y.Value (bP plan x.Product).Price))
def fp (plan:List Zc) (a:Zb) (ps:List Int) (S:CSet) (p:Zc):List (Zk×Option Za):=p.Inputs.flatMap (f9 plan a ps S)
def lU (plan:List Zc) (a:Zb) (acc:List ByteArray) (x:Zi):List ByteArray:=cond (ug a (bP plan x.Product)) (nR acc (bP plan x.Product).Processes) acc
def zCase:Zl:=⟨ByteArray.empty,0,false,[],[]⟩
def kN (l:List Zb) (id:Int):Zb:=(ka l id).getD DZ
def pF (plan:List Zc) (l:List Zb) (imp:ByteArray) (c:Za) (S:CSet):Zl :=
 ⟨(bP plan c.Product).Code,(bP plan c.Product).Price,(bP plan c.Product).Obtained,((bP plan c.Product).Inputs.foldl (lU plan (kN l c.Agreement)) (bP plan c.Product).Processes).take 8,
  (fp plan (kN l c.Agreement) (eW l c.Agreement (bP plan c.Product).Country imp) S (bP plan c.Product)).map (·.1)⟩
def ot (plan:List Zc) (l:List Zb) (imp:ByteArray) (c:Za) (S:CSet):List Za :=
 sd bu ((fp plan (kN l c.Agreement) (eW l c.Agreement (bP plan c.Product).Country imp) S (bP plan c.Product)).filterMap (·.2))
def uh (plan:List Zc) (l:List Zb) (imp:ByteArray) (c:Za) (S:CSet):Zl×List Za:=cond (jk plan l imp c) (pF plan l imp c S,ot plan l imp c S) (zCase,[])
theorem zc {n c:Int} (hn:0≤n) (hc:1≤c):0≤C7 n c 1:=by
 unfold C7
 have:=Int.ediv_nonneg hn (show (0:Int)≤c by omega)
 split <;> omega
theorem wq {v part price:Int} (h1:0≤v) (h2:0≤part) (h3:1≤price):0≤ee v part price∧ee v part price≤1000000000000:=by
 unfold ee
 have:=zc (Int.mul_nonneg h1 h2) h3
 split <;> omega
theorem zd {v part price:Int} (h1:0≤v∧v≤1000000000000) (h2:0≤part∧part≤1000000000000) (h3:1≤price∧price≤1000000000000):fR v part price=some (ee v part price):=by
 unfold fR mD
 rw [fG (a:=v) ⟨by omega,by omega⟩,fG (a:=part) ⟨by omega,by omega⟩,fG (a:=price) ⟨by omega,by omega⟩]
 obtain ⟨w,e1,e2,e3⟩:=xU (a:=v) (b:=part) ⟨by omega,by omega⟩ ⟨by omega,by omega⟩
 rw [e1,bc,D5 e2 ⟨by omega,by omega⟩ h3.1 (.inr (.inl rfl)),e3]
 unfold ee
 have hp:=zc (Int.mul_nonneg h1.1 h2.1) h3.1
 generalize C7 (v*part) price 1=r at hp
 by_cases hr:r<18446744073709551616
 ·rw [if_pos hr]
  by_cases hm:r≤1000000000000
  ·rw [if_pos hm]
   simp only [bc,bne_self_eq_false,Bool.false_or]
   rw [cb (by omega),bv,cM (by omega) (by omega)]
  rw [if_neg hm]
  simp only [bc,bne_self_eq_false,Bool.false_or]
  rw [det (by omega)];rfl
 rw [if_neg hr,if_neg (by omega)];rfl
theorem AH {v part price:Int} (h1:0≤v∧v≤1000000000000) (h2:0≤part∧part≤1000000000000) (h3:1≤price∧price≤1000000000000) {β:Type} (k:Int→Option β):Option.bind (kA (IntKind.u64.wrap v) (IntKind.u64.wrap part) (IntKind.u64.wrap price) 1) (fun x79=>Option.bind (cond ((x79.2 == 0)&&(decide (x79.1<1000000000000))) (some (IntKind.i64.wrap x79.1)) (some 1000000000000)) k)=k (ee v part price):=by
 unfold kA
 rw [fG (a:=v) ⟨by omega,by omega⟩,fG (a:=part) ⟨by omega,by omega⟩,fG (a:=price) ⟨by omega,by omega⟩]
 obtain ⟨w,e1,e2,e3⟩:=C1 (a:=v) (b:=part) ⟨by omega,by omega⟩ ⟨by omega,by omega⟩
 rw [e1,bc,ref_div e2 ⟨by omega,by omega⟩ h3.1 (.inr (.inl rfl)),e3]
 unfold ee
 have hp:=zc (Int.mul_nonneg h1.1 h2.1) h3.1
 generalize C7 (v*part) price 1=r at hp
 by_cases hr:r<18446744073709551616
 ·rw [if_pos hr]
  by_cases hm:r<1000000000000
  ·rw [if_pos (by omega)]
   simp only [bc,beq_self_eq_true,Bool.true_and]
   rw [det (by omega),bL,bc,cM (by omega) (by omega)]
  simp only [bc,beq_self_eq_true,Bool.true_and]
  rw [cb (by omega),bv,bc]
  congr 1
  split <;> omega
 rw [if_neg hr,if_neg (by omega)];rfl
def A9:Zk×Option Za→Ze
 | (i,some c)=>.proved_ ⟨i,c⟩
 | (i,none)=>.plain_ ⟨i⟩
theorem xV {K V:Type} [DecidableEq K] (m:List (K×V)) (k c:K) (v:V):kr (qb m k v) c=if k=c then some v else kr m c:=by
 induction m with
 | nil=>simp only [qb,kr]
 | cons p m ih =>
  obtain ⟨a,w⟩:=p
  simp only [qb]
  by_cases h:a=k
  ·subst h
   simp only [if_true,kr]
   split <;> rfl
  rw [if_neg h]
  simp only [kr,ih]
  by_cases h2:a=c
  ·subst h2;simp [show ¬ k=a from fun e=>h e.symm]
  simp [h2]
theorem Gt (set:List Za) (c:Za):(kr (set.foldl (fun m x=>qb m x true) []) c).getD false=aZ set c:=by
 have key:∀ (l:List Za) (m:List (Za×Bool)),(kr (l.foldl (fun m x=>qb m x true) m) c).getD false=(aZ l c||(kr m c).getD false):=by
  intro l
  induction l with
  | nil=>intro m;rfl
  | cons x l ih =>
   intro m
   rw [List.foldl_cons,ih,xV]
   show _=((decide (x=c)||aZ l c)||_)
   by_cases h:x=c
   ·rw [if_pos h,det h];cases aZ l c <;> rfl
   rw [if_neg h,cb h,Bool.false_or]
 rw [key];show (aZ set c||false)=_;rw [Bool.or_false]
theorem xW (ps:List Int) (m:List (Za×Bool)) (S:CSet) (hm:∀ c,(kr m c).getD false=S c) (hps:ps.length≤140737488355328) (q:Zc) (v:Int):cV ⟨ps,m⟩ q v=some (A9 (gf ps S q v)):=by
 unfold cV gf
 refine (bD (l:=ps) (by omega) (fun _ id=>cond (S ⟨q.ID,id⟩) (some (.inr (Ze.proved_ ⟨⟨q.Code,v,true⟩,⟨q.ID,id⟩⟩))) none) (.inl ()) (fun k hk=>?_) (by simp only [cN,bv])).trans ?_
 ·simp only [gY hk,bL,aQ hk,bc,bM hk (show ps.length≤4611686018427387904 by omega),hm]
  cases S ⟨q.ID,ps[k]⟩ <;> rfl
 rw [iV (fun id:Int=>S ⟨q.ID,id⟩) (fun id=>(Sum.inr (Ze.proved_ ⟨⟨q.Code,v,true⟩,⟨q.ID,id⟩⟩):Unit⊕Ze))]
 cases ps.find? (fun id:Int=>S ⟨q.ID,id⟩) <;> rfl
def B2:Za:=⟨0,0⟩
theorem Gu (ps:List Int) (set:List Za) (hps:ps.length≤140737488355328) (hset:set.length≤140737488355328) (q:Zc) (v:Int):iJ ps q.ID set=some (gW B2 (gf ps (aZ set) q v).2)∧(gf ps (aZ set) q v).1=⟨q.Code,v,(gf ps (aZ set) q v).2.isSome⟩:=by
 constructor
 ·unfold iJ gf
  refine (bD (l:=ps) (by omega) (fun _ id=>cond (aZ set ⟨q.ID,id⟩) (some (.inr ((⟨q.ID,id⟩:Za),true))) none) (.inl ()) (fun k hk=>?_) (by simp only [cN,bv])).trans ?_
  ·simp only [gY hk,bL,aQ hk,bc,bM hk (show ps.length≤4611686018427387904 by omega),mM _ _ hset]
   cases aZ set ⟨q.ID,ps[k]⟩ <;> rfl
  rw [iV (fun id:Int=>aZ set ⟨q.ID,id⟩) (fun id=>(Sum.inr ((⟨q.ID,id⟩:Za),true):Unit⊕(Za×Bool)))]
  cases ps.find? (fun id:Int=>aZ set ⟨q.ID,id⟩) <;> rfl
 unfold gf
 cases ps.find? (fun id:Int=>aZ set ⟨q.ID,id⟩) <;> rfl
theorem qH {plan:List Zc} (hv:VPs plan) (a:Zb) (ps:List Int) (S:CSet) (x:Zi) (hx:(co plan x.Product).isSome=true):(f9 plan a ps S x).length≤8:=by
 unfold f9
 generalize ((gf ps S (bP plan x.Product) x.Value).2.isSome || !ug a (bP plan x.Product)||(bP plan x.Product).Inputs.isEmpty)=b
 cases b
 ·rw [bv,List.length_map];exact (kH hv hx).2.1.few
 simp
theorem Gv {w:List ByteArray} (h:ig w=true):w.length≤8:=(kG h).1
theorem B3 (a b:List ByteArray):(nR a b).length≤a.length+b.length:=by unfold nR;have:=Gl (lt:=i7) (a++b);rwa [List.length_append] at this
theorem xX {plan:List Zc} (hv:VPs plan) (a:Zb) (acc:List ByteArray) (x:Zi) (hx:(co plan x.Product).isSome=true):(lU plan a acc x).length≤acc.length+8:=by
 unfold lU
 cases ug a (bP plan x.Product)
 ·rw [bv];omega
 rw [bL]
 have h1:=B3 acc (bP plan x.Product).Processes
 have h2:=Gv (kH hv hx).2.1.proc
 omega
theorem sL {plan:List Zc} (hv:VPs plan) (id:Int):cU plan id=some (bP plan id,(co plan id).isSome):=by
 rw [wl _ _ hv.sorted];unfold bP;cases co plan id <;> rfl
theorem tG {plan:List Zc} (hv:VPs plan) (id:Int):dV plan id=some (bP plan id,(co plan id).isSome):=by
 rw [tC _ _ (by have:=hv.len;omega)];unfold bP;cases co plan id <;> rfl
theorem ze (t:Zk×Option Za):(A9 t).is_proved_=t.2.isSome:=by obtain ⟨i,c⟩:=t;cases c <;> rfl
theorem D6 {plan:List Zc} (hv:VPs plan) (a:Zb) (ha:a.Parties.length≤140737488355328) {p:Zc} (hp:VProd plan p) (ps:List Int) (hps:ps.length≤140737488355328) (m:List (Za×Bool)) (S:CSet) (hm:∀ c,(kr m c).getD false=S c) :
    fk plan a p ⟨ps,m⟩=some ((fp plan a ps S p).map A9,(p.Inputs.foldl (lU plan a) p.Processes).take 8):=by
  unfold fk bU
  have hpr:=Gv hp.proc
  have hfew:=hp.few
  rw [gH (by omega) (by omega),bc]
  refine (cB (l:=p.Inputs) (by omega) (fun i (s:List Ze×List ByteArray)=>(s.1,s.2,i)) (fun s x=>(s.1++(f9 plan a ps S x).map A9,lU plan a s.2 x)) (fun s=>s) (fun k s=>s.1.length≤8*k∧s.2.length≤8+8*k) ([],p.Processes) ⟨by simp,by simpa using hpr⟩ (fun k hk s hs=>?_) (fun s _=>by simp only [cN,bv])).1.trans ?_
  · obtain ⟨l9,l12⟩:=s
    obtain ⟨h1,h2⟩:=hs
    dsimp only at h1 h2 ⊢
    obtain ⟨hin,hv0,hv1⟩:=hp.inp _ (List.getElem_mem hk)
    obtain ⟨hq1,hq2,hq3⟩:=kH hv hin
    have hql:=hq2.few
    refine ⟨?_,by have:=qH hv a ps S p.Inputs[k] hin;simp;omega,by have:=xX hv a l12 p.Inputs[k] hin;omega⟩
    simp only [gY hk,bL,aQ hk,bc,bM hk (show p.Inputs.length≤4611686018427387904 by omega),sL hv]
    generalize hx:p.Inputs[k]=x at *
    rw [sG _ _ ha,xW ps m S hm hps]
    unfold f9 lU ug
    have e1:Option.bind (gd (a.Kind == 3) (some (mj a.Parties (bP plan x.Product).Country))) (fun x33=>some ((a.Kind == 3)&&x33))=some ((a.Kind == 3)&&mj a.Parties (bP plan x.Product).Country):=by cases (a.Kind == 3) <;> rfl
    have e2:∀ {β:Type} (K:Bool→Option β),(∀ b c,((a.Kind == 3)&&b)=((a.Kind == 3)&&c)→K b=K c)→Option.bind (gd (a.Kind == 3) (some (mj a.Parties (bP plan x.Product).Country))) K=K (mj a.Parties (bP plan x.Product).Country):=by
      intro β K hK
      cases hk3:(a.Kind == 3)
      · show K default=_;exact hK _ _ (by rw [hk3];rfl)
      rfl
    rw [e2 _ (fun b c hbc=>by simp only [hbc])]
    generalize hF:((a.Kind == 3)&&mj a.Parties (bP plan x.Product).Country)=F
    have e3:(cond F (Option.bind (j6 l12 (bP plan x.Product).Processes) (fun x38=>some x38)) (some l12))=some (cond F (nR l12 (bP plan x.Product).Processes) l12):=by
      cases F
      · rfl
      rw [bL,BW _ _ (by have:=Gv hq2.proc;omega)];rfl
    simp only [e3,bc,ze,len0]
    cases hc:((gf ps S (bP plan x.Product) x.Value).2.isSome || !F||(bP plan x.Product).Inputs.isEmpty)
    · simp only [bv]
      refine (congrArg (fun o=>Option.bind o _) (cB (l:=(bP plan x.Product).Inputs) (by omega) (fun i (s:List Ze)=>(s,i)) (fun s y=>s++[A9 (gf ps S (bP plan y.Product) (ee x.Value y.Value (bP plan x.Product).Price))]) (fun s=>s) (fun j s=>s.length≤8*k+j) l9 h1 (fun j hj s hs=>⟨?_,by simp;omega⟩) (fun s _=>by simp only [cN,bv])).1).trans ?_
      rotate_left
      · simp only [bc]
        have hfl:∀ (ys:List Zi) (acc:List Ze),ys.foldl (fun s y=>s++[A9 (gf ps S (bP plan y.Product) (ee x.Value y.Value (bP plan x.Product).Price))]) acc=acc++(ys.map fun y=>gf ps S (bP plan y.Product) (ee x.Value y.Value (bP plan x.Product).Price)).map A9:=by
          intro ys
          induction ys with
          | nil=>intro acc;simp
          | cons y ys ih=>intro acc;rw [List.foldl_cons,ih];simp
        rw [hfl]
      obtain ⟨hy1,hy2,hy3⟩:=hq2.inp _ (List.getElem_mem hj)
      simp only [gY hj,bL,aQ hj,bc,bM hj (show (bP plan x.Product).Inputs.length≤4611686018427387904 by omega),sL hv]
      rw [zd ⟨hv0,hv1⟩ ⟨hy2,hy3⟩ hq2.price,bc,xW ps m S hm hps,bc,df (by simp;omega) (by simp;omega)];rfl
    simp only [bL]
    rw [df (by simp;omega) (by simp;omega)];rfl
  dsimp only
  have hfold:∀ (xs:List Zi) (s:List Ze×List ByteArray),xs.foldl (fun s x=>(s.1++(f9 plan a ps S x).map A9,lU plan a s.2 x)) s=(s.1++(xs.flatMap (f9 plan a ps S)).map A9,xs.foldl (lU plan a) s.2):=by
    intro xs
    induction xs with
    | nil=>intro s;simp
    | cons x xs ih=>intro s;rw [List.foldl_cons,ih,List.flatMap_cons];simp
  rw [hfold]
  dsimp only
  rw [uP _ _ (by omega),bc];rfl
theorem ou {p:List Zc} {l:List Zb} {i:ByteArray} {c:Za} (h:jk p l i c=true):∃ q a r,co p c.Product=some q∧ka l c.Agreement=some a∧dw a q.Code=some r∧q.Country≠i∧yX a q.Country i=true:=by
 unfold jk at h
 split at h
 ·rename_i q a e1 e2
  simp only [Bool.and_eq_true,Bool.not_eq_true',decide_eq_false_iff_not] at h
  obtain ⟨⟨h1,h2⟩,h3⟩:=h
  obtain ⟨r,hr⟩:=Option.isSome_iff_exists.1 h3
  exact ⟨q,a,r,e1,e2,hr,h1,h2⟩
 cases h
theorem pu {plan:List Zc} (hv:VPs plan) (a:Zb) (ps:List Int) (S:CSet) {p:Zc} (hp:VProd plan p):(fp plan a ps S p).length≤64:=by
 unfold fp
 have key:∀ xs:List Zi,(∀ x∈xs,(co plan x.Product).isSome=true)→(xs.flatMap (f9 plan a ps S)).length≤8*xs.length:=by
  intro xs
  induction xs with
  | nil=>intro _;simp
  | cons x xs ih =>
   intro h
   rw [List.flatMap_cons,List.length_append,List.length_cons]
   have h1:=qH hv a ps S x (h x (by simp));have h2:=ih fun y hy=>h y (by simp [hy]);omega
 have h1:=key p.Inputs fun x hx=>(hp.inp x hx).1
 have h2:=hp.few
 omega
theorem xY {plan:List Zc} {l:List Zb} (hv:VPs plan) (hl:VAs l) (imp:ByteArray) (c:Za) (set:List Za) (hs:set.length≤140737488355328):fm plan l imp c set=some (uh plan l imp c (aZ set)):=by
 unfold fm uh
 have hlen:=hl.len
 rw [wm _ _ _ _ hv.sorted hl,bc]
 cases had:jk plan l imp c
 ·rfl
 obtain ⟨q,a,r,e1,e2,_,_,_⟩:=ou had
 have hq:VProd plan (bP plan c.Product):=(kH hv (by rw [e1];rfl)).2.1
 have ha:kN l c.Agreement=a:=by unfold kN;rw [e2];rfl
 have hva:=(nq hl e2).1
 simp only [Bool.not_true,bv,bL]
 rw [sL hv,bc,rV _ _ (by omega),e2,bc,xg _ _ _ _ hl,bc]
 have hpl:=sH l c.Agreement (bP plan c.Product).Country imp
 unfold pF ot
 rw [ha]
 generalize hps:eW l c.Agreement (bP plan c.Product).Country imp=ps at *
 refine (cB (l:=set) (by omega) (fun i (m:List (Za×Bool))=>(i,m)) (fun m x=>qb m x true) (fun m=>m) (fun _ _=>True) [] trivial (fun k hk m _=>⟨?_,trivial⟩) (fun m _=>by simp only [cN,bv])).1.trans ?_
 ·simp only [gY hk,bL,aQ hk,bc,bM hk (show set.length≤4611686018427387904 by omega)]
 rw [D6 hv (gW DZ (some a)).1 hva.ok.par.1 hq ps (by omega) _ (aZ set) (fun c=>Gt set c),bc]
 dsimp +instances only [gW]
 have hsl:=pu hv a ps (aZ set) hq
 refine (cB (l:=(fp plan a ps (aZ set) (bP plan c.Product)).map A9) (by rw [List.length_map];omega) (fun i (s:List Za×List Zk)=>(s.1,i,s.2)) (fun s x=>(cond x.is_proved_ (s.1++[x.as_proved_.premise]) s.1,s.2++[match x with | .plain_ y=>y.use | .proved_ y=>y.use])) (fun s=>s) (fun k s=>s.1.length≤k∧s.2.length≤k) ([],[]) ⟨by simp,by simp⟩ (fun k hk s hs=>⟨?_,?_⟩) (fun s _=>by simp only [cN,bv])).1.trans ?_
 ·have hk2:k<64:=by rw [List.length_map] at hk;omega
  have ei:∀ x:Ze,Icumulation_supply_input x=some (match x with | .plain_ y=>y.use | .proved_ y=>y.use):=fun x=>by cases x <;> rfl
  simp only [gY hk,bL,aQ hk,bc,bM hk (show ((fp plan a ps (aZ set) (bP plan c.Product)).map A9).length≤4611686018427387904 by rw [List.length_map];omega),ei]
  rw [df (by simp;omega) (by simp;omega),bc,df (by simp;omega) (by simp;omega)]
  cases ((fp plan a ps (aZ set) (bP plan c.Product)).map A9)[k].is_proved_ <;> rfl
 ·obtain ⟨h1,h2⟩:=hs
  cases ((fp plan a ps (aZ set) (bP plan c.Product)).map A9)[k].is_proved_ <;> simp <;> omega
 have key:∀ (xs:List (Zk×Option Za)) (s:List Za×List Zk),(xs.map A9).foldl (fun s x=>(cond x.is_proved_ (s.1++[x.as_proved_.premise]) s.1,s.2++[match x with | .plain_ y=>y.use | .proved_ y=>y.use])) s=(s.1++xs.filterMap (·.2),s.2++xs.map (·.1)):=by
  intro xs
  induction xs with
  | nil=>intro s;simp
  | cons x xs ih =>
   intro s
   obtain ⟨i,o⟩:=x
   rw [List.map_cons,List.foldl_cons,ih]
   cases o with
   | none=>simp [A9,Ze.is_proved_]
   | some c=>simp [A9,Ze.is_proved_,Ze.as_proved_]
 rw [key]
 simp only [List.nil_append]
 show Option.bind (some (lH bu _)) _=_
 rw [bc,Gn _ (by rw [om];have:=List.length_filterMap_le (fun x:Zk×Option Za=>x.2) (fp plan a ps (aZ set) (bP plan c.Product));omega)];rfl
theorem AI {plan:List Zc} {l:List Zb} (hv:VPs plan) (hl:VAs l) (imp:ByteArray) (c:Za) (set:List Za) (hs:set.length≤140737488355328):fB plan l imp c set=some (uh plan l imp c (aZ set)):=by
 unfold fB uh
 have hlen:=hl.len
 rw [yY _ _ _ _ (by have:=hv.len;omega) hl,bc]
 cases had:jk plan l imp c
 ·rfl
 obtain ⟨q,a,r,e1,e2,_,_,_⟩:=ou had
 have hq:VProd plan (bP plan c.Product):=(kH hv (by rw [e1];rfl)).2.1
 have ha:kN l c.Agreement=a:=by unfold kN;rw [e2];rfl
 have hva:=(nq hl e2).1
 simp only [Bool.not_true,bv,bL]
 rw [tG hv,bc,qX _ _ (by omega),e2,bc,yZ _ _ _ _ hl,bc]
 have hpl:=sH l c.Agreement (bP plan c.Product).Country imp
 unfold pF ot
 rw [ha]
 simp only [gW]
 generalize hps:eW l c.Agreement (bP plan c.Product).Country imp=ps at *
 have hpr:=Gv hq.proc
 have hfew:=hq.few
 generalize bP plan c.Product=p at *
 have hps2:ps.length≤140737488355328:=by omega
 refine (cB (l:=p.Inputs) (by omega) (fun i (s:List Za×List ByteArray×List Zk)=>(s.1,s.2.1,i,s.2.2)) (fun s x=>(((f9 plan a ps (aZ set) x).filterMap (·.2)).foldl (iD bu) s.1,lU plan a s.2.1 x,s.2.2++(f9 plan a ps (aZ set) x).map (·.1))) (fun s=>s) (fun k s=>s.1.length≤8*k∧s.2.1.length≤8+8*k∧s.2.2.length≤8*k) ([],p.Processes,[]) ⟨by simp,by simpa using hpr,by simp⟩ (fun k hk s hs=>?_) (fun s _=>by simp only [cN,bv])).1.trans ?_
 ·obtain ⟨l13,l14,l17⟩:=s
  obtain ⟨h1,h2,h3⟩:=hs
  dsimp only at h1 h2 h3 ⊢
  obtain ⟨hin,hv0,hv1⟩:=hq.inp _ (List.getElem_mem hk)
  obtain ⟨hq1,hq2,hq3⟩:=kH hv hin
  have hql:=hq2.few
  have hsl:=qH hv a ps (aZ set) p.Inputs[k] hin
  have hins:∀ (cs:List Za) (u:List Za),(cs.foldl (iD bu) u).length≤u.length+cs.length:=by
   intro cs
   induction cs with
   | nil=>intro u;simp
   | cons c cs ih=>intro u;rw [List.foldl_cons,List.length_cons];have h1:=ih (iD bu u c);have h2:=lT (lt:=bu) u c;omega
  refine ⟨?_,?_,by have:=xX hv a l14 p.Inputs[k] hin;omega,by simp;omega⟩
  rotate_left
  ·have g1:=hins ((f9 plan a ps (aZ set) p.Inputs[k]).filterMap (·.2)) l13
   have g2:=List.length_filterMap_le (fun x:Zk×Option Za=>x.2) (f9 plan a ps (aZ set) p.Inputs[k])
   omega
  simp only [gY hk,bL,aQ hk,bc,bM hk (show p.Inputs.length≤4611686018427387904 by omega),tG hv]
  generalize hx:p.Inputs[k]=x at *
  have hset:set.length≤140737488355328:=hs
  have htk:=Gu ps set hps2 hset
  rw [qW _ _ hva.ok.par.1,(htk (bP plan x.Product) x.Value).1]
  unfold f9 lU ug
  have e2:∀ {β:Type} (K:Bool→Option β),(∀ b c,((a.Kind == 3)&&b)=((a.Kind == 3)&&c)→K b=K c)→Option.bind (gd (a.Kind == 3) (some (mj a.Parties (bP plan x.Product).Country))) K=K (mj a.Parties (bP plan x.Product).Country):=by
   intro β K hK
   cases hk3:(a.Kind == 3)
   ·show K default=_;exact hK _ _ (by rw [hk3];rfl)
   rfl
  rw [e2 _ (fun b c hbc=>by simp only [hbc])]
  generalize hF:((a.Kind == 3)&&mj a.Parties (bP plan x.Product).Country)=F
  have e3:(cond F (Option.bind (jW l14 (bP plan x.Product).Processes) (fun x38=>some x38)) (some l14))=some (cond F (nR l14 (bP plan x.Product).Processes) l14):=by
   cases F
   ·rfl
   rw [bL,D2 _ _ (by have:=Gv hq2.proc;omega)];rfl
  have e4:∀ (o:Option Za) (u:List Za),u.length≤1000000→(cond o.isSome (Option.bind (eU u (gW B2 o).1) (fun x53=>some x53)) (some u))=some (match o with | some c=>iD bu u c | none=>u):=by
   intro o u hu
   cases o with
   | none=>rfl
   | some c=>show Option.bind (eU u c) _=_;rw [tE _ _ (by omega)];rfl
  have e5:∀ o:Option Za,(gW B2 o).2=o.isSome:=fun o=>by cases o <;> rfl
  simp only [e3,bc,e5]
  simp only [e4 _ l13 (show l13.length≤1000000 by omega),bc,len0]
  have t1:=(htk (bP plan x.Product) x.Value).2
  generalize htt:gf ps (aZ set) (bP plan x.Product) x.Value=tt at *
  obtain ⟨ti,to⟩:=tt
  dsimp only at t1 ⊢
  cases hc:(to.isSome || !F||(bP plan x.Product).Inputs.isEmpty)
  ·have hto:to=none:=by cases to with | none=>rfl | some c=>simp at hc
   subst hto
   simp only [bv]
   refine (congrArg (fun o=>Option.bind o _) (cB (l:=(bP plan x.Product).Inputs) (by omega) (fun i (s:List Za×List Zk)=>(s.1,i,s.2)) (fun s y=>((match (gf ps (aZ set) (bP plan y.Product) (ee x.Value y.Value (bP plan x.Product).Price)).2 with | some c=>iD bu s.1 c | none=>s.1),s.2++[(gf ps (aZ set) (bP plan y.Product) (ee x.Value y.Value (bP plan x.Product).Price)).1])) (fun s=>s) (fun j s=>s.1.length≤8*k+j∧s.2.length≤8*k+j) (l13,l17) ⟨h1,h3⟩ (fun j hj s hs=>⟨?_,?_⟩) (fun s _=>by simp only [cN,bv])).1).trans ?_
   ·obtain ⟨hy1,hy2,hy3⟩:=hq2.inp _ (List.getElem_mem hj)
    simp only [gY hj,bL,aQ hj,bc,bM hj (show (bP plan x.Product).Inputs.length≤4611686018427387904 by omega)]
    rw [AH ⟨hv0,hv1⟩ ⟨hy2,hy3⟩ hq2.price,(htk (bP plan ((bP plan x.Product).Inputs[j]).Product) (ee x.Value ((bP plan x.Product).Inputs[j]).Value (bP plan x.Product).Price)).1,bc,e5,e4 _ s.1 (by omega),bc,← (htk (bP plan ((bP plan x.Product).Inputs[j]).Product) (ee x.Value ((bP plan x.Product).Inputs[j]).Value (bP plan x.Product).Price)).2,df (by simp;omega) (by simp;omega)];rfl
   ·refine ⟨?_,by simp;omega⟩
    dsimp only
    split
    ·rename_i c' _;have:=lT (lt:=bu) s.1 c';omega
    omega
   have hfl:∀ (ys:List Zi) (s:List Za×List Zk),ys.foldl (fun s y=>((match (gf ps (aZ set) (bP plan y.Product) (ee x.Value y.Value (bP plan x.Product).Price)).2 with | some c=>iD bu s.1 c | none=>s.1),s.2++[(gf ps (aZ set) (bP plan y.Product) (ee x.Value y.Value (bP plan x.Product).Price)).1])) s=(((ys.map fun y=>gf ps (aZ set) (bP plan y.Product) (ee x.Value y.Value (bP plan x.Product).Price)).filterMap (·.2)).foldl (iD bu) s.1,s.2++(ys.map fun y=>gf ps (aZ set) (bP plan y.Product) (ee x.Value y.Value (bP plan x.Product).Price)).map (·.1)):=by
    intro ys
    induction ys with
    | nil=>intro s;simp
    | cons y ys ih =>
     intro s
     rw [List.foldl_cons,ih,List.map_cons]
     cases h:(gf ps (aZ set) (bP plan y.Product) (ee x.Value y.Value (bP plan x.Product).Price)).2 with
     | none=>simp [h]
     | some c=>simp [h]
   simp only [bc,hfl]
  simp only [bL]
  rw [df (by simp;omega) (by simp;omega),← t1]
  cases to <;> rfl
 have hfold:∀ (xs:List Zi) (s:List Za×List ByteArray×List Zk),xs.foldl (fun s x=>(((f9 plan a ps (aZ set) x).filterMap (·.2)).foldl (iD bu) s.1,lU plan a s.2.1 x,s.2.2++(f9 plan a ps (aZ set) x).map (·.1))) s=(((xs.flatMap (f9 plan a ps (aZ set))).filterMap (·.2)).foldl (iD bu) s.1,xs.foldl (lU plan a) s.2.1,s.2.2++(xs.flatMap (f9 plan a ps (aZ set))).map (·.1)):=by
  intro xs
  induction xs with
  | nil=>intro s;simp
  | cons x xs ih=>intro s;rw [List.foldl_cons,ih,List.flatMap_cons];simp
 rw [hfold]
 dsimp only
 rw [uP _ _ (by omega),bc,ue ordC,List.nil_append];rfl
theorem C6_ctry {s:ByteArray} (h:s∈C6):mL s=true:=List.all_eq_true.1 C6_ok.1 s h
theorem W5_words {l:List ByteArray} (h:l.Sublist W5):ig l=true:=by
 unfold ig
 have h1:=h.length_le
 have h5:W5.length=5:=rfl
 simp only [Bool.and_eq_true,decide_eq_true_eq]
 exact ⟨by omega,List.all_eq_true.2 fun s hs=>List.all_eq_true.1 W5_ok.1 s (h.subset hs),(lS _).2 (List.Pairwise.sublist h ((lS _).1 W5_ok.2.1))⟩
theorem MPs.found {l:List Zc} (h:MPs l) {k:Nat} (hk:k<l.length):(co l (3*((k:Int)+1))).isSome=true:=by
 unfold co
 rw [List.find?_isSome]
 exact ⟨l[k],List.getElem_mem hk,by have:=(h.all k _ (List.getElem?_eq_getElem hk)).id;simpa using this⟩
theorem MPs.vps {l:List Zc} (h:MPs l):VPs l:=by
 refine ⟨by have:=h.len;omega,h.sorted.asc,fun p hp=>?_⟩
 obtain ⟨i,hi,rfl⟩:=List.getElem_of_mem hp
 have hm:=h.all i _ (List.getElem?_eq_getElem hi)
 refine ⟨by have:=hm.price;omega,by have:=hm.lvl.1;omega,C6_ctry hm.ctr,W5_words hm.proc,by have:=hm.few;omega,hm.asc,fun x hx=>?_,hm.obt⟩
 obtain ⟨⟨k,hk,e⟩,h1,h2⟩:=hm.inp x hx
 exact ⟨by rw [e];exact h.found hk,h1,by omega⟩
theorem Gw (ps:List Int) (S:CSet) (q:Zc) (v:Int):(gf ps S q v).1.Code=q.Code∧(gf ps S q v).1.Value=v∧(gf ps S q v).1.Originating=(gf ps S q v).2.isSome:=by
 unfold gf;split <;> exact ⟨rfl,rfl,rfl⟩
theorem B4 {plan:List Zc} (hv:VPs plan) (a:Zb) (ps:List Int) (S:CSet) {p:Zc} (hp:VProd plan p) (P:Zk×Option Za→Prop) (h:∀ q∈plan,∀ v,0≤v→v≤1000000000000→P (gf ps S q v)):∀ t∈fp plan a ps S p,P t:=by
 intro t ht
 unfold fp at ht
 obtain ⟨x,hx,ht⟩:=List.mem_flatMap.1 ht
 obtain ⟨h1,h2,h3⟩:=hp.inp x hx
 obtain ⟨hq1,hq2,_⟩:=kH hv h1
 unfold f9 at ht
 cases hc:((gf ps S (bP plan x.Product) x.Value).2.isSome || !ug a (bP plan x.Product)||(bP plan x.Product).Inputs.isEmpty)
 ·rw [hc,bv] at ht
  obtain ⟨y,hy,rfl⟩:=List.mem_map.1 ht
  obtain ⟨g1,g2,g3⟩:=hq2.inp y hy
  have hr:=wq h2 g2 hq2.price.1
  exact h _ (kH hv g1).1 _ hr.1 hr.2
 rw [hc,bL] at ht
 rw [List.mem_singleton.1 ht]
 exact h _ hq1 _ h2 h3
theorem AJ {a b:List ByteArray} (ha:∀ s∈a,hU s=true) (hb:∀ s∈b,hU s=true):(∀ s∈nR a b,hU s=true)∧Strict i7 (nR a b):=by
 refine ⟨fun s hs=>?_,tD BV _⟩
 have:=(Gk (lt:=i7) (a++b) s).1 hs
 rcases List.mem_append.1 this with h | h
 ·exact ha s h
 exact hb s h
theorem wr {plan:List Zc} (hv:VPs plan) (a:Zb):∀ (xs:List Zi) (acc:List ByteArray),(∀ x∈xs,(co plan x.Product).isSome=true)→(∀ s∈acc,hU s=true)→Strict i7 acc→(∀ s∈xs.foldl (lU plan a) acc,hU s=true)∧Strict i7 (xs.foldl (lU plan a) acc)
 | [],acc,_,h1,h2=>⟨h1,h2⟩
 | x::xs,acc,h,h1,h2=>by
  have hx:=kH hv (h x (by simp))
  rw [List.foldl_cons]
  have:(∀ s∈lU plan a acc x,hU s=true)∧Strict i7 (lU plan a acc x):=by
   unfold lU
   cases ug a (bP plan x.Product)
   ·exact ⟨h1,h2⟩
   exact AJ h1 (kG hx.2.1.proc).2.1
  exact wr hv a xs _ (fun y hy=>h y (by simp [hy])) this.1 this.2
theorem wv {s:ByteArray} (h:hU s=true):s.size≤12:=by
 unfold hU at h;simp only [Bool.and_eq_true,decide_eq_true_eq] at h;omega
theorem B5 {l:List ByteArray} (h1:∀ s∈l,hU s=true) (h2:Strict i7 l):ig (l.take 8)=true∧StrsOk (l.take 8):=by
 refine ⟨?_,by rw [List.length_take];omega,fun s hs=>by have:=wv (h1 s (List.mem_of_mem_take hs));omega⟩
 unfold ig
 simp only [Bool.and_eq_true,decide_eq_true_eq]
 exact ⟨by rw [List.length_take];omega,List.all_eq_true.2 fun s hs=>h1 s (List.mem_of_mem_take hs),(lS _).2 (List.Pairwise.sublist (List.take_sublist _ _) h2)⟩
structure VCase (x:Zl):Prop where
 lvl:6≤cQ x.Code
 price:1≤x.Price∧x.Price≤1000000000000
 proc:ig x.Processes=true∧StrsOk x.Processes
 few:x.Inputs.length≤100
 inp:∀ y∈x.Inputs,6≤cQ y.Code∧0≤y.Value∧y.Value≤1000000000000
theorem px {plan:List Zc} {l:List Zb} (hv:VPs plan) (imp:ByteArray) (c:Za) (S:CSet) (h:(co plan c.Product).isSome=true):VCase (pF plan l imp c S):=by
 obtain ⟨hq1,hq,_⟩:=kH hv h
 obtain ⟨w1,w2,w3⟩:=kG hq.proc
 have hw:=wr hv (kN l c.Agreement) (bP plan c.Product).Inputs _ (fun x hx=>(hq.inp x hx).1) w2 w3
 refine ⟨hq.lvl,hq.price,B5 hw.1 hw.2,?_,?_⟩
 ·unfold pF;dsimp only;rw [List.length_map];have:=pu hv (kN l c.Agreement) (eW l c.Agreement (bP plan c.Product).Country imp) S hq;omega
 unfold pF;dsimp only
 intro y hy
 obtain ⟨t,ht,rfl⟩:=List.mem_map.1 hy
 refine B4 hv _ _ S hq (fun t=>6≤cQ t.1.Code∧0≤t.1.Value∧t.1.Value≤1000000000000) (fun q hqp v h1 h2=>?_) t ht
 obtain ⟨g1,g2,_⟩:=Gw (eW l c.Agreement (bP plan c.Product).Country imp) S q v
 rw [g1,g2];exact ⟨(hv.all q hqp).lvl,h1,h2⟩
theorem qI {x:Zl} (h:VCase x):gC x=some 0:=by
 unfold gC i9
 have hl:=h.few
 show Option.bind (some (decide (6≤cQ x.Code))) _=_
 rw [det h.lvl,bc]
 simp only [Bool.not_true,bv]
 rw [cb (by have:=h.price;omega),cb (by have:=h.price;omega),Bool.or_self,bv,rU _ h.proc.2,h.proc.1,bc]
 simp only [Bool.not_true,bv]
 rw [cb (by omega),bv]
 refine (bD (l:=x.Inputs) (by omega) (fun _ _=>none) (.inl ()) (fun k hk=>?_) (by simp only [cN,bv])).trans ?_
 ·have hy:=h.inp _ (List.getElem_mem hk)
  simp only [gY hk,bL,aQ hk,bc,bM hk (show x.Inputs.length≤4611686018427387904 by omega)]
  show Option.bind (Option.bind (some (cQ x.Inputs[k].Code)) _) _=_
  rw [bc,det hy.1,bc,cb (by omega),cb (by omega)];rfl
 have:∀ (m:List Zk) (i:Nat),bT (fun (_:Nat) (_:Zk)=>(none:Option (Unit⊕Int))) m i=none:=by
  intro m
  induction m with
  | nil=>intro i;rfl
  | cons x m ih=>intro i;exact ih _
 rw [this];rfl
theorem Gx {plan:List Zc} {l:List Zb} (hv:VPs plan) (imp:ByteArray) (c:Za) (S:CSet) (h:(co plan c.Product).isSome=true):(ot plan l imp c S).length≤64:=by
 obtain ⟨hq1,hq,_⟩:=kH hv h
 unfold ot
 have h1:=Gl (lt:=bu) ((fp plan (kN l c.Agreement) (eW l c.Agreement (bP plan c.Product).Country imp) S (bP plan c.Product)).filterMap (·.2))
 have h2:=List.length_filterMap_le (fun x:Zk×Option Za=>x.2) (fp plan (kN l c.Agreement) (eW l c.Agreement (bP plan c.Product).Country imp) S (bP plan c.Product))
 have h3:=pu hv (kN l c.Agreement) (eW l c.Agreement (bP plan c.Product).Country imp) S hq
 omega
theorem ow {p:List Zc} {l:List Zb} {i:ByteArray} {c:Za} (h:jk p l i c=true):(co p c.Product).isSome=true:=by
 obtain ⟨q,a,r,e,_⟩:=ou h;rw [e];rfl
def xw (n:Int):Zo:=⟨n / 18446744073709551616,n % 18446744073709551616⟩
def U128 (n:Int):Prop:=0≤n∧n<340282366920938463463374607431768211456
theorem xw_of {w:Zo} (h:XW w):w=xw (xv w)∧U128 (xv w):=by
 obtain ⟨a,b⟩:=w
 unfold XW U64 at h;unfold xw xv U128;dsimp only at *
 refine ⟨?_,by omega⟩
 congr 1 <;> omega
theorem xmul {a b:Int} (ha:U64 a) (hb:U64 b):jV a b=some (xw (a*b))∧U128 (a*b):=by
 obtain ⟨w,e1,e2,e3⟩:=xU ha hb
 have:=xw_of e2
 rw [e3] at this
 rw [e1];exact ⟨congrArg some this.1,this.2⟩
theorem xcmp {a b:Int} (ha:U128 a) (hb:U128 b):gB (xw a) (xw b)=some (if a<b then -1 else if a=b then 0 else 1):=by
 unfold U128 at *
 unfold gB xw Zo.eqb
 dsimp only
 by_cases h:a<b
 ·have:((decide (a / 18446744073709551616<b / 18446744073709551616))||((a / 18446744073709551616 == b / 18446744073709551616)&&(decide (a % 18446744073709551616<b % 18446744073709551616))))=true:=by
   simp only [Bool.or_eq_true,Bool.and_eq_true,decide_eq_true_eq,beq_iff_eq];omega
  rw [this,if_pos h];rfl
 ·have:((decide (a / 18446744073709551616<b / 18446744073709551616))||((a / 18446744073709551616 == b / 18446744073709551616)&&(decide (a % 18446744073709551616<b % 18446744073709551616))))=false:=by
   simp only [Bool.or_eq_false_iff,Bool.and_eq_false_iff,decide_eq_false_iff_not,beq_eq_false_iff_ne];omega
  rw [this,if_neg h]
  simp only [bv]
  by_cases h2:a=b
  ·subst h2;simp
  rw [if_neg h2]
  have:((a / 18446744073709551616 == b / 18446744073709551616)&&(a % 18446744073709551616 == b % 18446744073709551616))=false:=by
   simp only [Bool.and_eq_false_iff,beq_eq_false_iff_ne];omega
  simp [this]
theorem ui {v s p:Int} (hv:0≤v∧v≤100000000000000) (hs:0≤s∧s≤1000000) (hp:0≤p∧p≤1000000000000):j0 v s p=some (decide (v*1000000≤s*p)):=by
 unfold j0
 rw [fG (a:=v) ⟨by omega,by omega⟩,fG (a:=s) ⟨by omega,by omega⟩,fG (a:=p) ⟨by omega,by omega⟩]
 obtain ⟨e1,u1⟩:=xmul (a:=v) (b:=1000000) ⟨by omega,by omega⟩ ⟨by omega,by omega⟩
 obtain ⟨e2,u2⟩:=xmul (a:=s) (b:=p) ⟨by omega,by omega⟩ ⟨by omega,by omega⟩
 rw [e1,bc,e2,bc,xcmp u1 u2,bc]
 congr 1
 by_cases h:v*1000000<s*p
 ·rw [if_pos h,det (by omega),det (by omega)]
 rw [if_neg h]
 by_cases h2:v*1000000=s*p
 ·rw [if_pos h2,det (by omega),det (by omega)]
 rw [if_neg h2,cb (by omega),cb (by omega)]
def qJ (r:Zd) (code inp:ByteArray):Bool:=iC inp (code.extract 0 r.Digits.toNat)||r.Except.any fun x=>iC inp x
theorem Gy (l:List ByteArray) (s:ByteArray) (hl:l.length≤140737488355328):cw l (fun y=>gp y s)=some (l.any fun x=>iC s x):=by
 unfold cw
 have e:cH l (fun y=>gp y s)=some (match bT (fun k x=>cond (iC s x) (some (Sum.inr (k:Int):Unit⊕Int)) none) l 0 with | some (.inr k)=>k | _ => -1):=by
  unfold cH
  refine (bD (l:=l) (by omega) (fun k x=>cond (iC s x) (some (.inr (k:Int))) none) (.inl ()) (fun k hk=>?_) (by simp only [cN,bv])).trans ?_
  ·simp only [gY hk,bL,aQ hk,bc,bM hk (show l.length≤4611686018427387904 by omega)]
   unfold gp
   rw [tB,bc,bc];cases iC s l[k] <;> rfl
  cases bT (fun k x=>cond (iC s x) (some (Sum.inr (k:Int):Unit⊕Int)) none) l 0 with
  | none=>rfl
  | some t=>cases t <;> rfl
 rw [e,bc]
 rcases qB (fun x=>iC s x) (fun k=>(Sum.inr (k:Int):Unit⊕Int)) l 0 with ⟨h1,h2⟩ | ⟨j,hj,h1,h2⟩
 ·rw [h1]
  have:(l.any fun x=>iC s x)=false:=by rw [List.any_eq_false];exact fun x hx=>by have:=List.find?_eq_none.1 h2 x hx;simpa using this
  rw [this];rfl
 rw [h1]
 have:(l.any fun x=>iC s x)=true:=by
  rw [List.any_eq_true];exact ⟨_,List.getElem_mem hj,List.find?_some h2⟩
 rw [this]
 show some (decide (0≤((0+j:Nat):Int)))=_
 rw [det (by omega)]
theorem rW {s:ByteArray} (h:6≤cQ s):6≤s.size:=by
 unfold cQ at h
 split at h
 ·omega
 omega
theorem xh {r:Zd} {code:ByteArray} (hd:r.Digits=2∨r.Digits=4∨r.Digits=6) (he:r.Except.length≤6) (hc:6≤cQ code) (inp:ByteArray):iM r code inp=some (qJ r code inp):=by
 unfold iM qJ
 have hs:=rW hc
 have e:ko code 0 r.Digits=some (code.extract 0 r.Digits.toNat):=by
  unfold ko;rw [if_pos (by omega)];rfl
 rw [e,bc,tB,bc]
 cases iC inp (code.extract 0 r.Digits.toNat)
 ·simp only [bv,Bool.false_or];rw [Gy _ _ (by omega),bc]
 rfl
def wS (f:Zk→Int):List Zk→Int
 | []=>0
 | i::l=>cond i.Originating 0 (f i)+wS f l
def fV (i:Zk):Int:=i.Value
def fW (r:Zd) (code:ByteArray) (i:Zk):Int:=cond (qJ r code i.Code) i.Value 0
def fN (_:Zk):Int:=1
def jK (r:Zd) (x:Zl):Bool :=
 cond (r.Kind == 1) (x.Obtained&&(wS fN x.Inputs == 0)) (cond (r.Kind == 2) (decide (wS (fW r x.Code) x.Inputs*1000000≤r.Tolerance*x.Price)) (cond (r.Kind == 3) (decide (wS fV x.Inputs*1000000≤r.Limit*x.Price)) (cond (r.Kind == 4) (mj x.Processes r.Name) false)))
theorem qK {f:Zk→Int} {b:Int} (hb:0≤b):∀ {l:List Zk},(∀ i∈l,0≤f i∧f i≤b)→0≤wS f l∧wS f l≤l.length*b
 | [],_=>by simp [wS]
 | i::l,h=>by
  have h1:=qK hb (l:=l) fun j hj=>h j (by simp [hj])
  have h2:=h i (by simp)
  rw [wS,List.length_cons]
  have e:((l.length+1:Nat):Int)*b=l.length*b+b:=by rw [Int.natCast_add,Int.add_mul];simp
  rw [e]
  cases i.Originating
  ·simp only [bv];omega
  simp only [bL];omega
theorem prog_holds {r:Zd} {x:Zl} (hx:VCase x) (hr:dG r=true):rule_holds r x=some (jK r x):=by
 unfold rule_holds
 have hfew:=hx.few
 have hrl:=j9 hr
 have hvi:r.Kind=2→∀ i,iM r x.Code i=some (qJ r x.Code i):=by
  intro hk i
  have hl:=hr
  rw [gV,hk] at hl
  simp only [j7,hk,Bool.and_eq_true] at hl
  have h3:=hl.2
  simp at h3
  exact xh (by omega) hrl.2.2 hx.lvl i
 refine (cB (l:=x.Inputs) (by omega) (fun i (s:Int×Int×Int)=>(s.1,s.2.1,s.2.2,i)) (fun s i=>(s.1+cond i.Originating 0 (fV i),s.2.1+cond i.Originating 0 (cond (r.Kind == 2) (fW r x.Code i) 0),s.2.2+cond i.Originating 0 (fN i))) (fun s=>s) (fun k s=>(0≤s.1∧s.1≤k*1000000000000)∧(0≤s.2.1∧s.2.1≤k*1000000000000)∧(0≤s.2.2∧s.2.2≤k)) (0,0,0) ⟨by simp,by simp,by simp⟩ (fun k hk s hs=>?_) (fun s _=>by simp only [cN,bv])).1.trans ?_
 ·obtain ⟨a,b,c⟩:=s
  obtain ⟨s1,s2,s3⟩:=hs
  dsimp only at s1 s2 s3 ⊢
  have hi:=hx.inp _ (List.getElem_mem hk)
  have hk100:k<100:=by omega
  simp only [gY hk,bL,aQ hk,bc,bM hk (show x.Inputs.length≤4611686018427387904 by omega)]
  generalize x.Inputs[k]=i at hi
  unfold fV fN fW
  cases i.Originating
  ·simp only [bv]
   cases hk2:(r.Kind == 2)
   ·simp only [iO,bc,Bool.false_and,bv]
    rw [cM (r:=a+i.Value) (by omega) (by omega),cM (r:=c+1) (by omega) (by omega)]
    refine ⟨by simp,⟨by omega,by omega⟩,⟨by omega,by omega⟩,by omega,by omega⟩
   rw [cu,hvi (eq_of_beq hk2),bc]
   cases qJ r x.Code i.Code
   ·simp only [Bool.and_false,bv,bc,bL]
    rw [cM (r:=a+i.Value) (by omega) (by omega),cM (r:=c+1) (by omega) (by omega)]
    refine ⟨by simp,⟨by omega,by omega⟩,⟨by omega,by omega⟩,by omega,by omega⟩
   simp only [Bool.and_self,bL,bc]
   rw [cM (r:=a+i.Value) (by omega) (by omega),cM (r:=c+1) (by omega) (by omega),cM (r:=b+i.Value) (by omega) (by omega)]
   refine ⟨rfl,⟨by omega,by omega⟩,⟨by omega,by omega⟩,by omega,by omega⟩
  simp only [bL,bc,Int.add_zero]
  refine ⟨trivial,⟨by omega,by omega⟩,⟨by omega,by omega⟩,by omega,by omega⟩
 have key:∀ (l:List Zk) (a b c:Int),l.foldl (fun (s:Int×Int×Int) i=>(s.1+cond i.Originating 0 (fV i),s.2.1+cond i.Originating 0 (cond (r.Kind == 2) (fW r x.Code i) 0),s.2.2+cond i.Originating 0 (fN i))) (a,b,c)=(a+wS fV l,b+wS (fun i=>cond (r.Kind == 2) (fW r x.Code i) 0) l,c+wS fN l):=by
  intro l
  induction l with
  | nil=>intro a b c;simp [wS]
  | cons i l ih=>intro a b c;rw [List.foldl_cons,ih];simp only [wS,Int.add_assoc]
 rw [key]
 dsimp only
 have hv:0≤wS fV x.Inputs∧wS fV x.Inputs≤100000000000000:=by
  have:=qK (f:=fV) (b:=1000000000000) (by omega) (l:=x.Inputs) fun i hi=>(hx.inp i hi).2
  omega
 have hw:0≤wS (fW r x.Code) x.Inputs∧wS (fW r x.Code) x.Inputs≤100000000000000:=by
  have:=qK (f:=fW r x.Code) (b:=1000000000000) (by omega) (l:=x.Inputs) fun i hi=>by
   have:=(hx.inp i hi).2
   unfold fW;cases qJ r x.Code i.Code
   ·simp only [bv];omega
   exact this
  omega
 have hp:=hx.price
 unfold jK
 have hl:=hr
 rw [gV] at hl
 unfold j7 FW at hl
 simp only [Int.zero_add]
 cases h1:(r.Kind == 1)
 ·cases h2:(r.Kind == 2)
  ·cases h3:(r.Kind == 3)
   ·simp only [bv]
    cases h4:(r.Kind == 4)
    ·rfl
    simp only [bL];rw [sG _ _ hx.proc.2.1];rfl
   have hk:=eq_of_beq h3
   rw [hk] at hl
   simp at hl
   simp only [bv,bL]
   rw [ui hv hl.2 (by omega)];rfl
  have hk:=eq_of_beq h2
  rw [hk] at hl
  simp at hl
  simp only [bv,bL]
  rw [ui hw (by omega) (by omega)];rfl
 simp only [bL]
mutual
def tt:Zd→Zg
 | ⟨k,d,e,t,m,n,l⟩=>cond (k == 5) (.every_ (tts l)) (cond (k == 6) (.some_ (tts l)) (.single_ ⟨⟨k,d,e,t,m,n,l⟩⟩))
def tts:List Zd→List Zg
 | []=>[]
 | a::l=>tt a::tts l
end
theorem C8:∀ l:List Zd,tts l=l.map tt
 | []=>by rw [tts];rfl
 | a::l=>by rw [tts,C8 l];rfl
theorem Gz (r:Zd):tt r=cond (r.Kind == 5) (.every_ (r.Args.map tt)) (cond (r.Kind == 6) (.some_ (r.Args.map tt)) (.single_ ⟨r⟩)):=by
 cases r;rw [tt,C8]
theorem sM:∀ {l:List Zd} {a:Zd},a∈l→pV a≤nQ l
 | b::l,a,h=>by
  rw [nQ]
  rcases List.mem_cons.1 h with rfl | h
  ·omega
  have:=sM h;omega
theorem AK (n:Nat):∀ r:Zd,dG r=true→r9 r≤n→iK n r=some (tt r):=by
 induction n with
 | zero=>intro r _ hd;rw [js] at hd;omega
 | succ n ih =>
  intro r hr hd
  obtain ⟨hl,ha,_⟩:=j9 hr
  show jF (iK n) r=_
  unfold jF
  refine (cB (l:=r.Args) (by omega) (fun i (s:List Zg)=>(s,i)) (fun s x=>s++[tt x]) (fun s=>s) (fun k s=>s.length=k) [] rfl (fun k hk s hs=>?_) (fun s _=>by simp only [cN,bv])).1.trans ?_
  ·simp only [gY hk,bL,aQ hk,bc,bM hk (show r.Args.length≤4611686018427387904 by omega)]
   rw [ih _ (ha _ (List.getElem_mem hk)) (by have:=iQ (List.getElem_mem hk);omega),bc,df (by simp;omega) (by simp;omega)]
   exact ⟨rfl,by simp [hs]⟩
  have key:∀ (l:List Zd) (a:List Zg),l.foldl (fun s x=>s++[tt x]) a=a++l.map tt:=by
   intro l
   induction l with
   | nil=>intro a;simp
   | cons x l ih=>intro a;rw [List.foldl_cons,ih];simp
  rw [key,List.nil_append,Gz]
  cases (r.Kind == 5) <;> cases (r.Kind == 6) <;> rfl
section
variable (x:Zl)
mutual
def kI:Zd→Option (List Int)
 | ⟨k,d,e,t,m,n,l⟩=>cond (k == 5) (jL l) (cond (k == 6) (lr 0 l) (cond (jK ⟨k,d,e,t,m,n,l⟩ x) (some []) none))
def jL:List Zd→Option (List Int)
 | []=>some []
 | a::l=>(kI a).bind fun p=>(jL l).bind fun q=>some (p++q)
def lr (i:Nat):List Zd→Option (List Int)
 | []=>none
 | a::l=>match kI a with
  | some p=>some ((i:Int)::p)
  | none=>lr (i+1) l
end
end
theorem zf (x:Zl) (r:Zd):kI x r=cond (r.Kind == 5) (jL x r.Args) (cond (r.Kind == 6) (lr x 0 r.Args) (cond (jK r x) (some []) none)):=by
 cases r;rw [kI]
mutual
theorem uV (x:Zl):∀ (r:Zd) (p:List Int),kI x r=some p→p.length≤pV r
 | ⟨k,d,e,t,m,n,l⟩,p,h=>by
  rw [kI] at h
  rw [pV]
  cases h5:(k == 5)
  ·rw [h5] at h
   simp only [bv] at h
   cases h6:(k == 6)
   ·rw [h6] at h
    simp only [bv] at h
    cases hh:jK ⟨k,d,e,t,m,n,l⟩ x
    ·rw [hh] at h;cases h
    rw [hh] at h;injection h with h;subst h;simp
   rw [h6] at h
   exact AL x l 0 p h
  rw [h5] at h
  have:=AM x l p h;omega
theorem AM (x:Zl):∀ (l:List Zd) (p:List Int),jL x l=some p→p.length≤nQ l
 | [],p,h=>by rw [jL] at h;injection h with h;subst h;simp
 | a::l,p,h=>by
  rw [jL] at h
  rw [nQ]
  cases ha:kI x a with
  | none=>rw [ha] at h;cases h
  | some q =>
   rw [ha,bc] at h
   cases hl:jL x l with
   | none=>rw [hl] at h;cases h
   | some s =>
    rw [hl,bc] at h
    injection h with h
    subst h
    have h1:=uV x a q ha
    have h2:=AM x l s hl
    rw [List.length_append];omega
theorem AL (x:Zl):∀ (l:List Zd) (i:Nat) (p:List Int),lr x i l=some p→p.length≤1+nQ l
 | [],i,p,h=>by rw [lr] at h;cases h
 | a::l,i,p,h=>by
  rw [lr] at h
  rw [nQ]
  cases ha:kI x a with
  | none =>
   rw [ha] at h
   have:=AL x l (i+1) p h;omega
  | some q =>
   rw [ha] at h
   injection h with h
   subst h
   have h1:=uV x a q ha
   rw [List.length_cons];omega
end
theorem concatI (a b:List Int) (h:a.length+b.length≤1000000):f0 [a,b]=some (a++b):=by
 unfold f0 mt
 refine (ku (l:=[a,b]) (by simp) (fun i (s:Nat)=>((s:Int),i)) (fun _ x s=>(.inl (s+x.length):Nat⊕Empty)) (fun (s:Nat)=>(s:Int)) noE (fun k s=>s≤1000000∧s=([a,b].take k).flatten.length) 0 ⟨by omega,rfl⟩ (fun k hk s hs=>⟨?_,fun s' h'=>?_⟩) (fun s _=>by simp only [cN,bv])).trans ?_
 ·have hb:s+([a,b][k]).length≤1000000:=by
   obtain ⟨_,e⟩:=hs
   match k,hk with
   | 0,_=>simp at e;subst e;simp;omega
   | 1,_=>simp at e;subst e;simp;omega
  simp only [gY hk,bL,aQ hk,bc,bM hk (show [a,b].length≤4611686018427387904 by simp),Ak]
  rw [cM (by omega) (by omega),cb (by omega)]
  simp only [bv,Int.natCast_add]
 ·injection h' with h'
  obtain ⟨h1,h2⟩:=hs
  subst h'
  match k,hk with
  | 0,_=>simp at h2 ⊢;subst h2;simp;omega
  | 1,_=>simp at h2 ⊢;subst h2;omega
 show Option.bind (Option.bind (DM 8 ((0+a.length+b.length:Nat):Int)) _) _=_
 rw [BH (by omega) (by omega),bc,bc]
 refine (cB (l:=[a,b]) (by simp) (fun i (s:List Int)=>(s,i)) (fun s x=>s++x) (fun s=>s) (fun k s=>s=([a,b].take k).flatten) [] rfl (fun k hk s hs=>⟨?_,?_⟩) (fun s _=>by simp only [cN,bv])).1.trans ?_
 ·have hb:s.length+([a,b][k]).length≤1000000:=by
   match k,hk with
   | 0,_=>simp at hs;subst hs;simp;omega
   | 1,_=>simp at hs;subst hs;simp;omega
  simp only [gY hk,bL,aQ hk,bc,bM hk (show [a,b].length≤4611686018427387904 by simp)]
  rw [df (by omega) (by omega)];rfl
 ·match k,hk with
  | 0,_=>simp at hs;subst hs;simp
  | 1,_=>simp at hs;subst hs;simp
 simp
theorem D7 (x:Zl) (hx:VCase x) (n:Nat):∀ r:Zd,dG r=true→pV r≤1000→r9 r≤n→Irule_test_witness_F n (tt r) x=some (gW [] (kI x r)):=by
 induction n with
 | zero=>intro r _ _ hd;rw [js] at hd;omega
 | succ n ih =>
  intro r hr hc hd
  obtain ⟨hl,ha,_⟩:=j9 hr
  have hargs:∀ k (hk:k<r.Args.length),Irule_test_witness_F n (tt r.Args[k]) x=some (gW [] (kI x r.Args[k])):=fun k hk=>ih _ (ha _ (List.getElem_mem hk)) (by have:=qy r;have:=sM (List.getElem_mem hk);omega) (by have:=iQ (List.getElem_mem hk);omega)
  have hcl:∀ k (hk:k<r.Args.length) p,kI x r.Args[k]=some p→p.length≤1000:=fun k hk p h=>by have h1:=uV x _ p h;have:=qy r;have:=sM (List.getElem_mem hk);omega
  show Irule_test_witness_B (Irule_test_witness_F n) (tt r) x=_
  rw [Gz,zf]
  have hml:(r.Args.map tt).length=r.Args.length:=List.length_map _
  have hmi:∀ k (hk:k<(r.Args.map tt).length),(r.Args.map tt)[k]=tt (r.Args[k]'(by omega)):=fun k hk=>by rw [List.getElem_map]
  cases h5:(r.Kind == 5)
  ·cases h6:(r.Kind == 6)
   ·show jq ⟨r⟩ x=_
    unfold jq
    rw [prog_holds hx hr,bc]
    simp only [bv]
    cases jK r x <;> rfl
   show jo (Irule_test_witness_F n) (r.Args.map tt) x=_
   unfold jo
   refine (bD (l:=r.Args.map tt) (by omega) (fun k t=>match Irule_test_witness_F n t x with | some (p,true)=>some (.inr ((k:Int)::p,true)) | _=>none) (.inl ()) (fun k hk=>?_) (by simp only [cN,bv])).trans ?_
   ·simp only [gY hk,bL,aQ hk,bc,bM hk (show (r.Args.map tt).length≤4611686018427387904 by omega),hmi k hk]
    rw [hargs k (by omega)]
    have:=hcl k (by omega)
    cases hw:kI x (r.Args[k]'(by omega)) with
    | none=>rfl
    | some p =>
     have:=this p hw
     show Option.bind (f0 [[(k:Int)],p]) _=_
     rw [concatI _ _ (by simp;omega)];rfl
   have key:∀ (m:List Zd) (i:Nat),(∀ j (hj:j<m.length),Irule_test_witness_F n (tt m[j]) x=some (gW [] (kI x m[j])))→bT (fun k t=>match Irule_test_witness_F n t x with | some (p,true)=>some (Sum.inr ((k:Int)::p,true):Unit⊕(List Int×Bool)) | _=>none) (m.map tt) i=(lr x i m).map fun p=>Sum.inr (p,true):=by
    intro m
    induction m with
    | nil=>intro i _;rw [lr];rfl
    | cons a m ih =>
     intro i h
     have h0:=h 0 (by simp)
     have h1:=ih (i+1) fun j hj=>h (j+1) (by simpa using hj)
     rw [List.map_cons,bT,lr,h1]
     change Irule_test_witness_F n (tt a) x=some (gW [] (kI x a)) at h0
     rw [h0]
     cases kI x a <;> rfl
   rw [key _ 0 hargs]
   simp only [bv,bL]
   cases lr x 0 r.Args <;> rfl
  show i6 (Irule_test_witness_F n) (r.Args.map tt) x=_
  unfold i6
  simp only [bL]
  refine (ku (l:=r.Args.map tt) (by omega) (fun i (s:List Int)=>(s,i)) (fun _ t s=>match Irule_test_witness_F n t x with | some (p,true)=>(.inl (s++p):List Int⊕Unit) | _=>.inr ()) (fun s=>.inl s) (fun _=>.inr ([],false)) (fun k s=>s.length≤k*1000) [] (by simp) (fun k hk s hs=>⟨?_,fun s' h'=>?_⟩) (fun s _=>by simp only [cN,bv])).trans ?_
  ·simp only [gY hk,bL,aQ hk,bc,bM hk (show (r.Args.map tt).length≤4611686018427387904 by omega),hmi k hk]
   rw [hargs k (by omega)]
   have:=hcl k (by omega)
   cases hw:kI x (r.Args[k]'(by omega)) with
   | none=>rfl
   | some p =>
    have:=this p hw
    show Option.bind (app 8 s p) _=_
    rw [df (by omega) (by omega)];rfl
  ·have h0:=hargs k (by omega)
   have:=hcl k (by omega)
   rw [hmi k hk,h0] at h'
   cases hw:kI x (r.Args[k]'(by omega)) with
   | none=>rw [hw] at h';cases h'
   | some p =>
    have:=this p hw
    rw [hw] at h'
    injection h' with h'
    subst h'
    rw [List.length_append];omega
  have key:∀ (m:List Zd) (i:Nat) (s:List Int),(∀ j (hj:j<m.length),Irule_test_witness_F n (tt m[j]) x=some (gW [] (kI x m[j])))→run (fun _ t s=>match Irule_test_witness_F n t x with | some (p,true)=>(.inl (s++p):List Int⊕Unit) | _=>.inr ()) (m.map tt) i s=match jL x m with | some p=>.inl (s++p) | none=>.inr ():=by
   intro m
   induction m with
   | nil=>intro i s _;rw [jL];simp [run]
   | cons a m ih =>
    intro i s h
    have h0:=h 0 (by simp)
    have h1:=fun s=>ih (i+1) s fun j hj=>h (j+1) (by simpa using hj)
    rw [List.map_cons,jx,jL]
    change Irule_test_witness_F n (tt a) x=some (gW [] (kI x a)) at h0
    rw [h0]
    cases kI x a with
    | none=>rfl
    | some p =>
     show run _ (m.map tt) (i+1) (s++p)=_
     rw [h1,bc]
     cases jL x m with
     | none=>rfl
     | some q=>show Sum.inl (s++p++q)=Sum.inl (s++(p++q));rw [List.append_assoc]
  rw [key _ 0 [] hargs]
  cases jL x r.Args <;> rfl
theorem zg {r:Zd} {x:Zl} (hx:VCase x) (ok:ROk r) (hr:dG r=true) (hc:pV r≤32):oX r x=some (gW [] (kI x r)):=by
 have hd:=oZ r
 have hf:FUEL=1267650600228229401496703205376:=rfl
 unfold oX gq
 rw [oo r ok (by omega),(np r).2 ⟨hc,hr⟩,bc,show ((0:Int) == 0)=true from rfl,cu,qI hx,bc,bc]
 show Option.bind (iK FUEL r) _=_
 rw [AK FUEL r hr (by omega),bc]
 show Option.bind (Irule_test_witness_F FUEL (tt r) x) _=_
 rw [D7 x hx FUEL r hr (by omega) (by omega)];rfl
mutual
theorem AN {x y:Zl} (h:∀ r,dG r=true→jK r x=true→jK r y=true):∀ r:Zd,dG r=true→(kI x r).isSome=true→(kI y r).isSome=true
 | ⟨k,d,e,t,m,n,l⟩,hr,hw=>by
  have hl:=hr
  rw [dG] at hl
  rw [kI] at hw ⊢
  cases h5:(k == 5)
  ·rw [h5] at hw hl
   simp only [bv] at hw ⊢
   cases h6:(k == 6)
   ·rw [h6] at hw
    simp only [bv] at hw ⊢
    cases hh:jK ⟨k,d,e,t,m,n,l⟩ x
    ·rw [hh] at hw;cases hw
    rw [h _ hr hh];rfl
   rw [h6] at hw hl
   simp only [Bool.or_true,bL,Bool.and_eq_true] at hl
   exact xZ h l 0 0 k hl.2.2 hw
  rw [h5] at hw hl
  simp only [Bool.true_or,bL,Bool.and_eq_true] at hl
  exact ya h l k hl.2.2 hw
theorem ya {x y:Zl} (h:∀ r,dG r=true→jK r x=true→jK r y=true):∀ (l:List Zd) (k:Int),o7 k l=true→(jL x l).isSome=true→(jL y l).isSome=true
 | [],k,_,_=>by rw [jL];rfl
 | a::l,k,hr,hw=>by
  rw [o7] at hr
  simp only [Bool.and_eq_true] at hr
  rw [jL] at hw ⊢
  have h1:=AN h a hr.1.2
  have h2:=ya h l k hr.2
  cases ha:kI x a with
  | none=>rw [ha] at hw;cases hw
  | some p =>
   cases hl:jL x l with
   | none=>rw [ha,hl] at hw;cases hw
   | some q =>
    rw [ha] at h1;rw [hl] at h2
    obtain ⟨p',e1⟩:=Option.isSome_iff_exists.1 (h1 rfl)
    obtain ⟨q',e2⟩:=Option.isSome_iff_exists.1 (h2 rfl)
    rw [e1,e2];rfl
theorem xZ {x y:Zl} (h:∀ r,dG r=true→jK r x=true→jK r y=true):∀ (l:List Zd) (i j:Nat) (k:Int),o7 k l=true→(lr x i l).isSome=true→(lr y j l).isSome=true
 | [],i,j,k,_,hw=>by rw [lr] at hw;cases hw
 | a::l,i,j,k,hr,hw=>by
  rw [o7] at hr
  simp only [Bool.and_eq_true] at hr
  rw [lr] at hw ⊢
  have h1:=AN h a hr.1.2
  cases ha:kI x a with
  | none =>
   rw [ha] at hw
   cases kI y a with
   | none=>exact xZ h l (i+1) (j+1) k hr.2 hw
   | some p=>rfl
  | some p =>
   rw [ha] at h1
   obtain ⟨p',e1⟩:=Option.isSome_iff_exists.1 (h1 rfl)
   rw [e1];rfl
end
structure Wt (f:Zk→Int):Prop where
 same:∀ c v a b,f ⟨c,v,a⟩=f ⟨c,v,b⟩
 pos:∀ i:Zk,0≤i.Value→0≤f i
section
variable {γ δ π:Type} [DecidableEq δ] (gc:γ→δ) (cl:π→δ) (pv:(δ→Bool)→γ→Option π)
def rX:Nat→List γ→List π→List π
 | 0,_,ps=>ps
 | n+1,o,ps=>cond (o.filterMap (pv (aZ (ps.map cl)))).isEmpty ps (rX n (o.filter fun g=>(pv (aZ (ps.map cl)) g).isNone) (ps++o.filterMap (pv (aZ (ps.map cl)))))
def sN (G:List γ):Nat→List π→List π
 | 0,ps=>ps
 | n+1,ps=>cond (G.filterMap fun g=>cond (aZ (ps.map cl) (gc g)) none (pv (aZ (ps.map cl)) g)).isEmpty ps (sN G n (ps++G.filterMap fun g=>cond (aZ (ps.map cl) (gc g)) none (pv (aZ (ps.map cl)) g)))
def Closed (G:List γ) (T:δ→Bool):Prop:=∀ g∈G,(pv T g).isSome=true→T (gc g)=true
structure RInv (G o:List γ) (ps:List π):Prop where
 all:∀ g∈G,g∈o∨aZ (ps.map cl) (gc g)=true
 opn:∀ g∈o,g∈G∧aZ (ps.map cl) (gc g)=false
 prv:∀ p∈ps,∃ g∈G,gc g=cl p∧(pv (aZ (ps.map cl)) g).isSome=true
 lst:∀ T,Closed gc pv G T→∀ p∈ps,T (cl p)=true
variable {gc cl pv} (hcl:∀ S g p,pv S g=some p→cl p=gc g)
theorem jM {l:List π} {c:δ}:aZ (l.map cl) c=true↔∃ p∈l,cl p=c:=by rw [gX,List.mem_map]
theorem sO {o:List γ} {f:γ→Option π} (h:(o.filterMap f).isEmpty=false):(o.filter fun g=>(f g).isNone).length<o.length:=by
 induction o with
 | nil=>cases h
 | cons g o ih =>
  rw [List.filter_cons]
  cases hf:f g with
  | some p =>
   have:=List.length_filter_le (fun g=>(f g).isNone) o
   simp only [Option.isNone_some,Bool.false_eq_true,if_false,List.length_cons];omega
  | none =>
   rw [List.filterMap_cons_none hf] at h
   have:=ih h
   simp only [Option.isNone_none,if_true,List.length_cons];omega
include hcl in
theorem B6 {G:List γ} (inj:∀ g∈G,∀ g'∈G,gc g=gc g'→g=g'):∀ (n:Nat) (ps:List π),rX cl pv n (G.filter fun g => !aZ (ps.map cl) (gc g)) ps=sN gc cl pv G n ps:=by
 intro n
 induction n with
 | zero=>intro ps;rfl
 | succ n ih =>
  intro ps
  rw [rX,sN]
  have e1:(G.filter fun g => !aZ (ps.map cl) (gc g)).filterMap (pv (aZ (ps.map cl)))=G.filterMap fun g=>cond (aZ (ps.map cl) (gc g)) none (pv (aZ (ps.map cl)) g):=by
   generalize pv (aZ (ps.map cl))=f
   generalize aZ (ps.map cl)=m
   clear ih inj
   induction G with
   | nil=>rfl
   | cons g G ihG =>
    rw [List.filter_cons]
    cases hm:m (gc g)
    ·simp only [Bool.not_false,if_true,List.filterMap_cons,ihG,hm,bv]
    simp only [Bool.not_true,Bool.false_eq_true,if_false,List.filterMap_cons,ihG,hm,bL]
  rw [e1]
  have e2:((G.filter fun g => !aZ (ps.map cl) (gc g)).filter fun g=>(pv (aZ (ps.map cl)) g).isNone)=G.filter fun g => !aZ ((ps++G.filterMap fun g=>cond (aZ (ps.map cl) (gc g)) none (pv (aZ (ps.map cl)) g)).map cl) (gc g):=by
   rw [List.filter_filter]
   refine List.filter_congr fun g hg=>?_
   cases hm:aZ (ps.map cl) (gc g)
   ·cases hp:pv (aZ (ps.map cl)) g with
    | none =>
     cases hq:aZ ((ps++G.filterMap fun g=>cond (aZ (ps.map cl) (gc g)) none (pv (aZ (ps.map cl)) g)).map cl) (gc g)
     ·rfl
     ·obtain ⟨p,k1,k2⟩:=jM.1 hq
      rcases List.mem_append.1 k1 with k1 | k1
      ·rw [jM.2 ⟨p,k1,k2⟩] at hm;cases hm
      ·obtain ⟨g',hg',he⟩:=List.mem_filterMap.1 k1
       cases hm':aZ (ps.map cl) (gc g')
       ·rw [hm'] at he
        have:=inj g' hg' g hg ((hcl _ _ _ he).symm.trans k2)
        subst this
        rw [bv,hp] at he;cases he
       ·rw [hm'] at he;cases he
    | some p =>
     have:aZ ((ps++G.filterMap fun g=>cond (aZ (ps.map cl) (gc g)) none (pv (aZ (ps.map cl)) g)).map cl) (gc g)=true:=jM.2 ⟨p,List.mem_append.2 (.inr (List.mem_filterMap.2 ⟨g,hg,by rw [hm];exact hp⟩)),hcl _ _ _ hp⟩
     rw [this];rfl
   have:aZ ((ps++G.filterMap fun g=>cond (aZ (ps.map cl) (gc g)) none (pv (aZ (ps.map cl)) g)).map cl) (gc g)=true:=by
    obtain ⟨p,k1,k2⟩:=jM.1 hm
    exact jM.2 ⟨p,List.mem_append.2 (.inl k1),k2⟩
   rw [this]
   cases (pv (aZ (ps.map cl)) g).isNone <;> rfl
  rw [e2,ih]
end
abbrev Goal:=Za×Zd
abbrev Prf:=Za×List Int×List Za
def dD (plan:List Zc) (l:List Zb) (imp:ByteArray):List Goal:=plan.flatMap fun p=>l.filterMap fun a=>cond (jk plan l imp ⟨p.ID,a.ID⟩) ((dw a p.Code).map fun r=>((⟨p.ID,a.ID⟩:Za),r)) none
def gI (plan:List Zc) (l:List Zb) (imp:ByteArray) (S:CSet) (g:Goal):Option Prf:=(kI (pF plan l imp g.1 S) g.2).map fun path=>(g.1,path,ot plan l imp g.1 S)
def ww (plan:List Zc) (l:List Zb) (imp:ByteArray):List Prf:=rX (fun p:Prf=>p.1) (gI plan l imp) (dD plan l imp).length (dD plan l imp) []
theorem ox {plan:List Zc} {l:List Zb} {imp:ByteArray} {g:Goal}:g∈dD plan l imp↔∃ p∈plan,∃ a∈l,jk plan l imp ⟨p.ID,a.ID⟩=true∧dw a p.Code=some g.2∧g.1=⟨p.ID,a.ID⟩:=by
 unfold dD
 rw [List.mem_flatMap]
 constructor
 ·rintro ⟨p,hp,hg⟩
  obtain ⟨a,ha,he⟩:=List.mem_filterMap.1 hg
  cases hc:jk plan l imp ⟨p.ID,a.ID⟩
  ·rw [hc] at he;cases he
  rw [hc,bL] at he
  cases hr:dw a p.Code with
  | none=>rw [hr] at he;cases he
  | some r =>
   rw [hr,Option.map_some] at he
   injection he with he
   subst he
   exact ⟨p,hp,a,ha,hc,hr,rfl⟩
 rintro ⟨p,hp,a,ha,hc,hr,hg⟩
 obtain ⟨c,r⟩:=g
 dsimp only at hr hg
 subst hg
 exact ⟨p,hp,List.mem_filterMap.2 ⟨a,ha,by rw [hc,hr];rfl⟩⟩
theorem zh {α:Type} {f:α→Int} {l:List α} (h:l.Pairwise fun a b=>f a<f b) {a b:α} (ha:a∈l) (hb:b∈l) (e:f a=f b):a=b:=by
 induction l with
 | nil=>cases ha
 | cons x l ih =>
  obtain ⟨h1,h2⟩:=List.pairwise_cons.1 h
  rcases List.mem_cons.1 ha with e1 | ha'
  ·rcases List.mem_cons.1 hb with e2 | hb'
   ·rw [e1,e2]
   have:=h1 b hb';rw [← e1] at this;omega
  rcases List.mem_cons.1 hb with e2 | hb'
  ·have:=h1 a ha';rw [← e2] at this;omega
  exact ih h2 ha' hb'
theorem yb {plan:List Zc} {l:List Zb} {imp:ByteArray} (hv:VPs plan) (hl:AscA l):∀ g∈dD plan l imp,∀ g'∈dD plan l imp,g.1=g'.1→g=g':=by
 intro g hg g' hg' e
 obtain ⟨p,hp,a,ha,_,hr,h1⟩:=ox.1 hg
 obtain ⟨p',hp',a',ha',_,hr',h1'⟩:=ox.1 hg'
 rw [h1,h1'] at e
 injection e with e1 e2
 have:=zh hv.asc hp hp' e1
 have:=zh hl ha ha' e2
 subst_vars
 rw [hr] at hr'
 injection hr' with hr'
 exact Prod.ext (h1.trans h1'.symm) hr'
theorem wx {a:Zb} (ha:VA a) {code:ByteArray} {r:Zd} (h:dw a code=some r):ROk r∧dG r=true∧pV r≤32:=by
 rcases pm a code with ⟨_,h2⟩ | ⟨j,hj,_,h2⟩
 ·rw [h2] at h;cases h
 rw [h2] at h
 injection h with h
 have h1:=(np _).1 (ha.rules _ (List.getElem_mem hj))
 have h3:=ha.ok.rules _ (List.getElem_mem hj)
 rw [← h]
 exact ⟨h3.rule,h1.2,h1.1⟩
theorem yc {plan:List Zc} {l:List Zb} {imp:ByteArray} (hl:VAs l) {g:Goal} (hg:g∈dD plan l imp):ROk g.2∧dG g.2=true∧pV g.2≤32:=by
 obtain ⟨p,hp,a,ha,_,hr,_⟩:=ox.1 hg
 exact wx (hl.all a ha) hr
theorem B7 {plan:List Zc} {l:List Zb} {imp:ByteArray} {g:Goal} (hg:g∈dD plan l imp):jk plan l imp g.1=true∧(co plan g.1.Product).isSome=true:=by
 obtain ⟨p,hp,a,ha,hc,_,h1⟩:=ox.1 hg
 rw [h1];exact ⟨hc,ow hc⟩
theorem GA (plan:List Zc) (l:List Zb) (imp:ByteArray):∀ (S:CSet) (g:Goal) (p:Prf),gI plan l imp S g=some p→p.1=g.1:=by
 intro S g p h
 unfold gI at h
 cases hw:kI (pF plan l imp g.1 S) g.2 with
 | none=>rw [hw] at h;cases h
 | some q=>rw [hw,Option.map_some] at h;injection h with h;rw [← h]
inductive Chp:List Zi→List Zi→Prop
 | nil:Chp [] []
 | cons {x y:Zi} {l m:List Zi} (h1:y.Product=x.Product) (h2:0≤y.Value) (h3:y.Value≤x.Value) (h:Chp l m):Chp (x::l) (y::m)
theorem Chp.empty {l m:List Zi} (h:Chp l m):m.isEmpty=l.isEmpty:=by cases h <;> rfl
theorem Chp.refl:∀ {l:List Zi},(∀ x∈l,0≤x.Value)→Chp l l
 | [],_=>.nil
 | x::l,h=>.cons rfl (h x (by simp)) (Int.le_refl _) (Chp.refl fun y hy=>h y (by simp [hy]))
structure PLe (p q:Zc):Prop where
 id:q.ID=p.ID
 code:q.Code=p.Code
 ctr:q.Country=p.Country
 price:q.Price=p.Price
 obt:q.Obtained=p.Obtained
 proc:q.Processes=p.Processes
 inp:Chp p.Inputs q.Inputs
structure WtM (f:Zk→Int):Prop where
 wt:Wt f
 le:∀ c v w a,0≤v→v≤w→f ⟨c,v,a⟩≤f ⟨c,w,a⟩
section
variable {ps ps':List Int} {S T:CSet} (hps:∀ x∈ps,x∈ps') (hST:∀ c,S c=true→T c=true)
variable {plan plan':List Zc} (hpl:∀ id,(co plan id).isSome=true→PLe (bP plan id) (bP plan' id))
end
inductive PsLe:List Zc→List Zc→Prop
 | nil:PsLe [] []
 | cons {p q:Zc} {l m:List Zc} (h1:PLe p q) (h:PsLe l m):PsLe (p::l) (q::m)
theorem PsLe.find {l m:List Zc} (h:PsLe l m) (id:Int):(co l id=none∧co m id=none)∨∃ p q,co l id=some p∧co m id=some q∧PLe p q:=by
 induction h with
 | nil=>exact .inl ⟨rfl,rfl⟩
 | @cons p q l m h1 h ih =>
  unfold co at ih ⊢
  rw [List.find?_cons,List.find?_cons,h1.id]
  cases p.ID == id
  ·exact ih
  exact .inr ⟨p,q,rfl,rfl,h1⟩
theorem PsLe.mem {l m:List Zc} (h:PsLe l m) {p:Zc} (hp:p∈l):∃ q∈m,PLe p q:=by
 induction h with
 | nil=>cases hp
 | @cons x q l m h1 h ih =>
  rcases List.mem_cons.1 hp with e | hp'
  ·subst e;exact ⟨q,by simp,h1⟩
  obtain ⟨r,k1,k2⟩:=ih hp'
  exact ⟨r,by simp [k1],k2⟩
theorem C9 {p:List Zc} {l:List Zb} {i:ByteArray} {c:Za} (h:jk p l i c=true):(ka l c.Agreement).isSome=true:=by
 unfold jk at h
 cases hf:ka l c.Agreement with
 | none=>rw [hf] at h;cases hp:co p c.Product <;> rw [hp] at h <;> cases h
 | some a=>rfl
theorem PLe.refl {plan:List Zc} {p:Zc} (h:VProd plan p):PLe p p:=⟨rfl,rfl,rfl,rfl,rfl,rfl,Chp.refl fun x hx=>(h.inp x hx).2.1⟩
section
variable {plan:List Zc} (R:Int→Bool) (hR:∀ p∈plan,R p.ID=true→∀ y∈p.Inputs,R y.Product=true)
end
section
variable (x:Zl)
mutual
def wy:Zd→List Int→Option (List Int)
 | ⟨k,d,e,t,m,n,l⟩,p=>cond (k == 5) (rj l p) (cond (k == 6) (cond (!p.isEmpty&&decide (0≤p.headD 0)) (py l (p.headD 0).toNat p.tail) none) (cond (jK ⟨k,d,e,t,m,n,l⟩ x) (some p) none))
def rj:List Zd→List Int→Option (List Int)
 | [],p=>some p
 | a::l,p=>match wy a p with
  | some q=>rj l q
  | none=>none
def py:List Zd→Nat→List Int→Option (List Int)
 | [],_,_=>none
 | a::_,0,p=>wy a p
 | _::l,n+1,p=>py l n p
end
end
theorem wz (x:Zl):∀ (l:List Zd) (n:Nat) (p:List Int),py x l n p=match l[n]? with | some a=>wy x a p | none=>none
 | [],n,p=>by rw [py];rfl
 | a::l,0,p=>by rw [py];rfl
 | a::l,n+1,p=>by rw [py,wz x l n p];rfl
theorem GB (x:Zl) (r:Zd) (p:List Int):wy x r p=cond (r.Kind == 5) (rj x r.Args p) (cond (r.Kind == 6) (cond (!p.isEmpty&&decide (0≤p.headD 0)) (py x r.Args (p.headD 0).toNat p.tail) none) (cond (jK r x) (some p) none)):=by
 cases r;rw [wy]
mutual
theorem Da (x:Zl):∀ (r:Zd) (p q:List Int),wy x r p=some q→(kI x r).isSome=true
 | ⟨k,d,e,t,m,n,l⟩,p,q,h=>by
  rw [wy] at h
  rw [kI]
  cases h5:(k == 5)
  ·rw [h5] at h
   simp only [bv] at h ⊢
   cases h6:(k == 6)
   ·rw [h6] at h
    simp only [bv] at h ⊢
    cases hh:jK ⟨k,d,e,t,m,n,l⟩ x
    ·rw [hh] at h;cases h
    rfl
   rw [h6] at h
   simp only [bL] at h ⊢
   cases hi:(!p.isEmpty&&decide (0≤p.headD 0))
   ·rw [hi] at h;cases h
   rw [hi] at h;exact AO x l _ 0 _ q h
  rw [h5] at h
  exact AP x l p q h
theorem AP (x:Zl):∀ (l:List Zd) (p q:List Int),rj x l p=some q→(jL x l).isSome=true
 | [],p,q,h=>by rw [jL];rfl
 | a::l,p,q,h=>by
  rw [rj] at h
  rw [jL]
  cases ha:wy x a p with
  | none=>rw [ha] at h;cases h
  | some s =>
   rw [ha] at h
   obtain ⟨w,e1⟩:=Option.isSome_iff_exists.1 (Da x a p s ha)
   obtain ⟨v,e2⟩:=Option.isSome_iff_exists.1 (AP x l s q h)
   rw [e1,e2];rfl
theorem AO (x:Zl):∀ (l:List Zd) (n i:Nat) (p q:List Int),py x l n p=some q→(lr x i l).isSome=true
 | [],n,i,p,q,h=>by rw [py] at h;cases h
 | a::l,0,i,p,q,h=>by
  rw [py] at h
  rw [lr]
  obtain ⟨w,e1⟩:=Option.isSome_iff_exists.1 (Da x a p q h)
  rw [e1];rfl
 | a::l,n+1,i,p,q,h=>by
  rw [py] at h
  rw [lr]
  cases kI x a with
  | none=>exact AO x l n (i+1) p q h
  | some w=>rfl
end
mutual
theorem Db (x:Zl):∀ (r:Zd) (w t:List Int),kI x r=some w→wy x r (w++t)=some t
 | ⟨k,d,e,u,m,n,l⟩,w,t,h=>by
  rw [kI] at h
  rw [wy]
  cases h5:(k == 5)
  ·rw [h5] at h
   simp only [bv] at h ⊢
   cases h6:(k == 6)
   ·rw [h6] at h
    simp only [bv] at h ⊢
    cases hh:jK ⟨k,d,e,u,m,n,l⟩ x
    ·rw [hh] at h;cases h
    rw [hh] at h;injection h with h;subst h;rfl
   rw [h6] at h
   simp only [bL] at h ⊢
   obtain ⟨j,v,e1,e2⟩:=AQ x l 0 w t h
   subst e1
   show cond (true&&decide (0≤((0+j:Nat):Int))) (py x l ((0+j:Nat):Int).toNat (v++t)) none=_
   rw [det (by omega),Bool.and_self,bL,show ((0+j:Nat):Int).toNat=j by omega]
   exact e2
  rw [h5] at h
  exact AR x l w t h
theorem AR (x:Zl):∀ (l:List Zd) (w t:List Int),jL x l=some w→rj x l (w++t)=some t
 | [],w,t,h=>by rw [jL] at h;injection h with h;subst h;rw [rj];rfl
 | a::l,w,t,h=>by
  rw [jL] at h
  rw [rj]
  cases ha:kI x a with
  | none=>rw [ha] at h;cases h
  | some p =>
   cases hl:jL x l with
   | none=>rw [ha,hl] at h;cases h
   | some q =>
    rw [ha,hl,bc,bc] at h
    injection h with h
    subst h
    rw [List.append_assoc,Db x a p (q++t) ha]
    exact AR x l q t hl
theorem AQ (x:Zl):∀ (l:List Zd) (i:Nat) (w t:List Int),lr x i l=some w→∃ (j:Nat) (v:List Int),w=((i+j:Nat):Int)::v∧py x l j (v++t)=some t
 | [],i,w,t,h=>by rw [lr] at h;cases h
 | a::l,i,w,t,h=>by
  rw [lr] at h
  cases ha:kI x a with
  | none =>
   rw [ha] at h
   obtain ⟨j,v,e1,e2⟩:=AQ x l (i+1) w t h
   exact ⟨j+1,v,by rw [e1];congr 2;omega,by rw [py];exact e2⟩
  | some p =>
   rw [ha] at h
   injection h with h
   exact ⟨0,p,h.symm,by rw [py];exact Db x a p t ha⟩
end
def nS (plan:List Zc) (l:List Zb) (c:Za):Zd:=(dw (kN l c.Agreement) (bP plan c.Product).Code).getD rp
def nT (plan:List Zc) (l:List Zb) (imp:ByteArray) (K:CSet) (p:Prf):Bool :=
 jk plan l imp p.1 && !K p.1&&p.2.2.all K&&decide (ot plan l imp p.1 (aZ p.2.2)=p.2.2)&&decide (wy (pF plan l imp p.1 (aZ p.2.2)) (nS plan l p.1) p.2.1=some [])
theorem GC {plan:List Zc} {l:List Zb} {imp:ByteArray} {c:Za} (h:jk plan l imp c=true):(c,nS plan l c)∈dD plan l imp:=by
 obtain ⟨q,a,r,e1,e2,e3,_⟩:=ou h
 have h1:=tF e1
 have h2:a∈l∧a.ID=c.Agreement:=⟨List.mem_of_find?_eq_some e2,by have:=List.find?_some e2;simpa using this⟩
 have ec:c=⟨q.ID,a.ID⟩:=by obtain ⟨x,y⟩:=c;dsimp only at h1 h2;rw [h1.2,h2.2]
 have er:nS plan l c=r:=by unfold nS kN bP;rw [e1,e2];show (dw a q.Code).getD rp=r;rw [e3];rfl
 exact ox.2 ⟨q,h1.1,a,h2.1,by rw [← ec];exact h,by rw [er];exact e3,ec⟩
section
variable {γ π:Type}
end
def kM (plan:List Zc) (l:List Zb) (imp:ByteArray) (S:CSet) (p:Zc) (a:Zb):Option Prf :=
 cond (S ⟨p.ID,a.ID⟩ || !jk plan l imp ⟨p.ID,a.ID⟩) none (gI plan l imp S (⟨p.ID,a.ID⟩,(dw a p.Code).getD rp))
theorem B8 {plan:List Zc} (h:VPs plan) {p:Zc} (hp:p∈plan):co plan p.ID=some p:=by
 cases hf:co plan p.ID with
 | none =>
  unfold co at hf
  rw [List.find?_eq_none] at hf
  exact absurd (by simp) (hf p hp)
 | some q =>
  have h1:=tF hf
  rw [zh h.asc h1.1 hp h1.2]
theorem AS {plan:List Zc} {l:List Zb} {imp:ByteArray} (hv:VPs plan) (ha:AscA l) {p:Zc} (hp:p∈plan) {a:Zb} (hal:a∈l) (h:jk plan l imp ⟨p.ID,a.ID⟩=true):∃ r,dw a p.Code=some r:=by
 obtain ⟨q,b,r,e1,e2,e3,_⟩:=ou h
 dsimp only at e1 e2
 rw [B8 hv hp] at e1
 rw [D1 ha hal] at e2
 injection e1 with e1
 injection e2 with e2
 exact ⟨r,by rw [e1,e2];exact e3⟩
theorem wA {plan:List Zc} {l:List Zb} (hv:VPs plan) (ha:AscA l) (imp:ByteArray) (S:CSet):(dD plan l imp).filterMap (fun g=>cond (S g.1) none (gI plan l imp S g))=plan.flatMap fun p=>l.filterMap fun a=>kM plan l imp S p a:=by
 have inner:∀ p∈plan,∀ m:List Zb,(∀ a∈m,a∈l)→(m.filterMap fun a=>cond (jk plan l imp ⟨p.ID,a.ID⟩) ((dw a p.Code).map fun r=>((⟨p.ID,a.ID⟩:Za),r)) none).filterMap (fun g=>cond (S g.1) none (gI plan l imp S g))=m.filterMap fun a=>kM plan l imp S p a:=by
  intro p hp m
  induction m with
  | nil=>intro _;rfl
  | cons a m ih =>
   intro hm
   have ih:=ih fun b hb=>hm b (by simp [hb])
   cases hc:jk plan l imp ⟨p.ID,a.ID⟩
   ·rw [List.filterMap_cons_none (by rw [hc];rfl),ih,List.filterMap_cons_none (by unfold kM;rw [hc];cases S ⟨p.ID,a.ID⟩ <;> rfl)]
   obtain ⟨r,hr⟩:=AS hv ha hp (hm a (by simp)) hc
   rw [List.filterMap_cons_some (b:=((⟨p.ID,a.ID⟩:Za),r)) (by rw [hc,hr];rfl)]
   have e:kM plan l imp S p a=cond (S ⟨p.ID,a.ID⟩) none (gI plan l imp S (⟨p.ID,a.ID⟩,r)):=by
    unfold kM;rw [hc,hr];cases S ⟨p.ID,a.ID⟩ <;> rfl
   cases hs:cond (S ⟨p.ID,a.ID⟩) none (gI plan l imp S (⟨p.ID,a.ID⟩,r)) with
   | none=>rw [List.filterMap_cons_none (f:=fun g:Goal=>cond (S g.1) none (gI plan l imp S g)) hs,List.filterMap_cons_none (e.trans hs),ih]
   | some q=>rw [List.filterMap_cons_some (f:=fun g:Goal=>cond (S g.1) none (gI plan l imp S g)) hs,List.filterMap_cons_some (e.trans hs),ih]
 unfold dD
 have outer:∀ q:List Zc,(∀ p∈q,p∈plan)→(q.flatMap fun p=>l.filterMap fun a=>cond (jk plan l imp ⟨p.ID,a.ID⟩) ((dw a p.Code).map fun r=>((⟨p.ID,a.ID⟩:Za),r)) none).filterMap (fun g=>cond (S g.1) none (gI plan l imp S g))=q.flatMap fun p=>l.filterMap fun a=>kM plan l imp S p a:=by
  intro q
  induction q with
  | nil=>intro _;rfl
  | cons p q ih =>
   intro hq
   rw [List.flatMap_cons,List.flatMap_cons,List.filterMap_append,inner p (hq p (by simp)) l (fun _ h=>h),ih fun x hx=>hq x (by simp [hx])]
 exact outer plan fun _ h=>h
def kb (plan:List Zc) (l:List Zb) (imp:ByteArray):Nat→List Prf→List Za→List Prf
  | 0,ps,_=>ps
  | n+1,ps,set=>cond (plan.flatMap fun p=>l.filterMap fun a=>kM plan l imp (aZ set) p a).isEmpty ps
      (kb plan l imp n (ps++plan.flatMap fun p=>l.filterMap fun a=>kM plan l imp (aZ set) p a) ((plan.flatMap fun p=>l.filterMap fun a=>kM plan l imp (aZ set) p a).foldl (fun t p=>iD bu t p.1) set))
theorem rY:∀ (ps:List Prf) (set:List Za) (c:Za),aZ (ps.foldl (fun t p=>iD bu t p.1) set) c=(aZ set c||aZ (ps.map fun p:Prf=>p.1) c)
 | [],set,c=>by simp [aZ]
 | p::ps,set,c=>by
  rw [List.foldl_cons,rY ps]
  have:aZ (iD bu set p.1) c=(aZ set c||decide (p.1=c)):=by
   cases h:aZ (iD bu set p.1) c
   ·rw [qE,sI] at h
    rw [qE.2 (fun hm=>h (.inr hm)),cb (fun e=>h (.inl e.symm))];rfl
   rw [gX,sI] at h
   rcases h with h | h
   ·rw [det h.symm,Bool.or_true]
   rw [gX.2 h,Bool.true_or]
  rw [this,List.map_cons]
  show _=(aZ set c||(decide (p.1=c)||aZ (ps.map fun p:Prf=>p.1) c))
  rw [Bool.or_assoc]
theorem sP {plan:List Zc} {l:List Zb} (hv:VPs plan) (ha:AscA l) (imp:ByteArray):∀ (n:Nat) (ps:List Prf) (set:List Za),(∀ c,aZ set c=aZ (ps.map fun p:Prf=>p.1) c)→kb plan l imp n ps set=sN (fun g:Goal=>g.1) (fun p:Prf=>p.1) (gI plan l imp) (dD plan l imp) n ps
 | 0,ps,set,_=>rfl
 | n+1,ps,set,h=>by
  have hS:aZ set=aZ (ps.map fun p:Prf=>p.1):=funext h
  rw [kb,sN,hS,← wA hv ha]
  cases ((dD plan l imp).filterMap fun g=>cond (aZ (ps.map fun p:Prf=>p.1) g.1) none (gI plan l imp (aZ (ps.map fun p:Prf=>p.1)) g)).isEmpty
  ·simp only [bv]
   refine sP hv ha imp n _ _ fun c=>?_
   rw [rY,h,List.map_append]
   unfold aZ;rw [List.any_append]
  rfl
theorem uH {plan:List Zc} {l:List Zb} (hv:VPs plan) (ha:AscA l) (imp:ByteArray):kb plan l imp (dD plan l imp).length [] []=ww plan l imp:=by
 rw [sP hv ha imp _ [] [] (fun _=>rfl),← B6 (GA plan l imp) (yb hv ha)]
 unfold ww
 congr 1
 exact List.filter_eq_self.2 fun _ _=>rfl
section
variable (ps:List Prf)
def wB (d:Za):Option Nat:=ps.findIdx? fun p=>decide (p.1=d)
inductive Reach (c:Za):Za→Prop
 | base:Reach c c
 | step {d e:Za} {i:Nat} {p:Prf} (h:Reach c d) (h1:wB ps d=some i) (h2:ps[i]?=some p) (h3:e∈p.2.2):Reach c e
variable {ps} {c:Za}
def TCov (ps:List Prf) (nd:List Bool) (todo:List Za) (e:Za):Prop:=e∈todo∨∃ j,wB ps e=some j∧nd[j]?=some true
structure Zw (ps:List Prf) (c:Za) (nd:List Bool) (todo:List Za):Prop where
 len:nd.length=ps.length
 tr:∀ d∈todo,Reach ps c d
 nr:∀ i:Nat,nd[i]?=some true→∃ d,Reach ps c d∧wB ps d=some i
 cl:∀ (i:Nat) p,nd[i]?=some true→ps[i]?=some p→∀ e∈p.2.2,TCov ps nd todo e
 st:TCov ps nd todo c
structure NInv (ps:List Prf) (c:Za) (need:List Za) (k:Nat):Prop where
 rr:∀ d∈need,Reach ps c d
 st:c∈need
 nd:need.Nodup
 cl:∀ (j:Nat),j<k→∀ d,need[j]?=some d→∃ i p,wB ps d=some i∧ps[i]?=some p∧∀ e∈p.2.2,e∈need
end
def rw' (n:Int):Zm:=⟨n / 18446744073709551616,n % 18446744073709551616⟩
theorem rw_of {w:Zm} (h:RW w):w=rw' (rv w)∧U128 (rv w):=by
 obtain ⟨a,b⟩:=w
 unfold RW U64 at h;unfold rw' rv U128;dsimp only at *
 refine ⟨?_,by omega⟩
 congr 1 <;> omega
theorem rmul {a b:Int} (ha:U64 a) (hb:U64 b):jX a b=some (rw' (a*b))∧U128 (a*b):=by
 obtain ⟨w,e1,e2,e3⟩:=C1 ha hb
 have:=rw_of e2
 rw [e3] at this
 rw [e1];exact ⟨congrArg some this.1,this.2⟩
theorem rless {a b:Int} (ha:U128 a) (hb:U128 b):lm (rw' a) (rw' b)=some (decide (a<b)):=by
 unfold U128 at *
 unfold lm rw'
 dsimp only
 congr 1
 by_cases h:a<b
 ·rw [det h];simp only [Bool.or_eq_true,Bool.and_eq_true,decide_eq_true_eq,beq_iff_eq];omega
 rw [cb h];simp only [Bool.or_eq_false_iff,Bool.and_eq_false_iff,decide_eq_false_iff_not,beq_eq_false_iff_ne];omega
theorem wC {v s p:Int} (hv:0≤v∧v≤100000000000000) (hs:0≤s∧s≤1000000) (hp:0≤p∧p≤1000000000000):jg v s p=some (decide (v*1000000≤s*p)):=by
 unfold jg
 rw [fG (a:=v) ⟨by omega,by omega⟩,fG (a:=s) ⟨by omega,by omega⟩,fG (a:=p) ⟨by omega,by omega⟩]
 obtain ⟨e1,u1⟩:=rmul (a:=v) (b:=1000000) ⟨by omega,by omega⟩ ⟨by omega,by omega⟩
 obtain ⟨e2,u2⟩:=rmul (a:=s) (b:=p) ⟨by omega,by omega⟩ ⟨by omega,by omega⟩
 rw [e1,bc,e2,bc]
 unfold nA
 rw [rless u1 u2,rless u2 u1]
 simp only [bc]
 by_cases h:v*1000000<s*p
 ·rw [det h]
  simp only [bL,bc]
  rw [det (by omega),det (by omega)]
 rw [cb h]
 by_cases h2:s*p<v*1000000
 ·rw [det h2]
  simp only [bv,bL,bc]
  rw [cb (by omega),cb (by omega)]
 rw [cb h2]
 simp only [bv,bc]
 rw [det (by omega),det (by omega)]
theorem zi {r:Zd} {x:Zl} {i:Zk} (hd:r.Digits=2∨r.Digits=4∨r.Digits=6) (he:r.Except.length≤6) (hc:6≤cQ x.Code) (hi:6≤cQ i.Code):gT r x i=some (qJ r x.Code i.Code):=by
 unfold gT qJ
 have hs:=rW hc
 have hs2:=rW hi
 have e:ko x.Code 0 r.Digits=some (x.Code.extract 0 r.Digits.toNat):=by unfold ko;rw [if_pos (by omega)];rfl
 have e2:ko i.Code 0 r.Digits=some (i.Code.extract 0 r.Digits.toNat):=by unfold ko;rw [if_pos (by omega)];rfl
 have hsz:(x.Code.extract 0 r.Digits.toNat).size=r.Digits.toNat:=by rw [ByteArray.size_extract];omega
 have ep:iC i.Code (x.Code.extract 0 r.Digits.toNat)=decide (i.Code.extract 0 r.Digits.toNat=x.Code.extract 0 r.Digits.toNat):=by
  unfold iC;rw [hsz,det (by omega),Bool.true_and]
 rw [e2,bc,e,bc,ep]
 cases decide (i.Code.extract 0 r.Digits.toNat=x.Code.extract 0 r.Digits.toNat)
 ·simp only [bv,Bool.false_or]
  refine (bD (l:=r.Except) (by omega) (fun _ x=>cond (iC i.Code x) (some (.inr true)) none) (.inl ()) (fun k hk=>?_) (by simp only [cN,bv])).trans ?_
  ·simp only [gY hk,bL,aQ hk,bc,bM hk (show r.Except.length≤4611686018427387904 by omega),AB]
   cases iC i.Code r.Except[k] <;> rfl
  rw [qS (fun x=>iC i.Code x) (Sum.inr true:Unit⊕Bool)]
  cases r.Except.any fun x=>iC i.Code x <;> rfl
 rfl
mutual
theorem AT (x:Zl):∀ l:List Zd,(jL x l).isSome=l.all fun a=>(kI x a).isSome
 | []=>by rw [jL];rfl
 | a::l=>by
  have h:=AT x l
  rw [jL,List.all_cons,← h]
  cases kI x a with
  | none=>rfl
  | some p=>cases jL x l <;> rfl
theorem AU (x:Zl):∀ (l:List Zd) (i:Nat),(lr x i l).isSome=l.any fun a=>(kI x a).isSome
 | [],i=>by rw [lr];rfl
 | a::l,i=>by
  have h:=AU x l (i+1)
  rw [lr,List.any_cons,← h]
  cases kI x a <;> rfl
end
def zj {α:Type} (p:α→Bool):List α→Nat
 | []=>0
 | a::l=>cond (p a) 1 0+zj p l
theorem Dc {α:Type} (p:α→Bool):∀ l:List α,zj p l≤l.length
 | []=>Nat.le_refl _
 | a::l=>by have:=Dc p l;rw [zj,List.length_cons];cases p a <;> simp <;> omega
theorem AV {α:Type} (p:α→Bool):∀ l:List α,(zj p l == l.length)=l.all p
 | []=>rfl
 | a::l=>by
  have h:=AV p l
  have hle:=Dc p l
  rw [zj,List.length_cons,List.all_cons,← h]
  cases p a
  ·rw [bv,Bool.false_and,beq_eq_false_iff_ne];omega
  rw [bL,Bool.true_and,Bool.eq_iff_iff,beq_iff_eq,beq_iff_eq];omega
theorem AW {α:Type} (p:α→Bool):∀ l:List α,decide (0<zj p l)=l.any p
 | []=>rfl
 | a::l=>by
  have h:=AW p l
  rw [zj,List.any_cons,← h]
  cases p a
  ·rw [bv,Bool.false_or];exact decide_eq_decide.2 (by omega)
  rw [bL,Bool.true_or];exact det (by omega)
theorem AX (x:Zl) (hx:VCase x) (n:Nat):∀ r:Zd,dG r=true→r9 r≤n→lA n r x=some (kI x r).isSome:=by
 induction n with
 | zero=>intro r _ hd;rw [js] at hd;omega
 | succ n ih =>
  intro r hr hd
  obtain ⟨hl,ha,he⟩:=j9 hr
  have hfew:=hx.few
  show jC (lA n) r x=_
  unfold jC
  have hvi:r.Kind=2→∀ i∈x.Inputs,gT r x i=some (qJ r x.Code i.Code):=by
   intro hk i hi
   have h:=hr
   rw [gV,hk] at h
   simp only [j7,hk,Bool.and_eq_true] at h
   have h3:=h.2
   simp at h3
   exact zi (by omega) he hx.lvl (hx.inp i hi).1
  refine (cB (l:=x.Inputs) (by omega) (fun i (s:Int×Int)=>(s.1,s.2,i)) (fun s i=>(s.1+cond i.Originating 0 (cond (r.Kind == 3) (fV i) (cond (r.Kind == 2) (fW r x.Code i) 0)),s.2+cond i.Originating 0 (fN i))) (fun s=>s) (fun k s=>(0≤s.1∧s.1≤k*1000000000000)∧(0≤s.2∧s.2≤k)) (0,0) ⟨by simp,by simp⟩ (fun k hk s hs=>?_) (fun s _=>by simp only [cN,bv])).1.trans ?_
  ·obtain ⟨a,b⟩:=s
   obtain ⟨s1,s2⟩:=hs
   dsimp only at s1 s2 ⊢
   have hmem:=List.getElem_mem hk
   have hi:=hx.inp _ hmem
   have hk100:k<100:=by omega
   simp only [gY hk,bL,aQ hk,bc,bM hk (show x.Inputs.length≤4611686018427387904 by omega)]
   generalize x.Inputs[k]=i at hi hmem
   unfold fV fN fW
   cases i.Originating
   ·simp only [bv]
    cases hk3:(r.Kind == 3)
    ·cases hk2:(r.Kind == 2)
     ·simp only [Bool.not_false,Bool.and_false,iO,bc,Bool.false_and,Bool.or_self,bv,Int.add_zero]
      rw [cM (r:=b+1) (by omega) (by omega)]
      exact ⟨rfl,⟨by omega,by omega⟩,by omega,by omega⟩
     simp only [Bool.not_false,Bool.and_self,cu,Bool.false_or,Bool.true_and]
     rw [hvi (eq_of_beq hk2) i hmem,bc]
     cases qJ r x.Code i.Code
     ·simp only [bv,bL,bc,Int.add_zero]
      rw [cM (r:=b+1) (by omega) (by omega)]
      exact ⟨rfl,⟨by omega,by omega⟩,by omega,by omega⟩
     simp only [bL,bv,bc]
     rw [cM (r:=b+1) (by omega) (by omega),cM (r:=a+i.Value) (by omega) (by omega)]
     exact ⟨rfl,⟨by omega,by omega⟩,by omega,by omega⟩
    simp only [Bool.not_true,Bool.false_and,iO,bc,Bool.true_or,bL]
    rw [cM (r:=b+1) (by omega) (by omega),cM (r:=a+i.Value) (by omega) (by omega)]
    exact ⟨rfl,⟨by omega,by omega⟩,by omega,by omega⟩
   simp only [bL,bc,Int.add_zero]
   exact ⟨trivial,⟨by omega,by omega⟩,by omega,by omega⟩
  have key:∀ (l:List Zk) (a b:Int),l.foldl (fun (s:Int×Int) i=>(s.1+cond i.Originating 0 (cond (r.Kind == 3) (fV i) (cond (r.Kind == 2) (fW r x.Code i) 0)),s.2+cond i.Originating 0 (fN i))) (a,b)=(a+wS (fun i=>cond (r.Kind == 3) (fV i) (cond (r.Kind == 2) (fW r x.Code i) 0)) l,b+wS fN l):=by
   intro l
   induction l with
   | nil=>intro a b;simp [wS]
   | cons i l ih=>intro a b;rw [List.foldl_cons,ih];simp only [wS,Int.add_assoc]
  rw [key]
  dsimp only
  simp only [Int.zero_add]
  refine (cB (l:=r.Args) (by omega) (fun i (s:Nat)=>((s:Int),i)) (fun s a=>s+cond (kI x a).isSome 1 0) (fun s=>(s:Int)) (fun k s=>s≤k) 0 (Nat.le_refl _) (fun k hk s hs=>?_) (fun s _=>by simp only [cN,bv])).1.trans ?_
  ·simp only [gY hk,bL,aQ hk,bc,bM hk (show r.Args.length≤4611686018427387904 by omega)]
   rw [ih _ (ha _ (List.getElem_mem hk)) (by have:=iQ (List.getElem_mem hk);omega),bc]
   cases (kI x r.Args[k]).isSome
   ·exact ⟨rfl,by simp;omega⟩
   simp only [bL,bc]
   rw [cM (by omega) (by omega)]
   exact ⟨rfl,by omega⟩
  have key2:∀ (l:List Zd) (s:Nat),l.foldl (fun s a=>s+cond (kI x a).isSome 1 0) s=s+zj (fun a=>(kI x a).isSome) l:=by
   intro l
   induction l with
   | nil=>intro s;rfl
   | cons a l ih=>intro s;rw [List.foldl_cons,ih,zj];omega
  rw [key2,Nat.zero_add,zf]
  have hv:0≤wS fV x.Inputs∧wS fV x.Inputs≤100000000000000:=by
   have:=qK (f:=fV) (b:=1000000000000) (by omega) (l:=x.Inputs) fun i hi=>(hx.inp i hi).2
   omega
  have hw:0≤wS (fW r x.Code) x.Inputs∧wS (fW r x.Code) x.Inputs≤100000000000000:=by
   have:=qK (f:=fW r x.Code) (b:=1000000000000) (by omega) (l:=x.Inputs) fun i hi=>by
    have:=(hx.inp i hi).2
    unfold fW;cases qJ r x.Code i.Code
    ·simp only [bv];omega
    exact this
   omega
  have hp:=hx.price
  have hb:=hr
  rw [gV] at hb
  unfold j7 FW at hb
  unfold jK
  have fin:∀ b:Bool,(some b:Option Bool)=some ((cond b (some ([]:List Int)) none).isSome):=fun b=>by cases b <;> rfl
  cases h1:(r.Kind == 1)
  ·cases h2:(r.Kind == 2)
   ·cases h3:(r.Kind == 3)
    ·cases h4:(r.Kind == 4)
     ·cases h5:(r.Kind == 5)
      ·cases h6:(r.Kind == 6)
       ·rw [h1,h2,h3,h4,h5,h6] at hb;simp at hb
       simp only [bv,bL]
       rw [AU,← AW]
       congr 1
       exact decide_eq_decide.2 (by omega)
      simp only [bv,bL]
      rw [AT,← AV]
      congr 1
      rw [Bool.eq_iff_iff,beq_iff_eq,beq_iff_eq];omega
     have hk:=eq_of_beq h4
     rw [hk]
     simp only [bv,bL]
     rw [qW _ _ hx.proc.2.1,bc]
     exact fin _
    have hk:=eq_of_beq h3
    rw [hk] at hb
    simp at hb
    rw [hk]
    simp only [bv,bL]
    rw [wC hv hb.2 (by omega),bc]
    exact fin _
   have hk:=eq_of_beq h2
   rw [hk] at hb
   simp at hb
   rw [hk]
   simp only [bv,bL]
   have e3:((2:Int) == 3)=false:=rfl
   rw [show (fun i=>cond ((2:Int) == 3) (fV i) (fW r x.Code i))=fW r x.Code from rfl,wC hw (by omega) (by omega),bc]
   exact fin _
  have hk:=eq_of_beq h1
  rw [hk]
  simp only [bL]
  exact fin _
theorem yd {r:Zd} {x:Zl} (hx:VCase x) (hr:dG r=true) (hd:r9 r≤1000):nB r x=some (kI x r).isSome:=AX x hx FUEL r hr (by have hf:FUEL=1267650600228229401496703205376:=rfl;omega)
def rwF (x:Zl) (six:Bool) (k:Nat) (a:Zd) (l:List Int):List Int⊕List Int:=match kI x a with
 | none=>.inl l
 | some p=>cond six (.inr ((k:Int)::p)) (.inl (l++p))
theorem Dd (x:Zl):∀ (m:List Zd) (i:Nat) (l:List Int),run (rwF x true) m i l=match lr x i m with | some p=>.inr p | none=>.inl l
 | [],i,l=>by rw [lr];rfl
 | a::m,i,l=>by
  rw [jx,lr]
  unfold rwF
  cases kI x a with
  | none=>exact Dd x m (i+1) l
  | some p=>rfl
theorem De (x:Zl):∀ (m:List Zd) (i:Nat) (l w:List Int),jL x m=some w→run (rwF x false) m i l=.inl (l++w)
 | [],i,l,w,h=>by rw [jL] at h;injection h with h;subst h;rw [List.append_nil];rfl
 | a::m,i,l,w,h=>by
  rw [jL] at h
  rw [jx]
  unfold rwF
  cases ha:kI x a with
  | none=>rw [ha] at h;cases h
  | some p =>
   cases hm:jL x m with
   | none=>rw [ha,hm] at h;cases h
   | some q =>
    rw [ha,hm,bc,bc] at h
    injection h with h
    subst h
    rw [← List.append_assoc]
    exact De x m (i+1) (l++p) q hm
theorem xi (x:Zl) (hx:VCase x) (n:Nat):∀ r:Zd,dG r=true→pV r≤1000→r9 r≤n→iA n r x=some (gW [] (kI x r)):=by
 induction n with
 | zero=>intro r _ _ hd;rw [js] at hd;omega
 | succ n ih =>
  intro r hr hc hd
  obtain ⟨hl,ha,_⟩:=j9 hr
  have hdc:=oZ r
  show iz (iA n) r x=_
  unfold iz
  rw [yd hx hr (by omega),bc]
  cases hw:kI x r with
  | none=>rfl
  | some w =>
   simp only [Option.isSome_some,Bool.not_true,bv]
   have hargs:∀ k (hk:k<r.Args.length),iA n r.Args[k] x=some (gW [] (kI x r.Args[k])):=fun k hk=>ih _ (ha _ (List.getElem_mem hk)) (by have:=qy r;have:=sM (List.getElem_mem hk);omega) (by have:=iQ (List.getElem_mem hk);omega)
   have hcl:∀ k (hk:k<r.Args.length) p,kI x r.Args[k]=some p→p.length≤1000:=fun k hk p h=>by have h1:=uV x _ p h;have:=qy r;have:=sM (List.getElem_mem hk);omega
   refine (ku (l:=r.Args) (by omega) (fun i (s:List Int)=>(s,i)) (rwF x (r.Kind == 6)) (fun s=>.inl s) (fun p=>.inr (p,true)) (fun k s=>s.length≤k*1000) [] (by simp) (fun k hk s hs=>⟨?_,fun s' h'=>?_⟩) (fun s _=>by simp only [cN,bv])).trans ?_
   ·simp only [gY hk,bL,aQ hk,bc,bM hk (show r.Args.length≤4611686018427387904 by omega)]
    rw [hargs k hk]
    have:=hcl k hk
    unfold rwF
    cases hwk:kI x r.Args[k] with
    | none=>rfl
    | some p =>
     have:=this p hwk
     show Option.bind (cond (r.Kind == 6) _ _) _=_
     cases (r.Kind == 6)
     ·simp only [bv]
      rw [show (gW ([]:List Int) (some p)).1=p from rfl]
      rw [df (show (s.length+p.length)*8≤140737488355328 by omega) (by omega)];rfl
     simp only [bL]
     rw [show (gW ([]:List Int) (some p)).1=p from rfl]
     rw [df (show (([(k:Int)]).length+p.length)*8≤140737488355328 by simp;omega) (by simp;omega)];rfl
   ·have:=hcl k hk
    unfold rwF at h'
    cases hwk:kI x r.Args[k] with
    | none=>rw [hwk] at h';injection h' with h';subst h';omega
    | some p =>
     have:=this p hwk
     rw [hwk] at h'
     cases h6:(r.Kind == 6)
     ·rw [h6] at h';injection h' with h';subst h';rw [List.length_append];omega
     rw [h6] at h';cases h'
   rw [zf] at hw
   cases h5:(r.Kind == 5)
   ·rw [h5] at hw
    simp only [bv] at hw
    cases h6:(r.Kind == 6)
    ·rw [h6] at hw
     simp only [bv] at hw
     have hnil:r.Args=[]:=by
      have hp:=hr
      rw [gV,Bool.and_eq_true] at hp
      have h1:=hp.1
      unfold kE at h1
      simp only [Bool.and_eq_true,h5,h6,Bool.false_or] at h1
      exact List.isEmpty_iff.1 h1.2
     rw [hnil]
     cases hh:jK r x
     ·rw [hh] at hw;cases hw
     rw [hh] at hw;injection hw with hw;subst hw;rfl
    rw [h6] at hw
    rw [Dd,show lr x 0 r.Args=some w from hw];rfl
   rw [h5] at hw
   have h6:(r.Kind == 6)=false:=by rw [eq_of_beq h5];rfl
   rw [h6,De x r.Args 0 [] w hw];rfl
theorem AY {r:Zd} {x:Zl} (hx:VCase x) (hr:dG r=true) (hc:pV r≤32):jD r x=some (gW [] (kI x r)):=xi x hx FUEL r hr (by omega) (by have:=oZ r;have hf:FUEL=1267650600228229401496703205376:=rfl;omega)
def wD (g:Goal):Zn:=⟨g.1,g.2⟩
def qL (p:Prf):Zf:=⟨p.1,p.2.1,p.2.2⟩
def nU (plan:List Zc) (l:List Zb) (imp:ByteArray) (p:Zc) (a:Zb):Option Goal:=cond (jk plan l imp ⟨p.ID,a.ID⟩) ((dw a p.Code).map fun r=>((⟨p.ID,a.ID⟩:Za),r)) none
theorem AZ {α β:Type} (h:α→Option β):∀ (l:List α) (s:List β),l.foldl (fun s a=>s++(h a).toList) s=s++l.filterMap h
 | [],s=>by simp
 | a::l,s=>by
  rw [List.foldl_cons,AZ h l]
  cases ha:h a with
  | none=>rw [List.filterMap_cons_none ha];simp
  | some b=>rw [List.filterMap_cons_some ha];simp
theorem ye (plan:List Zc) (l:List Zb) (imp:ByteArray):(dD plan l imp).length≤plan.length*l.length:=by
 have key:∀ q:List Zc,(q.flatMap fun p=>l.filterMap (nU plan l imp p)).length≤q.length*l.length:=by
  intro q
  induction q with
  | nil=>simp
  | cons p q ih =>
   rw [List.flatMap_cons,List.length_append,List.length_cons,Nat.add_mul,Nat.one_mul]
   have:=List.length_filterMap_le (nU plan l imp p) l;omega
 exact key plan
theorem B9 {plan:List Zc} {l:List Zb} (hv:VPs plan) (hl:VAs l) (imp:ByteArray):oY plan l imp=some ((dD plan l imp).map wD):=by
 unfold oY
 have hlen:=hv.len
 have hll:=hl.len
 have inner:∀ (p:Zc) (s:List Zn),s.length≤64000→Option.bind (aT (S:=(List Zn)×Int) (T:=((List Zn))) (fun (l17,v20)=>cond (decide (v20<(l.length:Int))) (Option.bind (Option.bind (idx l v20) (fun m33=>Option.bind (dF m33 p.Code) (fun x36=>Option.bind (gd x36.2 (cg plan l imp (⟨p.ID,m33.ID⟩:Za))) (fun x38=>cond (x36.2&&x38) (Option.bind (app 112 l17 [(⟨(⟨p.ID,m33.ID⟩:Za),x36.1⟩:Zn)]) (fun l42=>some l42)) (some l17))))) (fun l31=>some (.inl (l31,(IntKind.i64.wrap (v20+1)))))) (some (.inr l17))) FUEL (s,0)) (fun t=>(some t:Option (List Zn)))=some (s++(l.filterMap (nU plan l imp p)).map wD):=by
  intro p s hs
  refine (cB (l:=l) (by omega) (fun i (s:List Zn)=>(s,i)) (fun s a=>s++((nU plan l imp p a).map wD).toList) (fun s=>s) (fun k t=>t.length≤s.length+k) s (Nat.le_refl _) (fun k hk t ht=>?_) (fun t _=>by simp only [cN,bv])).1.trans ?_
  ·simp only [gY hk,bL,aQ hk,bc,bM hk (show l.length≤4611686018427387904 by omega)]
   have hva:=hl.all _ (List.getElem_mem hk)
   rw [qA _ _ hva,bc,wm _ _ _ _ hv.sorted hl]
   unfold nU
   cases hr:dw l[k] p.Code with
   | none =>
    have e:(cond (jk plan l imp ⟨p.ID,l[k].ID⟩) ((none:Option Zd).map fun r=>((⟨p.ID,l[k].ID⟩:Za),r)) none)=none:=by cases jk plan l imp ⟨p.ID,l[k].ID⟩ <;> rfl
    rw [e]
    exact ⟨by simp [gW,gd],by simp;omega⟩
   | some r =>
    show Option.bind (Option.bind (gd true (some (jk plan l imp ⟨p.ID,l[k].ID⟩))) _) _=_∧_
    rw [cu,bc]
    cases jk plan l imp ⟨p.ID,l[k].ID⟩
    ·exact ⟨by simp [gW],by simp;omega⟩
    show Option.bind (Option.bind (app 112 t [_]) _) _=_∧_
    rw [df (by simp;omega) (by simp;omega)]
    exact ⟨rfl,by simp;omega⟩
  rw [AZ (fun a=>(nU plan l imp p a).map wD)]
  congr 2
  rw [List.map_filterMap]
 refine (cB (l:=plan) (by omega) (fun i (s:List Zn)=>(s,i)) (fun s p=>s++(l.filterMap (nU plan l imp p)).map wD) (fun s=>s) (fun k t=>t.length≤1000*k) [] (by simp) (fun k hk t ht=>?_) (fun t _=>by simp only [cN,bv])).1.trans ?_
 ·simp only [gY hk,bL,aQ hk,bc,bM hk (show plan.length≤4611686018427387904 by omega)]
  have hin:=inner plan[k] t (by omega)
  have e:∀ {α β:Type} (x:Option α) (z:α) (K:α→Option β),Option.bind x (fun t=>some t)=some z→Option.bind x K=K z:=by
   intro α β x z K h
   cases x with
   | none=>cases h
   | some y=>injection h with h;rw [h];rfl
  refine ⟨e _ _ _ hin,?_⟩
  have:=List.length_filterMap_le (nU plan l imp plan[k]) l
  simp;omega
 have key:∀ (q:List Zc) (s:List Zn),q.foldl (fun s p=>s++(l.filterMap (nU plan l imp p)).map wD) s=s++(q.flatMap fun p=>l.filterMap (nU plan l imp p)).map wD:=by
  intro q
  induction q with
  | nil=>intro s;simp
  | cons p q ih=>intro s;rw [List.foldl_cons,ih,List.flatMap_cons,List.map_append,List.append_assoc]
 rw [key,List.nil_append];rfl
theorem D8:lR=fm:=rfl
theorem Ca {plan:List Zc} {l:List Zb} (hv:VPs plan) (hl:VAs l) {imp:ByteArray} {g:Goal} (hg:g∈dD plan l imp) (known:List Za) (hk:known.length≤100000) (ps:List Zf) (hps:ps.length≤100000) :
    ja (wD g) plan l imp known ps=some ((gI plan l imp (aZ known) g).isSome,known,ps++((gI plan l imp (aZ known) g).map qL).toList):=by
  unfold ja
  have hf:=B7 hg
  have hr:=yc hl hg
  rw [D8,xY hv hl imp _ known (by omega),bc]
  unfold uh wD
  dsimp only
  rw [hf.1]
  simp only [bL]
  rw [zg (px hv imp g.1 _ hf.2) hr.1 hr.2.1 hr.2.2,bc]
  unfold gI
  cases hw:kI (pF plan l imp g.1 (aZ known)) g.2 with
  | none=>simp [gW]
  | some w =>
    show Option.bind (cond true (Option.bind (app 64 ps [_]) _) _) _=_
    rw [bL,df (by simp;omega) (by simp;omega)];rfl
theorem Cb {plan:List Zc} {l:List Zb} (hv:VPs plan) (hl:VAs l) {imp:ByteArray} (o:List Goal) (ho:∀ g∈o,g∈dD plan l imp) (ps:List Prf) (hlen:ps.length+o.length≤64000) {β:Type} (K:List Zn×List Zf×List Za→Option β) :
    Option.bind (aT (S:=(List Zn)×Int×(List Zf)×(List Za)) (T:=((List Zn)×(List Zf)×(List Za))) (fun (l27,v30,l32,l36)=>cond (decide (v30<((o.map wD).length:Int))) (Option.bind (Option.bind (idx (o.map wD) v30) (fun m68=>Option.bind (ja m68 plan l imp l36 l32) (fun x70=>cond (!x70.1) (Option.bind (app 112 l27 [m68]) (fun l80=>some (l80,x70.2.2,x70.2.1))) (some (l27,x70.2.2,x70.2.1))))) (fun (l58,l62,l66)=>some (.inl (l58,(IntKind.i64.wrap (v30+1)),l62,l66)))) (some (.inr (l27,l32,l36)))) FUEL (([]:List Zn),0,ps.map qL,ps.map fun p:Prf=>p.1)) K =
      K ((o.filter fun g=>(gI plan l imp (aZ (ps.map fun p:Prf=>p.1)) g).isNone).map wD,(ps++o.filterMap (gI plan l imp (aZ (ps.map fun p:Prf=>p.1)))).map qL,ps.map fun p:Prf=>p.1):=by
  generalize hS:(ps.map fun p:Prf=>p.1)=known
  have hkn:known.length=ps.length:=by rw [← hS,List.length_map]
  have hml:(o.map wD).length=o.length:=List.length_map _
  refine (cB (l:=o.map wD) (by omega) (fun i (s:List Zn×List Zf)=>(s.1,i,s.2,known)) (fun s t=>match gI plan l imp (aZ known) (t.claim,t.rule) with | some p=>(s.1,s.2++[qL p]) | none=>(s.1++[t],s.2)) (fun s=>(s.1,s.2,known)) (fun k s=>s.1.length≤k∧s.2.length≤ps.length+k) ([],ps.map qL) ⟨by simp,by simp⟩ (fun k hk s hs=>?_) (fun s _=>by simp only [cN,bv])).1.trans ?_
  · obtain ⟨a,b⟩:=s
    obtain ⟨h1,h2⟩:=hs
    dsimp only at h1 h2 ⊢
    simp only [gY hk,bL,aQ hk,bc,bM hk (show (o.map wD).length≤4611686018427387904 by omega)]
    have hk':k<o.length:=by omega
    rw [List.getElem_map,Ca hv hl (ho _ (List.getElem_mem hk')) known (by omega) b (by omega),bc]
    rw [show gI plan l imp (aZ known) ((wD o[k]).claim,(wD o[k]).rule)=gI plan l imp (aZ known) o[k] from rfl]
    cases hp:gI plan l imp (aZ known) o[k] with
    | none =>
      simp only [Option.isSome_none,Bool.not_false,bL]
      rw [df (by simp;omega) (by simp;omega)]
      exact ⟨by simp,by simp;omega,by omega⟩
    | some p =>
      simp only [Option.isSome_some,Bool.not_true,bv]
      exact ⟨rfl,by omega,by simp;omega⟩
  have key:∀ (o:List Goal) (a:List Zn) (b:List Zf),(o.map wD).foldl (fun (s:List Zn×List Zf) t=>match gI plan l imp (aZ known) (t.claim,t.rule) with | some p=>(s.1,s.2++[qL p]) | none=>(s.1++[t],s.2)) (a,b)=(a++(o.filter fun g=>(gI plan l imp (aZ known) g).isNone).map wD,b++(o.filterMap (gI plan l imp (aZ known))).map qL):=by
    intro o
    induction o with
    | nil=>intro a b;simp
    | cons g o ih =>
      intro a b
      rw [List.map_cons,List.foldl_cons,List.filter_cons]
      show List.foldl _ (match gI plan l imp (aZ known) g with | some p=>(a,b++[qL p]) | none=>(a++[wD g],b)) _=_
      cases hp:gI plan l imp (aZ known) g with
      | none=>rw [List.filterMap_cons_none hp];dsimp only;rw [ih];simp
      | some p=>rw [List.filterMap_cons_some hp];dsimp only;rw [ih];simp
  rw [key,List.nil_append,List.map_append]
def tH (p0:List Zc) (p1:List Zb) (p2:ByteArray):(List Zn)×(List Zf)×(List Za)→Option (((List Zn)×(List Zf)×(List Za))⊕(Unit⊕(List Zf×Int))):=(fun (l13,l15,l19)=>Option.bind (aT (S:=(List Zn)×Int×(List Zf)×(List Za)) (T:=((List Zn)×(List Zf)×(List Za))) (fun (l27,v30,l32,l36)=>cond (decide (v30<(l13.length:Int))) (Option.bind (Option.bind (idx l13 v30) (fun m68=>Option.bind (ja m68 p0 p1 p2 l36 l32) (fun x70=>cond (!x70.1) (Option.bind (app 112 l27 [m68]) (fun l80=>some (l80,x70.2.2,x70.2.1))) (some (l27,x70.2.2,x70.2.1))))) (fun (l58,l62,l66)=>some (.inl (l58,(IntKind.i64.wrap (v30+1)),l62,l66)))) (some (.inr (l27,l32,l36)))) FUEL (([]:List Zn),0,l15,l19)) (fun (l42,l46,l50)=>cond (((l46.length:Nat):Int) == ((l15.length:Nat):Int)) (some (.inr (.inr (l46,(0:Int))))) (Option.bind (sub l46 ((l15.length:Nat):Int) (l46.length:Int)) (fun l85=>Option.bind (aT (S:=Int×(List Za)) (T:=((List Za))) (fun (v86,l88)=>cond (decide (v86<((l46.length - ((l15.length:Nat):Int).toNat:Nat):Int))) (Option.bind (lF v86) (fun u100=>Option.bind (idx l46 (((l15.length:Nat):Int)+v86)) (fun m101=>Option.bind (app 16 l88 [m101.Claim]) (fun l105=>some (.inl ((IntKind.i64.wrap (v86+1)),l105)))))) (some (.inr l88))) FUEL (0,l50)) (fun l96=>some (.inl (l42,l46,l96)))))))
theorem D9 (a b:List Zf) (known:List Za) (h:a.length+b.length+known.length≤200000) {β:Type} (K:List Za→Option β) :
    Option.bind (aT (S:=Int×(List Za)) (T:=((List Za))) (fun (v86,l88)=>cond (decide (v86<(((a++b).length - ((a.length:Nat):Int).toNat:Nat):Int))) (Option.bind (lF v86) (fun u100=>Option.bind (idx (a++b) (((a.length:Nat):Int)+v86)) (fun m101=>Option.bind (app 16 l88 [m101.Claim]) (fun l105=>some (.inl ((IntKind.i64.wrap (v86+1)),l105)))))) (some (.inr l88))) FUEL (0,known)) K=K (known++b.map (·.Claim)):=by
  have e:(a++b).length - ((a.length:Nat):Int).toNat=b.length:=by rw [List.length_append];omega
  rw [e]
  refine (cB (l:=b) (by omega) (fun i (s:List Za)=>(i,s)) (fun s p=>s++[p.Claim]) (fun s=>s) (fun k s=>s.length≤known.length+k) known (Nat.le_refl _) (fun k hk s hs=>?_) (fun s _=>by simp only [cN,bv])).1.trans ?_
  · simp only [gY hk,bL,bM hk (show b.length≤4611686018427387904 by omega)]
    rw [B0 (by omega),bc,show ((a.length:Nat):Int)+(k:Int)=((a.length+k:Nat):Int) by omega,aQ (show a.length+k<(a++b).length by rw [List.length_append];omega),bc,df (by simp;omega) (by simp;omega),bc]
    have e2:(a++b)[a.length+k]'(by rw [List.length_append];omega)=b[k]:=by rw [List.getElem_append_right (by omega)];congr 1;omega
    rw [e2]
    exact ⟨rfl,by simp;omega⟩
  have key:∀ (b:List Zf) (s:List Za),b.foldl (fun s p=>s++[p.Claim]) s=s++b.map (·.Claim):=by
    intro b
    induction b with
    | nil=>intro s;simp
    | cons p b ih=>intro s;rw [List.foldl_cons,ih];simp
  rw [key]
theorem Ea (ps:List Prf):(ps.map qL).map (·.Claim)=ps.map fun p:Prf=>p.1:=by rw [List.map_map];rfl
theorem rZ {γ π:Type} (f:γ→Option π):∀ o:List γ,(o.filterMap f).length+(o.filter fun g=>(f g).isNone).length=o.length
 | []=>rfl
 | g::o=>by
  have ih:=rZ f o
  rw [List.filter_cons]
  cases hf:f g with
  | some p=>rw [List.filterMap_cons_some hf];simp;omega
  | none=>rw [List.filterMap_cons_none hf];simp;omega
theorem A0 {plan:List Zc} {l:List Zb} (hv:VPs plan) (hl:VAs l) {imp:ByteArray}:∀ (n:Nat) (o:List Goal) (ps:List Prf) (N:Nat),o.length≤n→n<N→(∀ g∈o,g∈dD plan l imp)→ps.length+o.length≤64000 →
    aT (tH plan l imp) N (o.map wD,ps.map qL,ps.map fun p:Prf=>p.1)=some (.inr ((rX (fun p:Prf=>p.1) (gI plan l imp) n o ps).map qL,0)):=by
  have step:∀ (o:List Goal) (ps:List Prf),(∀ g∈o,g∈dD plan l imp)→ps.length+o.length≤64000→tH plan l imp (o.map wD,ps.map qL,ps.map fun p:Prf=>p.1)=cond (o.filterMap (gI plan l imp (aZ (ps.map fun p:Prf=>p.1)))).isEmpty (some (.inr (.inr (ps.map qL,0))))
      (some (.inl ((o.filter fun g=>(gI plan l imp (aZ (ps.map fun p:Prf=>p.1)) g).isNone).map wD,(ps++o.filterMap (gI plan l imp (aZ (ps.map fun p:Prf=>p.1)))).map qL,(ps++o.filterMap (gI plan l imp (aZ (ps.map fun p:Prf=>p.1)))).map fun p:Prf=>p.1))):=by
    intro o ps ho hlen
    unfold tH
    refine (Cb hv hl o ho ps hlen _).trans ?_
    have hnl:=List.length_filterMap_le (gI plan l imp (aZ (ps.map fun p:Prf=>p.1))) o
    generalize o.filterMap (gI plan l imp (aZ (ps.map fun p:Prf=>p.1)))=new at hnl
    dsimp only
    rw [List.map_append]
    cases hn:new.isEmpty
    · have hne:new≠[]:=fun e=>by rw [e] at hn;cases hn
      have hpos:0<new.length:=List.length_pos_iff.2 hne
      rw [show ((((ps.map qL++new.map qL).length:Nat):Int) == (((ps.map qL).length:Nat):Int))=false from by rw [beq_eq_false_iff_ne];simp;omega]
      simp only [bv]
      rw [lY (by simp) (Nat.le_refl _),bc,D9 _ _ _ (by simp;omega)]
      rw [Ea,← List.map_append,← List.map_append]
    have e:new=[]:=List.isEmpty_iff.1 hn
    subst e
    simp
  intro n
  induction n with
  | zero =>
    intro o ps N ho hN hg hlen
    obtain rfl:o=[]:=List.length_eq_zero_iff.1 (by omega)
    obtain ⟨N,rfl⟩:∃ m,N=m+1:=⟨N - 1,by omega⟩
    rw [rX,fL,step [] ps hg hlen];rfl
  | succ n ih =>
    intro o ps N ho hN hg hlen
    obtain ⟨N,rfl⟩:∃ m,N=m+1:=⟨N - 1,by omega⟩
    rw [fL,step o ps hg hlen,rX]
    cases he:(o.filterMap (gI plan l imp (aZ (ps.map fun p:Prf=>p.1)))).isEmpty
    · have h1:=sO he
      have h2:=rZ (gI plan l imp (aZ (ps.map fun p:Prf=>p.1))) o
      exact ih _ _ N (by omega) (by omega) (fun g hg'=>hg g (List.mem_filter.1 hg').1) (by rw [List.length_append];omega)
    rfl
theorem Cc {plan:List Zc} {l:List Zb} (hv:VPs plan) (hl:VAs l) {imp:ByteArray} (h1:cZ plan=some 0) (h2:cY l=some 0) (h3:bO imp=some true):jj plan l imp=some ((ww plan l imp).map qL,0):=by
 have hlen:=hv.len
 have hll:=hl.len
 have hg:=ye plan l imp
 have hm:plan.length*l.length≤64*1000:=Nat.mul_le_mul hlen hll
 unfold jj
 rw [h1,bc,h2,bc,h3,bc,B9 hv hl,bc]
 simp only [bne_self_eq_false,bv,Bool.not_true]
 have key:=A0 hv hl (imp:=imp) (dD plan l imp).length (dD plan l imp) [] FUEL (Nat.le_refl _) (by have hf:FUEL=1267650600228229401496703205376:=rfl;omega) (fun g h=>h) (by simp;omega)
 exact (congrArg (fun o=>Option.bind o _) key).trans rfl
abbrev RSt:=(List Zf)×Bool×(List Za)
def wE (s:RSt) (o:Option Prf):RSt:=match o with
 | some p=>(s.1++[qL p],true,iD bu s.2.2 p.1)
 | none=>s
def gj (s:RSt) (new:List Prf):RSt:=(s.1++new.map qL,s.2.1 || !new.isEmpty,new.foldl (fun t p=>iD bu t p.1) s.2.2)
theorem wF {α:Type} (h:α→Option Prf):∀ (l:List α) (s:RSt),l.foldl (fun s a=>wE s (h a)) s=gj s (l.filterMap h)
 | [],s=>by simp [gj]
 | a::l,s=>by
  rw [List.foldl_cons,wF h l]
  cases ha:h a with
  | none=>rw [List.filterMap_cons_none ha];rfl
  | some p=>rw [List.filterMap_cons_some ha];simp [gj,wE]
theorem Cd (s:RSt) (a b:List Prf):gj (gj s a) b=gj s (a++b):=by
 unfold gj
 rw [List.map_append,List.append_assoc,List.foldl_append]
 dsimp only
 congr 2
 cases a <;> cases b <;> cases s.2.1 <;> rfl
theorem Eb (s:RSt) (o:Option Prf):(wE s o).1.length≤s.1.length+1∧(wE s o).2.2.length≤s.2.2.length+1:=by
 cases o with
 | none=>exact ⟨by show s.1.length≤_;omega,by show s.2.2.length≤_;omega⟩
 | some p=>exact ⟨by simp [wE],lT _ _⟩
theorem wG (s:RSt):∀ (new:List Prf),(gj s new).1.length≤s.1.length+new.length∧(gj s new).2.2.length≤s.2.2.length+new.length:=by
 intro new
 refine ⟨by simp [gj],?_⟩
 show (new.foldl (fun t p=>iD bu t p.1) s.2.2).length≤_
 generalize s.2.2=t
 induction new generalizing t with
 | nil=>simp
 | cons p new ih=>rw [List.foldl_cons,List.length_cons];have:=ih (iD bu t p.1);have:=lT (lt:=bu) t p.1;omega
theorem ref_one {plan:List Zc} {l:List Zb} (hv:VPs plan) (hl:VAs l) (ha:AscA l) (imp:ByteArray) (set:List Za) (hs:set.length≤1000000) {p:Zc} (hp:p∈plan) {a:Zb} (hal:a∈l) (s:RSt) (h1:s.1.length≤1000000) (h2:s.2.2.length≤1000000) {i j:Int} (hi:idx plan i=some p) (hj:idx l j=some a) :
    Option.bind (idx plan i) (fun m60=>Option.bind (idx l j) (fun m61=>Option.bind (cG set (⟨m60.ID,m61.ID⟩:Za)) (fun x63=>Option.bind (gd (!x63) (cW plan l imp (⟨m60.ID,m61.ID⟩:Za))) (fun x64=>cond (x63||(!x64)) (some (s.1,s.2.1,s.2.2)) (Option.bind (fB plan l imp (⟨m60.ID,m61.ID⟩:Za) set) (fun x66=>Option.bind (idx l j) (fun m68=>Option.bind (idx plan i) (fun m69=>Option.bind (fb m68 m69.Code) (fun x70=>Option.bind (jD x70.1 x66.1) (fun x72=>cond x72.2 (Option.bind (app 64 s.1 [(⟨(⟨m60.ID,m61.ID⟩:Za),x72.1,x66.2⟩:Zf)]) (fun l76=>Option.bind (eU s.2.2 (⟨m60.ID,m61.ID⟩:Za)) (fun x80=>some (l76,true,x80)))) (some (s.1,s.2.1,s.2.2))))))))))))=some (wE s (kM plan l imp (aZ set) p a)):=by
  have hlen:=hv.len
  have hva:=hl.all a hal
  rw [hi,bc,hj,bc,mM _ _ (by omega),bc,yY _ _ _ _ (by omega) hl]
  unfold kM
  cases hm:aZ set ⟨p.ID,a.ID⟩
  · rw [Bool.not_false,cu,bc]
    cases hc:jk plan l imp ⟨p.ID,a.ID⟩
    · rfl
    simp only [Bool.not_true,Bool.or_self,bv]
    obtain ⟨r,hr⟩:=AS hv ha hp hal hc
    have hro:=wx hva hr
    have hf:=ow hc
    rw [AI hv hl imp _ set (by omega),bc,bc,bc,pn _ _ hva.ok.len,bc,hr]
    unfold uh
    rw [hc]
    simp only [bL]
    rw [show (gW rp (some r)).1=r from rfl,show (some r).getD rp=r from rfl,AY (px hv imp _ _ hf) hro.2.1 hro.2.2,bc]
    unfold gI
    dsimp only
    cases hw:kI (pF plan l imp ⟨p.ID,a.ID⟩ (aZ set)) r with
    | none=>rfl
    | some w =>
      show Option.bind (app 64 s.1 [_]) _=_
      rw [df (by simp;omega) (by simp;omega),bc,tE _ _ (by omega)];rfl
  rfl
theorem Ec {plan:List Zc} {l:List Zb} (hv:VPs plan) (hl:VAs l) (ha:AscA l) (imp:ByteArray) (set:List Za) (hs:set.length≤100000) (out:List Zf) (h1:out.length≤100000) {β:Type} (K:RSt→Option β) :
    Option.bind (aT (S:=(List Zf)×Bool×(List Za)×Int) (T:=((List Zf)×Bool×(List Za))) (fun (l22,v25,l26,v27)=>cond (decide (v27<(plan.length:Int))) (Option.bind (aT (S:=(List Zf)×Bool×(List Za)×Int) (T:=((List Zf)×Bool×(List Za))) (fun (l38,v41,l42,v43)=>cond (decide (v43<(l.length:Int))) (Option.bind (Option.bind (idx plan v27) (fun m60=>Option.bind (idx l v43) (fun m61=>Option.bind (cG set (⟨m60.ID,m61.ID⟩:Za)) (fun x63=>Option.bind (gd (!x63) (cW plan l imp (⟨m60.ID,m61.ID⟩:Za))) (fun x64=>cond (x63||(!x64)) (some (l38,v41,l42)) (Option.bind (fB plan l imp (⟨m60.ID,m61.ID⟩:Za) set) (fun x66=>Option.bind (idx l v43) (fun m68=>Option.bind (idx plan v27) (fun m69=>Option.bind (fb m68 m69.Code) (fun x70=>Option.bind (jD x70.1 x66.1) (fun x72=>cond x72.2 (Option.bind (app 64 l38 [(⟨(⟨m60.ID,m61.ID⟩:Za),x72.1,x66.2⟩:Zf)]) (fun l76=>Option.bind (eU l42 (⟨m60.ID,m61.ID⟩:Za)) (fun x80=>some (l76,true,x80)))) (some (l38,v41,l42))))))))))))) (fun (l56,v57,l58)=>some (.inl (l56,v57,l58,(IntKind.i64.wrap (v43+1)))))) (some (.inr (l38,v41,l42)))) FUEL (l22,v25,l26,0)) (fun (l47,v48,l49)=>some (.inl (l47,v48,l49,(IntKind.i64.wrap (v27+1)))))) (some (.inr (l22,v25,l26)))) FUEL (out,false,set,0)) K =
      K (gj (out,false,set) (plan.flatMap fun p=>l.filterMap fun a=>kM plan l imp (aZ set) p a)):=by
  have hlen:=hv.len
  have hll:=hl.len
  refine (cB (l:=plan) (by omega) (fun i (s:RSt)=>(s.1,s.2.1,s.2.2,i)) (fun s p=>gj s (l.filterMap fun a=>kM plan l imp (aZ set) p a)) (fun s=>(s.1,s.2.1,s.2.2)) (fun k s=>s.1.length≤out.length+1000*k∧s.2.2.length≤set.length+1000*k) (out,false,set) ⟨by simp,by simp⟩ (fun k hk s hs=>?_) (fun s _=>by simp only [cN,bv])).1.trans ?_
  · obtain ⟨g1,g2⟩:=hs
    have hfl:=List.length_filterMap_le (fun a=>kM plan l imp (aZ set) plan[k] a) l
    have hrl:=wG s (l.filterMap fun a=>kM plan l imp (aZ set) plan[k] a)
    refine ⟨?_,by omega,by omega⟩
    simp only [gY hk,bL,bM hk (show plan.length≤4611686018427387904 by omega)]
    refine (cB (l:=l) (by omega) (fun i (s:RSt)=>(s.1,s.2.1,s.2.2,i)) (fun s a=>wE s (kM plan l imp (aZ set) plan[k] a)) (fun s=>(s.1,s.2.1,s.2.2)) (fun j t=>t.1.length≤s.1.length+j∧t.2.2.length≤s.2.2.length+j) s ⟨Nat.le_refl _,Nat.le_refl _⟩ (fun j hj t ht=>?_) (fun t _=>by simp only [cN,bv])).1.trans ?_
    · obtain ⟨t1,t2⟩:=ht
      have hst:=Eb t (kM plan l imp (aZ set) plan[k] l[j])
      refine ⟨?_,by omega,by omega⟩
      simp only [gY hj,bL,bM hj (show l.length≤4611686018427387904 by omega)]
      exact (congrArg (fun o=>Option.bind o _) (ref_one hv hl ha imp set (by omega) (List.getElem_mem hk) (List.getElem_mem hj) t (by omega) (by omega) (aQ hk) (aQ hj))).trans rfl
    rw [wF (fun a=>kM plan l imp (aZ set) plan[k] a)]
  have key:∀ (q:List Zc) (s:RSt),q.foldl (fun s p=>gj s (l.filterMap fun a=>kM plan l imp (aZ set) p a)) s=gj s (q.flatMap fun p=>l.filterMap fun a=>kM plan l imp (aZ set) p a):=by
    intro q
    induction q with
    | nil=>intro s;simp [gj]
    | cons p q ih=>intro s;rw [List.foldl_cons,ih,List.flatMap_cons,Cd]
  rw [key]
section
variable {γ δ π:Type} [DecidableEq δ] {gc:γ→δ} {cl:π→δ} {pv:(δ→Bool)→γ→Option π}
theorem Df (G:List γ) (ps:List π):(G.filter fun g => !aZ (ps.map cl) (gc g)).filterMap (pv (aZ (ps.map cl)))=G.filterMap fun g=>cond (aZ (ps.map cl) (gc g)) none (pv (aZ (ps.map cl)) g):=by
    generalize pv (aZ (ps.map cl))=f
    generalize aZ (ps.map cl)=m
    induction G with
    | nil=>rfl
    | cons g G ihG =>
      rw [List.filter_cons]
      cases hm:m (gc g)
      · simp only [Bool.not_false,if_true,List.filterMap_cons,ihG,hm,bv]
      simp only [Bool.not_true,Bool.false_eq_true,if_false,List.filterMap_cons,ihG,hm,bL]
theorem GD (hcl:∀ S g p,pv S g=some p→cl p=gc g) {G:List γ} (inj:∀ g∈G,∀ g'∈G,gc g=gc g'→g=g') (ps:List π):((G.filter fun g => !aZ (ps.map cl) (gc g)).filter fun g=>(pv (aZ (ps.map cl)) g).isNone)=G.filter fun g => !aZ ((ps++G.filterMap fun g=>cond (aZ (ps.map cl) (gc g)) none (pv (aZ (ps.map cl)) g)).map cl) (gc g):=by
    rw [List.filter_filter]
    refine List.filter_congr fun g hg=>?_
    cases hm:aZ (ps.map cl) (gc g)
    · cases hp:pv (aZ (ps.map cl)) g with
      | none =>
        cases hq:aZ ((ps++G.filterMap fun g=>cond (aZ (ps.map cl) (gc g)) none (pv (aZ (ps.map cl)) g)).map cl) (gc g)
        · rfl
        · obtain ⟨p,k1,k2⟩:=jM.1 hq
          rcases List.mem_append.1 k1 with k1 | k1
          · rw [jM.2 ⟨p,k1,k2⟩] at hm;cases hm
          · obtain ⟨g',hg',he⟩:=List.mem_filterMap.1 k1
            cases hm':aZ (ps.map cl) (gc g')
            · rw [hm'] at he
              have:=inj g' hg' g hg ((hcl _ _ _ he).symm.trans k2)
              subst this
              rw [bv,hp] at he;cases he
            · rw [hm'] at he;cases he
      | some p =>
        have:aZ ((ps++G.filterMap fun g=>cond (aZ (ps.map cl) (gc g)) none (pv (aZ (ps.map cl)) g)).map cl) (gc g)=true:=jM.2 ⟨p,List.mem_append.2 (.inr (List.mem_filterMap.2 ⟨g,hg,by rw [hm];exact hp⟩)),hcl _ _ _ hp⟩
        rw [this];rfl
    have:aZ ((ps++G.filterMap fun g=>cond (aZ (ps.map cl) (gc g)) none (pv (aZ (ps.map cl)) g)).map cl) (gc g)=true:=by
      obtain ⟨p,k1,k2⟩:=jM.1 hm
      exact jM.2 ⟨p,List.mem_append.2 (.inl k1),k2⟩
    rw [this]
    cases (pv (aZ (ps.map cl)) g).isNone <;> rfl
end
theorem Ce {plan:List Zc} {l:List Zb} (hv:VPs plan) (hl:VAs l) (ha:AscA l) (imp:ByteArray) {body:(List Zf)×(List Za)×Bool→Option (((List Zf)×(List Za)×Bool)⊕(List Zf))}
    (hb:∀ (out:List Zf) (set:List Za) (more:Bool),out.length≤100000→set.length≤100000→body (out,set,more)=cond more (some (.inl ((gj (out,false,set) (plan.flatMap fun p=>l.filterMap fun a=>kM plan l imp (aZ set) p a)).1,(gj (out,false,set) (plan.flatMap fun p=>l.filterMap fun a=>kM plan l imp (aZ set) p a)).2.2,(gj (out,false,set) (plan.flatMap fun p=>l.filterMap fun a=>kM plan l imp (aZ set) p a)).2.1))) (some (.inr out))) :
    ∀ (n:Nat) (ps:List Prf) (set:List Za) (N:Nat),((dD plan l imp).filter fun g => !aZ (ps.map fun p:Prf=>p.1) g.1).length≤n→n+1<N→(∀ c,aZ set c=aZ (ps.map fun p:Prf=>p.1) c)→ps.length+((dD plan l imp).filter fun g => !aZ (ps.map fun p:Prf=>p.1) g.1).length≤64000→set.length≤ps.length →
      aT body N (ps.map qL,set,true)=some ((kb plan l imp n ps set).map qL):=by
  have hnewE:∀ (ps:List Prf) (set:List Za),(∀ c,aZ set c=aZ (ps.map fun p:Prf=>p.1) c)→(plan.flatMap fun p=>l.filterMap fun a=>kM plan l imp (aZ set) p a)=((dD plan l imp).filter fun g => !aZ (ps.map fun p:Prf=>p.1) g.1).filterMap (gI plan l imp (aZ (ps.map fun p:Prf=>p.1))):=by
    intro ps set hS
    have hSS:aZ set=aZ (ps.map fun p:Prf=>p.1):=funext hS
    rw [hSS,← wA hv ha]
    exact (Df (gc:=fun g:Goal=>g.1) (cl:=fun p:Prf=>p.1) (pv:=gI plan l imp) (dD plan l imp) ps).symm
  have hempty:∀ (ps:List Prf) (set:List Za) (N:Nat),ps.length≤64000→set.length≤ps.length→(plan.flatMap fun p=>l.filterMap fun a=>kM plan l imp (aZ set) p a)=[]→aT body (N+2) (ps.map qL,set,true)=some (ps.map qL):=by
    intro ps set N h1 h2 h
    have hm:(ps.map qL).length=ps.length:=List.length_map _
    rw [fL,hb _ _ _ (by omega) (by omega),h]
    have e:gj (ps.map qL,false,set) []=(ps.map qL,false,set):=by simp [gj]
    rw [e]
    show aT body (N+1) (ps.map qL,set,false)=_
    rw [fL,hb _ _ _ (by omega) (by omega)];rfl
  intro n
  induction n with
  | zero =>
    intro ps set N ho hN hS hlen hset
    obtain ⟨N,rfl⟩:∃ m,N=m+2:=⟨N - 2,by omega⟩
    rw [kb]
    refine hempty ps set N (by omega) hset ?_
    rw [hnewE ps set hS,List.length_eq_zero_iff.1 (Nat.le_zero.1 ho)];rfl
  | succ n ih =>
    intro ps set N ho hN hS hlen hset
    obtain ⟨N,rfl⟩:∃ m,N=m+2:=⟨N - 2,by omega⟩
    rw [kb]
    cases he:(plan.flatMap fun p=>l.filterMap fun a=>kM plan l imp (aZ set) p a).isEmpty
    · have hm:(ps.map qL).length=ps.length:=List.length_map _
      rw [fL,hb _ _ _ (by omega) (by omega)]
      have hn:=hnewE ps set hS
      have hrl:=wG (ps.map qL,false,set) (plan.flatMap fun p=>l.filterMap fun a=>kM plan l imp (aZ set) p a)
      have hmem:=rY (plan.flatMap fun p=>l.filterMap fun a=>kM plan l imp (aZ set) p a) set
      rw [hn] at he hrl hmem ⊢
      have hsh:=sO he
      have hsum:=rZ (gI plan l imp (aZ (ps.map fun p:Prf=>p.1))) ((dD plan l imp).filter fun g => !aZ (ps.map fun p:Prf=>p.1) g.1)
      have hop:=GD (gc:=fun g:Goal=>g.1) (cl:=fun p:Prf=>p.1) (pv:=gI plan l imp) (GA plan l imp) (G:=dD plan l imp) (yb (imp:=imp) hv ha) ps
      rw [hop,← Df (gc:=fun g:Goal=>g.1) (cl:=fun p:Prf=>p.1) (pv:=gI plan l imp) (dD plan l imp) ps] at hsh hsum
      generalize ((dD plan l imp).filter fun g => !aZ (ps.map fun p:Prf=>p.1) g.1).filterMap (gI plan l imp (aZ (ps.map fun p:Prf=>p.1)))=new at *
      have e:gj (ps.map qL,false,set) new=((ps++new).map qL,true,new.foldl (fun t p=>iD bu t p.1) set):=by unfold gj;rw [he,List.map_append];rfl
      rw [e]
      rw [e] at hrl
      refine ih (ps++new) _ (N+1) (by omega) (by omega) (fun c=>?_) (by rw [List.length_append];omega) (by rw [List.length_append];exact Nat.le_trans hrl.2 (by dsimp only;omega))
      rw [hmem,hS,List.map_append]
      unfold aZ;rw [List.any_append]
    exact hempty ps set N (by omega) hset (List.isEmpty_iff.1 he)
theorem Ed {plan:List Zc} {l:List Zb} (hv:VPs plan) (hl:VAs l) (ha:AscA l) {imp:ByteArray} (h1:lh plan=some 0) (h2:fK l=some 0) (h3:eg imp=some true):fE plan l imp=some ((ww plan l imp).map qL,0):=by
 have hlen:=hv.len
 have hll:=hl.len
 have hg:=ye plan l imp
 have hm:plan.length*l.length≤64*1000:=Nat.mul_le_mul hlen hll
 unfold fE
 rw [h1,bc,h2,bc,h3,bc]
 simp only [bne_self_eq_false,bv,Bool.not_true]
 have hfl:=List.length_filter_le (fun g:Goal => !aZ (([]:List Prf).map fun p:Prf=>p.1) g.1) (dD plan l imp)
 refine (congrArg (fun o=>Option.bind o _) (Ce hv hl ha imp (fun out set more k1 k2=>?_) (dD plan l imp).length [] [] FUEL hfl (by have hf:FUEL=1267650600228229401496703205376:=rfl;omega) (fun c=>rfl) (by simp only [List.length_nil];omega) (Nat.le_refl _))).trans ?_
 ·cases more
  ·rfl
  exact (Ec hv hl ha imp set k2 out k1 _).trans rfl
 show some ((kb plan l imp (dD plan l imp).length [] []).map qL,(0:Int))=_
 rw [uH hv ha]
theorem Ee (l:List Zc) (x:Zi) (hl:l.length≤140737488355328):bG l (fun y=>cC y x)=some (co l x.Product).isSome:=by
 unfold bG
 have e:bQ l (fun y=>cC y x)=some (match bT (fun k p=>cond (p.ID == x.Product) (some (Sum.inr (k:Int):Unit⊕Int)) none) l 0 with | some (.inr k)=>k | _ => -1):=by
  unfold bQ
  refine (bD (l:=l) (by omega) (fun k (p:Zc)=>cond (p.ID == x.Product) (some (.inr (k:Int))) none) (.inl ()) (fun k hk=>?_) (by simp only [cN,bv])).trans ?_
  ·simp only [gY hk,bL,aQ hk,bc,bM hk (show l.length≤4611686018427387904 by omega)]
   unfold cC
   rw [bc];cases (l[k].ID == x.Product) <;> rfl
  cases bT (fun k (p:Zc)=>cond (p.ID == x.Product) (some (Sum.inr (k:Int):Unit⊕Int)) none) l 0 with
  | none=>rfl
  | some t=>cases t <;> rfl
 rw [e,bc]
 unfold co
 rcases qB (fun p:Zc=>p.ID == x.Product) (fun k=>(Sum.inr (k:Int):Unit⊕Int)) l 0 with ⟨h1,h2⟩ | ⟨j,hj,h1,h2⟩
 ·rw [h1,h2];rfl
 rw [h1,h2]
 show some (decide (0≤((0+j:Nat):Int)))=_
 rw [det (by omega)];rfl
structure VIds (l:List Zc):Prop where
 id:∀ p∈l,1≤p.ID∧p.ID≤1000000
 lvl:∀ p∈l,cQ p.Code=6∨cQ p.Code=8
theorem Ef {plan:List Zc} {p:Zc} (hp:VProd plan p):StrsOk p.Processes:=by
 obtain ⟨h1,h2,_⟩:=kG hp.proc
 exact ⟨by omega,fun s hs=>by have:=wv (h2 s hs);omega⟩
theorem MPs.vids {l:List Zc} (h:MPs l):VIds l:=by
 have hlen:=h.len
 refine ⟨fun p hp=>?_,fun p hp=>?_⟩
 ·obtain ⟨i,hi,rfl⟩:=List.getElem_of_mem hp
  have:=(h.all i _ (List.getElem?_eq_getElem hi)).id;omega
 obtain ⟨i,hi,rfl⟩:=List.getElem_of_mem hp
 exact (h.all i _ (List.getElem?_eq_getElem hi)).lvl.1
theorem Eg (l:List ByteArray) (hl:StrsOk l):jZ l=some (ig l):=by
 obtain ⟨hl,hs⟩:=hl
 unfold jZ ig
 refine (bD (l:=l) (by omega) (fun k x=>cond (nw hU l k x) none (some (.inr false))) (.inl ()) (fun k hk=>?_) (by simp only [cN,bv])).trans ?_
 ·have h62:l.length≤4611686018427387904:=by omega
  simp only [gY hk,bL,aQ hk,bc,As _ (hs _ (List.getElem_mem hk)),BG,bM hk h62,nw]
  cases hw:hU l[k]
  ·rfl
  by_cases h0:0<k
  ·simp only [h0,decide_true,Bool.not_true,Bool.not_false,Bool.and_true,Bool.true_and,Bool.false_or,cu,fM h0 hk h62,bc,dt (show k - 1<l.length by omega),i7]
   cases Op.bytesLess (l[k-1]'(by omega)).toList l[k].toList <;> rfl
  simp only [h0,decide_false,Bool.and_false,iO,bc,Bool.not_true,Bool.false_or,Bool.false_and,bv,Bool.not_false,Bool.true_and,Bool.true_or,Bool.or_false];rfl
 rw [mP]
 have i2:decide ((l.length:Int)≤(8:Int))=decide (l.length≤8):=decide_eq_decide.2 (by omega)
 cases (l.all hU&&kK i7 l)
 ·simp
 simp [i2]
theorem GF {s:ByteArray} (h:cQ s=6∨cQ s=8):s.size≤8:=by
 unfold cQ at h
 split at h
 ·omega
 omega





structure POk (p:Zc):Prop where
 code:p.Code.size≤140737488355328
 proc:StrsOk p.Processes
 len:p.Inputs.length≤140737488355328
structure PSOk (l:List Zc):Prop where
 len:l.length≤140737488355328
 all:∀ p∈l,POk p
def Dg (plan:List Zc) (l:List Zi) (k:Nat) (x:Zi):Option Int :=
 cond (decide (0<k)&&decide (x.Product≤(l.getD (k - 1) x).Product)) (some 9) (cond (co plan x.Product).isSome (cond (decide (x.Value<0)||decide (1000000000000<x.Value)) (some 2) none) (some 6))
def zk (plan:List Zc) (l:List Zi):Int:=(bT (Dg plan l) l 0).getD 0
def nF (p:Zc):Int:=cond (decide (6≤cQ p.Code)&&(mL p.Country&&ig p.Processes)) (cond (decide (p.Price<1)||decide (1000000000000<p.Price)) 2 (cond (decide (8<p.Inputs.length)) 8 (cond (p.Obtained && !p.Inputs.isEmpty) 1 0))) 1
def rt (plan:List Zc) (k:Nat) (p:Zc):Option Int :=
 cond (decide (p.ID<1)||decide (1000000<p.ID)) (some 2) (cond (decide (0<k)&&decide (p.ID≤(plan.getD (k - 1) p).ID)) (some 9) (cond (nF p == 0) (cond (zk plan p.Inputs == 0) none (some (zk plan p.Inputs))) (some (nF p))))
def oy (plan:List Zc):Int:=cond (decide (plan.length≤64)) ((bT (rt plan) plan 0).getD 0) 8
theorem wH (s:ByteArray):cQ s=0∨cQ s=2∨cQ s=4∨cQ s=6∨cQ s=8:=by
 unfold cQ
 split
 ·rename_i h;omega
 exact .inl rfl
theorem Eh (s:ByteArray):((cQ s != 6)&&(cQ s != 8)) = !decide (6≤cQ s):=by
 rcases wH s with h | h | h | h | h <;> rw [h] <;> rfl
theorem GG (plan:List Zc) (l:List Zi) (hp:plan.length≤140737488355328) (hl:l.length≤140737488355328):dx plan l=some (zk plan l):=by
 unfold dx zk
 have h62:l.length≤4611686018427387904:=by omega
 refine (bD (l:=l) h62 (fun k x=>(Dg plan l k x).map .inr) (.inl ()) (fun k hk=>?_) (by simp only [cN,bv])).trans ?_
 ·simp only [gY hk,bL,aQ hk,bc,bM hk h62,BG,Dg,Ee _ _ hp]
  by_cases h0:0<k
  ·simp only [h0,decide_true,Bool.true_and,cu,fM h0 hk h62,bc,dt (show k - 1<l.length by omega)]
   cases decide (l[k].Product≤(l[k-1]'(by omega)).Product)
   ·cases (co plan l[k].Product).isSome
    ·rfl
    cases (decide (l[k].Value<0)||decide (1000000000000<l[k].Value)) <;> rfl
   rfl
  simp only [h0,decide_false,Bool.false_and,iO,bc,bv]
  cases (co plan l[k].Product).isSome
  ·rfl
  cases (decide (l[k].Value<0)||decide (1000000000000<l[k].Value)) <;> rfl
 rw [j8]
 cases bT (Dg plan l) l 0 <;> rfl
theorem len_pos {α:Type} (l:List α):decide (0<l.length) = !l.isEmpty:=by cases l <;> rfl
theorem Cf (p:Zc) (hp:POk p):dm p=some (nF p):=by
 unfold dm nF
 have e8:decide ((8:Int)<(p.Inputs.length:Int))=decide (8<p.Inputs.length):=decide_eq_decide.2 (by omega)
 show Option.bind (some (cQ p.Code)) _=_
 rw [bc,Eh,e8]
 cases decide (6≤cQ p.Code)
 ·rfl
 simp only [Bool.not_true,Bool.not_false,cu,Bool.true_and,iN,bc,Bool.false_or]
 cases mL p.Country
 ·rfl
 simp only [Bool.not_true,Bool.not_false,cu,rU _ hp.proc,bc,Bool.true_and,Bool.false_or]
 cases ig p.Processes
 ·rfl
 simp only [Bool.not_true,bv,bL]
 cases (decide (p.Price<1)||decide (1000000000000<p.Price))
 ·simp only [bv]
  cases decide (8<p.Inputs.length)
  ·simp only [bv,len0']
   cases (p.Obtained && !p.Inputs.isEmpty) <;> rfl
  rfl
 rfl
theorem wI (plan:List Zc) (h:PSOk plan):cZ plan=some (oy plan):=by
 unfold cZ oy
 have h62:plan.length≤4611686018427387904:=by have:=h.len;omega
 have i1:decide ((64:Int)<(plan.length:Int)) = !decide (plan.length≤64):=by rw [← decide_not];exact decide_eq_decide.2 (by omega)
 rw [i1]
 cases decide (plan.length≤64)
 ·rfl
 simp only [Bool.not_true,bv,bL]
 refine (bD (l:=plan) h62 (fun k x=>(rt plan k x).map .inr) (.inl ()) (fun k hk=>?_) (by simp only [cN,bv])).trans ?_
 ·have ha:=h.all _ (List.getElem_mem hk)
  simp only [gY hk,bL,aQ hk,bc,bM hk h62,BG,rt,Cf _ ha,GG _ _ h.len ha.len]
  cases (decide (plan[k].ID<1)||decide (1000000<plan[k].ID))
  ·by_cases h0:0<k
   ·simp only [h0,decide_true,Bool.true_and,cu,fM h0 hk h62,bc,dt (show k - 1<plan.length by omega),bv]
    cases decide (plan[k].ID≤(plan[k-1]'(by omega)).ID)
    ·simp only [bv,bne]
     cases hz:(nF plan[k] == 0)
     ·simp [ra]
     simp only [bL,Bool.not_true,bv]
     cases hy:(zk plan plan[k].Inputs == 0) <;> simp [ra]
    rfl
   simp only [h0,decide_false,Bool.false_and,iO,bc,bv,bne]
   cases hz:(nF plan[k] == 0)
   ·simp [ra]
   simp only [bL,Bool.not_true,bv]
   cases hy:(zk plan plan[k].Inputs == 0) <;> simp [ra]
  rfl
 rw [j8]
 cases bT (rt plan) plan 0 <;> rfl
theorem ke {α T:Type} (g:Nat→α→Option T):∀ (l:List α) (i:Nat),bT g l i=none→∀ k,(h:k<l.length)→g (i+k) l[k]=none
 | [],_,_,k,h=>absurd h (by simp)
 | x::l,i,e,k,h=>by
  rw [bT] at e
  cases hg:g i x with
  | some t=>rw [hg] at e;cases e
  | none =>
   rw [hg] at e
   cases k with
   | zero=>exact hg
   | succ k=>have:=ke g l (i+1) e k (by simpa using h);rw [show i+(k+1)=i+1+k by omega];exact this
theorem ls {α:Type} (g:Nat→α→Option Int) (hg:∀ k x,g k x≠some 0):∀ (l:List α) (i:Nat),(bT g l i).getD 0=0→bT g l i=none
 | [],_,_=>rfl
 | x::l,i,e=>by
  rw [bT] at e ⊢
  cases hx:g i x with
  | some t =>
   rw [hx] at e
   have:t=0:=e
   subst this
   exact absurd hx (hg i x)
  | none=>rw [hx] at e;exact ls g hg l (i+1) e
theorem tI {α:Type} {f:α→Int} {l:List α} (h:∀ k,(hk:k<l.length)→0<k→f (l[k - 1]'(by omega))<f l[k]):l.Pairwise fun a b=>f a<f b:=by
 rw [List.pairwise_iff_getElem]
 intro i j hi hj hij
 induction j with
 | zero=>omega
 | succ j ih =>
  have h1:=h (j+1) hj (by omega)
  simp only [Nat.add_sub_cancel] at h1
  by_cases e:i=j
  ·subst e;exact h1
  have:=ih (by omega) (by omega);omega
theorem GH (plan:List Zc) (l:List Zi) (k:Nat) (x:Zi):Dg plan l k x≠some 0:=by
 unfold Dg
 cases (decide (0<k)&&decide (x.Product≤(l.getD (k - 1) x).Product))
 ·cases (co plan x.Product).isSome
  ·simp
  cases (decide (x.Value<0)||decide (1000000000000<x.Value)) <;> simp
 simp
theorem GI {plan:List Zc} {l:List Zi} (h:zk plan l=0):(l.Pairwise fun a b=>a.Product<b.Product)∧∀ x∈l,(co plan x.Product).isSome=true∧0≤x.Value∧x.Value≤1000000000000:=by
 have hn:=ke _ _ _ (ls _ (GH plan l) l 0 h)
 have key:∀ k,(hk:k<l.length)→(0<k→(l[k - 1]'(by omega)).Product<l[k].Product)∧(co plan l[k].Product).isSome=true∧0≤l[k].Value∧l[k].Value≤1000000000000:=by
  intro k hk
  have h1:=hn k hk
  rw [Nat.zero_add] at h1
  unfold Dg at h1
  cases h2:(decide (0<k)&&decide (l[k].Product≤(l.getD (k - 1) l[k]).Product)) with
  | true=>rw [h2] at h1;cases h1
  | false =>
   rw [h2,bv] at h1
   cases h3:(co plan l[k].Product).isSome with
   | false=>rw [h3] at h1;cases h1
   | true =>
    rw [h3,bL] at h1
    cases h4:(decide (l[k].Value<0)||decide (1000000000000<l[k].Value)) with
    | true=>rw [h4] at h1;cases h1
    | false =>
     simp only [Bool.or_eq_false_iff,decide_eq_false_iff_not] at h4
     refine ⟨fun h0=>?_,rfl,by omega,by omega⟩
     rw [det h0,Bool.true_and,decide_eq_false_iff_not,dt (show k - 1<l.length by omega)] at h2
     omega
 refine ⟨tI fun k hk h0=>(key k hk).1 h0,fun x hx=>?_⟩
 obtain ⟨k,hk,rfl⟩:=List.getElem_of_mem hx
 exact (key k hk).2
theorem wJ {p:Zc} (h:nF p=0):(cQ p.Code=6∨cQ p.Code=8)∧mL p.Country=true∧ig p.Processes=true∧(1≤p.Price∧p.Price≤1000000000000)∧p.Inputs.length≤8∧(p.Obtained=true→p.Inputs=[]):=by
 unfold nF at h
 cases h1:(decide (6≤cQ p.Code)&&(mL p.Country&&ig p.Processes)) with
 | false=>rw [h1] at h;cases h
 | true =>
  rw [h1,bL] at h
  cases h2:(decide (p.Price<1)||decide (1000000000000<p.Price)) with
  | true=>rw [h2] at h;cases h
  | false =>
   rw [h2,bv] at h
   cases h3:decide (8<p.Inputs.length) with
   | true=>rw [h3] at h;cases h
   | false =>
    rw [h3,bv] at h
    cases h4:(p.Obtained && !p.Inputs.isEmpty) with
    | true=>rw [h4] at h;cases h
    | false =>
     simp only [Bool.and_eq_true,decide_eq_true_eq] at h1
     simp only [Bool.or_eq_false_iff,decide_eq_false_iff_not] at h2
     have h3:=of_decide_eq_false h3
     refine ⟨by have:=wH p.Code;omega,h1.2.1,h1.2.2,by omega,by omega,fun ho=>?_⟩
     rw [ho,Bool.true_and] at h4
     cases hI:p.Inputs with
     | nil=>rfl
     | cons a b=>rw [hI] at h4;cases h4
theorem GJ (plan:List Zc) (k:Nat) (p:Zc):rt plan k p≠some 0:=by
 unfold rt
 cases (decide (p.ID<1)||decide (1000000<p.ID))
 ·cases (decide (0<k)&&decide (p.ID≤(plan.getD (k - 1) p).ID))
  ·cases hz:(nF p == 0)
   ·simp only [bv];intro h;injection h with h;rw [h] at hz;cases hz
   cases hy:(zk plan p.Inputs == 0)
   ·simp only [bv,bL];intro h;injection h with h;rw [h] at hy;cases hy
   simp
  simp
 simp
theorem Cg {plan:List Zc} (h:oy plan=0):VPs plan∧VIds plan:=by
 unfold oy at h
 cases hl:decide (plan.length≤64) with
 | false=>rw [hl] at h;cases h
 | true =>
  rw [hl,bL] at h
  have hl:=of_decide_eq_true hl
  have hn:=ke _ _ _ (ls _ (GJ plan) plan 0 h)
  have key:∀ k,(hk:k<plan.length)→(0<k→(plan[k - 1]'(by omega)).ID<plan[k].ID)∧(1≤plan[k].ID∧plan[k].ID≤1000000)∧nF plan[k]=0∧zk plan plan[k].Inputs=0:=by
   intro k hk
   have h1:=hn k hk
   rw [Nat.zero_add] at h1
   unfold rt at h1
   cases h2:(decide (plan[k].ID<1)||decide (1000000<plan[k].ID)) with
   | true=>rw [h2] at h1;cases h1
   | false =>
    rw [h2,bv] at h1
    cases h3:(decide (0<k)&&decide (plan[k].ID≤(plan.getD (k - 1) plan[k]).ID)) with
    | true=>rw [h3] at h1;cases h1
    | false =>
     rw [h3,bv] at h1
     cases h4:(nF plan[k] == 0) with
     | false=>rw [h4] at h1;cases h1
     | true =>
      rw [h4,bL] at h1
      cases h5:(zk plan plan[k].Inputs == 0) with
      | false=>rw [h5] at h1;cases h1
      | true =>
       simp only [Bool.or_eq_false_iff,decide_eq_false_iff_not] at h2
       refine ⟨fun h0=>?_,by omega,by simpa using h4,by simpa using h5⟩
       rw [det h0,Bool.true_and,decide_eq_false_iff_not,dt (show k - 1<plan.length by omega)] at h3
       omega
  refine ⟨⟨hl,tI fun k hk h0=>(key k hk).1 h0,fun p hp=>?_⟩,⟨fun p hp=>?_,fun p hp=>?_⟩⟩
  ·obtain ⟨k,hk,rfl⟩:=List.getElem_of_mem hp
   obtain ⟨_,_,h3,h4⟩:=key k hk
   obtain ⟨a1,a2,a3,a4,a5,a6⟩:=wJ h3
   obtain ⟨b1,b2⟩:=GI h4
   exact ⟨a4,by omega,a2,a3,a5,b1,b2,a6⟩
  ·obtain ⟨k,hk,rfl⟩:=List.getElem_of_mem hp
   exact (key k hk).2.1
  obtain ⟨k,hk,rfl⟩:=List.getElem_of_mem hp
  exact (wJ (key k hk).2.2.1).1
end SX
end Go.Proofs.YtgmbmepakpcpaaaGreatDoor
