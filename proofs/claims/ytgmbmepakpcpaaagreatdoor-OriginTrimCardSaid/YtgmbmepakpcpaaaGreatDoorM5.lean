/- A part of the proof: texts of the walk and of the plain laws, merged. No condition. -/
import Derived.Test.YtgmbmepakpcpaaaGreatDoorM4
set_option linter.unusedVariables false
set_option linter.unusedSimpArgs false
set_option maxHeartbeats 4000000
set_option maxRecDepth 100000
namespace Go.Proofs.YtgmbmepakpcpaaaGreatDoor
namespace SX
open Go
def k0 (W:World):Kr:=⟨W,fun b=>b<W.heap.size⟩
theorem rC {t:Nat} {z:Value} {s b:Nat} (h:ga t=some (z,s,b)):Tryz.prog.cellsOf t=s∧Tryz.prog.bytesOf t=b:=by
 obtain ⟨i,h1,h2,h3,h4⟩:=oA h
 constructor
 ·simp [Program.cellsOf,h1,h3]
 simp [Program.bytesOf,h1,h4]
def Light {H:Type} (t:Nat) (d:DataW H):Prop:=∀ n∈d.weights Tryz.prog t,n≤reachBytes
theorem FV {H:Type} (d:DataW H):1≤Rows.uptoBulk d:=by
 cases d with
 | lit l=>cases l <;> simp [Rows.uptoBulk]
 | nil=>simp [Rows.uptoBulk]
 | ptr d=>simp [Rows.uptoBulk]
 | slice elems spare=>simp [Rows.uptoBulk]
 | agg parts=>simp [Rows.uptoBulk]
 | iface t d=>simp [Rows.uptoBulk]
 | map entries=>simp [Rows.uptoBulk]
 | held h=>simp [Rows.uptoBulk]
theorem DQ {H:Type} {d:DataW H} {l:List (DataW H)} (h:d∈l):Rows.uptoBulk d≤Rows.uptoBulkAll l:=by
 induction l with
 | nil=>cases h
 | cons x r ih =>
  simp only [Rows.uptoBulkAll]
  cases List.mem_cons.1 h with
  | inl e=>subst e;omega
  | inr e=>have:=ih e;omega
theorem FW {H:Type} (l:List (DataW H)):l.length≤Rows.uptoBulkAll l:=by
 induction l with
 | nil=>simp [Rows.uptoBulkAll]
 | cons x r ih=>have:=FV x;simp only [Rows.uptoBulkAll,List.length_cons];omega
def Opens {H:Type} (eh:TypeId×Value→H) {α:Type} (n:Nat) (t:Nat) (e:α→List PV) (B:α→Prop):Prop :=
 ∀ (W:World) (fuel:Nat) (cs:List Value) (x:DataW H×List MemPlace),DataW.trod eh Tryz.prog W 0 (fun _=>true) true fuel t cs=some x→Light t x.1→Rows.uptoBulk x.1≤n→∃ m,Rps (k0 W) (e m) cs∧One cs∧B m
section
variable {H:Type} {eh:TypeId×Value→H} {nb:Nat}
theorem one1 {v:Value} (h:v.oneCell'=true):One [v]:=fun u hu=>by rw [List.mem_singleton.1 hu];exact h
theorem DR {t:Nat} {k:IntKind} (h:eP t=some (.int k)):Opens eh nb t (fun x:Int=>[.v (.int k x)]) (fun _=>True):=fun W fuel cs x hx _ _=>by
 obtain ⟨n,rfl,_,_⟩:=DataW.trod_int (bP h) hx
 exact ⟨n,.cons (.v rfl) .nil,one1 rfl,trivial⟩
theorem qe {e:Nat}:∀ {l:List (DataW H)} {d:DataW H} {n:Nat},d∈l→n∈d.weights Tryz.prog e→n∈DataW.weightsAll Tryz.prog e l
 | d'::l,d,n,hd,hn=>by
  simp only [DataW.weightsAll,List.mem_append]
  rcases List.mem_cons.1 hd with rfl | hd
  ·exact .inl hn
  exact .inr (qe hd hn)
theorem CR {α β:Type} {R:α→β→Prop}:∀ (l:List β),(∀ b∈l,∃ a,R a b)→∃ la:List α,la.length=l.length∧∀ (i:Nat) (b:β),l[i]?=some b→∃ a,la[i]?=some a∧R a b
 | [],_=>⟨[],rfl,fun i b h=>by simp at h⟩
 | b::l,h=>by
  obtain ⟨a,ha⟩:=h b (by simp)
  obtain ⟨la,h1,h2⟩:=CR l fun b hb=>h b (by simp [hb])
  refine ⟨a::la,by simp [h1],fun i b' hb=>?_⟩
  cases i with
  | zero=>simp only [List.getElem?_cons_zero,eM] at hb;subst hb;exact ⟨a,rfl,ha⟩
  | succ i=>simp only [List.getElem?_cons_succ] at hb ⊢;exact h2 i b' hb
def OpensN {H:Type} (eh:TypeId×Value→H) {α:Type} (N n:Nat) (t:Nat) (e:α→List PV) (B:α→Prop):Prop :=
 ∀ (W:World) (fuel:Nat) (cs:List Value) (x:DataW H×List MemPlace),fuel<N→DataW.trod eh Tryz.prog W 0 (fun _=>true) true fuel t cs=some x→Light t x.1→Rows.uptoBulk x.1≤n→∃ m,Rps (k0 W) (e m) cs∧One cs∧B m
theorem yS {α:Type} {N t E sz by':Nat} {z:Value} {e:α→List PV} {B:α→Prop} (hu:eP t=some (.slice E)) (hi:ga E=some (z,sz,by')) (h0:Nat.blt 0 sz=true) (hb0:Nat.blt 0 by'=true) (hE:OpensN eh N nb E e B):OpensN eh (N+1) nb t (eL e) (fun l=>l.length*by'≤140737488355328∧l.length≤nb∧∀ x∈l,B x):=fun W fuel cs x hfu hx hw hbk=>by
 obtain ⟨hcz,hby⟩:=rC hi
 have hsz:0<sz:=by have:=h0;simp [Nat.blt] at this;omega
 have hbp:0<by':=by have:=hb0;simp [Nat.blt] at this;omega
 rcases DataW.trod_slice (bP hu) hx with ⟨rfl,_⟩ | ⟨a,len,cap,elems,rest,n,rfl,rfl,rfl,_,hl,hm,hlen,hel,_,_⟩
 ·exact ⟨[],.cons (.slc (sz:=sz) (css:=[]) Sl.nil (Nat.zero_le _) (fun _ h=>by cases h) .nil) .nil,one1 rfl,by simp,Nat.zero_le _,fun _ h=>by cases h⟩
 rw [hcz] at hel
 have hwl:(elems.length+rest.length)*by'≤reachBytes:=by
  have:=hw ((elems.length+rest.length)*by') (by simp only [DataW.weights,bP hu,hby,List.length_map];exact List.mem_cons_self)
  exact this
 have hn:len≤140737488355328:=by
  unfold reachBytes at hwl
  have:elems.length*1≤(elems.length+rest.length)*by':=Nat.mul_le_mul (by omega) (by omega)
  omega
 have hcells:∀ i∈List.range len,∃ p:α×List Value,W.cells? 0 (a.add (i*sz)) sz=some p.2∧Rps (k0 W) (e p.1) p.2∧One p.2∧B p.1:=fun i hi'=>by
  have hi':i<len:=List.mem_range.1 hi'
  have h1:=hel i hi'
  have hlt:i<elems.length:=by omega
  rw [List.getElem?_eq_getElem hlt] at h1
  obtain ⟨cs,h2,h3⟩:=Option.bind_eq_some_iff.1 h1
  obtain ⟨m,k1,k2,k3⟩:=hE W n cs _ (by omega) h3 (fun q hq=>hw q (by
   simp only [DataW.weights,bP hu]
   exact List.mem_cons_of_mem _ (List.mem_append.2 (.inl (qe (List.mem_map.2 ⟨_,List.getElem_mem hlt,rfl⟩) hq))))) (by
   have h9:=DQ (l:=elems.map (·.1)) (List.mem_map.2 ⟨_,List.getElem_mem hlt,rfl⟩)
   simp only [Rows.uptoBulk] at hbk
   omega)
  exact ⟨(m,cs),h2,k1,k2,k3⟩
 obtain ⟨ps,g1,g2⟩:=CR (R:=fun (p:α×List Value) i=>W.cells? 0 (a.add (i*sz)) sz=some p.2∧Rps (k0 W) (e p.1) p.2∧One p.2∧B p.1) (List.range len) hcells
 rw [List.length_range] at g1
 have g3:∀ (i:Nat) (p:α×List Value),ps[i]?=some p→W.cells? 0 (a.add (i*sz)) sz=some p.2∧Rps (k0 W) (e p.1) p.2∧One p.2∧B p.1:=fun i p hp=>by
  have hlt:=(List.getElem?_eq_some_iff.1 hp).1
  obtain ⟨p',h1,h2⟩:=g2 i i (by rw [List.getElem?_range (by omega)])
  rw [hp] at h1;injection h1 with h1;subst h1;exact h2
 have hps:(ps.map (·.1)).length=len:=by simp [g1]
 refine ⟨ps.map (·.1),?_,one1 rfl,?_,?_,?_⟩
 rotate_left
 ·rw [hps]
  have h9:len*by'≤(elems.length+rest.length)*by':=Nat.mul_le_mul_right _ (by omega)
  unfold reachBytes at hwl
  omega
 ·rw [hps]
  have h9:=FW (elems.map (·.1))
  rw [List.length_map] at h9
  simp only [Rows.uptoBulk] at hbk
  omega
 ·intro x hx
  obtain ⟨p,hp,rfl⟩:=List.mem_map.1 hx
  obtain ⟨i,hi',rfl⟩:=List.getElem_of_mem hp
  exact (g3 i _ (List.getElem?_eq_getElem hi')).2.2.2
 unfold eL;rw [hps]
 refine .cons (.slc (sz:=sz) (css:=ps.map (·.2)) ⟨by simp [g1],hl,?_,?_⟩ hn ?_ ?_) .nil
 ·intro c hc
  obtain ⟨p,hp,rfl⟩:=List.mem_map.1 hc
  obtain ⟨i,hi',rfl⟩:=List.getElem_of_mem hp
  exact (World.cells?_some (g3 i _ (List.getElem?_eq_getElem hi')).1).2.1
 ·intro hpos
  have hp0:0<ps.length:=by omega
  have hc0:=(World.cells?_some (g3 0 _ (List.getElem?_eq_getElem hp0)).1)
  have hread:=hc0.2.2 0 hsz
  have hspot:a.spot=none:=by
   have hlt:0<(ps[0]).2.length:=by rw [hc0.2.1];exact hsz
   rw [List.getElem?_eq_getElem hlt] at hread
   unfold World.cell? at hread
   cases hs:a.spot with
   | none=>rfl
   | some q =>
    have hsp:((a.add (0*sz)).add 0).spot.isSome=true:=by simp [Addr.add,hs]
    split at hread
    ·rw [if_pos hsp] at hread;cases hread
    cases hread
  obtain ⟨ab,ao,asp⟩:=a
  simp only at hspot;subst hspot
  refine ⟨ab,ao,rfl,fun j c hj=>?_⟩
  rw [List.getElem?_map] at hj
  cases hpj:ps[j]? with
  | none=>rw [hpj] at hj;cases hj
  | some p =>
   rw [hpj] at hj;simp only [Option.map_some,eM] at hj;subst hj
   have hcj:=World.cells?_some (g3 j p hpj).1
   refine ⟨?_,fun i u hu'=>?_⟩
   ·have h1:=hcj.2.2 0 hsz
    have hlt:0<p.2.length:=by rw [hcj.2.1];exact hsz
    rw [List.getElem?_eq_getElem hlt,ik,ik] at h1
    unfold World.cell? at h1
    split at h1
    ·rename_i heq
     have:=oH heq
     exact this
    cases h1
   have hlt:i<sz:=by have:=(List.getElem?_eq_some_iff.1 hu').1;omega
   have h1:=hcj.2.2 i hlt
   rw [ik,ik] at h1
   rw [← hu'];exact h1
 ·intro c hc
  obtain ⟨p,hp,rfl⟩:=List.mem_map.1 hc
  obtain ⟨i,hi',rfl⟩:=List.getElem_of_mem hp
  exact (g3 i _ (List.getElem?_eq_getElem hi')).2.2.1
 have:∀ (l:List (α×List Value)),(∀ p∈l,Rps (k0 W) (e p.1) p.2)→Rpss (k0 W) ((l.map (·.1)).map e) (l.map (·.2)):=fun l=>by
  induction l with
  | nil=>exact fun _=>.nil
  | cons p l ih=>exact fun h=>.cons (h p (by simp)) (ih fun q hq=>h q (by simp [hq]))
 refine this ps fun p hp=>?_
 obtain ⟨i,hi',rfl⟩:=List.getElem_of_mem hp
 exact (g3 i _ (List.getElem?_eq_getElem hi')).2.1
theorem Ax {α:Type} {t E sz by':Nat} {z:Value} {e:α→List PV} {B:α→Prop} (hu:eP t=some (.slice E)) (hi:ga E=some (z,sz,by')) (h0:Nat.blt 0 sz=true) (hb0:Nat.blt 0 by'=true) (hE:Opens eh nb E e B):Opens eh nb t (eL e) (fun l=>l.length*by'≤140737488355328∧l.length≤nb∧∀ x∈l,B x):=fun W fuel cs x hx hw =>
 yS (N:=fuel) hu hi h0 hb0 (fun W' f' cs' x' _=>hE W' f' cs' x') W fuel cs x (Nat.lt_succ_self _) hx hw
end
end SX
end Go.Proofs.YtgmbmepakpcpaaaGreatDoor
set_option maxRecDepth 100000
namespace Go.Proofs.YtgmbmepakpcpaaaGreatDoor
open Go Go.ChangeShapes Go.WideShapes Go.RowKit
namespace SX
theorem own_ok:ownKnob Tryz.prog.godebug=none:=by kernel_rfl
theorem BL:laidOutB Tryz.prog=true:=by kernel_rfl
def xz:List (String×DataW Unit):=[("unicode/utf8.acceptRanges",Rows.laid_unicode_utf8_acceptRanges),("customs/nomenclature.lengths",Rows.laid_customs_nomenclature_lengths),("unicode/utf8.first",Rows.laid_unicode_utf8_first)]
mutual
def BM:DataW Unit→List Value
 | .lit (.int k n)=>[.int k n]
 | .agg ds=>CS ds
 | _=>[]
def CS:List (DataW Unit)→List Value
 | []=>[]
 | d::r=>BM d++CS r
end
def c_acc:Array Value:=(BM Rows.laid_unicode_utf8_acceptRanges).toArray
def Ay:Array Value:=#[.int .i64 2,.int .i64 4,.int .i64 6,.int .i64 8]
def CT:Array Value:=(BM Rows.laid_unicode_utf8_first).toArray
def FX (h:Array Obj) (g:Nat) (cs:Array Value):Array Obj:=h.modify g fun | .cells _ t frozen=>.cells cs t frozen | o=>o
noncomputable def laidWorld (os:Os):World :=
 { World.holding Tryz.prog os ⟨#[],#[],[]⟩ with heap:=FX (FX (FX (World.holding Tryz.prog os ⟨#[],#[],[]⟩).heap 4 c_acc) 0 Ay) 3 CT }
theorem vP:(xz.filter fun x=>x.2.handleName?.isSome)=[]:=by kernel_rfl
def FY (w:World):MemPlace→Bool
 | .cell b off=>match w.heap[b]? with
  | some (.cells c _ (0,0))=>match c[off]? with | some (.iface _ _)=>false | _=>true
  | _=>false
 | _=>true
theorem BN {w:World} {ps:List MemPlace} (h:ps.all (FY w)=true):∀ b off,MemPlace.cell b off∈ps→(∃ c t,w.heap[b]?=some (.cells c t (0,0)))∧∀ u v,w.cell? ⟨b,off,none⟩=some (.iface u v)→Value.okWide Tryz.prog w .any 0 u v:=fun b off hm=>by
 have:=List.all_eq_true.1 h _ hm
 unfold FY at this
 split at this
 ·rename_i b' off' e
  injection e with e1 e2;subst e1;subst e2
  split at this
  ·rename_i c t heq
   refine ⟨⟨c,t,heq⟩,fun u v hc=>?_⟩
   simp only [World.cell?,heq] at hc
   split at this
   ·cases this
   rename_i hno;exact absurd hc (by simpa using hno u v)
  cases this
 rename_i hno;exact absurd rfl (hno b off)
theorem wQ (os:Os) (args:Array Value):laidMetH Tryz.prog xz ((laidWorld os).forCall (fun _ _=>0) ⟨#[],args,[]⟩).memory:=by
 unfold laidMetH
 rw [vP]
 refine ⟨_,⟨4,275,c_acc,8,[],_,by kernel_rfl,by kernel_rfl,by kernel_rfl,by kernel_rfl,⟨0,213,Ay,8,[],_,by kernel_rfl,by kernel_rfl,by kernel_rfl,by kernel_rfl,⟨3,272,CT,8,[],_,by kernel_rfl,by kernel_rfl,by kernel_rfl,by kernel_rfl,rfl,rfl⟩,rfl⟩,rfl⟩,?_,?_⟩
 ·exact of_decide_eq_true (by kernel_rfl)
 exact BN (by kernel_rfl)
theorem nx {H:Type} {eh:TypeId×Value→H} {P:Program} {w:World} {base:Nat} {sp:Nat→Bool} {held:Bool} {fuel:Nat} {t:TypeId} {k:IntKind} {c:Value} {y:DataW H×List MemPlace} (ht:P.underlying t=some (.int k)) (h:DataW.trod eh P w base sp held fuel t [c]=some y):∃ n,c=.int k n∧y=(.lit (.int k n),[]):=by
 obtain ⟨n,h1,h2,_⟩:=DataW.trod_int ht h
 injection h1 with h1 _
 exact ⟨n,h1,h2⟩
theorem Az {W:World} (h:laidMetH Tryz.prog xz W):GOK (k0 W):=by
 unfold laidMetH at h
 rw [vP] at h
 obtain ⟨ps,⟨_,_,_,_,_,_,_,_,_,_,⟨g,t,cs,fuel,p,q,hg,ht,hvar,hd,_,_⟩,_⟩,_⟩:=h
 obtain rfl:=Option.some.inj ((show Tryz.prog.globalNamed "customs/nomenclature.lengths" = some 0 by kernel_rfl).symm.trans hg)
 obtain rfl:=Option.some.inj ((show (Tryz.prog.globals[0]?).map (·.type)=some 213 by kernel_rfl).symm.trans ht)
 have hcs:cs=Ay:=by
  obtain ⟨l⟩:=cs
  cases fuel with
  | zero=>simp [DataW.trod] at hd
  | succ fuel =>
   have hc1:=(rC (t:=213) rfl).1
   have hc2:=(rC (t:=3) rfl).1
   have hu1:Tryz.prog.underlying 213=some (.array 4 3):=bP rfl
   simp only [DataW.trod,hu1,hc1,hc2] at hd
   split at hd
   ·rename_i hl
    obtain ⟨c0,c1,c2,c3,rfl⟩:∃ c0 c1 c2 c3,l=[c0,c1,c2,c3]:=by
     match l,hl with
     | [a,b,c,d],_=>exact ⟨a,b,c,d,rfl⟩
    have e:List.range 4=[0,1,2,3]:=rfl
    rw [e] at hd
    simp only [Option.map_eq_some_iff,List.mapM_cons,List.mapM_nil,Option.bind_eq_bind,Option.bind_eq_some_iff,Option.pure_def,eM] at hd
    obtain ⟨xs,⟨y0,h0,_,⟨y1,h1,_,⟨y2,h2,_,⟨y3,h3,_,rfl,rfl⟩,rfl⟩,rfl⟩,rfl⟩,hx⟩:=hd
    have hui:Tryz.prog.underlying 3=some (.int .i64):=bP rfl
    obtain ⟨n0,rfl,rfl⟩:=nx hui h0
    obtain ⟨n1,rfl,rfl⟩:=nx hui h1
    obtain ⟨n2,rfl,rfl⟩:=nx hui h2
    obtain ⟨n3,rfl,rfl⟩:=nx hui h3
    simp [Rows.laid_customs_nomenclature_lengths] at hx
    obtain ⟨⟨rfl,rfl,rfl,rfl⟩,_⟩:=hx
    rfl
   cases hd
 subst hcs
 have hcell:∀ j u,Ay[j]?=some u→W.cell? ⟨0,j,none⟩=some u:=fun j u hu=>by
  have:=World.var?_cell hg hvar j
  rw [this];exact hu
 refine ⟨?_,fun j u hu=>?_⟩
 ·have h0:=hcell 0 _ rfl
  unfold World.cell? at h0
  split at h0
  ·rename_i heq;exact oH heq
  cases h0
 rw [Nat.zero_add];exact hcell j u (by simpa [Ay] using hu)
end SX
end Go.Proofs.YtgmbmepakpcpaaaGreatDoor
set_option maxRecDepth 100000
namespace Go.Proofs.YtgmbmepakpcpaaaGreatDoor
open Go Go.ChangeShapes Go.WideShapes Go.RowKit
namespace SX
theorem inv0 (W:World):Zp ⟨k0 W,[]⟩ [] (k0 W):=⟨.refl _ _,fun _ h=>h,(fun _ h=>by cases h),(fun _ h=>by cases h),.nil⟩
theorem FZ {W:World} {ρ:List Res} {κ:Kr} (h:Zp ⟨k0 W,[]⟩ ρ κ):Below W.heap.size W κ.w:=⟨h.le.os,h.le.tape,h.le.output,h.le.kle.size,fun k hk=>h.le.same k hk (by simp)⟩
section
variable {H:Type} {eh:TypeId×Value→H}
theorem wR {W W':World} (hb:Below W.heap.size W W') {ts:List TypeId} (hr:∀ t∈ts,Tryz.prog.readableRec t=true∧t<Tryz.prog.types.size):∀ {vs:List Value} {ds:List (DataW H)} {ps:List MemPlace},DataW.TrodAll eh Tryz.prog W 0 (fun _=>true) true ts vs ds ps→(∀ p∈ps,p.block<W.heap.size)→DataW.TrodAll eh Tryz.prog W' 0 (fun b=>decide (b<W.heap.size)) true ts vs ds ps:=by
 induction ts with
 | nil=>intro vs ds ps h _;cases vs <;> cases ds <;> first | exact h | cases h
 | cons t ts ih =>
  intro vs ds ps h hlt
  cases vs with
  | nil=>cases h
  | cons v vs =>
   cases ds with
   | nil=>cases h
   | cons d ds =>
    obtain ⟨p,q,h1,h2,e⟩:=h
    have ht:=hr t (by simp)
    exact ⟨p,q,Below.trod BL ht.1 ht.2 h1 hb (fun x hx=>hlt x (by rw [e];simp [hx])),ih (fun u hu=>hr u (by simp [hu])) h2 (fun x hx=>hlt x (by rw [e];simp [hx])),e⟩
theorem readB {ts:List TypeId} (h:(ts.all fun t=>Tryz.prog.readableRec t&&Nat.blt t Tryz.prog.types.size)=true):∀ t∈ts,Tryz.prog.readableRec t=true∧t<Tryz.prog.types.size:=fun t ht=>by
 have:=List.all_eq_true.1 h t ht
 rw [Bool.and_eq_true] at this
 exact ⟨this.1,by have h2:=this.2;exact Nat.le_of_ble_eq_true h2⟩
theorem F0 {f tb:Nat} {fn:Func} {s:ChangeSpec} {W:World} {args:Array Value} {ds gs:List (DataW H)} {before:List MemPlace} {pargs:List PV}
    (hrd:∀ t∈fn.params.toList,Tryz.prog.readableRec t=true∧t<Tryz.prog.types.size) (hres:fn.resultTypes=#[tb]) (hub:Tryz.prog.underlying tb=some .bool) (hvars:s.vars=[])
    (hspec:s.fn H ds={ results:=[.lit (.bool true)],args:=ds }) (hW:DataW.Whole eh Tryz.prog fn.params.toList s.vars false W args.toList ds gs before) (hG:GOK (k0 W)) (hargs:Rps (k0 W) pargs args.toList) (hPF:PF f pargs (.v (.bool true))) :
    Calls Tryz.prog f args W fun e W'=>∃ v,e=.returned v∧s.post eh Tryz.prog fn false true false false W args v W':=by
  have hc:=(hPF (k0 W) args.toList hG hargs).2 (inv0 W)
  have e:args.toList.toArray=args:=by simp
  rw [e] at hc
  refine Calls.mono hc fun en W' ⟨v,ρ',κ',h1,h2,h3,h4,h5⟩=>⟨v,h1,?_⟩
  subst h2
  have hv:=h5.val
  subst hv
  have hb:=FZ h3
  have hW':=hW
  obtain ⟨p,q,hA,hV,rfl,hfz,hnd⟩:=hW
  rw [hvars] at hV
  obtain ⟨rfl,rfl⟩:gs=[]∧q=[]:=by
    cases gs with
    | nil=>exact ⟨rfl,hV⟩
    | cons g r=>exact absurd hV (by intro h;cases h)
  refine ⟨ds,[],_,[],p,[],hW',?_,?_,?_,hb.frame _,fun h=>by cases h⟩
  · rw [List.append_nil,hspec,hres];exact trodAll_mk1 (shut_bool hub true)
  · rw [List.append_nil,hspec];exact wR hb hrd hA (DataW.TrodAll.lt hA)
  rw [hvars,List.append_nil,hspec];rfl
theorem trodAll_cons {W:World} {t:TypeId} {ts:List TypeId} {vs:List Value} {ds:List (DataW H)} {ps:List MemPlace} (h:DataW.TrodAll eh Tryz.prog W 0 (fun _=>true) true (t::ts) vs ds ps):∃ v vs' d ds' p q,vs=v::vs'∧ds=d::ds'∧DataW.Trod eh Tryz.prog W 0 (fun _=>true) true t v d p∧DataW.TrodAll eh Tryz.prog W 0 (fun _=>true) true ts vs' ds' q:=by
 cases vs with
 | nil=>cases h
 | cons v vs =>
  cases ds with
  | nil=>cases h
  | cons d ds=>obtain ⟨p,q,h1,h2,_⟩:=h;exact ⟨v,vs,d,ds,p,q,rfl,rfl,h1,h2⟩
theorem trodAll_nil {W:World} {vs:List Value} {ds:List (DataW H)} {ps:List MemPlace} (h:DataW.TrodAll eh Tryz.prog W 0 (fun _=>true) true [] vs ds ps):vs=[]∧ds=[]:=by
 cases vs <;> cases ds <;> first | exact ⟨rfl,rfl⟩ | cases h
theorem AA {l:Array TypeId} (h:(l.toList.all fun t => !Tryz.prog.wantsStandIn t)=true) {j:Nat} {t:TypeId} (ht:l[j]?=some t):Tryz.prog.wantsStandIn t=false:=by
 have:=List.all_eq_true.1 h t (by have:=Array.mem_of_getElem? ht;simpa using this)
 simpa using this
theorem light_head {t:Nat} {ts:List Nat} {d:DataW H} {ds:List (DataW H)} (h:(DataW.weightsEach Tryz.prog (t::ts) (d::ds)).all (· ≤ reachBytes)=true):Light t d∧(DataW.weightsEach Tryz.prog ts ds).all (· ≤ reachBytes)=true:=by
 simp only [DataW.weightsEach,List.all_append,Bool.and_eq_true] at h
 exact ⟨fun n hn=>by simpa using List.all_eq_true.1 h.1 n hn,h.2⟩
def vQ:TypeDesc→Bool
 | .int _ | .bool | .string | .slice _=>true
 | _=>false
theorem not_agg {W:World} {r:Reach} {base t:Nat} {v:Value} {D:TypeDesc} (hu:eP t=some D) (hD:vQ D=true) (h:Value.okWide Tryz.prog W r base t v):∀ cs,v.cells.toList=[cs]→v=cs:=fun cs he=>by
 cases v with
 | agg arr =>
  exfalso
  unfold Value.okWide at h
  rw [bP hu] at h
  cases D <;> first | (revert hD;simp [vQ];done) | (simp only at h;unfold Cell.okWide at h;rw [bP hu] at h;simp only at h;unfold Cell.ok at h;rw [bP hu] at h;simp at h)
 | _=>simpa [Value.cells] using he
theorem sa {nb:Nat} {W:World} {r:Reach} {base t:Nat} {v:Value} {D:TypeDesc} {α:Type} {e:α→List PV} {B:α→Prop} {d:DataW H} {ps:List MemPlace} (hu:eP t=some D) (hD:vQ D=true) (hO:Opens eh nb t e B) (h1:∀ m,∃ p,e m=[p]) (h:Value.okWide Tryz.prog W r base t v) (hd:DataW.Trod eh Tryz.prog W 0 (fun _=>true) true t v d ps) (hl:Light t d) (hn:Rows.uptoBulk d≤nb):∃ m,Rps (k0 W) (e m) [v]∧B m:=by
 obtain ⟨fuel,hf⟩:=hd
 obtain ⟨m,h2,_,h9⟩:=hO W fuel _ _ hf hl hn
 refine ⟨m,?_,h9⟩
 obtain ⟨p,hp⟩:=h1 m
 rw [hp] at h2
 generalize hc:v.cells.toList=cs at h2
 obtain ⟨w,ws,rfl,h3,h4⟩:=h2.cons_inv
 rw [h4.nil_inv] at hc
 rw [not_agg hu hD h w hc,hp]
 exact .cons h3 .nil
end
theorem CU {κ:Kr} {ps:List PV} {vs:List Value} {k:Nat} {s:ByteArray} (h:Rps κ ps vs) (hk:ps[k]?=some (.v (.string s))):s.size≤140737488355328:=by
 obtain ⟨v,_,h2⟩:=h.get hk
 exact Nat.le_of_ble_eq_true h2.ok
theorem CV {κ:Kr} {ps:List PV} {vs:List Value} {k mm:Nat} {xs:List (List PV)} (h:Rps κ ps vs) (hk:ps[k]?=some (.slc mm xs)):xs.length≤140737488355328:=by
 obtain ⟨v,_,h2⟩:=h.get hk
 cases h2 with
 | slc hs hb _ hss=>rw [hss.len,hs.len];exact hb
theorem AB {κ:Kr} {ps:List PV} {vs:List Value} {k mm:Nat} {xs:List (List PV)} {x:List PV} (h:Rps κ ps vs) (hk:ps[k]?=some (.slc mm xs)) (hx:x∈xs):∃ ds,Rps κ x ds:=by
 obtain ⟨v,_,h2⟩:=h.get hk
 cases h2 with
 | slc hs hb _ hss =>
  obtain ⟨i,hi,rfl⟩:=List.getElem_of_mem hx
  obtain ⟨ds,_,h3⟩:=hss.get (List.getElem?_eq_getElem hi)
  exact ⟨ds,h3⟩
end SX
end Go.Proofs.YtgmbmepakpcpaaaGreatDoor
namespace Go.Proofs.YtgmbmepakpcpaaaGreatDoor
namespace SX
open Go
theorem strs_of {κ:Kr} {ps:List PV} {vs:List Value} {k:Nat} {l:List ByteArray} (h:Rps κ ps vs) (hk:ps[k]?=some (pL eS l)):StrsOk l:=by
 refine ⟨by have:=CV h hk;simpa using this,fun s hs=>?_⟩
 obtain ⟨ds,hd⟩:=AB h hk (List.mem_map_of_mem (f:=eS) hs)
 exact CU (k:=0) hd rfl
mutual
theorem rok_of {κ:Kr}:∀ (r:Ze) (ds:List Value),Rps κ (Ze.enc r) ds→ROk r
 | ⟨k,d,e,t,m,n,l⟩,ds,h=>by
  rw [Ze.enc_eq] at h
  have hl:l.length≤140737488355328:=by have:=CV (k:=6) h rfl;simpa using this
  exact ⟨_,strs_of (k:=2) h rfl,CU (k:=5) h rfl,hl,CW l (fun a ha=>AB (k:=6) h rfl (List.mem_map_of_mem (f:=Ze.enc) ha))⟩
theorem CW {κ:Kr}:∀ (l:List Ze),(∀ a∈l,∃ ds,Rps κ (Ze.enc a) ds)→∀ a∈l,ROk a
 | [],_,_,h=>by cases h
 | b::l,h,a,ha=>by
  rcases List.mem_cons.1 ha with e | ha
  ·obtain ⟨ds,hd⟩:=h b (by simp)
   rw [e];exact rok_of b ds hd
  exact CW l (fun a ha=>h a (by simp [ha])) a ha
end
def iC (s p:ByteArray):Bool:=decide (p.size≤s.size)&&decide (s.extract 0 p.size=p)
theorem AC (s p:ByteArray):Option.bind (gd (decide ((p.size:Int)≤(s.size:Int))) (ki s 0 (p.size:Int))) (fun s1=>some ((decide ((p.size:Int)≤(s.size:Int)))&&(decide (s1=p))))=some (iC s p):=by
 unfold iC
 by_cases h:p.size≤s.size
 ·rw [det h,show decide ((p.size:Int)≤(s.size:Int))=true from det (by omega),cH]
  unfold ki;rw [if_pos (by omega)];rfl
 rw [bQ h,show decide ((p.size:Int)≤(s.size:Int))=false from bQ (by omega)];rfl
theorem sT (s p:ByteArray):dy s p=some (iC s p):=by
 unfold dy fZ;rw [AC];rfl
theorem AD (s p:ByteArray):ie s p=some (iC s p):=by unfold ie;exact AC s p
def jy (l:List Zi) (code:ByteArray) (k:Nat) (x:Zi) (b:Option Nat):Option Nat :=
 cond (iC code x.Prefix&&(match b with | none=>true | some j=>decide ((l.getD j x).Prefix.size<x.Prefix.size))) (some k) b
def noE {α:Type} (e:Empty):α:=nomatch e
def sb (l:List Zi) (code:ByteArray):Option Nat:=wC (fun b=>b) noE (run (fun k x b=>(.inl (jy l code k x b):Option Nat⊕Empty)) l 0 none)
def ud:Option Nat→Int
 | none => -1
 | some j=>(j:Int)
theorem sc (b:Option Nat):decide (ud b<0)=b.isNone:=by
 cases b with
 | none=>rfl
 | some j=>exact bQ (by simp only [ud];omega)
def inB (n:Nat) (b:Option Nat):Prop:=∀ j,b=some j→j<n
theorem yT {l:List Zi} {code:ByteArray} {k:Nat} {x:Zi} {b:Option Nat} (h:inB k b):inB (k+1) (jy l code k x b):=by
 intro j hj
 unfold jy at hj
 split at hj
 all_goals (cases hc:(iC code x.Prefix&&_) <;> rw [hc] at hj <;> simp only [bZ,bI] at hj)
 all_goals first | (injection hj with hj;omega) | (have:=h j hj;omega) | (cases hj)
theorem F1 (l:List Zi) (code:ByteArray):inB l.length (sb l code):=by
 have key:∀ (m:List Zi) (i:Nat) (b:Option Nat),inB i b→inB (i+m.length) (wC (fun b=>b) noE (run (fun k x b=>(.inl (jy l code k x b):Option Nat⊕Empty)) m i b)):=by
  intro m
  induction m with
  | nil=>intro i b h;exact h
  | cons x m ih =>
   intro i b h
   rw [jj,List.length_cons,show i+(m.length+1)=(i+1)+m.length by omega]
   exact ih _ _ (yT h)
 have:=key l 0 none (fun j h=>by cases h)
 rwa [Nat.zero_add] at this
theorem DS (l:List Zi) (code:ByteArray) (hl:l.length≤140737488355328) {β:Type} (K:Int→Option β):Option.bind (aV (S:=Int×Int) (T:=(Int)) (fun (v3,v4)=>cond (decide (v4<(l.length:Int))) (Option.bind (Option.bind (idx l v4) (fun m11=>Option.bind (dy code m11.Prefix) (fun x13=>Option.bind (gd (x13&&(!(decide (v3<0)))) (idx l v3)) (fun m14=>cond (x13&&((decide (v3<0))||(decide ((m14.Prefix.size:Int)<(m11.Prefix.size:Int))))) (some v4) (some v3))))) (fun v9=>some (.inl (v9,(IntKind.i64.wrap (v4+1)))))) (some (.inr v3))) FUEL ((-1),0)) K=K (ud (sb l code)):=by
 have h62:l.length≤4611686018427387904:=by omega
 refine (km (l:=l) h62 (fun i (b:Option Nat)=>(ud b,i)) (fun k x b=>(.inl (jy l code k x b):Option Nat⊕Empty)) ud noE (fun k b=>inB k b) none (fun j h=>by cases h) (fun k hk b hb=>⟨?_,fun b' h=>by injection h with h;rw [← h];exact yT hb⟩) (fun b hb=>by simp only [cO,bI])).trans ?_
 ·simp only [hZ hk,bZ,aQ hk,be,sT,bU hk h62,Ak,sc]
  unfold jy
  cases hp:iC code l[k].Prefix
  ·rfl
  cases b with
  | none=>rfl
  | some j =>
   have hj:=hb j rfl
   simp only [Option.isNone_some,Bool.not_false,Bool.and_true,cH,ud,aQ (show j<l.length by omega),be,Bool.true_and,Bool.false_or,fY (show j<l.length by omega)]
   have e:decide (((l[j]'(by omega)).Prefix.size:Int)<(l[k].Prefix.size:Int))=decide ((l[j]'(by omega)).Prefix.size<l[k].Prefix.size):=decide_eq_decide.2 (by omega)
   rw [e]
   cases decide ((l[j]'(by omega)).Prefix.size<l[k].Prefix.size) <;> rfl
 unfold sb
 congr 1
 cases run (fun k x b=>(.inl (jy l code k x b):Option Nat⊕Empty)) l 0 none with
 | inl b=>rfl
 | inr e=>nomatch e
theorem F2 (l:List Zi) (code:ByteArray) (hl:l.length≤140737488355328) {β:Type} (K:Int→Option β):Option.bind (aV (S:=Int×Int) (T:=(Int)) (fun (v3,v4)=>cond (decide (v4<(l.length:Int))) (Option.bind (Option.bind (idx l v4) (fun m11=>Option.bind (ie code m11.Prefix) (fun x12=>Option.bind (gd (x12&&(!(decide (v3<0)))) (idx l v4)) (fun m13=>Option.bind (gd (x12&&(!(decide (v3<0)))) (idx l v3)) (fun m14=>cond (x12&&((decide (v3<0))||(decide ((m14.Prefix.size:Int)<(m13.Prefix.size:Int))))) (some v4) (some v3)))))) (fun v9=>some (.inl (v9,(IntKind.i64.wrap (v4+1)))))) (some (.inr v3))) FUEL ((-1),0)) K=K (ud (sb l code)):=by
 have h62:l.length≤4611686018427387904:=by omega
 refine (km (l:=l) h62 (fun i (b:Option Nat)=>(ud b,i)) (fun k x b=>(.inl (jy l code k x b):Option Nat⊕Empty)) ud noE (fun k b=>inB k b) none (fun j h=>by cases h) (fun k hk b hb=>⟨?_,fun b' h=>by injection h with h;rw [← h];exact yT hb⟩) (fun b hb=>by simp only [cO,bI])).trans ?_
 ·simp only [hZ hk,bZ,aQ hk,be,AD,bU hk h62,Ak,sc]
  unfold jy
  cases hp:iC code l[k].Prefix
  ·rfl
  cases b with
  | none=>rfl
  | some j =>
   have hj:=hb j rfl
   simp only [Option.isNone_some,Bool.not_false,Bool.and_true,cH,ud,aQ (show j<l.length by omega),be,Bool.true_and,Bool.false_or,fY (show j<l.length by omega)]
   have e:decide (((l[j]'(by omega)).Prefix.size:Int)<(l[k].Prefix.size:Int))=decide ((l[j]'(by omega)).Prefix.size<l[k].Prefix.size):=decide_eq_decide.2 (by omega)
   rw [e]
   cases decide ((l[j]'(by omega)).Prefix.size<l[k].Prefix.size) <;> rfl
 unfold sb
 congr 1
 cases run (fun k x b=>(.inl (jy l code k x b):Option Nat⊕Empty)) l 0 none with
 | inl b=>rfl
 | inr e=>nomatch e
def iD {α:Type} (z:α):Option α→α×Bool
 | some r=>(r,true)
 | none=>(z,false)
def vR:Ze:=⟨0,0,[],0,0,ByteArray.empty,[]⟩
def dz (a:Zb) (code:ByteArray):Option Ze:=(sb a.Rules code).bind fun j=>(a.Rules[j]?).map (·.Rule)
theorem o4 (a:Zb) (code:ByteArray):(sb a.Rules code=none∧dz a code=none)∨∃ j,∃ h:j<a.Rules.length,sb a.Rules code=some j∧dz a code=some a.Rules[j].Rule:=by
 cases hb:sb a.Rules code with
 | none=>left;exact ⟨rfl,by unfold dz;rw [hb];rfl⟩
 | some j =>
  have hj:=F1 a.Rules code j hb
  right;exact ⟨j,hj,rfl,by unfold dz;rw [hb,be,List.getElem?_eq_getElem hj];rfl⟩
theorem rD (a:Zb) (code:ByteArray) (hl:a.Rules.length≤140737488355328):gu a code=some (iD vR (dz a code)):=by
 unfold gu
 rw [F2 _ _ hl]
 rcases o4 a code with ⟨h1,h2⟩ | ⟨j,hj,h1,h2⟩
 ·rw [h1,h2];rfl
 rw [h1,h2,sc];simp only [Option.isNone_some,bI,ud,aQ hj,be];rfl
theorem mH {r:Ze} (h:em r=true):r.Args.length≤6∧(∀ a∈r.Args,em a=true)∧r.Except.length≤6:=by
 rw [hQ,Bool.and_eq_true] at h
 obtain ⟨h1,h2⟩:=h
 unfold kE at h1
 simp only [Bool.and_eq_true,Bool.or_eq_true] at h1
 obtain ⟨⟨⟨p1,p2⟩,p3⟩,p4⟩:=h1
 have hE:r.Except.length≤6:=by
  rcases p1 with p1 | ⟨⟨_,p1⟩,_⟩
  ·have hk:=eq_of_beq p1
   rw [hk] at h2
   simp only [j7,hk] at h2
   have h3:lh r.Except=true:=by
    cases hc:lh r.Except
    ·rw [hc] at h2;simp at h2
    rfl
   unfold lh at h3
   simp only [Bool.and_eq_true,decide_eq_true_eq] at h3
   exact h3.1
  have:=List.isEmpty_iff.1 p1;rw [this];simp
 cases h56:(r.Kind == 5||r.Kind == 6)
 ·rw [Bool.or_eq_false_iff] at h56
  rcases p4 with (p4 | p4) | p4
  ·rw [h56.1] at p4;cases p4
  ·rw [h56.2] at p4;cases p4
  have:=List.isEmpty_iff.1 p4;rw [this];exact ⟨by simp,by simp,hE⟩
 rw [h56] at h2
 simp only [bZ,Bool.and_eq_true,decide_eq_true_eq,List.all_eq_true] at h2
 exact ⟨h2.1.2,fun a ha=>(h2.2 a ha).2,hE⟩
theorem clone_F (n:Nat):∀ (r:Ze),em r=true→us r≤n→fC n r=some r:=by
 induction n with
 | zero=>intro r _ hd;rw [lU] at hd;omega
 | succ n ih =>
  intro r hr hd
  obtain ⟨h1,h2,h3⟩:=mH hr
  show ed (fC n) r=_
  unfold ed bY
  rw [jL (by omega) (by omega),be,BG (by omega) (by omega),be]
  refine (cx (l:=r.Args) (by omega) (fun i (a:List Ze)=>(a,i)) (fun a x=>a++[x]) (fun a=>a) (fun k a=>a.length=k) [] rfl (fun k hk a ha=>⟨?_,by simp [ha]⟩) (fun a ha=>by simp only [cO,bI])).1.trans ?_
  ·simp only [hZ hk,bZ,aQ hk,be,bU hk (show r.Args.length≤4611686018427387904 by omega)]
   rw [ih _ (h2 _ (List.getElem_mem hk)) (by have:=kD (List.getElem_mem hk);omega),be,cK (by simp;omega) (by simp;omega)];rfl
  have:∀ (m acc:List Ze),m.foldl (fun a x=>a++[x]) acc=acc++m:=by
   intro m
   induction m with
   | nil=>intro acc;simp
   | cons x m ih=>intro acc;rw [List.foldl_cons,ih];simp
  rw [this,List.nil_append];cases r;rfl
theorem BO (r:Ze) (h:em r=true) (hd:us r≤1000):iS r=some r:=clone_F FUEL r h (by have hf:FUEL=1267650600228229401496703205376:=rfl;omega)
structure VA (a:Zb):Prop where
 ok:AOk a
 rules:∀ x∈a.Rules,ma x.Rule=0
 len:a.Rules.length≤12∧a.Parties.length≤12
theorem tF (a:Zb) (code:ByteArray) (ha:VA a):el a code=some (iD vR (dz a code)):=by
 unfold el
 rw [DS _ _ ha.ok.len]
 rcases o4 a code with ⟨h1,h2⟩ | ⟨j,hj,h1,h2⟩
 ·rw [h1,h2];rfl
 have hm:=List.getElem_mem hj
 have hr:=ha.ok.rules _ hm
 have hv:=ha.rules _ hm
 rw [h1,h2,sc]
 simp only [Option.isNone_some,Bool.not_false,cH,ud,aQ hj,be,qB _ hr.rule hr.deep,hv,bne_self_eq_false,Bool.or_self,bI,BO _ ((ni _).1 hv).2 hr.deep]
 rfl
theorem MA.va {i:Nat} {a:Zb} (h:MA i a):VA a:=⟨h.aok,fun x hx=>(ni _).2 ⟨by have:=(h.good x hx).size;simp only [om] at this;omega,(h.good x hx).valid⟩,by have:=P5_len h.pre;omega,by have:=h.par.length_le;have h6:C6.length=6:=rfl;omega⟩
theorem oo {α T:Type} (p:α→Bool) (f:Nat→T):∀ (l:List α) (i:Nat),(cE (fun k x=>cond (p x) (some (f k)) none) l i=none∧l.find? p=none)∨∃ j,∃ h:j<l.length,cE (fun k x=>cond (p x) (some (f k)) none) l i=some (f (i+j))∧l.find? p=some l[j]
 | [],_=>.inl ⟨rfl,rfl⟩
 | x::xs,i=>by
  rw [cE,List.find?_cons]
  cases hp:p x
  ·rcases oo p f xs (i+1) with ⟨h1,h2⟩ | ⟨j,hj,h1,h2⟩
   ·exact .inl ⟨h1,h2⟩
   exact .inr ⟨j+1,by simpa using hj,by rw [show i+(j+1)=i+1+j by omega];exact h1,h2⟩
  exact .inr ⟨0,by simp,rfl,rfl⟩
def lV (l:List ByteArray) (s:ByteArray):Bool:=l.any fun x=>decide (x=s)
theorem F3 (l:List ByteArray) (s:ByteArray):lV l s=true↔s∈l:=by
 unfold lV;simp
theorem se (l:List ByteArray) (s:ByteArray) (hl:l.length≤140737488355328):bO l s=some (lV l s):=by
 unfold bO
 have e:dh l s=some (match cE (fun k x=>cond (decide (x=s)) (some (Sum.inr (k:Int):Unit⊕Int)) none) l 0 with | some (.inr k)=>k | _ => -1):=by
  unfold dh
  refine (bE (l:=l) (by omega) (fun k x=>cond (decide (x=s)) (some (.inr (k:Int))) none) (.inl ()) (fun k hk=>?_) (by simp only [cO,bI])).trans ?_
  ·simp only [hZ hk,bZ,aQ hk,be,bU hk (show l.length≤4611686018427387904 by omega)]
   have e:decide (s=l[k])=decide (l[k]=s):=decide_eq_decide.2 eq_comm
   rw [e];cases decide (l[k]=s) <;> rfl
  cases cE (fun k x=>cond (decide (x=s)) (some (Sum.inr (k:Int):Unit⊕Int)) none) l 0 with
  | none=>rfl
  | some t=>cases t <;> rfl
 rw [e,be]
 rcases oo (fun x=>decide (x=s)) (fun k=>(Sum.inr (k:Int):Unit⊕Int)) l 0 with ⟨h1,h2⟩ | ⟨j,hj,h1,h2⟩
 ·rw [h1]
  have:lV l s=false:=by unfold lV;rw [List.any_eq_false];exact fun x hx=>by have:=List.find?_eq_none.1 h2 x hx;simpa using this
  rw [this];rfl
 rw [h1]
 have:lV l s=true:=by
  have:=List.find?_some h2
  rw [F3];rw [← of_decide_eq_true this];exact List.getElem_mem hj
 rw [this]
 show some (decide (0≤((0+j:Nat):Int)))=_
 rw [det (by omega)]
theorem qD (l:List ByteArray) (s:ByteArray) (hl:l.length≤140737488355328):iH l s=some (lV l s):=by
 unfold iH
 refine (bE (l:=l) (by omega) (fun _ x=>cond (decide (x=s)) (some (.inr true)) none) (.inl ()) (fun k hk=>?_) (by simp only [cO,bI])).trans ?_
 ·simp only [hZ hk,bZ,aQ hk,be,bU hk (show l.length≤4611686018427387904 by omega)]
  cases decide (l[k]=s) <;> rfl
 rw [qy (fun x=>decide (x=s))]
 unfold lV;cases (l.any fun x=>decide (x=s)) <;> rfl
def mb (l:List Zb) (id:Int):Option Zb:=l.find? fun a=>a.ID == id
def DT:Zb:=⟨0,0,[],[]⟩
theorem sU (l:List Zb) (id:Int) (hl:l.length≤140737488355328):fk l id=some (iD DT (mb l id)):=by
 unfold fk mb
 refine (bE (l:=l) (by omega) (fun _ x=>cond (x.ID == id) (some (.inr (x,true))) none) (.inl ()) (fun k hk=>?_) (by simp only [cO,bI])).trans ?_
 ·simp only [hZ hk,bZ,aQ hk,be,bU hk (show l.length≤4611686018427387904 by omega)]
  cases (l[k].ID == id) <;> rfl
 rw [kS (fun x:Zb=>x.ID == id) (fun x=>(Sum.inr (x,true):Unit⊕(Zb×Bool)))]
 cases l.find? (fun x:Zb=>x.ID == id) <;> rfl
theorem rE (l:List Zb) (id:Int) (hl:l.length≤140737488355328):eC l id=some (iD DT (mb l id)):=by
 unfold eC mb
 have e:bG l (fun y3=>gt y3 id)=some (match cE (fun k (x:Zb)=>cond (x.ID == id) (some (Sum.inr (k:Int):Unit⊕Int)) none) l 0 with | some (.inr k)=>k | _ => -1):=by
  unfold bG gt
  refine (bE (l:=l) (by omega) (fun k x=>cond (x.ID == id) (some (.inr (k:Int))) none) (.inl ()) (fun k hk=>?_) (by simp only [cO,bI])).trans ?_
  ·simp only [hZ hk,bZ,aQ hk,be,bU hk (show l.length≤4611686018427387904 by omega)]
   cases (l[k].ID == id) <;> rfl
  cases cE (fun k (x:Zb)=>cond (x.ID == id) (some (Sum.inr (k:Int):Unit⊕Int)) none) l 0 with
  | none=>rfl
  | some t=>cases t <;> rfl
 rw [e,be]
 rcases oo (fun x:Zb=>x.ID == id) (fun k=>(Sum.inr (k:Int):Unit⊕Int)) l 0 with ⟨h1,h2⟩ | ⟨j,hj,h1,h2⟩
 ·rw [h1,h2];rfl
 rw [h1,h2]
 show cond (decide (((0+j:Nat):Int)<0)) _ (Option.bind (idx l ((0+j:Nat):Int)) _)=_
 rw [bQ (by omega),Nat.zero_add,aQ hj];rfl
def wT {α:Type} (R:α→α→Bool):List α→List α→Bool
 | [],_=>true
 | _::_,[]=>true
 | x::a,y::b=>R x y&&wT R a b
def jM {α:Type} (R:α→α→Bool) (a b:List α):Bool:=a.length == b.length&&wT R a b
theorem xA {α T:Type} (R:α→α→Bool) (t:T) (B:List α):∀ (a b:List α) (i:Nat),B.drop i=b→a.length=b.length→cE (fun k x=>cond (R x (B.getD k x)) none (some t)) a i=cond (wT R a b) none (some t)
 | [],b,_,_,_=>by cases b <;> rfl
 | x::a,[],_,_,h=>by simp at h
 | x::a,y::b,i,hd,h=>by
  have hi:i<B.length:=by
   rcases Nat.lt_or_ge i B.length with h | h
   ·exact h
   rw [List.drop_of_length_le h] at hd;cases hd
  rw [List.drop_eq_getElem_cons hi] at hd
  injection hd with h1 h2
  rw [cE,wT,fY hi,h1,xA R t B a b (i+1) h2 (by simpa using h)]
  cases R x y <;> rfl
theorem sf {α:Type} {R:α→α→Bool}:∀ {a b:List α},(∀ x∈a,∀ y∈b,R x y=true↔x=y)→(jM R a b=true↔a=b)
 | [],[],_=>by simp [jM,wT]
 | [],y::b,_=>by simp [jM]
 | x::a,[],_=>by simp [jM]
 | x::a,y::b,h=>by
  have ih:=sf (R:=R) (a:=a) (b:=b) fun u hu v hv=>h u (by simp [hu]) v (by simp [hv])
  have h0:=h x (by simp) y (by simp)
  unfold jM at ih ⊢
  rw [wT]
  simp only [List.length_cons,Bool.and_eq_true,beq_iff_eq,Nat.add_right_cancel_iff,List.cons.injEq] at ih ⊢
  constructor
  ·rintro ⟨h1,h2,h3⟩;exact ⟨h0.1 h2,ih.1 ⟨h1,h3⟩⟩
  rintro ⟨h1,h2⟩;exact ⟨(ih.2 h2).1,h0.2 h1,(ih.2 h2).2⟩
theorem o5 {α:Type} (a b:List α):((a.length:Int) != (b.length:Int)) = !(a.length == b.length):=by
 by_cases h:a.length=b.length
 ·rw [h];simp
 have h2:¬ (a.length:Int)=(b.length:Int):=by omega
 have e1:(a.length == b.length)=false:=by simpa using h
 have e2:((a.length:Int) == (b.length:Int))=false:=by simpa using h2
 rw [e1,bne,e2]
theorem o6 {α:Type} {a b:List α} (ha:a.length≤140737488355328) (R:α→α→Bool) {body:Int→Option (Int⊕(Unit⊕Bool))} {k:Unit⊕Bool→Option Bool} (hk:k (.inl ())=some true∧k (.inr false)=some false) (hab:a.length=b.length)
    (hstep:∀ (k:Nat) (hk:k<a.length) (hk2:k<b.length),body (k:Int)=some (wD k (cond (R a[k] b[k]) none (some (.inr false))))) (hend:body (a.length:Int)=some (.inr (.inl ()))):Option.bind (aV body FUEL 0) k=some (wT R a b):=by
  refine (bE (l:=a) (by omega) (fun i x=>cond (R x (b.getD i x)) none (some (.inr false))) (.inl ()) (fun i hi=>?_) hend).trans ?_
  · rw [hstep i hi (by omega),fY (show i<b.length by omega)]
  rw [xA R (Sum.inr false:Unit⊕Bool) b a b 0 rfl hab]
  cases wT R a b
  · exact hk.2
  exact hk.1
theorem qf (a b:List ByteArray) (ha:a.length≤140737488355328):gw a b=some (decide (a=b)):=by
 have hiff:jM (fun x y=>decide (x=y)) a b=decide (a=b):=by
  have:=sf (R:=fun x y:ByteArray=>decide (x=y)) (a:=a) (b:=b) (fun x _ y _=>by simp)
  cases h:jM (fun x y=>decide (x=y)) a b
  ·rw [h] at this;exact (bQ fun e=>by have:=this.2 e;cases this).symm
  exact (det (this.1 h)).symm
 rw [← hiff]
 unfold gw jM
 rw [o5]
 cases h:(a.length == b.length)
 ·rfl
 simp only [Bool.not_true,bI,Bool.true_and]
 refine o6 ha _ ⟨rfl,rfl⟩ (eq_of_beq h) (fun k hk hk2=>?_) (by simp only [cO,bI])
 simp only [hZ hk,bZ,aQ hk,aQ hk2,be,bU hk (show a.length≤4611686018427387904 by omega)]
 cases decide (a[k]=b[k]) <;> rfl
theorem ue (a b:List ByteArray) (ha:a.length≤140737488355328):ee a b=some (decide (a=b)):=by
 rw [← qf a b ha];rfl
theorem AE (a b:List Int) (ha:a.length≤140737488355328):nf a b=some (decide (a=b)):=by
 have hiff:jM (fun x y:Int=>x == y) a b=decide (a=b):=by
  have:=sf (R:=fun x y:Int=>x == y) (a:=a) (b:=b) (fun x _ y _=>by simp)
  cases h:jM (fun x y:Int=>x == y) a b
  ·rw [h] at this;exact (bQ fun e=>by have:=this.2 e;cases this).symm
  exact (det (this.1 h)).symm
 rw [← hiff]
 unfold nf jM
 rw [o5]
 cases h:(a.length == b.length)
 ·rfl
 simp only [Bool.not_true,bI,Bool.true_and]
 refine o6 ha _ ⟨rfl,rfl⟩ (eq_of_beq h) (fun k hk hk2=>?_) (by simp only [cO,bI])
 simp only [hZ hk,bZ,aQ hk,aQ hk2,be,bU hk (show a.length≤4611686018427387904 by omega),bne]
 cases (a[k] == b[k]) <;> rfl
theorem wU (a b:List Za) (ha:a.length≤140737488355328):gY a b=some (decide (a=b)):=by
 have hiff:jM Za.eqb a b=decide (a=b):=by
  have:=sf (R:=Za.eqb) (a:=a) (b:=b) (fun x _ y _=>Za.eqb_iff)
  cases h:jM Za.eqb a b
  ·rw [h] at this;exact (bQ fun e=>by have:=this.2 e;cases this).symm
  exact (det (this.1 h)).symm
 rw [← hiff]
 unfold gY jM
 rw [o5]
 cases h:(a.length == b.length)
 ·rfl
 simp only [Bool.not_true,bI,Bool.true_and]
 refine o6 ha _ ⟨rfl,rfl⟩ (eq_of_beq h) (fun k hk hk2=>?_) (by simp only [cO,bI])
 simp only [hZ hk,bZ,aQ hk,aQ hk2,be,bU hk (show a.length≤4611686018427387904 by omega)]
 cases Za.eqb a[k] b[k] <;> rfl
mutual
def ii:Ze→Ze→Bool
 | ⟨k,d,e,t,m,n,l⟩,⟨k',d',e',t',m',n',l'⟩=>k == k'&&d == d'&&t == t'&&m == m'&&decide (n=n')&&decide (e=e')&&jC l l'
def jC:List Ze→List Ze→Bool
 | [],[]=>true
 | [],_::_=>false
 | _::_,[]=>false
 | a::l,b::m=>ii a b&&jC l m
end
mutual
theorem BP:∀ a b:Ze,ii a b=true↔a=b
 | ⟨k,d,e,t,m,n,l⟩,⟨k',d',e',t',m',n',l'⟩=>by
  rw [ii]
  simp only [Bool.and_eq_true,beq_iff_eq,decide_eq_true_eq,tG l l',Ze.mk.injEq]
  constructor
  ·rintro ⟨⟨⟨⟨⟨⟨h1,h2⟩,h3⟩,h4⟩,h5⟩,h6⟩,h7⟩;exact ⟨h1,h2,h6,h3,h4,h5,h7⟩
  rintro ⟨h1,h2,h6,h3,h4,h5,h7⟩;exact ⟨⟨⟨⟨⟨⟨h1,h2⟩,h3⟩,h4⟩,h5⟩,h6⟩,h7⟩
theorem tG:∀ a b:List Ze,jC a b=true↔a=b
 | [],[]=>by simp [jC]
 | [],_::_=>by simp [jC]
 | _::_,[]=>by simp [jC]
 | a::l,b::m=>by rw [jC,Bool.and_eq_true,BP a b,tG l m,List.cons.injEq]
end
theorem tH:∀ a b:List Ze,jC a b=jM ii a b
 | [],[]=>by simp [jC,jM,wT]
 | [],_::_=>by simp [jC,jM]
 | _::_,[]=>by simp [jC,jM]
 | a::l,b::m=>by
  rw [jC,tH l m]
  unfold jM
  rw [wT,List.length_cons,List.length_cons]
  have:(l.length+1 == m.length+1)=(l.length == m.length):=by
   cases h:(l.length == m.length)
   ·have:=(beq_eq_false_iff_ne).1 h;exact beq_eq_false_iff_ne.2 (by omega)
   have:=eq_of_beq h;rw [this];simp
  rw [this]
  cases ii a b <;> cases (l.length == m.length) <;> rfl
theorem vS (a b:Ze):ii a b=(a.Kind == b.Kind&&a.Digits == b.Digits&&a.Tolerance == b.Tolerance&&a.Limit == b.Limit&&decide (a.Name=b.Name)&&decide (a.Except=b.Except)&&jM ii a.Args b.Args):=by
 cases a;cases b;rw [ii,tH]
theorem BQ (n:Nat):∀ (a b:Ze),ROk a→us a≤n→i6 n a b=some (ii a b):=by
 induction n with
 | zero=>intro a b _ hd;rw [lU] at hd;omega
 | succ n ih =>
  intro a b ha hd
  show gW (i6 n) a b=_
  unfold gW
  rw [qf _ _ ha.ex.1,vS,o5]
  simp only [bne]
  have hl:=ha.len
  cases (a.Kind == b.Kind)
  ·rfl
  cases (a.Digits == b.Digits)
  ·rfl
  cases (a.Tolerance == b.Tolerance)
  ·rfl
  cases (a.Limit == b.Limit)
  ·rfl
  cases decide (a.Name=b.Name)
  ·rfl
  simp only [Bool.not_true,Bool.or_self,Bool.not_false,cH,be,Bool.false_or,Bool.and_self,Bool.true_and]
  cases decide (a.Except=b.Except)
  ·rfl
  unfold jM
  cases h:(a.Args.length == b.Args.length)
  ·rfl
  simp only [Bool.not_true,Bool.or_self,bI,Bool.true_and]
  refine o6 hl _ ⟨rfl,rfl⟩ (eq_of_beq h) (fun k hk hk2=>?_) (by simp only [cO,bI])
  simp only [hZ hk,bZ,aQ hk,aQ hk2,be,bU hk (show a.Args.length≤4611686018427387904 by omega)]
  rw [ih _ _ (ha.arg (List.getElem_mem hk)) (by have:=kD (List.getElem_mem hk);omega),be]
  cases ii a.Args[k] b.Args[k] <;> rfl
theorem AF (n:Nat):∀ (a b:Ze),ROk a→us a≤n→eg n a b=some (ii a b):=by
 induction n with
 | zero=>intro a b _ hd;rw [lU] at hd;omega
 | succ n ih =>
  intro a b ha hd
  have hl:=ha.len
  have hA:bo a.Args b.Args (fun y4 y5=>eg n y4 y5)=some (jM ii a.Args b.Args):=by
   unfold bo jM
   rw [o5]
   cases h:(a.Args.length == b.Args.length)
   ·rfl
   simp only [Bool.not_true,bI,Bool.true_and]
   refine o6 hl _ ⟨rfl,rfl⟩ (eq_of_beq h) (fun k hk hk2=>?_) (by simp only [cO,bI])
   simp only [hZ hk,bZ,aQ hk,aQ hk2,be,bU hk (show a.Args.length≤4611686018427387904 by omega)]
   rw [ih _ _ (ha.arg (List.getElem_mem hk)) (by have:=kD (List.getElem_mem hk);omega),be]
   cases ii a.Args[k] b.Args[k] <;> rfl
  show ef (eg n) a b=_
  unfold ef
  rw [ue _ _ ha.ex.1,vS,hA]
  cases (a.Kind == b.Kind&&a.Digits == b.Digits&&a.Tolerance == b.Tolerance&&a.Limit == b.Limit&&decide (a.Name=b.Name))
  ·rfl
  cases decide (a.Except=b.Except)
  ·rfl
  cases jM ii a.Args b.Args <;> rfl
def AG (x y:Zi):Bool:=decide (x.Prefix=y.Prefix)&&ii x.Rule y.Rule
theorem wV (a b:List Zi) (ha:a.length≤140737488355328) (hr:∀ x∈a,RFOk x):iy a b=some (jM AG a b):=by
 unfold iy jM
 rw [o5]
 cases h:(a.length == b.length)
 ·rfl
 simp only [Bool.not_true,bI,Bool.true_and]
 refine o6 ha _ ⟨rfl,rfl⟩ (eq_of_beq h) (fun k hk hk2=>?_) (by simp only [cO,bI])
 have hx:=hr _ (List.getElem_mem hk)
 simp only [hZ hk,bZ,aQ hk,aQ hk2,be,bU hk (show a.length≤4611686018427387904 by omega),AG]
 cases decide (a[k].Prefix=b[k].Prefix)
 ·rfl
 have e:mZ a[k].Rule b[k].Rule=some (ii a[k].Rule b[k].Rule):=BQ FUEL _ _ hx.rule (by have hf:FUEL=1267650600228229401496703205376:=rfl;have:=hx.deep;omega)
 simp only [Bool.not_true,Bool.not_false,cH,be,e,Bool.false_or,Bool.true_and]
 cases ii a[k].Rule b[k].Rule <;> rfl
theorem vU (a b:List Zi) (ha:a.length≤140737488355328) (hr:∀ x∈a,RFOk x) (hv:∀ x∈a,ma x.Rule=0):eJ a b=some (jM AG a b):=by
 unfold eJ bk jM
 rw [o5]
 cases h:(a.length == b.length)
 ·rfl
 simp only [Bool.not_true,bI,Bool.true_and]
 rw [o6 ha AG ⟨rfl,rfl⟩ (eq_of_beq h) (fun k hk hk2=>?_) (by simp only [cO,bI])]
 ·rfl
 have hx:=hr _ (List.getElem_mem hk)
 have hxv:=hv _ (List.getElem_mem hk)
 simp only [hZ hk,bZ,aQ hk,aQ hk2,be,bU hk (show a.length≤4611686018427387904 by omega),AG]
 unfold ff
 cases decide (a[k].Prefix=b[k].Prefix)
 ·rfl
 have e:iT a[k].Rule b[k].Rule=some (ii a[k].Rule b[k].Rule):=AF FUEL _ _ hx.rule (by have hf:FUEL=1267650600228229401496703205376:=rfl;have:=hx.deep;omega)
 simp only [cH,qB _ hx.rule hx.deep,hxv,be,beq_self_eq_true,Bool.and_self,e,Bool.true_and]
 cases ii a[k].Rule b[k].Rule <;> rfl
def Digs (l:List Int):Prop:=∀ x∈l,48≤x∧x≤57
theorem code_Y {p:Zk} (hp:SOK p) (n:Nat) (hn:n=6∨n=8):Y (gT p (n:Int)) (fun r=>(∃ l:List Int,r.1=strOfNums l∧l.length=n∧Digs l)∧SOK r.2):=by
 unfold gT
 refine (eO hp 2 (by omega) (by omega)).bind fun a ⟨a1,a2,a3⟩=>?_
 rw [cM (by omega) (by omega),ym (by omega)]
 refine Y.bind (P:=fun t:List Int×List Int×Int=>t.1.length=n∧Digs t.1∧SOK ⟨t.2.1,t.2.2⟩) ?_ fun t ⟨t1,t2,t3⟩=>?_
 ·refine Y.loop (fun s:List Int×List Int×Int=>(s.1.length % 2=0∧s.1.length≤n)∧Digs s.1∧SOK ⟨s.2.1,s.2.2⟩) (fun s=>n - s.1.length) ⟨⟨by simp,by simp;omega⟩,fun x hx=>by simp at hx;omega,a3⟩ (by dsimp only;omega) fun s hs=>?_
  obtain ⟨l,m,i⟩:=s
  obtain ⟨⟨s0,s1⟩,s2,s3⟩:=hs
  dsimp only at s0 s1 s2 s3 ⊢
  refine Y.cond (fun hc=>?_) (fun hc=>Y.ret ⟨by have:=of_decide_eq_false hc;dsimp only;omega,s2,s3⟩)
  have hc:=of_decide_eq_true hc
  refine (eO s3 3 (by omega) (by omega)).bind fun x ⟨x1,x2,x3⟩=>?_
  rw [cK (by simp;omega) (by simp;omega),be,cM (by omega) (by omega),ym (by omega)]
  refine Y.ret ⟨⟨⟨by simp;omega,by simp;omega⟩,fun z hz=>?_,x3⟩,by simp;omega⟩
  rcases List.mem_append.1 hz with hz | hz
  ·exact s2 z hz
  simp only [List.mem_cons,List.not_mem_nil,or_false] at hz;omega
 obtain ⟨l,m,i⟩:=t
 exact Y.ret ⟨⟨l,rfl,t1,t2⟩,t3⟩
theorem F4 {l:List Int} {n:Nat} (hn:n=6∨n=8) (h1:l.length=n) (h2:Digs l):dQ (strOfNums l)=(n:Int)∧(strOfNums l).size=n:=by
 have hs:(strOfNums l).size=n:=by
  unfold strOfNums
  show (Array.mk _).size=n
  simp [h1]
 have hd:lg (strOfNums l)=true:=by
  unfold lg bl strOfNums
  rw [List.all_eq_true]
  intro c hc
  simp only [List.mem_map] at hc
  obtain ⟨x,hx,rfl⟩:=hc
  have:=h2 x hx
  have h3:(UInt8.ofNat x.toNat).toNat=x.toNat:=by
   rw [UInt8.toNat_ofNat'];omega
  simp only [kw,h3,decide_eq_true_eq]
  omega
 refine ⟨?_,hs⟩
 unfold dQ
 rw [if_pos ⟨by omega,hd⟩,hs]
def W5:List ByteArray:=[(⟨#[97,110,100]⟩:ByteArray),(⟨#[99,117,116]⟩:ByteArray),(⟨#[111,114]⟩:ByteArray),(⟨#[115,101,119]⟩:ByteArray),(⟨#[115,112,105,110]⟩:ByteArray)]
theorem W5_ok:W5.all ia=true∧kJ i9 W5=true∧(W5.all fun s=>decide (s.size≤100))=true:=⟨by kernel_rfl,by kernel_rfl,by kernel_rfl⟩
theorem AH {p:Zk} (hp:SOK p):Y (eH p) (fun r=>r.1.Sublist W5∧SOK r.2):=by
 unfold eH
 refine (eO hp 32 (by omega) (by omega)).bind fun a ⟨a1,a2,a3⟩=>?_
 refine Y.bind (P:=fun l:List ByteArray=>l.Sublist W5) ?_ fun l hl=>Y.ret ⟨hl,a3⟩
 refine Y.loop (fun s=>∃ v:Nat,s.2=(v:Int)∧v≤5∧s.1.Sublist (W5.take v)) (fun s=>(5 - s.2).toNat) ⟨0,rfl,by omega,List.Sublist.refl _⟩ (by dsimp only;omega) fun s hs=>?_
 obtain ⟨l,i⟩:=s
 obtain ⟨v,rfl,h1,h2⟩:=hs
 dsimp only at h2 ⊢
 have hlen:l.length≤5:=by have:=h2.length_le;have h6:W5.length=5:=rfl;rw [List.length_take] at this;omega
 refine Y.cond (fun hc=>?_) (fun hc=>Y.ret (h2.trans (List.take_sublist _ _)))
 have hv:v<5:=by have:=of_decide_eq_true hc;omega
 have hs:=oZ h2 (show v<W5.length from hv)
 refine Y.bind (P:=fun m:List ByteArray=>m.Sublist (W5.take (v+1))) (Y.eq (o3 v) (Y.cond (fun _=>?_) fun _=>Y.ret hs.2)) fun m hm=>Y.ret ⟨⟨v+1,?_,by omega,hm⟩,?_⟩
 ·refine Y.idx (xs:=W5) rfl (show v<W5.length from hv) ?_
  rw [cK (by simp;omega) (by simp;omega)];exact Y.ret hs.1
 ·show IntKind.i64.wrap ((v:Int)+1)=_;rw [cM (by omega) (by omega)];omega
 show (5 - IntKind.i64.wrap ((v:Int)+1)).toNat<(5 - (v:Int)).toNat;rw [cM (by omega) (by omega)];omega
theorem codeN {x:Int} (h1:0≤x) (h2:x<2):∃ n:Nat,(n=6∨n=8)∧IntKind.i64.wrap (6+IntKind.i64.wrap (2*x))=(n:Int):=by
 rw [cM (r:=2*x) (by omega) (by omega),cM (by omega) (by omega)]
 exact ⟨(6+2*x).toNat,by omega,by omega⟩
structure MProd (n:Nat) (i:Nat) (p:Zd):Prop where
 id:p.ID=3*((i:Int)+1)
 lvl:(dQ p.Code=6∨dQ p.Code=8)∧6≤p.Code.size∧p.Code.size≤8
 ctr:p.Country∈C6
 price:1≤p.Price∧p.Price≤200
 proc:p.Processes.Sublist W5
 few:p.Inputs.length≤4
 asc:p.Inputs.Pairwise fun a b=>a.Product<b.Product
 inp:∀ x∈p.Inputs,(∃ k:Nat,k<n∧x.Product=3*((k:Int)+1))∧0≤x.Value∧x.Value<100
 obt:p.Obtained=true→p.Inputs=[]
structure MPs (l:List Zd):Prop where
 len:1≤l.length∧l.length≤10
 all:∀ (i:Nat) (p:Zd),l[i]?=some p→MProd l.length i p
theorem plan_Y (p0:List Int):Y (nY p0) MPs:=by
 unfold nY
 refine (cut_Y p0 300 (by omega) (by omega)).bind fun x1 hx1=>?_
 refine (eO hx1 10 (by omega) (by omega)).bind fun x3 ⟨a1,a2,a3⟩=>?_
 rw [cM (r:=1+x3.1) (by omega) (by omega)]
 obtain ⟨n,hn⟩:∃ n:Nat,1+x3.1=(n:Int):=⟨(1+x3.1).toNat,by omega⟩
 rw [hn]
 have hn1:1≤n∧n≤10:=by omega
 refine Y.bind (P:=MPs) ?_ fun l hl=>Y.ret hl
 refine Y.loop (fun s:List Zd×Int×List Int×Int=>(s.2.1=(s.1.length:Int)+1∧s.1.length≤n)∧SOK ⟨s.2.2.1,s.2.2.2⟩∧∀ i p,s.1[i]?=some p→MProd n i p) (fun s=>n - s.1.length) ⟨⟨rfl,by simp⟩,a3,by simp⟩ (by dsimp only;omega) fun s hs=>?_
 obtain ⟨l5,v8,l9,v10⟩:=s
 obtain ⟨⟨h1,h2⟩,h3,h4⟩:=hs
 dsimp only at h1 h2 h3 h4 ⊢
 refine Y.cond (fun hc=>?_) (fun hc=>Y.ret ?_)
 rotate_left
 ·have hc:=of_decide_eq_false hc
  have e:l5.length=n:=by omega
  exact ⟨by omega,by rw [e];exact h4⟩
 have hc:=of_decide_eq_true hc
 refine (eO h3 2 (by omega) (by omega)).bind fun x19 ⟨b1,b2,b3⟩=>?_
 obtain ⟨w,hw,e⟩:=codeN b1 b2
 rw [e]
 refine (code_Y b3 w hw).bind fun x20 ⟨⟨cl,hc1,hc2,hc3⟩,hx20⟩=>?_
 have hcode:=F4 hw hc2 hc3
 refine Y.eq r9 ?_
 refine (eO hx20 4 (by omega) (by omega)).bind fun x22 ⟨c1,c2,c3⟩=>?_
 obtain ⟨j,hj⟩:∃ j:Nat,x22.1=(j:Int):=⟨x22.1.toNat,by omega⟩
 refine Y.idx hj (show j<C6.length by have h6:C6.length=6:=rfl;omega) ?_
 refine (eO c3 200 (by omega) (by omega)).bind fun x24 ⟨d1,d2,d3⟩=>?_
 refine (AH d3).bind fun x25 ⟨hpr,hx25⟩=>?_
 refine (eO hx25 4 (by omega) (by omega)).bind fun x26 ⟨_,_,h26⟩=>?_
 refine (eO h26 1024 (by omega) (by omega)).bind fun x28 ⟨_,_,h28⟩=>?_
 refine Y.bind (P:=fun t:List Int×Int×List Zg=>SOK ⟨t.1,t.2.1⟩∧t.2.2.length≤4∧(t.2.2.Pairwise fun a b=>a.Product<b.Product)∧(∀ x∈t.2.2,(∃ k:Nat,k<n∧x.Product=3*((k:Int)+1))∧0≤x.Value∧x.Value<100)∧((x26.1 == 1)=true→t.2.2=[])) ?_ fun t ⟨t1,t2,t3,t4,t5⟩=>?_
 ·refine Y.loop (fun s:Int×List Int×Int×List Zg=>∃ v:Nat,s.1=(v:Int)+1∧v≤n∧SOK ⟨s.2.1,s.2.2.1⟩∧s.2.2.2.length≤4∧(s.2.2.2.Pairwise fun a b=>a.Product<b.Product)∧(∀ x∈s.2.2.2,(∃ k:Nat,k<v∧x.Product=3*((k:Int)+1))∧0≤x.Value∧x.Value<100)∧((x26.1 == 1)=true→s.2.2.2=[])) (fun s=>(n+1 - s.1).toNat) ⟨0,rfl,by omega,h28,by simp,List.Pairwise.nil,by simp,fun _=>rfl⟩ (by dsimp only;omega) fun s hs=>?_
  obtain ⟨i,l,k,m⟩:=s
  obtain ⟨v,rfl,s1,s2,s3,s4,s5,s6⟩:=hs
  dsimp only at s2 s3 s4 s5 s6 ⊢
  refine Y.cond (fun hc3=>?_) (fun hc3=>Y.ret ⟨s2,s3,s4,fun x hx=>?_,s6⟩)
  rotate_left
  ·obtain ⟨⟨k,h5,h6⟩,h7⟩:=s5 x hx;exact ⟨⟨k,by omega,h6⟩,h7⟩
  simp only [Bool.and_eq_true,decide_eq_true_eq,Bool.not_eq_true'] at hc3
  obtain ⟨⟨hc4,hc5⟩,hc6⟩:=hc3
  rw [cM (r:=(v:Int)+1 - 1) (by omega) (by omega),cM (r:=(v:Int)+1+1) (by omega) (by omega),cM (r:=3*((v:Int)+1)) (by omega) (by omega)]
  refine Y.bind (P:=fun t:List Int×Int×List Zg=>SOK ⟨t.1,t.2.1⟩∧t.2.2.length≤4∧(t.2.2.Pairwise fun a b=>a.Product<b.Product)∧(∀ x∈t.2.2,(∃ k:Nat,k<v+1∧x.Product=3*((k:Int)+1))∧0≤x.Value∧x.Value<100)) ?_ fun t ⟨t1,t2,t3,t4⟩=>Y.ret ⟨⟨v+1,by dsimp only;omega,by omega,t1,t2,t3,t4,fun h=>by rw [hc6] at h;cases h⟩,by dsimp only;omega⟩
  rw [show (v:Int)+1 - 1=(v:Int) by omega]
  refine Y.eq (o3 v) ?_
  refine Y.bind (P:=fun r:Int×Zk=>SOK r.2) (Y.gdp (fun _=>(eO s2 3 (by omega) (by omega)).mono fun r hr=>hr.2.2) fun _=>s2) fun x56 hx56=>?_
  refine Y.cond (fun _=>?_) (fun _=>Y.ret ⟨hx56,s3,s4,fun x hx=>?_⟩)
  rotate_left
  ·obtain ⟨⟨k,h5,h6⟩,h7⟩:=s5 x hx;exact ⟨⟨k,by omega,h6⟩,h7⟩
  refine (eO hx56 100 (by omega) (by omega)).bind fun x58 ⟨e1,e2,e3⟩=>?_
  rw [cK (by simp;omega) (by simp;omega),be]
  refine Y.ret ⟨e3,by simp;omega,?_,fun x hx=>?_⟩
  ·rw [List.pairwise_append]
   refine ⟨s4,List.pairwise_singleton _ _,fun a ha b hb=>?_⟩
   rw [List.mem_singleton.1 hb]
   obtain ⟨⟨k,h5,h6⟩,_⟩:=s5 a ha
   dsimp only;omega
  rcases List.mem_append.1 hx with hx | hx
  ·obtain ⟨⟨k,h5,h6⟩,h7⟩:=s5 x hx;exact ⟨⟨k,by omega,h6⟩,h7⟩
  rw [List.mem_singleton.1 hx];exact ⟨⟨v,by omega,rfl⟩,e1,e2⟩
 obtain ⟨l37,v38,l42⟩:=t
 dsimp only at t1 t2 t3 t4 t5 ⊢
 rw [cK (by simp;omega) (by simp;omega),be,cM (r:=v8+1) (by omega) (by omega),cM (r:=1+x24.1) (by omega) (by omega),cM (r:=3*v8) (by omega) (by omega)]
 refine Y.ret ⟨⟨⟨by simp;omega,by simp;omega⟩,t1,fun i p hp=>?_⟩,by simp;omega⟩
 rw [List.getElem?_append] at hp
 split at hp
 ·exact h4 i p hp
 rename_i hi
 have hi0:i - l5.length=0:=by have:=(List.getElem?_eq_some_iff.1 hp).1;simp at this;omega
 rw [hi0] at hp
 simp only [List.getElem?_cons_zero,eM] at hp
 subst hp
 refine ⟨by dsimp only;omega,?_,List.getElem_mem _,⟨by dsimp only;omega,by dsimp only;omega⟩,hpr,t2,t3,t4,t5⟩
 dsimp only;rw [hc1,hcode.1,hcode.2];omega
structure Sorted (l:List Zd):Prop where
 len:l.length≤1000000
 asc:l.Pairwise fun a b=>a.ID<b.ID
 small:∀ p∈l,p.Processes.length≤1000000∧p.Inputs.length≤1000000
def db (l:List Zd) (id:Int):Option Zd:=l.find? fun p=>p.ID == id
def F5:Zd:=⟨0,ByteArray.empty,ByteArray.empty,0,false,[],[]⟩
theorem xB (l:List Zd) (id:Int) (hl:l.length≤140737488355328):fR l id=some (iD F5 (db l id)):=by
 unfold fR db
 refine (bE (l:=l) (by omega) (fun _ x=>cond (x.ID == id) (some (.inr (x,true))) none) (.inl ()) (fun k hk=>?_) (by simp only [cO,bI])).trans ?_
 ·simp only [hZ hk,bZ,aQ hk,be,bU hk (show l.length≤4611686018427387904 by omega)]
  cases (l[k].ID == id) <;> rfl
 rw [kS (fun x:Zd=>x.ID == id) (fun x=>(Sum.inr (x,true):Unit⊕(Zd×Bool)))]
 cases l.find? (fun x:Zd=>x.ID == id) <;> rfl
theorem half_u (x:Nat) (h:x≤10000000):IntKind.i64.wrap (cC .u64 (IntKind.u64.wrap (IntKind.i64.wrap (x:Int))) 1)=((x / 2:Nat):Int):=by
 rw [cM (r:=(x:Int)) (by omega) (by omega),u64s (by omega) (by omega)]
 have:cC .u64 (x:Int) 1=(x:Int) / 2:=Int.fdiv_eq_ediv_of_nonneg _ (by decide)
 rw [this,cM (by omega) (by omega)];omega
theorem DU (l:List Zd) (id:Int) (h:Sorted l):∃ j:Nat,gq l id=some ((j:Int),(db l id).isSome)∧(∀ p,db l id=some p→∃ hj:j<l.length,l[j]=p):=by
 have hl:=h.len
 have cmp:∀ p:Zd,eo p id=some (if p.ID<id then -1 else if id<p.ID then 1 else 0):=fun p=>by unfold eo;rw [cmpI];rfl
 unfold gq bM
 have hloop:Y (aV (S:=Int×Int) (T:=(Int×Int)) (fun (v1,v2)=>cond (decide (v1<v2)) (lb ((IntKind.i64.wrap (cC .u64 (IntKind.u64.wrap (IntKind.i64.wrap (v1+v2))) 1))) (fun w8=>Option.bind (idx l w8) (fun m9=>Option.bind (eo m9 id) (fun x10=>cond (decide (x10<0)) (some (.inl ((IntKind.i64.wrap (w8+1)),v2))) (some (.inl (v1,w8))))))) (some (.inr (id,v1)))) FUEL (0,(l.length:Int))) (fun t=>t.1=id∧∃ j:Nat,t.2=(j:Int)∧j≤l.length∧(∀ (k:Nat) (p:Zd),l[k]?=some p→k<j→p.ID<id)∧(∀ (k:Nat) (p:Zd),l[k]?=some p→j≤k→id≤p.ID)):=by
  refine Y.loop (fun s:Int×Int=>∃ i j:Nat,s.1=(i:Int)∧s.2=(j:Int)∧i≤j∧j≤l.length∧(∀ (k:Nat) (p:Zd),l[k]?=some p→k<i→p.ID<id)∧(∀ (k:Nat) (p:Zd),l[k]?=some p→j≤k→id≤p.ID)) (fun s=>(s.2 - s.1).toNat) ⟨0,l.length,rfl,rfl,by omega,by omega,fun k p _ hk=>absurd hk (Nat.not_lt_zero _),fun k p hp hk=>by have:=(List.getElem?_eq_some_iff.1 hp).1;omega⟩ (by dsimp only;omega) fun s hs=>?_
  obtain ⟨a,b⟩:=s
  obtain ⟨i,j,rfl,rfl,h1,h2,h3,h4⟩:=hs
  dsimp only
  refine Y.cond (fun hc=>?_) (fun hc=>Y.ret ⟨rfl,i,rfl,by omega,h3,fun k p hp hk=>h4 k p hp (by have:=of_decide_eq_false hc;omega)⟩)
  have hc:i<j:=by have:=of_decide_eq_true hc;omega
  unfold lb
  rw [show (i:Int)+(j:Int)=((i+j:Nat):Int) by omega,half_u _ (by omega)]
  have hm:(i+j) / 2<l.length:=by omega
  have pw:=List.pairwise_iff_getElem.1 h.asc
  refine Y.idx rfl hm (Y.eq (cmp _) ?_)
  by_cases hlt:l[(i+j) / 2].ID<id
  ·rw [if_pos hlt]
   refine Y.ret ⟨⟨(i+j) / 2+1,j,?_,rfl,by omega,h2,fun k p hp hk=>?_,h4⟩,?_⟩
   ·show IntKind.i64.wrap _=_;rw [cM (by omega) (by omega)];omega
   ·obtain ⟨hk2,rfl⟩:=List.getElem?_eq_some_iff.1 hp
    rcases Nat.lt_or_ge k ((i+j) / 2) with h5 | h5
    ·have:=pw k ((i+j) / 2) hk2 hm h5;omega
    have e:k=(i+j) / 2:=by omega
    subst e;exact hlt
   show ((j:Int) - IntKind.i64.wrap _).toNat<_;rw [cM (by omega) (by omega)];omega
  rw [if_neg hlt]
  have hd:decide ((if id<l[(i+j) / 2].ID then (1:Int) else 0)<0)=false:=by split <;> rfl
  rw [hd]
  refine Y.ret ⟨⟨i,(i+j) / 2,rfl,rfl,by omega,by omega,h3,fun k p hp hk=>?_⟩,by dsimp only;omega⟩
  obtain ⟨hk2,rfl⟩:=List.getElem?_eq_some_iff.1 hp
  rcases Nat.lt_or_ge ((i+j) / 2) k with h5 | h5
  ·have:=pw ((i+j) / 2) k hm hk2 h5;omega
  have e:k=(i+j) / 2:=by omega
  subst e;omega
 obtain ⟨⟨t1,t2⟩,e,rfl,j,hj,h1,h2,h3⟩:=hloop
 dsimp only at hj
 subst hj
 rw [e]
 simp only [be]
 by_cases hjl:j<l.length
 ·rw [det (show (j:Int)<(l.length:Int) by omega),cH,aQ hjl,be,cH,cmp,be]
  have h4:=h3 j _ (List.getElem?_eq_getElem hjl) (Nat.le_refl _)
  rw [if_neg (by omega)]
  by_cases heq:t1<l[j].ID
  ·have hn:db l t1=none:=by
    unfold db;rw [List.find?_eq_none]
    intro p hp
    obtain ⟨k,hk,rfl⟩:=List.getElem_of_mem hp
    have:l[k].ID≠t1:=by
     rcases Nat.lt_or_ge k j with h5 | h5
     ·have:=h2 k _ (List.getElem?_eq_getElem hk) h5;omega
     rcases Nat.lt_or_ge j k with h6 | h6
     ·have:=List.pairwise_iff_getElem.1 h.asc j k hjl hk h6;omega
     have e:k=j:=by omega
     subst e;omega
    simpa using this
   rw [if_pos heq,hn];exact ⟨j,rfl,fun p hp=>by cases hp⟩
  ·have hid:l[j].ID=t1:=by omega
   have hs:db l t1=some l[j]:=by
    unfold db
    rw [List.find?_eq_some_iff_getElem]
    refine ⟨by simpa using hid,j,hjl,rfl,fun k hk=>?_⟩
    have:=h2 k _ (List.getElem?_eq_getElem (by omega)) hk
    have:l[k].ID≠t1:=by omega
    simpa using this
   rw [if_neg heq,hs];exact ⟨j,rfl,fun p hp=>by injection hp with hp;exact ⟨hjl,hp⟩⟩
 rw [bQ (show ¬ (j:Int)<(l.length:Int) by omega),ji,be,ji,be]
 have hn:db l t1=none:=by
  unfold db;rw [List.find?_eq_none]
  intro p hp
  obtain ⟨k,hk,rfl⟩:=List.getElem_of_mem hp
  have:=h2 k _ (List.getElem?_eq_getElem hk) (by omega)
  have:l[k].ID≠t1:=by omega
  simpa using this
 rw [hn];exact ⟨j,rfl,fun p hp=>by cases hp⟩
theorem vV (l:List Zd) (id:Int) (h:Sorted l):dj l id=some (iD F5 (db l id)):=by
 unfold dj
 obtain ⟨j,e,hj⟩:=DU l id h
 rw [e,be]
 cases hf:db l id with
 | none=>rfl
 | some p =>
  obtain ⟨hjl,rfl⟩:=hj p hf
  have hs:=h.small _ (List.getElem_mem hjl)
  simp only [Option.isSome_some,Bool.not_true,bI,aQ hjl,be]
  unfold bY ce
  rw [jL (by omega) (by omega),be,jL (by omega) (by omega),be];rfl
theorem MPs.sorted {l:List Zd} (h:MPs l):Sorted l:=by
 refine ⟨by have:=h.len;omega,?_,fun p hp=>?_⟩
 ·rw [List.pairwise_iff_getElem]
  intro i j hi hj hij
  have h1:=(h.all i _ (List.getElem?_eq_getElem hi)).id
  have h2:=(h.all j _ (List.getElem?_eq_getElem hj)).id
  omega
 obtain ⟨i,hi,rfl⟩:=List.getElem_of_mem hp
 have hm:=h.all i _ (List.getElem?_eq_getElem hi)
 have h1:=hm.proc.length_le;have h2:=hm.few;have h6:W5.length=5:=rfl
 omega
structure VAs (l:List Zb):Prop where
 len:l.length≤1000
 all:∀ a∈l,VA a
theorem MAs.vas {l:List Zb} (h:MAs l):VAs l:=⟨by have:=h.len;omega,fun a ha=>by obtain ⟨i,hi,rfl⟩:=List.getElem_of_mem ha;exact (h.all i _ (List.getElem?_eq_getElem hi)).va⟩
theorem oq {l:List Zb} (h:VAs l) {id:Int} {a:Zb} (ha:mb l id=some a):VA a∧a.ID=id∧a∈l:=by
 have hm:=List.mem_of_find?_eq_some ha
 exact ⟨h.all a hm,by have:=List.find?_some ha;simpa using this,hm⟩
def yU (a:Zb) (x y:ByteArray):Bool:=lV a.Parties x&&lV a.Parties y
theorem xC (a:Zb) (x y:ByteArray) (ha:VA a):dB a x y=some (yU a x y):=by
 have:=ha.ok.par.1
 unfold dB yU
 rw [se _ _ this,se _ _ this,be]
 cases lV a.Parties x <;> rfl
def jh (p:List Zd) (l:List Zb) (i:ByteArray) (c:Za):Bool:=match db p c.Product,mb l c.Agreement with
 | some q,some a => !decide (q.Country=i)&&yU a q.Country i&&(dz a q.Code).isSome
 | _,_=>false
theorem AI (p:List Zd) (l:List Zb) (i:ByteArray) (c:Za) (hp:Sorted p) (hl:VAs l):cJ p l i c=some (jh p l i c):=by
 unfold cJ jh
 have:=hl.len
 rw [vV _ _ hp,be]
 cases db p c.Product with
 | none=>rfl
 | some q =>
  rw [rE _ _ (by omega)]
  simp only [iD,Bool.not_true,bI,be]
  cases ha:mb l c.Agreement with
  | none=>rfl
  | some a =>
   have hv:=(oq hl ha).1
   rw [xC _ _ _ hv,tF _ _ hv]
   by_cases hq:q.Country=i
   ·simp [hq,gd]
   cases h1:yU a q.Country i
   ·simp [hq,gd,h1]
   cases h2:dz a q.Code <;> simp [hq,gd,iD,h1,h2]
theorem CX (p:List Zd) (l:List Zb) (i:ByteArray) (c:Za) (hp:p.length≤140737488355328) (hl:VAs l):dO p l i c=some (jh p l i c):=by
 unfold dO jh
 have:=hl.len
 rw [xB _ _ hp,be,sU _ _ (by omega),be]
 cases ha:mb l c.Agreement with
 | none =>
  rw [rD _ _ (by simp [iD,DT]),be]
  cases db p c.Product with
  | none=>rfl
  | some q=>rfl
 | some a =>
  have hv:=(oq hl ha).1
  rw [show (iD DT (some a)).1=a from rfl,rD _ _ hv.ok.len,be,qD _ _ hv.ok.par.1,qD _ _ hv.ok.par.1]
  cases db p c.Product with
  | none=>rfl
  | some q =>
   unfold yU
   cases hr:dz a q.Code with
   | none=>simp [iD,gd,hr]
   | some r =>
    by_cases hq:q.Country=i
    ·simp [iD,gd,hr,hq]
    cases h1:lV a.Parties q.Country
    ·simp [iD,gd,hr,hq,h1]
    cases h2:lV a.Parties i <;> simp [iD,gd,hr,hq,h1,h2]
def o7 (a:Zb) (id:Int) (e i:ByteArray) (b:Zb):Bool := !(b.ID == id)&&yU b e i&&jM AG a.Rules b.Rules
def dS (l:List Zb) (id:Int) (e i:ByteArray):List Int:=match mb l id with
 | none=>[]
 | some a=>id::cond (a.Kind == 2) ((l.filter (o7 a id e i)).map (·.ID)) []
theorem qg (P:Zb→Bool):∀ (l:List Zb) (acc:List Int),l.foldl (fun acc b=>cond (P b) (acc++[b.ID]) acc) acc=acc++(l.filter P).map (·.ID)
 | [],acc=>by simp
 | b::l,acc=>by
  rw [List.foldl_cons,qg P l,List.filter_cons]
  cases P b <;> simp
theorem wW (l:List Zb) (id:Int) (e i:ByteArray) (hl:VAs l):eu l id e i=some (dS l id e i):=by
 unfold eu dS
 have hlen:=hl.len
 rw [rE _ _ (by omega),be]
 cases ha:mb l id with
 | none=>rfl
 | some a =>
  have hv:=(oq hl ha).1
  simp only [iD,Bool.not_true,bI,bne]
  cases hk:(a.Kind == 2)
  ·rfl
  simp only [Bool.not_true,bI,bZ]
  refine (cx (l:=l) (by omega) (fun i (a:List Int)=>(a,i)) (fun acc b=>cond (o7 a id e i b) (acc++[b.ID]) acc) (fun a=>a) (fun k acc=>acc.length≤k+1) [id] (by simp) (fun k hk acc hacc=>⟨?_,?_⟩) (fun acc _=>by simp only [cO,bI])).1.trans ?_
  ·have hb:=hl.all _ (List.getElem_mem hk)
   simp only [hZ hk,bZ,aQ hk,be,bU hk (show l.length≤4611686018427387904 by omega),o7,bne]
   rw [xC _ _ _ hb,vU _ _ hv.ok.len hv.ok.rules hv.rules]
   cases (l[k].ID == id)
   ·cases yU l[k] e i
    ·rfl
    cases jM AG a.Rules l[k].Rules
    ·rfl
    simp only [Bool.not_false,cH,be,Bool.and_self,bZ]
    rw [cK (by simp;omega) (by simp;omega)];rfl
   rfl
  ·cases o7 a id e i l[k] <;> simp <;> omega
  rw [qg];rfl
theorem yV (l:List Zb) (id:Int) (e i:ByteArray) (hl:VAs l):iU l id e i=some (dS l id e i):=by
 unfold iU dS
 have hlen:=hl.len
 rw [sU _ _ (by omega),be]
 cases ha:mb l id with
 | none=>rfl
 | some a =>
  have hv:=(oq hl ha).1
  simp only [iD,Bool.not_true,bI]
  cases hk:(a.Kind == 2)
  ·refine (cx (l:=([]:List Zb)) (by simp) (fun i (a:List Int)=>(a,i)) (fun acc b=>acc) (fun a=>a) (fun k acc=>True) [id] trivial (fun k hk acc hacc=>by simp at hk) (fun acc _=>by simp only [Bool.and_false,bI])).1.trans ?_
   rfl
  simp only [Bool.and_true,bZ]
  refine (cx (l:=l) (by omega) (fun i (a:List Int)=>(a,i)) (fun acc b=>cond (o7 a id e i b) (acc++[b.ID]) acc) (fun a=>a) (fun k acc=>acc.length≤k+1) [id] (by simp) (fun k hk acc hacc=>⟨?_,?_⟩) (fun acc _=>by simp only [cO,bI])).1.trans ?_
  ·have hb:=hl.all _ (List.getElem_mem hk)
   simp only [hZ hk,bZ,aQ hk,be,bU hk (show l.length≤4611686018427387904 by omega),o7,bne,yU]
   rw [qD _ _ hb.ok.par.1,qD _ _ hb.ok.par.1,wV _ _ hv.ok.len hv.ok.rules]
   cases (l[k].ID == id)
   ·cases lV l[k].Parties e
    ·rfl
    cases lV l[k].Parties i
    ·rfl
    cases jM AG a.Rules l[k].Rules
    ·rfl
    simp only [Bool.not_false,cH,be,Bool.and_self,bZ]
    rw [cK (by simp;omega) (by simp;omega)];rfl
   rfl
  ·cases o7 a id e i l[k] <;> simp <;> omega
  rw [qg];rfl
def AscA (l:List Zb):Prop:=l.Pairwise fun a b=>a.ID<b.ID
theorem DV {l:List Zb} (h:AscA l) {a:Zb} (ha:a∈l):mb l a.ID=some a:=by
 obtain ⟨i,hi,rfl⟩:=List.getElem_of_mem ha
 unfold mb
 rw [List.find?_eq_some_iff_getElem]
 refine ⟨by simp,i,hi,rfl,fun k hk=>?_⟩
 have:=List.pairwise_iff_getElem.1 h k i (by omega) hi hk
 have:l[k].ID≠l[i].ID:=by omega
 simpa using this
theorem MAs.asc {l:List Zb} (h:MAs l):AscA l:=by
 unfold AscA;rw [List.pairwise_iff_getElem]
 intro i j hi hj hij
 have h1:=(h.all i _ (List.getElem?_eq_getElem hi)).id
 have h2:=(h.all j _ (List.getElem?_eq_getElem hj)).id
 omega
theorem sg (l:List Zb) (id:Int) (e i:ByteArray):(dS l id e i).length≤l.length+1:=by
 unfold dS
 cases mb l id with
 | none=>simp
 | some a=>cases h:(a.Kind == 2) <;> simp [h];exact List.length_filter_le _ _
theorem BR (x:Int):Y (jk x) (fun s=>s∈C6):=by
 unfold jk
 refine (r8 x 8 (by omega) (by omega)).bind fun r ⟨h1,h2⟩=>?_
 obtain ⟨j,hj⟩:∃ j:Nat,r=(j:Int):=⟨r.toNat,by omega⟩
 refine Y.idx hj (show j<8 by omega) (Y.ret ?_)
 have hj8:j<8:=by omega
 match j,hj8 with
 | 0,_=>exact .tail _ (.head _)
 | 1,_=>exact .tail _ (.head _)
 | 2,_=>exact .tail _ (.head _)
 | 3,_=>exact .head _
 | 4,_=>exact .tail _ (.tail _ (.head _))
 | 5,_=>exact .tail _ (.tail _ (.tail _ (.head _)))
 | 6,_=>exact .tail _ (.tail _ (.tail _ (.tail _ (.head _))))
 | 7,_=>exact .tail _ (.tail _ (.tail _ (.tail _ (.tail _ (.head _)))))
end SX
end Go.Proofs.YtgmbmepakpcpaaaGreatDoor
set_option maxRecDepth 100000
set_option linter.unusedSectionVars false
namespace Go.Proofs.YtgmbmepakpcpaaaGreatDoor
namespace SX
open Go
section
variable {α:Type} [DecidableEq α]
def dd:List α→List α
 | []=>[]
 | [x]=>[x]
 | x::y::l=>cond (decide (x=y)) (dd (y::l)) (x::dd (y::l))
theorem yW (x y:α):∀ l:List α,dd (l++[x,y])=cond (decide (x=y)) (dd (l++[x])) (dd (l++[x])++[y])
 | []=>by
  show dd [x,y]=_
  rw [dd]
  cases h:decide (x=y)
  ·rfl
  ·have:=of_decide_eq_true h;subst this;rfl
 | [a]=>by
  have ih:=yW x y []
  simp only [List.nil_append] at ih
  simp only [List.cons_append,List.nil_append]
  rw [show dd [a,x,y]=cond (decide (a=x)) (dd [x,y]) (a::dd [x,y]) from rfl,ih,show dd [a,x]=cond (decide (a=x)) (dd [x]) (a::dd [x]) from rfl]
  cases decide (x=y) <;> cases decide (a=x) <;> rfl
 | a::b::l=>by
  show dd (a::b::(l++[x,y]))=_
  have ih:=yW x y (b::l)
  simp only [List.cons_append] at ih
  rw [dd,ih]
  show _=cond _ (dd (a::b::(l++[x]))) (dd (a::b::(l++[x]))++[y])
  rw [dd]
  cases decide (x=y) <;> cases decide (a=b) <;> rfl
theorem BS:∀ {l:List α} {z:α},z∈dd l↔z∈l
 | [],z=>Iff.rfl
 | [x],z=>Iff.rfl
 | x::y::l,z=>by
  rw [dd]
  have ih:=BS (l:=y::l) (z:=z)
  cases h:decide (x=y)
  ·rw [bI,List.mem_cons,ih];simp
  have:=of_decide_eq_true h;subst this
  rw [bZ,ih];simp
theorem F6:∀ l:List α,(dd l).length≤l.length
 | []=>Nat.le_refl _
 | [x]=>Nat.le_refl _
 | x::y::l=>by
  rw [dd]
  have ih:=F6 (y::l)
  cases decide (x=y)
  ·simp only [bI,List.length_cons] at ih ⊢;omega
  simp only [bZ,List.length_cons] at ih ⊢;omega
theorem yX:∀ {l:List α},(∀ i,(h:i+1<l.length)→l[i]≠l[i+1])→dd l=l
 | [],_=>rfl
 | [x],_=>rfl
 | x::y::l,h=>by
  have h0:=h 0 (by simp)
  simp only [List.getElem_cons_zero,List.getElem_cons_succ,Nat.zero_add] at h0
  rw [dd,bQ h0,bI,yX (l:=y::l) fun i hi=>by have:=h (i+1) (by simpa using hi);simpa using this]
variable {lt:α→α→Bool}
def Strict (lt:α→α→Bool) (l:List α):Prop:=l.Pairwise fun a b=>lt a b=true
theorem xD (htot:∀ x y,lt x y=false→lt y x=false→x=y) (htr:∀ x y z,lt x y=true→lt y z=true→lt x z=true):∀ {l:List α},l.Pairwise (fun a b=>lt b a=false)→Strict lt (dd l)
 | [],_=>List.Pairwise.nil
 | [x],_=>List.pairwise_singleton _ _
 | x::y::l,h=>by
  obtain ⟨h1,h2⟩:=List.pairwise_cons.1 h
  have ih:=xD htot htr h2
  rw [dd]
  cases hxy:decide (x=y)
  ·refine List.pairwise_cons.2 ⟨fun z hz=>?_,ih⟩
   have hz:=BS.1 hz
   have hne:x≠y:=of_decide_eq_false hxy
   have hlt:lt x y=true:=by
    cases hl:lt x y
    ·exact absurd (htot x y hl (h1 y (by simp))) hne
    rfl
   rcases List.mem_cons.1 hz with rfl | hz
   ·exact hlt
   cases hyz:lt y z
   ·have:=(List.pairwise_cons.1 h2).1 z hz
    rw [← htot y z hyz this];exact hlt
   exact htr _ _ _ hlt hyz
  exact ih
theorem tI (hir:∀ x,lt x x=false) (htr:∀ x y z,lt x y=true→lt y z=true→lt x z=true):∀ {l m:List α},Strict lt l→Strict lt m→(∀ z,z∈l↔z∈m)→l=m
 | [],[],_,_,_=>rfl
 | [],y::m,_,_,h=>absurd ((h y).2 (by simp)) (by simp)
 | x::l,[],_,_,h=>absurd ((h x).1 (by simp)) (by simp)
 | x::l,y::m,h1,h2,h=>by
  obtain ⟨a1,a2⟩:=List.pairwise_cons.1 h1
  obtain ⟨b1,b2⟩:=List.pairwise_cons.1 h2
  have hxy:x=y:=by
   rcases List.mem_cons.1 ((h x).1 (by simp)) with e | hx
   ·exact e
   rcases List.mem_cons.1 ((h y).2 (by simp)) with e | hy
   ·exact e.symm
   have:=htr _ _ _ (a1 y hy) (b1 x hx);rw [hir] at this;cases this
  subst hxy
  congr 1
  refine tI hir htr a2 b2 fun z=>?_
  constructor
  ·intro hz
   rcases List.mem_cons.1 ((h z).1 (by simp [hz])) with rfl | hz2
   ·have:=a1 z hz;rw [hir] at this;cases this
   exact hz2
  intro hz
  rcases List.mem_cons.1 ((h z).2 (by simp [hz])) with rfl | hz2
  ·have:=b1 z hz;rw [hir] at this;cases this
  exact hz2
def aZ (l:List α) (c:α):Bool:=l.any fun x=>decide (x=c)
theorem eK {l:List α} {c:α}:aZ l c=true↔c∈l:=by unfold aZ;rw [List.any_eq_true];exact ⟨fun ⟨x,h1,h2⟩=>of_decide_eq_true h2 ▸ h1,fun h=>⟨c,h,det rfl⟩⟩
theorem lJ {l:List α} {c:α}:aZ l c=false↔c ∉ l:=by rw [← eK];simp
def iN (lt:α→α→Bool) (l:List α) (c:α):List α:=cond (aZ l c) l (l.takeWhile (fun x=>lt x c)++c::l.dropWhile (fun x=>lt x c))
theorem vW (l:List α) (c z:α):z∈iN lt l c↔z=c∨z∈l:=by
 unfold iN
 cases h:aZ l c
 ·rw [bI,List.mem_append,List.mem_cons]
  have:z∈l↔z∈l.takeWhile (fun x=>lt x c)∨z∈l.dropWhile (fun x=>lt x c):=by
   rw [← List.mem_append,List.takeWhile_append_dropWhile]
  rw [this]
  constructor
  ·rintro (h | h | h);exact .inr (.inl h);exact .inl h;exact .inr (.inr h)
  rintro (h | h | h);exact .inr (.inl h);exact .inl h;exact .inr (.inr h)
 have:=eK.1 h
 rw [bZ]
 constructor
 ·exact fun h=>.inr h
 rintro (rfl | h);exact this;exact h
theorem qi (htot:∀ x y,lt x y=false→lt y x=false→x=y) (htr:∀ x y z,lt x y=true→lt y z=true→lt x z=true) {l:List α} {c:α} (h:Strict lt l):Strict lt (iN lt l c):=by
 unfold iN
 cases hc:aZ l c
 ·have hc:=lJ.1 hc
  rw [bI]
  have hd:∀ z∈l.dropWhile (fun x=>lt x c),lt c z=true:=by
   have key:∀ m:List α,Strict lt m→c ∉ m→∀ z∈m.dropWhile (fun x=>lt x c),lt c z=true:=by
    intro m
    induction m with
    | nil=>intro _ _ z hz;cases hz
    | cons x m ih =>
     intro hm hcm z hz
     obtain ⟨m1,m2⟩:=List.pairwise_cons.1 hm
     rw [List.dropWhile_cons] at hz
     cases hx:lt x c
     ·rw [hx] at hz
      simp only [Bool.false_eq_true,if_false] at hz
      have hcx:lt c x=true:=by
       cases h2:lt c x
       ·exact absurd (htot x c hx h2) (fun e=>hcm (by simp [e]))
       rfl
      rcases List.mem_cons.1 hz with rfl | hz
      ·exact hcx
      exact htr _ _ _ hcx (m1 z hz)
     rw [hx] at hz
     simp only [if_true] at hz
     exact ih m2 (fun h=>hcm (by simp [h])) z hz
   exact key l h hc
  have ht:∀ z∈l.takeWhile (fun x=>lt x c),lt z c=true:=by
   have key:∀ m:List α,∀ z∈m.takeWhile (fun x=>lt x c),lt z c=true:=by
    intro m
    induction m with
    | nil=>intro z hz;cases hz
    | cons x m ih =>
     intro z hz
     rw [List.takeWhile_cons] at hz
     cases hx:lt x c
     ·rw [hx] at hz;cases hz
     rw [hx] at hz
     simp only [if_true] at hz
     rcases List.mem_cons.1 hz with rfl | hz
     ·exact hx
     exact ih z hz
   exact key l
  refine List.pairwise_append.2 ⟨h.sublist (List.takeWhile_sublist _),List.pairwise_cons.2 ⟨hd,h.sublist (List.dropWhile_sublist _)⟩,fun a ha b hb=>?_⟩
  rcases List.mem_cons.1 hb with rfl | hb
  ·exact ht a ha
  exact htr _ _ _ (ht a ha) (hd b hb)
 exact h
theorem nj (l:List α) (c:α):(iN lt l c).length≤l.length+1:=by
 unfold iN
 cases aZ l c
 ·rw [bI,List.length_append,List.length_cons]
  have:=congrArg List.length (List.takeWhile_append_dropWhile (p:=fun x=>lt x c) (l:=l))
  rw [List.length_append] at this;omega
 exact Nat.le_succ _
def sd (lt:α→α→Bool) (l:List α):List α:=dd (lz lt l)
theorem yY (l:List α) (z:α):z∈sd lt l↔z∈l:=by unfold sd;rw [BS,kR.mem_iff]
theorem F7 (l:List α):(sd lt l).length≤l.length:=by unfold sd;have:=F6 (lz lt l);rw [oh] at this;exact this
structure Ord (lt:α→α→Bool):Prop where
 irr:∀ x,lt x x=false
 tr:∀ x y z,lt x y=true→lt y z=true→lt x z=true
 ntr:∀ x y z,lt x y=false→lt y z=false→lt x z=false
 tot:∀ x y,lt x y=false→lt y x=false→x=y
theorem xE (o:Ord lt) (l:List α):Strict lt (sd lt l):=xD o.tot o.tr (ms o.tr o.ntr o.irr l)
theorem si (o:Ord lt):∀ (l acc:List α),Strict lt acc→Strict lt (l.foldl (iN lt) acc)∧(∀ z,z∈l.foldl (iN lt) acc↔z∈acc∨z∈l)∧(l.foldl (iN lt) acc).length≤acc.length+l.length
 | [],acc,h=>⟨h,fun z=>by simp,by simp⟩
 | c::l,acc,h=>by
  obtain ⟨h1,h2,h3⟩:=si o l (iN lt acc c) (qi o.tot o.tr h)
  refine ⟨h1,fun z=>?_,?_⟩
  ·rw [List.foldl_cons,h2,vW,List.mem_cons]
   constructor
   ·rintro ((h | h) | h);exact .inr (.inl h);exact .inl h;exact .inr (.inr h)
   rintro (h | h | h);exact .inl (.inr h);exact .inl (.inl h);exact .inr h
  rw [List.foldl_cons,List.length_cons];have:=nj (lt:=lt) acc c;omega
theorem tJ (o:Ord lt) (l:List α):l.foldl (iN lt) []=sd lt l :=
 tI o.irr o.tr (si o l [] List.Pairwise.nil).1 (xE o l) fun z=>by rw [(si o l [] List.Pairwise.nil).2.1,yY];simp
end
theorem BT:Ord i9:=⟨CQ,FT,fun x y z h1 h2=>by
 rw [p8] at *;exact bQ (List.not_lt.2 (List.le_trans (List.not_lt.1 (of_decide_eq_false h2)) (List.not_lt.1 (of_decide_eq_false h1)))),fun x y h1 h2=>by
 rw [p8] at h1 h2
 exact str_ext.2 (List.le_antisymm (List.not_lt.1 (of_decide_eq_false h2)) (List.not_lt.1 (of_decide_eq_false h1)))⟩
theorem ordC:Ord bJ:=⟨tC,vK,tD,tE⟩
section
variable {α:Type} [DecidableEq α]
theorem CY {p:List α} {n:Nat} (h0:1≤n) (h:n<p.length):dd (p.take (n+1))=cond (decide (p[n-1]'(by omega)=p[n])) (dd (p.take n)) (dd (p.take n)++[p[n]]):=by
 obtain ⟨m,rfl⟩:∃ m,n=m+1:=⟨n - 1,by omega⟩
 have e1:p.take (m+1)=p.take m++[p[m]'(by omega)]:=by rw [List.take_add_one,List.getElem?_eq_getElem (by omega)];rfl
 have e3:p.take (m+1+1)=p.take (m+1)++[p[m+1]]:=by rw [List.take_add_one,List.getElem?_eq_getElem h];rfl
 have e2:p.take (m+1+1)=p.take m++[p[m]'(by omega),p[m+1]]:=by rw [e3,e1,List.append_assoc];rfl
 rw [e2,yW,e1];rfl
structure CInv (p:List α) (v:Nat) (l:List α) (k i:Nat):Prop where
 i1:1≤i
 le:v+i≤p.length
 len:l.length=p.length
 kk:k=(dd (p.take (v+i))).length
 klt:k+1≤v+i
 pre:l.take k=dd (p.take (v+i))
 suf:∀ j,v+i≤j+1→l[j]?=p[j]?
theorem CInv.step {p l:List α} {v k i:Nat} (c:CInv p v l k i) (h:v+i<p.length) (hv:1≤v):∃ x y,l[v+i]?=some x∧l[v+i - 1]?=some y∧(decide (x=y)=true→CInv p v l k (i+1))∧(decide (x=y)=false→k<l.length∧CInv p v (l.set k x) (k+1) (i+1)):=by
 have hx:=c.suf (v+i) (by omega)
 have hy:=c.suf (v+i - 1) (by omega)
 rw [List.getElem?_eq_getElem h] at hx
 rw [List.getElem?_eq_getElem (show v+i - 1<p.length by omega)] at hy
 have hd:=CY (p:=p) (n:=v+i) (by omega) h
 refine ⟨_,_,hx,hy,fun e=>?_,fun e=>?_⟩
 ·have e':decide (p[v+i - 1]'(by omega)=p[v+i])=true:=det (of_decide_eq_true e).symm
  rw [e',bZ] at hd
  exact ⟨by omega,by omega,c.len,by rw [← Nat.add_assoc,hd];exact c.kk,by have:=c.klt;omega,by rw [← Nat.add_assoc,hd];exact c.pre,fun j hj=>c.suf j (by omega)⟩
 have e':decide (p[v+i - 1]'(by omega)=p[v+i])=false:=bQ (fun q=>of_decide_eq_false e q.symm)
 rw [e',bI] at hd
 have hk:k<l.length:=by have:=c.klt;have:=c.len;omega
 refine ⟨hk,by omega,by omega,by rw [List.length_set];exact c.len,by rw [← Nat.add_assoc,hd,List.length_append,← c.kk];rfl,by have:=c.klt;omega,?_,fun j hj=>?_⟩
 ·rw [← Nat.add_assoc,hd,← c.pre]
  rw [List.take_add_one,List.getElem?_set]
  simp only [if_true,hk]
  rw [List.take_set_of_le (Nat.le_refl k)];rfl
 rw [List.getElem?_set,if_neg (by have:=c.klt;omega)];exact c.suf j (by omega)
theorem CInv.start {p:List α} {v:Nat} (hv:1≤v) (h:v<p.length) (he:p[v]=p[v-1]'(by omega)) (hb:∀ j,1≤j→(hj:j<v)→p[j]'(by omega)≠p[j-1]'(by omega)):CInv p v p v 1:=by
 have e1:dd (p.take v)=p.take v:=yX fun i hi=>by
  rw [List.length_take] at hi
  rw [List.getElem_take,List.getElem_take]
  have:=hb (i+1) (by omega) (by omega)
  exact fun e=>this e.symm
 have hd:=CY (p:=p) (n:=v) hv h
 rw [det he.symm,bZ,e1] at hd
 exact ⟨Nat.le_refl _,by omega,rfl,by rw [hd,List.length_take];omega,by omega,by rw [hd],fun j _=>rfl⟩
end
end SX
end Go.Proofs.YtgmbmepakpcpaaaGreatDoor
namespace Go.Proofs.YtgmbmepakpcpaaaGreatDoor
namespace SX
open Go
theorem yZ {α:Type} (l:List α) (n:Nat):idx l (n:Int)=l[n]?:=by unfold idx;rw [if_pos (by omega)];simp
theorem tK {α:Type} [DecidableEq α] (E:α→α→Bool) (hE:∀ x y,E x y=decide (x=y)) (z:α) (p:List α) (hp:p.length≤1000000000) :
    cond (decide (((p.length:Nat):Int)<2)) (some p) (Option.bind (aV (S:=Int) (T:=(Unit)⊕(List α)) (fun v2=>cond (decide (v2<((p.length:Nat):Int))) (Option.bind (idx p v2) (fun m7=>Option.bind (idx p (IntKind.i64.wrap (v2 - 1))) (fun m8=>cond (E m7 m8) (Option.bind (sub p v2 (p.length:Int)) (fun _=>Option.bind (aV (S:=(List α)×Int×Int) (T:=((List α)×Int)) (fun (l12,v13,v14)=>cond (decide (v14<((p.length - v2.toNat:Nat):Int))) (Option.bind (Option.bind (lw v14) (fun _=>Option.bind (idx l12 (v2+v14)) (fun m26=>Option.bind (lw (IntKind.i64.wrap (v14 - 1))) (fun _=>Option.bind (idx l12 (v2+(IntKind.i64.wrap (v14 - 1)))) (fun m28=>cond (!(E m26 m28)) (Option.bind (lw v14) (fun _=>Option.bind (idx l12 (v2+v14)) (fun m31=>Option.bind (idx l12 v13) (fun _=>some ((l12.set v13.toNat m31),(IntKind.i64.wrap (v13+1))))))) (some (l12,v13))))))) (fun (l22,v23)=>some (.inl (l22,v23,(IntKind.i64.wrap (v14+1)))))) (some (.inr (l12,v13)))) FUEL (p,v2,1)) (fun (l16,v17)=>Option.bind (sub l16 v17 (l16.length:Int)) (fun _=>Option.bind (sub (List.take v17.toNat l16++List.replicate (p.length - v17.toNat) z) 0 v17) (fun l35=>some (.inr (.inr l35))))))) (some (.inl (IntKind.i64.wrap (v2+1))))))) (some (.inr (.inl ())))) FUEL 1) (fun q=>match q with | .inl _=>some p | .inr e=>some e))=some (dd p):=by
  by_cases h2:p.length<2
  · rw [det (show ((p.length:Nat):Int)<2 by omega)]
    match p,h2 with
    | [],_=>rfl
    | [x],_=>rfl
  rw [bQ (by omega),bI]
  have hl:Y (aV (S:=Int) (T:=(Unit)⊕(List α)) (fun v2=>cond (decide (v2<((p.length:Nat):Int))) (Option.bind (idx p v2) (fun m7=>Option.bind (idx p (IntKind.i64.wrap (v2 - 1))) (fun m8=>cond (E m7 m8) (Option.bind (sub p v2 (p.length:Int)) (fun _=>Option.bind (aV (S:=(List α)×Int×Int) (T:=((List α)×Int)) (fun (l12,v13,v14)=>cond (decide (v14<((p.length - v2.toNat:Nat):Int))) (Option.bind (Option.bind (lw v14) (fun _=>Option.bind (idx l12 (v2+v14)) (fun m26=>Option.bind (lw (IntKind.i64.wrap (v14 - 1))) (fun _=>Option.bind (idx l12 (v2+(IntKind.i64.wrap (v14 - 1)))) (fun m28=>cond (!(E m26 m28)) (Option.bind (lw v14) (fun _=>Option.bind (idx l12 (v2+v14)) (fun m31=>Option.bind (idx l12 v13) (fun _=>some ((l12.set v13.toNat m31),(IntKind.i64.wrap (v13+1))))))) (some (l12,v13))))))) (fun (l22,v23)=>some (.inl (l22,v23,(IntKind.i64.wrap (v14+1)))))) (some (.inr (l12,v13)))) FUEL (p,v2,1)) (fun (l16,v17)=>Option.bind (sub l16 v17 (l16.length:Int)) (fun _=>Option.bind (sub (List.take v17.toNat l16++List.replicate (p.length - v17.toNat) z) 0 v17) (fun l35=>some (.inr (.inr l35))))))) (some (.inl (IntKind.i64.wrap (v2+1))))))) (some (.inr (.inl ())))) FUEL 1) (fun t=>match t with | .inl _=>dd p=p | .inr e=>e=dd p):=by
    refine Y.loop (fun s:Int=>∃ v:Nat,s=(v:Int)∧1≤v∧v≤p.length∧∀ j,1≤j→(hj:j<v)→(hp:j<p.length)→p[j]≠p[j-1]'(by omega)) (fun s=>(p.length - s).toNat) ⟨1,rfl,by omega,by omega,fun j h1 h2=>by omega⟩ (by omega) fun s hs=>?_
    obtain ⟨v,rfl,h1,h3,h4⟩:=hs
    refine Y.cond (fun hc=>?_) (fun hc=>Y.ret (yX fun i hi=>?_))
    rotate_left
    · have hc:=of_decide_eq_false hc
      have:=h4 (i+1) (by omega) (by omega) hi
      exact fun e=>this e.symm
    have hv:v<p.length:=by have:=of_decide_eq_true hc;omega
    refine Y.idx rfl hv ?_
    refine Y.idx (n:=v - 1) (by rw [cM (by omega) (by omega)];omega) (by omega) ?_
    rw [hE]
    refine Y.cond (fun he=>?_) (fun he=>Y.ret ⟨⟨v+1,?_,by omega,by omega,fun j g1 g2 g3=>?_⟩,?_⟩)
    · rw [mR (Nat.le_of_lt hv) (Nat.le_refl _),be]
      have he:=of_decide_eq_true he
      have c0:=CInv.start h1 hv he fun j g1 g2=>h4 j g1 g2 (by omega)
      refine Y.bind (P:=fun t:List α×Int=>∃ k:Nat,t.2=(k:Int)∧k≤p.length∧t.1.length=p.length∧t.1.take k=dd p) ?_ fun t ⟨k,t1,t2,t3,t4⟩=>?_
      · refine Y.loop (fun s:List α×Int×Int=>∃ k i:Nat,s.2.1=(k:Int)∧s.2.2=(i:Int)∧CInv p v s.1 k i) (fun s=>(p.length - v - s.2.2).toNat) ⟨v,1,rfl,rfl,c0⟩ (by dsimp only;omega) fun s hs=>?_
        obtain ⟨l,a,b⟩:=s
        obtain ⟨k,i,rfl,rfl,c⟩:=hs
        dsimp only at c ⊢
        have ci:=c.i1;have cl:=c.le;have ck:=c.klt;have cn:=c.len
        refine Y.cond (fun hc=>?_) (fun hc=>Y.ret ⟨k,rfl,by omega,c.len,?_⟩)
        rotate_left
        · have hc:=of_decide_eq_false hc
          have e:v+i=p.length:=by rw [Int.toNat_natCast] at hc;omega
          have:=c.pre
          rw [e,List.take_length] at this;exact this
        have hlt:v+i<p.length:=by have:=of_decide_eq_true hc;rw [Int.toNat_natCast] at this;omega
        obtain ⟨x,y,hx,hy,s1,s2⟩:=c.step hlt h1
        refine Y.bind (P:=fun t:List α×Int=>∃ k':Nat,t.2=(k':Int)∧CInv p v t.1 k' (i+1)) ?_ fun t ⟨k',t1,t2⟩=>Y.ret ⟨⟨k',i+1,t1,?_,t2⟩,?_⟩
        · refine Y.eq (o3 i) ?_
          rw [show (v:Int)+(i:Int)=((v+i:Nat):Int) by omega]
          refine Y.eq (by rw [yZ];exact hx) ?_
          rw [cM (r:=(i:Int) - 1) (by omega) (by omega),show (i:Int) - 1=((i - 1:Nat):Int) by omega]
          refine Y.eq (o3 (i - 1)) ?_
          rw [show (v:Int)+((i - 1:Nat):Int)=((v+i - 1:Nat):Int) by omega]
          refine Y.eq (by rw [yZ];exact hy) ?_
          rw [hE]
          refine Y.cond (fun hne=>?_) (fun hne=>Y.ret ⟨k,rfl,s1 (by simpa using hne)⟩)
          obtain ⟨hk,c2⟩:=s2 (by simpa using hne)
          refine Y.eq (o3 i) (Y.eq (by rw [yZ];exact hx) (Y.idx rfl hk (Y.ret ⟨k+1,?_,c2⟩)))
          show IntKind.i64.wrap ((k:Int)+1)=_;rw [cM (by omega) (by omega)];omega
        · show IntKind.i64.wrap ((i:Int)+1)=_;rw [cM (by omega) (by omega)];omega
        show ((p.length:Int) - v - IntKind.i64.wrap ((i:Int)+1)).toNat<((p.length:Int) - v - (i:Int)).toNat;rw [cM (by omega) (by omega)];omega
      obtain ⟨l,b⟩:=t
      dsimp only at t1 t3 t4 ⊢
      subst t1
      have e1:sub l (k:Int) (l.length:Int)=some ((l.take l.length).drop k):=mR (by omega) (Nat.le_refl _)
      rw [e1,be,Int.toNat_natCast]
      have e2:sub (List.take k l++List.replicate (p.length - k) z) 0 (k:Int)=some (((List.take k l++List.replicate (p.length - k) z).take k).drop 0):=mR (a:=0) (by omega) (by simp;omega)
      rw [e2,be]
      refine Y.ret ?_
      show ((List.take k l++List.replicate (p.length - k) z).take k).drop 0=dd p
      rw [List.drop_zero,List.take_append_of_le_length (by rw [List.length_take];omega),List.take_take,Nat.min_self,t4]
    · show IntKind.i64.wrap ((v:Int)+1)=_;rw [cM (by omega) (by omega)];omega
    · rcases Nat.lt_or_ge j v with h | h
      · exact h4 j g1 h g3
      have e:j=v:=by omega
      subst e;exact of_decide_eq_false he
    show ((p.length:Int) - IntKind.i64.wrap ((v:Int)+1)).toNat<((p.length:Int) - (v:Int)).toNat;rw [cM (by omega) (by omega)];omega
  obtain ⟨t,e,ht⟩:=hl
  rw [e]
  cases t with
  | inl u=>dsimp only at ht;rw [be,ht]
  | inr u=>dsimp only at ht;rw [be,ht]
theorem F8 (p:List ByteArray) (hp:p.length≤1000000000):dI p=some (dd p):=by
 refine Eq.trans ?_ (tK (fun x y=>decide (x=y)) (fun _ _=>rfl) ByteArray.empty p hp)
 kernel_rfl
theorem y7 (x y:Za):Za.eqb x y=decide (x=y):=by
 cases h:Za.eqb x y
 ·exact (bQ fun e=>by rw [Za.eqb_iff.2 e] at h;cases h).symm
 exact (det (Za.eqb_iff.1 h)).symm
theorem F9 (p:List Za) (hp:p.length≤1000000000):bA p=some (dd p):=by
 refine Eq.trans ?_ (tK Za.eqb y7 ⟨0,0⟩ p hp)
 kernel_rfl
theorem kG (l:List Za) (c:Za) (hl:l.length≤140737488355328):dF l c=some (aZ l c):=by
 unfold dF
 refine (bE (l:=l) (by omega) (fun _ x=>cond (Za.eqb x c) (some (.inr true)) none) (.inl ()) (fun k hk=>?_) (by simp only [cO,bI])).trans ?_
 ·simp only [hZ hk,bZ,aQ hk,be,bU hk (show l.length≤4611686018427387904 by omega)]
  cases Za.eqb l[k] c <;> rfl
 rw [qy (fun x=>Za.eqb x c)]
 have:(l.any fun x=>Za.eqb x c)=aZ l c:=by unfold aZ;congr 1;funext x;exact y7 x c
 rw [this];cases aZ l c <;> rfl
theorem o8 {α:Type} (P:α→Bool):∀ (l:List α) (k:Nat),k≤l.length→(∀ j x,l[j]?=some x→j<k→P x=true)→(∀ x,l[k]?=some x→P x=false)→l.takeWhile P=l.take k∧l.dropWhile P=l.drop k
 | [],k,h,_,_=>by simp at h;subst h;exact ⟨rfl,rfl⟩
 | x::l,0,_,_,h=>by rw [List.takeWhile_cons,List.dropWhile_cons,h x rfl];exact ⟨rfl,rfl⟩
 | x::l,k+1,h,h1,h2=>by
  obtain ⟨e1,e2⟩:=o8 P l k (by simpa using h) (fun j y hy hj=>h1 (j+1) y (by simpa using hy) (by omega)) (fun y hy=>h2 y (by simpa using hy))
  rw [List.takeWhile_cons,List.dropWhile_cons,h1 0 x rfl (by omega)]
  simp only [if_true,List.take_succ_cons,List.drop_succ_cons]
  rw [e1,e2];exact ⟨rfl,rfl⟩
theorem xF (l:List Za) (c:Za) (hl:l.length≤1000000000):fS l c=some (iN bJ l c):=by
 unfold fS iN
 rw [kG _ _ (by omega),be]
 cases aZ l c
 rotate_left
 ·rfl
 simp only [bI]
 have hw:Y (aV (S:=Int) (T:=(Int)) (fun v4=>Option.bind (gd (decide (v4<(l.length:Int))) (idx l v4)) (fun m8=>Option.bind (gd (decide (v4<(l.length:Int))) (kV m8 c)) (fun x9=>cond ((decide (v4<(l.length:Int)))&&x9) (some (.inl (IntKind.i64.wrap (v4+1)))) (some (.inr v4))))) FUEL 0) (fun t=>∃ k:Nat,t=(k:Int)∧k≤l.length∧l.takeWhile (fun x=>bJ x c)=l.take k∧l.dropWhile (fun x=>bJ x c)=l.drop k):=by
  refine Y.loop (fun s:Int=>∃ k:Nat,s=(k:Int)∧k≤l.length∧∀ j x,l[j]?=some x→j<k→bJ x c=true) (fun s=>(l.length - s).toNat) ⟨0,rfl,by omega,fun j x _ h=>absurd h (Nat.not_lt_zero _)⟩ (by omega) fun s hs=>?_
  obtain ⟨k,rfl,h1,h2⟩:=hs
  rcases Nat.lt_or_ge k l.length with hk | hk
  ·rw [hZ hk,cH,aQ hk,be,cH]
   have e:kV l[k] c=some (bJ l[k] c):=by unfold kV bJ;rfl
   rw [e,be]
   cases hlt:bJ l[k] c
   ·exact Y.ret ⟨k,rfl,h1,o8 _ l k h1 h2 fun x hx=>by rw [List.getElem?_eq_getElem hk] at hx;injection hx with hx;rw [← hx];exact hlt⟩
   refine Y.ret ⟨⟨k+1,?_,by omega,fun j x hx hj=>?_⟩,?_⟩
   ·show IntKind.i64.wrap ((k:Int)+1)=_;rw [cM (by omega) (by omega)];omega
   ·rcases Nat.lt_or_ge j k with h | h
    ·exact h2 j x hx h
    have e:j=k:=by omega
    subst e;rw [List.getElem?_eq_getElem hk] at hx;injection hx with hx;rw [← hx];exact hlt
   show ((l.length:Int) - IntKind.i64.wrap ((k:Int)+1)).toNat<((l.length:Int) - (k:Int)).toNat;rw [cM (by omega) (by omega)];omega
  have e:k=l.length:=by omega
  subst e
  rw [cO,ji,be,ji,be]
  exact Y.ret ⟨l.length,rfl,h1,o8 _ l _ h1 h2 fun x hx=>by have:=(List.getElem?_eq_some_iff.1 hx).1;omega⟩
 obtain ⟨t,e,k,rfl,h1,h2,h3⟩:=hw
 rw [e,be]
 have s1:sub l 0 (k:Int)=some ((l.take k).drop 0):=mR (a:=0) (by omega) h1
 have s2:sub l (k:Int) (l.length:Int)=some ((l.take l.length).drop k):=mR h1 (Nat.le_refl _)
 rw [s1,be,s2,be,List.drop_zero,List.take_length,jL (by rw [List.length_take];omega) (by omega),be,cK (by simp;omega) (by simp;omega),be,cK (by simp;omega) (by simp;omega),be,h2,h3,List.append_assoc];rfl
theorem xG (l:List ByteArray) (c:ByteArray) (hl:l.length≤1000000000) (hs:Strict i9 l):kU l c=some (iN i9 l c):=by
 unfold kU iN
 have hw:Y (aV (S:=Int) (T:=(ByteArray×Int)) (fun v1=>Option.bind (gd (decide (v1<(l.length:Int))) (idx l v1)) (fun m6=>cond ((decide (v1<(l.length:Int)))&&(Op.bytesLess m6.toList c.toList)) (some (.inl (IntKind.i64.wrap (v1+1)))) (some (.inr (c,v1))))) FUEL 0) (fun t=>t.1=c∧∃ k:Nat,t.2=(k:Int)∧k≤l.length∧(∀ j x,l[j]?=some x→j<k→i9 x c=true)∧(∀ x,l[k]?=some x→i9 x c=false)):=by
  refine Y.loop (fun s:Int=>∃ k:Nat,s=(k:Int)∧k≤l.length∧∀ j x,l[j]?=some x→j<k→i9 x c=true) (fun s=>(l.length - s).toNat) ⟨0,rfl,by omega,fun j x _ h=>absurd h (Nat.not_lt_zero _)⟩ (by omega) fun s hs=>?_
  obtain ⟨k,rfl,h1,h2⟩:=hs
  rcases Nat.lt_or_ge k l.length with hk | hk
  ·rw [hZ hk,cH,aQ hk,be]
   cases hlt:i9 l[k] c
   ·have hlt':Op.bytesLess l[k].toList c.toList=false:=hlt
    rw [hlt']
    exact Y.ret ⟨rfl,k,rfl,h1,h2,fun x hx=>by rw [List.getElem?_eq_getElem hk] at hx;injection hx with hx;rw [← hx];exact hlt⟩
   have hlt':Op.bytesLess l[k].toList c.toList=true:=hlt
   rw [hlt']
   refine Y.ret ⟨⟨k+1,?_,by omega,fun j x hx hj=>?_⟩,?_⟩
   ·show IntKind.i64.wrap ((k:Int)+1)=_;rw [cM (by omega) (by omega)];omega
   ·rcases Nat.lt_or_ge j k with h | h
    ·exact h2 j x hx h
    have e:j=k:=by omega
    subst e;rw [List.getElem?_eq_getElem hk] at hx;injection hx with hx;rw [← hx];exact hlt
   show ((l.length:Int) - IntKind.i64.wrap ((k:Int)+1)).toNat<((l.length:Int) - (k:Int)).toNat;rw [cM (by omega) (by omega)];omega
  have e:k=l.length:=by omega
  subst e
  rw [cO,ji,be]
  exact Y.ret ⟨rfl,l.length,rfl,h1,h2,fun x hx=>by have:=(List.getElem?_eq_some_iff.1 hx).1;omega⟩
 obtain ⟨⟨t1,t2⟩,e,rfl,k,hk,h1,h2,h3⟩:=hw
 dsimp only at hk
 subst hk
 obtain ⟨w1,w2⟩:=o8 (fun x=>i9 x t1) l k h1 h2 h3
 rw [e,be]
 dsimp only
 have key:t1∈l↔l[k]?=some t1:=by
  constructor
  ·intro hm
   obtain ⟨j,hj,hjt⟩:=List.getElem_of_mem hm
   have hjk:k≤j:=by
    rcases Nat.lt_or_ge j k with h | h
    ·have:=h2 j l[j] (List.getElem?_eq_getElem hj) h;rw [hjt,CQ] at this;cases this
    exact h
   rcases Nat.lt_or_ge k j with h | h
   ·have hkl:k<l.length:=by omega
    have g1:=h3 l[k] (List.getElem?_eq_getElem hkl)
    have g2:=(List.pairwise_iff_getElem.1 hs) k j hkl hj h
    rw [hjt,g1] at g2;cases g2
   have e:j=k:=by omega
   subst e;rw [List.getElem?_eq_getElem hj,hjt]
  exact fun h=>List.mem_of_getElem? h
 rcases Nat.lt_or_ge k l.length with hkl | hkl
 ·rw [hZ hkl,cH,aQ hkl,be,Bool.true_and]
  by_cases hm:l[k]=t1
  ·rw [det hm,eK.2 (key.2 (by rw [List.getElem?_eq_getElem hkl,hm]))];rfl
  rw [bQ hm,lJ.2 (fun h=>hm (by have:=key.1 h;rw [List.getElem?_eq_getElem hkl] at this;injection this))]
  simp only [bI]
  have s1:sub l 0 (k:Int)=some ((l.take k).drop 0):=mR (a:=0) (by omega) h1
  have s2:sub l (k:Int) (l.length:Int)=some ((l.take l.length).drop k):=mR h1 (Nat.le_refl _)
  rw [s1,be,s2,be,List.drop_zero,List.take_length,jL (by rw [List.length_take];omega) (by omega),be,cK (by simp;omega) (by simp;omega),be,cK (by simp;omega) (by simp;omega),be,w1,w2,List.append_assoc];rfl
 have e:k=l.length:=by omega
 subst e
 rw [cO,ji,be,Bool.false_and,lJ.2 (fun h=>by have:=key.1 h;rw [List.getElem?_eq_none (Nat.le_refl _)] at this;cases this)]
 simp only [bI]
 have s1:sub l 0 ((l.length:Nat):Int)=some ((l.take l.length).drop 0):=mR (a:=0) (by omega) h1
 have s2:sub l ((l.length:Nat):Int) (l.length:Int)=some ((l.take l.length).drop l.length):=mR h1 (Nat.le_refl _)
 rw [s1,be,s2,be,List.drop_zero,List.take_length,jL (by omega) (by omega),be,cK (by simp;omega) (by simp;omega),be,cK (by simp;omega) (by simp;omega),be,w1,w2,List.append_assoc,List.take_length];rfl
def nN (a b:List ByteArray):List ByteArray:=sd i9 (a++b)
theorem concat2 (a b:List ByteArray) (h:a.length+b.length≤1000000):cY [a,b]=some (a++b):=by
 unfold cY eF
 refine (km (l:=[a,b]) (by simp) (fun i (s:Nat)=>((s:Int),i)) (fun _ x s=>(.inl (s+x.length):Nat⊕Empty)) (fun (s:Nat)=>(s:Int)) noE (fun k s=>s≤1000000∧s=([a,b].take k).flatten.length) 0 ⟨by omega,rfl⟩ (fun k hk s hs=>⟨?_,fun s' h'=>?_⟩) (fun s _=>by simp only [cO,bI])).trans ?_
 ·have hb:s+([a,b][k]).length≤1000000:=by
   obtain ⟨_,e⟩:=hs
   match k,hk with
   | 0,_=>simp at e;subst e;simp;omega
   | 1,_=>simp at e;subst e;simp;omega
  simp only [hZ hk,bZ,aQ hk,be,bU hk (show [a,b].length≤4611686018427387904 by simp),Ak]
  rw [cM (by omega) (by omega),bQ (by omega)]
  simp only [bI,Int.natCast_add]
 ·injection h' with h'
  obtain ⟨h1,h2⟩:=hs
  subst h'
  match k,hk with
  | 0,_=>simp at h2 ⊢;subst h2;simp;omega
  | 1,_=>simp at h2 ⊢;subst h2;omega
 show Option.bind (Option.bind (DH 16 ((0+a.length+b.length:Nat):Int)) _) _=_
 rw [BG (by omega) (by omega),be,be]
 refine (cx (l:=[a,b]) (by simp) (fun i (s:List ByteArray)=>(s,i)) (fun s x=>s++x) (fun s=>s) (fun k s=>s=([a,b].take k).flatten) [] rfl (fun k hk s hs=>⟨?_,?_⟩) (fun s _=>by simp only [cO,bI])).1.trans ?_
 ·have hb:s.length+([a,b][k]).length≤1000000:=by
   match k,hk with
   | 0,_=>simp at hs;subst hs;simp;omega
   | 1,_=>simp at hs;subst hs;simp;omega
  simp only [hZ hk,bZ,aQ hk,be,bU hk (show [a,b].length≤4611686018427387904 by simp)]
  rw [cK (by omega) (by omega)];rfl
 ·match k,hk with
  | 0,_=>simp at hs;subst hs;simp
  | 1,_=>simp at hs;subst hs;simp
 simp
theorem BU (a b:List ByteArray) (h:a.length+b.length≤1000000):j6 a b=some (nN a b):=by
 unfold j6
 rw [concat2 a b h,be]
 show Option.bind (some (lz i9 (a++b))) _=_
 rw [be,F8 _ (by rw [oh];simp;omega)];rfl
theorem DW (a b:List ByteArray) (h:a.length+b.length≤1000000):jV a b=some (nN a b):=by
 unfold jV
 have ha:=si BT a [] List.Pairwise.nil
 refine (cx (l:=a) (by omega) (fun i (s:List ByteArray)=>(s,i)) (iN i9) (fun s=>(b,s)) (fun k s=>Strict i9 s∧s.length≤k) [] ⟨List.Pairwise.nil,by simp⟩ (fun k hk s hs=>⟨?_,qi BT.tot BT.tr hs.1,by have:=nj (lt:=i9) s a[k];omega⟩) (fun s _=>by simp only [cO,bI])).1.trans ?_
 ·simp only [hZ hk,bZ,aQ hk,be,bU hk (show a.length≤4611686018427387904 by omega)]
  rw [xG _ _ (by omega) hs.1];rfl
 dsimp only
 refine (cx (l:=b) (by omega) (fun i (s:List ByteArray)=>(s,i)) (iN i9) (fun s=>s) (fun k s=>Strict i9 s∧s.length≤a.length+k) (a.foldl (iN i9) []) ⟨ha.1,by have:=ha.2.2;simpa using this⟩ (fun k hk s hs=>⟨?_,qi BT.tot BT.tr hs.1,by have:=nj (lt:=i9) s b[k];omega⟩) (fun s _=>by simp only [cO,bI])).1.trans ?_
 ·simp only [hZ hk,bZ,aQ hk,be,bU hk (show b.length≤4611686018427387904 by omega)]
  rw [xG _ _ (by omega) hs.1];rfl
 unfold nN
 rw [← tJ BT,List.foldl_append]
def U64 (a:Int):Prop:=0≤a∧a<18446744073709551616
theorem wu (a:Int):IntKind.u64.wrap a=a % 18446744073709551616:=rfl
theorem fG {a:Int} (h:U64 a):IntKind.u64.wrap a=a:=by rw [wu];unfold U64 at h;omega
theorem bv64 {a:Int} (h:U64 a):(BitVec.ofInt 64 a).toNat=a.toNat:=by
 rw [BitVec.toNat_ofInt];unfold U64 at h;omega
theorem CZ {a b:Int} (ha:U64 a) (hb:U64 b):dw .u64 a b=((a.toNat &&& b.toNat:Nat):Int):=by
 have hlt:a.toNat &&& b.toNat<18446744073709551616:=Nat.lt_of_le_of_lt Nat.and_le_left (by unfold U64 at ha;omega)
 have e:dw .u64 a b=IntKind.u64.wrap (((BitVec.ofInt 64 a &&& BitVec.ofInt 64 b).toNat:Nat):Int):=rfl
 rw [e,BitVec.toNat_and,bv64 ha,bv64 hb,fG]
 exact ⟨by omega,by omega⟩
theorem Ga {a b:Int} (ha:U64 a) (hb:U64 b):ow .u64 a b=((a.toNat ||| b.toNat:Nat):Int):=by
 have hlt:a.toNat ||| b.toNat<2 ^ 64:=Nat.or_lt_two_pow (by unfold U64 at ha;omega) (by unfold U64 at hb;omega)
 have e:ow .u64 a b=IntKind.u64.wrap (((BitVec.ofInt 64 a ||| BitVec.ofInt 64 b).toNat:Nat):Int):=rfl
 rw [e,BitVec.toNat_or,bv64 ha,bv64 hb,fG]
 exact ⟨by omega,by omega⟩
theorem qj {a:Int} (h:U64 a):dw .u64 a 4294967295=a % 4294967296:=by
 rw [CZ h ⟨by omega,by omega⟩]
 have:a.toNat &&& (4294967295:Int).toNat=a.toNat % 4294967296:=Nat.and_two_pow_sub_one_eq_mod (n:=32) a.toNat
 rw [this];unfold U64 at h;omega
theorem vX {a:Int} (h:U64 a):dw .u64 a 1=a % 2:=by
 rw [CZ h ⟨by omega,by omega⟩]
 have:a.toNat &&& (1:Int).toNat=a.toNat % 2:=Nat.and_two_pow_sub_one_eq_mod (n:=1) a.toNat
 rw [this];unfold U64 at h;omega
theorem C0 {a:Int}:cC .u64 a 32=a / 4294967296:=Int.fdiv_eq_ediv_of_nonneg a (show (0:Int)≤4294967296 by omega)
theorem mul64 {a b:Int} (ha:U64 a) (hb:U64 b):∃ h l,iw a b=some (h,l)∧U64 h∧U64 l∧h*18446744073709551616+l=a*b:=by
 unfold iw lb
 rw [qj ha,qj hb]
 simp only [C0]
 unfold U64 at ha hb
 have ea:a=4294967296*(a / 4294967296)+a % 4294967296:=by omega
 have eb:b=4294967296*(b / 4294967296)+b % 4294967296:=by omega
 have h1:0≤a / 4294967296∧a / 4294967296<4294967296:=by omega
 have h2:0≤a % 4294967296∧a % 4294967296<4294967296:=by omega
 have h3:0≤b / 4294967296∧b / 4294967296<4294967296:=by omega
 have h4:0≤b % 4294967296∧b % 4294967296<4294967296:=by omega
 generalize a / 4294967296=x1 at *
 generalize a % 4294967296=x0 at *
 generalize b / 4294967296=y1 at *
 generalize b % 4294967296=y0 at *
 subst ea eb
 have p00:0≤x0*y0∧x0*y0≤4294967295*4294967295:=⟨Int.mul_nonneg h2.1 h4.1,Int.mul_le_mul (by omega) (by omega) h4.1 (by omega)⟩
 have p01:0≤x0*y1∧x0*y1≤4294967295*4294967295:=⟨Int.mul_nonneg h2.1 h3.1,Int.mul_le_mul (by omega) (by omega) h3.1 (by omega)⟩
 have p10:0≤x1*y0∧x1*y0≤4294967295*4294967295:=⟨Int.mul_nonneg h1.1 h4.1,Int.mul_le_mul (by omega) (by omega) h4.1 (by omega)⟩
 have p11:0≤x1*y1∧x1*y1≤4294967295*4294967295:=⟨Int.mul_nonneg h1.1 h3.1,Int.mul_le_mul (by omega) (by omega) h3.1 (by omega)⟩
 have e:(4294967296*x1+x0)*(4294967296*y1+y0)=18446744073709551616*(x1*y1)+4294967296*(x1*y0)+4294967296*(x0*y1)+x0*y0:=by
  rw [Int.add_mul,Int.mul_add,Int.mul_add]
  have t1:4294967296*x1*(4294967296*y1)=18446744073709551616*(x1*y1):=by
   rw [Int.mul_assoc,← Int.mul_assoc x1,Int.mul_comm x1 4294967296,Int.mul_assoc 4294967296 x1,← Int.mul_assoc];rfl
  have t2:4294967296*x1*y0=4294967296*(x1*y0):=Int.mul_assoc _ _ _
  have t3:x0*(4294967296*y1)=4294967296*(x0*y1):=by rw [← Int.mul_assoc,Int.mul_comm x0,Int.mul_assoc]
  rw [t1,t2,t3];omega
 rw [e]
 generalize x0*y0=p at *
 generalize x0*y1=q at *
 generalize x1*y0=r at *
 generalize x1*y1=s at *
 refine ⟨_,_,rfl,?_,?_,?_⟩
 all_goals simp only [wu,U64]
 all_goals first | omega | (rw [qj (by unfold U64;omega)];omega)
def rv (w:Zm):Int:=w.Hi*18446744073709551616+w.Lo
def RW (w:Zm):Prop:=U64 w.Hi∧U64 w.Lo
theorem ut {p q:Zm} (hp:RW p) (hq:RW q):∃ w b,gX p q=some (w,b)∧RW w∧(rv p+rv q<340282366920938463463374607431768211456→rv w=rv p+rv q):=by
 obtain ⟨ph,pl⟩:=p;obtain ⟨qh,ql⟩:=q
 obtain ⟨⟨a1,a2⟩,⟨a3,a4⟩⟩:=hp
 obtain ⟨⟨b1,b2⟩,⟨b3,b4⟩⟩:=hq
 simp only at a1 a2 a3 a4 b1 b2 b3 b4
 unfold gX lb
 dsimp only
 by_cases h:IntKind.u64.wrap (pl+ql)<pl
 ·rw [det h]
  simp only [bZ,be]
  refine ⟨_,_,rfl,?_,?_⟩
  ·simp only [RW,U64,wu];omega
  rw [wu] at h;simp only [rv,wu];omega
 rw [bQ h]
 simp only [bI,be]
 refine ⟨_,_,rfl,?_,?_⟩
 ·simp only [RW,U64,wu];omega
 rw [wu] at h;simp only [rv,wu];omega
theorem o9 {a n:Int} (h:n.toNat≤64):cC .u64 a n=a / 2 ^ n.toNat:=by
 have e:cC .u64 a n=a.fdiv (2 ^ min n.toNat 64):=rfl
 rw [e,Nat.min_eq_left h]
 exact Int.fdiv_eq_ediv_of_nonneg a (Int.le_of_lt (Int.pow_pos (by omega)))
theorem xH (b:Int) (k:Nat):b / 2 ^ k=2*(b / 2 ^ (k+1))+b / 2 ^ k % 2:=by
 have:b / 2 ^ (k+1)=b / 2 ^ k / 2:=by rw [Int.pow_succ,Int.ediv_ediv_of_nonneg (Int.le_of_lt (Int.pow_pos (by omega)))]
 rw [this];omega
theorem C1 {a b:Int} (ha:U64 a) (hb:U64 b):∃ w,jW a b=some w∧RW w∧rv w=a*b:=by
 unfold jW
 obtain ⟨t,h5,h6⟩:=mF (body:=fun (v3,v4,v5)=>cond (decide (0≤v3)) (Option.bind (Option.bind (gX (⟨v4,v5⟩:Zm) (⟨v4,v5⟩:Zm)) (fun x14=>Option.bind (lw v3) (fun u15=>cond ((dw .u64 (cC .u64 b v3) 1) == 1) (Option.bind (gX x14.1 (⟨0,a⟩:Zm)) (fun x17=>some (x17.1.Hi,x17.1.Lo))) (some (x14.1.Hi,x14.1.Lo))))) (fun (v11,v12)=>some (.inl ((IntKind.i64.wrap (v3 - 1)),v11,v12)))) (some (.inr (v4,v5))))
  (fun s:Int×Int×Int => -1≤s.1∧s.1≤63∧RW ⟨s.2.1,s.2.2⟩∧rv ⟨s.2.1,s.2.2⟩=a*(b / 2 ^ (s.1+1).toNat)) (fun s=>(s.1+1).toNat) (fun t:Int×Int=>RW ⟨t.1,t.2⟩∧rv ⟨t.1,t.2⟩=a*b)
  (fun s hs=>by
   obtain ⟨v,x,y⟩:=s
   obtain ⟨a1,a2,a3,a4⟩:=hs
   dsimp only at a1 a2 a3 a4 ⊢
   by_cases h0:0≤v
   ·left
    obtain ⟨k,rfl⟩:∃ k:Nat,v=(k:Int):=⟨v.toNat,by omega⟩
    have ek:((k:Int)+1).toNat=k+1:=by omega
    rw [ek] at a4
    have hs:=xH b k
    have hbk:0≤b / 2 ^ k:=Int.ediv_nonneg hb.1 (Int.le_of_lt (Int.pow_pos (by omega)))
    have hbk2:b / 2 ^ k≤b:=Int.ediv_le_self _ hb.1
    have hm:a*(b / 2 ^ k)=2*(a*(b / 2 ^ (k+1)))+a*(b / 2 ^ k % 2):=by
     have:=congrArg (a * ·) hs
     simp only [Int.mul_add] at this
     rw [this,← Int.mul_assoc,Int.mul_comm a 2,Int.mul_assoc]
    have hle:a*(b / 2 ^ k)≤18446744073709551615*18446744073709551615:=Int.mul_le_mul (by unfold U64 at ha;omega) (by unfold U64 at hb;omega) hbk (by omega)
    have hnn:0≤a*(b / 2 ^ k % 2):=Int.mul_nonneg ha.1 (by omega)
    rw [det h0]
    simp only [bZ]
    obtain ⟨w,o,c1,c2,c3⟩:=ut a3 a3
    have c3:=c3 (by omega)
    rw [pn c1]
    have hg:lw (k:Int)=some ():=by unfold lw;rw [if_pos h0]
    rw [pn hg,o9 (by omega),Int.toNat_natCast,vX ⟨hbk,by unfold U64 at hb;omega⟩,cM (by omega) (by omega)]
    rcases (by omega:b / 2 ^ k % 2=0∨b / 2 ^ k % 2=1) with e | e
    ·rw [e] at hm ⊢
     refine ⟨_,rfl,⟨by dsimp only;omega,by dsimp only;omega,c2,?_⟩,by dsimp only;omega⟩
     have:((k:Int) - 1+1).toNat=k:=by omega
     dsimp only;rw [this,hm];show rv w=_;omega
    rw [e] at hm ⊢
    obtain ⟨w2,o2,d1,d2,d3⟩:=ut (p:=w) (q:=⟨0,a⟩) c2 ⟨⟨by simp,by simp⟩,ha⟩
    have e0:rv ⟨0,a⟩=a:=by simp [rv]
    rw [e0] at d3
    have d3:=d3 (by omega)
    simp only [beq_self_eq_true,bZ]
    rw [pn d1]
    refine ⟨_,rfl,⟨by dsimp only;omega,by dsimp only;omega,d2,?_⟩,by dsimp only;omega⟩
    have:((k:Int) - 1+1).toNat=k:=by omega
    dsimp only;rw [this,hm];show rv w2=_;omega
   right
   rw [bQ h0]
   have:v = -1:=by omega
   subst this
   refine ⟨_,rfl,a3,?_⟩
   rw [a4];simp)
  FUEL (63,0,0) ⟨by simp,by simp,⟨⟨by simp,by simp⟩,⟨by simp,by simp⟩⟩,by
   have:b / 18446744073709551616=0:=Int.ediv_eq_zero_of_lt hb.1 hb.2
   simp [rv,this]⟩ (kl (by simp))
 obtain ⟨t1,t2⟩:=t
 rw [pn h5]
 exact ⟨_,rfl,h6.1,h6.2⟩
theorem iand63:∀ {n:Nat},n<128→dw .i64 (n:Int) 63=((n % 64:Nat):Int):=by decide
theorem Gb {a:Int} (h:U64 a):fB .u64 a 1=(2*a) % 18446744073709551616:=by
 have e:fB .u64 a 1=IntKind.u64.wrap (a*2):=rfl
 rw [e,wu,Int.mul_comm]
theorem C2 {a b:Int} (ha:U64 a) (h2:a % 2=0) (hb:b=0∨b=1):ow .u64 a b=a+b:=by
 rw [Ga ha (by rcases hb with rfl | rfl <;> exact ⟨by omega,by omega⟩)]
 unfold U64 at ha
 rcases hb with rfl | rfl
 ·simp;omega
 have:a.toNat ||| (1:Int).toNat=a.toNat+1:=by
  have e:a.toNat=2 ^ 1*(a.toNat / 2):=by omega
  have:=Nat.two_pow_add_eq_or_of_lt (i:=1) (b:=1) (by omega) (a.toNat / 2)
  rw [← e] at this
  exact this.symm
 rw [this];omega
theorem bit_lo {h l:Int} (hl:U64 l) {k:Nat} (hk:k<64):(h*18446744073709551616+l) / 2 ^ k % 2=l / 2 ^ k % 2:=by
 have e:(18446744073709551616:Int)=2 ^ k*(2*2 ^ (63 - k)):=by
  have:(2:Int) ^ k*(2*2 ^ (63 - k))=2 ^ (k+(1+(63 - k))):=by rw [Int.pow_add,Int.pow_add];rfl
  rw [this,show k+(1+(63 - k))=64 by omega];rfl
 have hp:(2:Int) ^ k≠0:=Int.ne_of_gt (Int.pow_pos (by omega))
 rw [e,show h*(2 ^ k*(2*2 ^ (63 - k)))+l=l+2 ^ k*(2*(h*2 ^ (63 - k))) by rw [Int.add_comm,Int.mul_left_comm h,Int.mul_left_comm h 2],Int.add_mul_ediv_left _ _ hp,Int.add_mul_emod_self_left]
theorem bit_hi {h l:Int} (hl:U64 l) {k:Nat} (hk:64≤k):(h*18446744073709551616+l) / 2 ^ k=h / 2 ^ (k - 64):=by
 have e:(2:Int) ^ k=18446744073709551616*2 ^ (k - 64):=by
  have:(18446744073709551616:Int)*2 ^ (k - 64)=2 ^ (64+(k - 64)):=by rw [Int.pow_add];rfl
  rw [this,show 64+(k - 64)=k by omega]
 rw [e,← Int.ediv_ediv_of_nonneg (by omega)]
 congr 1
 unfold U64 at hl;omega
theorem BV {p:Zm} {d:Int} (hp:RW p) (hd:U64 d) (h1:1≤d):∃ q r,kr p d=some (q,r)∧RW q∧rv q=rv p / d∧r=rv p % d:=by
 have hN:0≤rv p∧rv p<340282366920938463463374607431768211456:=by obtain ⟨⟨a,b⟩,⟨c,e⟩⟩:=hp;unfold rv;omega
 unfold kr
 obtain ⟨t,h5,h6⟩:=mF (body:=fun (v4,v5,v6,v7)=>cond (decide (0≤v5)) (Option.bind (Option.bind (lw (dw .i64 v5 63)) (fun u18=>lb ((dw .u64 (cC .u64 p.Lo (dw .i64 v5 63)) 1)) (fun w19=>Option.bind (cond (decide (63<v5)) (Option.bind (lw (IntKind.i64.wrap (v5 - 64))) (fun u23=>lb ((dw .u64 (cC .u64 p.Hi (IntKind.i64.wrap (v5 - 64))) 1)) (fun w24=>some w24))) (some w19)) (fun v20=>Option.bind (gX (⟨v6,v7⟩:Zm) (⟨v6,v7⟩:Zm)) (fun x25=>cond (((cC .u64 v4 63) == 1)||(decide (d≤(ow .u64 (fB .u64 v4 1) v20)))) (lb ((IntKind.u64.wrap ((ow .u64 (fB .u64 v4 1) v20) - d))) (fun w27=>some (w27,x25.1.Hi,(ow .u64 x25.1.Lo 1)))) (some ((ow .u64 (fB .u64 v4 1) v20),x25.1.Hi,x25.1.Lo))))))) (fun (v14,v15,v16)=>some (.inl (v14,(IntKind.i64.wrap (v5 - 1)),v15,v16)))) (some (.inr (v4,v6,v7))))
  (fun s:Int×Int×Int×Int => -1≤s.2.1∧s.2.1≤127∧RW ⟨s.2.2.1,s.2.2.2⟩∧0≤s.1∧s.1<d∧rv p / 2 ^ (s.2.1+1).toNat=rv ⟨s.2.2.1,s.2.2.2⟩ * d+s.1) (fun s=>(s.2.1+1).toNat) (fun t:Int×Int×Int=>RW ⟨t.2.1,t.2.2⟩∧0≤t.1∧t.1<d∧rv p=rv ⟨t.2.1,t.2.2⟩ * d+t.1)
  (fun s hs=>by
   obtain ⟨v4,v5,x,y⟩:=s
   obtain ⟨a1,a2,a3,a4,a5,a6⟩:=hs
   dsimp only at a1 a2 a3 a4 a5 a6 ⊢
   by_cases h0:0≤v5
   ·left
    obtain ⟨k,rfl⟩:∃ k:Nat,v5=(k:Int):=⟨v5.toNat,by omega⟩
    have ek:((k:Int)+1).toNat=k+1:=by omega
    rw [ek] at a6
    have hs:=xH (rv p) k
    generalize hbit:rv p / 2 ^ k % 2=bit at hs
    have hb01:bit=0∨bit=1:=by omega
    rw [det h0,iand63 (by omega)]
    simp only [bZ]
    have hg:lw ((k % 64:Nat):Int)=some ():=by unfold lw;rw [if_pos (by omega)]
    rw [pn hg]
    unfold lb
    have hv:(cond (decide (63<(k:Int))) (Option.bind (lw (IntKind.i64.wrap ((k:Int) - 64))) (fun _=>some (dw .u64 (cC .u64 p.Hi (IntKind.i64.wrap ((k:Int) - 64))) 1))) (some (dw .u64 (cC .u64 p.Lo ((k % 64:Nat):Int)) 1)))=some bit:=by
     by_cases hk:63<(k:Int)
     ·rw [det hk,cM (by omega) (by omega)]
      have hg2:lw ((k:Int) - 64)=some ():=by unfold lw;rw [if_pos (by omega)]
      simp only [bZ]
      rw [pn hg2,o9 (by omega),show ((k:Int) - 64).toNat=k - 64 by omega,vX ⟨Int.ediv_nonneg hp.1.1 (Int.le_of_lt (Int.pow_pos (by omega))),Int.lt_of_le_of_lt (Int.ediv_le_self _ hp.1.1) hp.1.2⟩,← hbit]
      unfold rv;rw [bit_hi hp.2 (by omega)]
     rw [bQ hk]
     simp only [bI]
     rw [o9 (by omega),Int.toNat_natCast,Nat.mod_eq_of_lt (by omega),vX ⟨Int.ediv_nonneg hp.2.1 (Int.le_of_lt (Int.pow_pos (by omega))),Int.lt_of_le_of_lt (Int.ediv_le_self _ hp.2.1) hp.2.2⟩,← hbit]
     unfold rv;rw [bit_lo hp.2 (by omega)]
    dsimp only
    rw [pn hv]
    obtain ⟨w,o,c1,c2,c3⟩:=ut a3 a3
    have hq0:0≤rv ⟨x,y⟩:=by obtain ⟨⟨b1,b2⟩,⟨b3,b4⟩⟩:=a3;unfold rv;dsimp only at *;omega
    have hqd:rv ⟨x,y⟩≤rv ⟨x,y⟩ * d:=by have:=Int.mul_le_mul_of_nonneg_left h1 hq0;omega
    have hle:rv p / 2 ^ k≤rv p:=Int.ediv_le_self _ hN.1
    have c3:=c3 (by omega)
    rw [pn c1]
    have hu4:U64 v4:=⟨a4,by unfold U64 at hd;omega⟩
    have hsh:cC .u64 v4 63=v4 / 9223372036854775808:=o9 (by omega)
    have hlow:ow .u64 (fB .u64 v4 1) bit=(2*v4) % 18446744073709551616+bit:=by rw [Gb hu4];exact C2 ⟨by omega,by omega⟩ (by omega) hb01
    rw [hlow,hsh,cM (by omega) (by omega)]
    have ekk:((k:Int) - 1+1).toNat=k:=by omega
    unfold U64 at hd hu4
    by_cases hT:d≤2*v4+bit
    ·have hc:((v4 / 9223372036854775808 == 1)||decide (d≤(2*v4) % 18446744073709551616+bit))=true:=by
      simp only [Bool.or_eq_true,beq_iff_eq,decide_eq_true_eq];omega
     rw [hc]
     simp only [bZ]
     obtain ⟨⟨e1,e2⟩,⟨e3,e4⟩⟩:=c2
     have hev:w.Lo % 2=0:=by unfold rv at c3;dsimp only at c3;omega
     rw [C2 ⟨e3,e4⟩ hev (.inr rfl),wu]
     refine ⟨_,rfl,⟨by dsimp only;omega,by dsimp only;omega,⟨⟨e1,e2⟩,⟨by dsimp only;omega,by dsimp only;omega⟩⟩,by dsimp only;omega,by dsimp only;omega,?_⟩,by dsimp only;omega⟩
     dsimp only
     rw [ekk,hs,a6]
     have e5:rv ⟨w.Hi,w.Lo+1⟩=2*rv ⟨x,y⟩+1:=by unfold rv at c3 ⊢;dsimp only at c3 ⊢;omega
     rw [e5,Int.add_mul,Int.mul_assoc];omega
    ·have hc:((v4 / 9223372036854775808 == 1)||decide (d≤(2*v4) % 18446744073709551616+bit))=false:=by
      simp only [Bool.or_eq_false_iff,beq_eq_false_iff_ne,decide_eq_false_iff_not];omega
     rw [hc]
     simp only [bI]
     refine ⟨_,rfl,⟨by dsimp only;omega,by dsimp only;omega,c2,by dsimp only;omega,by dsimp only;omega,?_⟩,by dsimp only;omega⟩
     dsimp only
     rw [ekk,hs,a6,show rv ⟨w.Hi,w.Lo⟩=2*rv ⟨x,y⟩ by show rv w=_;omega,Int.mul_assoc];omega
   right
   rw [bQ h0]
   have:v5 = -1:=by omega
   subst this
   refine ⟨_,rfl,a3,a4,a5,?_⟩
   rw [← a6];simp)
  FUEL (0,127,0,0) ⟨by simp,by simp,⟨⟨by simp,by simp⟩,⟨by simp,by simp⟩⟩,by simp,by simp;omega,by
   have:rv p / 340282366920938463463374607431768211456=0:=Int.ediv_eq_zero_of_lt hN.1 hN.2
   simp [rv] at this ⊢;exact this⟩ (kl (by simp))
 obtain ⟨t1,t2,t3⟩:=t
 rw [pn h5]
 obtain ⟨g1,g2,g3,g4⟩:=h6
 dsimp only at g1 g2 g3 g4
 have gd:rv p / d=rv ⟨t2,t3⟩:=by
  rw [g4,Int.add_comm,Int.add_mul_ediv_right _ _ (by omega),Int.ediv_eq_zero_of_lt g2 g3,Int.zero_add]
 refine ⟨_,_,rfl,g1,gd.symm,?_⟩
 have:=Int.emod_add_mul_ediv (rv p) d
 rw [gd,Int.mul_comm] at this
 omega
structure KnInv (u u1 y1 y0 q rh:Int):Prop where
 eq:u=q*y1+rh
 r0:0≤rh
 r1:rh<4294967296
 q0:0≤q
 q1:q≤4294967297
 up:u*4294967296+u1<q*(y1*4294967296+y0)+(y1*4294967296+y0)
section
variable {u u1 y1 y0 q rh:Int} (hu:0≤u) (huy:u<y1*4294967296+y0) (h1:0≤u1) (h1':u1<4294967296) (hy:2147483648≤y1) (hy':y1<4294967296) (hz:0≤y0) (hz':y0<4294967296)
include hu huy h1 h1' hy hy' hz hz'
theorem sj:KnInv u u1 y1 y0 (u / y1) (u % y1):=by
 have hq0:0≤u / y1:=Int.ediv_nonneg hu (by omega)
 have hr0:=Int.emod_nonneg u (show y1≠0 by omega)
 have hr1:=Int.emod_lt_of_pos u (show 0<y1 by omega)
 have he:=Int.emod_add_mul_ediv u y1
 rw [Int.mul_comm] at he
 have hz2:0≤u / y1*y0:=Int.mul_nonneg hq0 hz
 refine ⟨by omega,hr0,by omega,hq0,?_,?_⟩
 ·apply Int.le_of_lt_add_one
  apply Int.ediv_lt_of_lt_mul (by omega)
  omega
 rw [Int.mul_add,← Int.mul_assoc];omega
theorem uu (i:KnInv u u1 y1 y0 q rh) (h:4294967296≤q∨4294967296*rh+u1<q*y0):u*4294967296+u1<q*(y1*4294967296+y0)∧1≤q:=by
 have e:=i.eq
 have hlt:u*4294967296+u1<q*(y1*4294967296+y0):=by
  rcases h with h | h
  ·have:4294967296*(y1*4294967296+y0)≤q*(y1*4294967296+y0):=Int.mul_le_mul_of_nonneg_right h (by omega)
   omega
  rw [Int.mul_add,← Int.mul_assoc];omega
 refine ⟨hlt,?_⟩
 have hq:=i.q0
 by_cases hq0:q=0
 ·subst hq0;rw [Int.zero_mul] at hlt;omega
 omega
theorem C3 (i:KnInv u u1 y1 y0 q rh) (h:4294967296≤q∨4294967296*rh+u1<q*y0) (h2:rh+y1<4294967296):KnInv u u1 y1 y0 (q - 1) (rh+y1):=by
 obtain ⟨hlt,hq⟩:=uu hu huy h1 h1' hy hy' hz hz' i h
 have:=i.eq;have:=i.r0;have:=i.q1
 refine ⟨by rw [Int.sub_mul];omega,by omega,h2,by omega,by omega,?_⟩
 rw [Int.sub_mul];omega
theorem C4 (i:KnInv u u1 y1 y0 q rh) (h:4294967296≤q∨4294967296*rh+u1<q*y0) (h2:4294967296≤rh+y1):(q - 1)*(y1*4294967296+y0)≤u*4294967296+u1∧u*4294967296+u1<(q - 1)*(y1*4294967296+y0)+(y1*4294967296+y0):=by
 obtain ⟨hlt,hq⟩:=uu hu huy h1 h1' hy hy' hz hz' i h
 have e:=i.eq;have:=i.r0;have hq1:=i.q1
 refine ⟨?_,by rw [Int.sub_mul];omega⟩
 have hz2:(q - 1)*y0≤4294967296*4294967295:=Int.mul_le_mul (by omega) (by omega) hz (by omega)
 rw [Int.mul_add,← Int.mul_assoc]
 rw [Int.sub_mul q 1 y1]
 omega
omit hu huy h1 h1' hy hy' hz hz' in
theorem AJ (i:KnInv u u1 y1 y0 q rh) (h:¬ (4294967296≤q∨4294967296*rh+u1<q*y0)):q*(y1*4294967296+y0)≤u*4294967296+u1:=by
 have e:=i.eq
 rw [Int.mul_add,← Int.mul_assoc];omega
end
section
variable {u u1 y1 y0:Int} (hu:0≤u) (huy:u<y1*4294967296+y0) (h1:0≤u1) (h1':u1<4294967296) (hy:2147483648≤y1) (hy':y1<4294967296) (hz:0≤y0) (hz':y0<4294967296)
include hu huy h1 h1' hy hy' hz hz'
omit hu huy hy hy' in
theorem C5 {q rh:Int} (i:KnInv u u1 y1 y0 q rh):((decide (4294967296≤q))||(decide ((IntKind.u64.wrap ((IntKind.u64.wrap (4294967296*rh))+u1))<(IntKind.u64.wrap (q*y0)))))=decide (4294967296≤q∨4294967296*rh+u1<q*y0):=by
 have:=i.r0;have:=i.r1;have:=i.q0
 rw [fG (a:=4294967296*rh) ⟨by omega,by omega⟩,fG (a:=4294967296*rh+u1) ⟨by omega,by omega⟩]
 by_cases hq:4294967296≤q
 ·rw [det hq,det (Or.inl hq)];rfl
 have hp:q*y0≤4294967295*4294967295:=Int.mul_le_mul (by omega) (by omega) hz (by omega)
 have hp0:0≤q*y0:=Int.mul_nonneg (by omega) hz
 rw [fG (a:=q*y0) ⟨hp0,by omega⟩,bQ hq,Bool.false_or]
 congr 1
 exact propext ⟨.inr,fun h=>h.resolve_left hq⟩
omit hy hy' hz hz' in
theorem y8 {q:Int} (h0:0≤q) (h2:q*(y1*4294967296+y0)≤u*4294967296+u1):q<4294967296:=by
 have:q*(y1*4294967296+y0)<4294967296*(y1*4294967296+y0):=by omega
 exact Int.lt_of_mul_lt_mul_right this (by omega)
def KQ (u u1 y1 y0 q:Int):Prop:=0≤q∧q<4294967296∧q*(y1*4294967296+y0)≤u*4294967296+u1∧u*4294967296+u1<q*(y1*4294967296+y0)+(y1*4294967296+y0)
theorem Gc:∃ q,aV (S:=Int×Int) (T:=(Int)) (fun (v18,v19)=>cond ((decide (4294967296≤v18))||(decide ((IntKind.u64.wrap ((IntKind.u64.wrap (4294967296*v19))+u1))<(IntKind.u64.wrap (v18*y0))))) (cond (decide (4294967296≤(IntKind.u64.wrap (v19+y1)))) (some (.inr (IntKind.u64.wrap (v18 - 1)))) (some (.inl ((IntKind.u64.wrap (v18 - 1)),(IntKind.u64.wrap (v19+y1)))))) (some (.inr v18))) FUEL (u / y1,u % y1)=some q∧KQ u u1 y1 y0 q:=by
 refine mF (fun s:Int×Int=>KnInv u u1 y1 y0 s.1 s.2) (fun s=>s.1.toNat) (KQ u u1 y1 y0) ?_ FUEL _ (sj hu huy h1 h1' hy hy' hz hz') ?_
 ·rintro ⟨q,rh⟩ i
  dsimp only at i ⊢
  rw [C5 h1 h1' hz hz' i]
  have i0:=i.r0;have i1:=i.r1;have i2:=i.q0;have i3:=i.q1
  by_cases h:4294967296≤q∨4294967296*rh+u1<q*y0
  ·rw [det h]
   obtain ⟨_,hq1⟩:=uu hu huy h1 h1' hy hy' hz hz' i h
   rw [fG (a:=rh+y1) ⟨by omega,by omega⟩,fG (a:=q - 1) ⟨by omega,by omega⟩]
   by_cases h2:4294967296≤rh+y1
   ·rw [det h2];right
    obtain ⟨e1,e2⟩:=C4 hu huy h1 h1' hy hy' hz hz' i h h2
    exact ⟨_,rfl,by omega,y8 hu huy h1 h1' (by omega) e1,e1,e2⟩
   rw [bQ h2];left
   exact ⟨_,rfl,C3 hu huy h1 h1' hy hy' hz hz' i h (by omega),by dsimp only;omega⟩
  rw [bQ h];right
  have e1:=AJ i h
  exact ⟨_,rfl,i2,y8 hu huy h1 h1' i2 e1,e1,i.up⟩
 have:=(sj hu huy h1 h1' hy hy' hz hz').q1
 exact kl (by dsimp only;omega)
theorem Gd:∃ q,aV (S:=Int×Int) (T:=(Int)) (fun (v28,v29)=>cond ((decide (4294967296≤v29))||(decide ((IntKind.u64.wrap ((IntKind.u64.wrap (4294967296*v28))+u1))<(IntKind.u64.wrap (v29*y0))))) (cond (decide (4294967296≤(IntKind.u64.wrap (v28+y1)))) (some (.inr (IntKind.u64.wrap (v29 - 1)))) (some (.inl ((IntKind.u64.wrap (v28+y1)),(IntKind.u64.wrap (v29 - 1)))))) (some (.inr v29))) FUEL (u % y1,u / y1)=some q∧KQ u u1 y1 y0 q:=by
 refine mF (fun s:Int×Int=>KnInv u u1 y1 y0 s.2 s.1) (fun s=>s.2.toNat) (KQ u u1 y1 y0) ?_ FUEL _ (sj hu huy h1 h1' hy hy' hz hz') ?_
 ·rintro ⟨rh,q⟩ i
  dsimp only at i ⊢
  rw [C5 h1 h1' hz hz' i]
  have i0:=i.r0;have i1:=i.r1;have i2:=i.q0;have i3:=i.q1
  by_cases h:4294967296≤q∨4294967296*rh+u1<q*y0
  ·rw [det h]
   obtain ⟨_,hq1⟩:=uu hu huy h1 h1' hy hy' hz hz' i h
   rw [fG (a:=rh+y1) ⟨by omega,by omega⟩,fG (a:=q - 1) ⟨by omega,by omega⟩]
   by_cases h2:4294967296≤rh+y1
   ·rw [det h2];right
    obtain ⟨e1,e2⟩:=C4 hu huy h1 h1' hy hy' hz hz' i h h2
    exact ⟨_,rfl,by omega,y8 hu huy h1 h1' (by omega) e1,e1,e2⟩
   rw [bQ h2];left
   exact ⟨_,rfl,C3 hu huy h1 h1' hy hy' hz hz' i h (by omega),by dsimp only;omega⟩
  rw [bQ h];right
  have e1:=AJ i h
  exact ⟨_,rfl,i2,y8 hu huy h1 h1' i2 e1,e1,i.up⟩
 have:=(sj hu huy h1 h1' hy hy' hz hz').q1
 exact kl (by dsimp only;omega)
end
theorem DX {a v:Int} {k n:Nat} (h:v=a / 2 ^ k) (hn:1≤n) (l:2 ^ (n - 1)≤v) (g:v<2 ^ n):2 ^ (k+n - 1)≤a∧a<2 ^ (k+n):=by
 have hp:(0:Int)<2 ^ k:=Int.pow_pos (by omega)
 have e1:=Int.ediv_mul_le a (Int.ne_of_gt hp)
 have e2:=Int.lt_ediv_add_one_mul_self a hp
 rw [← h] at e1 e2
 constructor
 ·rw [show k+n - 1=(n - 1)+k by omega,Int.pow_add]
  exact Int.le_trans (Int.mul_le_mul_of_nonneg_right l (Int.le_of_lt hp)) e1
 rw [show k+n=n+k by omega,Int.pow_add]
 exact Int.lt_of_lt_of_le e2 (Int.mul_le_mul_of_nonneg_right (by omega) (Int.le_of_lt hp))
def BW:ByteArray:=⟨#[0,1,2,2,3,3,3,3,4,4,4,4,4,4,4,4,5,5,5,5,5,5,5,5,5,5,5,5,5,5,5,5,6,6,6,6,6,6,6,6,6,6,6,6,6,6,6,6,6,6,6,6,6,6,6,6,6,6,6,6,6,6,6,6,7,7,7,7,7,7,7,7,7,7,7,7,7,7,7,7,7,7,7,7,7,7,7,7,7,7,7,7,7,7,7,7,7,7,7,7,7,7,7,7,7,7,7,7,7,7,7,7,7,7,7,7,7,7,7,7,7,7,7,7,7,7,7,7,8,8,8,8,8,8,8,8,8,8,8,8,8,8,8,8,8,8,8,8,8,8,8,8,8,8,8,8,8,8,8,8,8,8,8,8,8,8,8,8,8,8,8,8,8,8,8,8,8,8,8,8,8,8,8,8,8,8,8,8,8,8,8,8,8,8,8,8,8,8,8,8,8,8,8,8,8,8,8,8,8,8,8,8,8,8,8,8,8,8,8,8,8,8,8,8,8,8,8,8,8,8,8,8,8,8,8,8,8,8,8,8,8,8,8,8,8,8,8,8,8,8,8,8,8,8,8,8]⟩
theorem BX:∀ v:Fin 256,(match idx BW.data.toList (v.val:Int) with | some c=>decide (1≤v.val→1≤c.toNat∧2 ^ (c.toNat - 1)≤v.val)&&decide (v.val<2 ^ c.toNat)&&decide (c.toNat≤8) | none=>false)=true:=by decide
theorem DY {v:Int} (h0:0≤v) (h1:v<256):∃ c,idx BW.data.toList v=some c∧(1≤v→1≤c.toNat∧2 ^ (c.toNat - 1)≤v)∧v<2 ^ c.toNat∧c.toNat≤8:=by
 obtain ⟨k,rfl⟩:∃ k:Nat,v=(k:Int):=⟨v.toNat,by omega⟩
 have:=BX ⟨k,by omega⟩
 split at this
 ·rename_i c hc
  simp only [Bool.and_eq_true,decide_eq_true_eq] at this
  obtain ⟨⟨a,b⟩,d⟩:=this
  refine ⟨c,hc,fun h=>⟨(a (by omega)).1,?_⟩,?_,d⟩
  ·have:=(a (by omega)).2;exact_mod_cast this
  exact_mod_cast b
 cases this
theorem len64 {a:Int} (ha:U64 a) (h1:1≤a):∃ n:Nat,gi a=some (n:Int)∧1≤n∧n≤64∧2 ^ (n - 1)≤a∧a<2 ^ n:=by
 have key:∃ (k:Nat) (v:Int),k≤56∧v=a / 2 ^ k∧1≤v∧v<256∧gi a=Option.bind (idx BW.data.toList (IntKind.u8.wrap v)) (fun c13=>lb ((IntKind.i64.wrap ((k:Int)+(IntKind.i64.wrap (c13.toNat:Int))))) (fun w14=>some w14)):=by
  unfold U64 at ha
  have s32:∀ x:Int,cC .u64 x 32=x / 4294967296:=fun x=>o9 (by decide)
  have s16:∀ x:Int,cC .u64 x 16=x / 65536:=fun x=>o9 (by decide)
  have s8:∀ x:Int,cC .u64 x 8=x / 256:=fun x=>o9 (by decide)
  unfold gi
  simp only [s32,s16,s8]
  by_cases c1:4294967296≤a
  ·rw [det c1]
   simp only [bZ,be]
   by_cases c2:65536≤a / 4294967296
   ·rw [det c2]
    simp only [bZ,be]
    by_cases c3:256≤a / 4294967296 / 65536
    ·rw [det c3]
     exact ⟨56,a / 4294967296 / 65536 / 256,by omega,by simp only [Int.reducePow];omega,by omega,by omega,rfl⟩
    rw [bQ c3]
    exact ⟨48,a / 4294967296 / 65536,by omega,by simp only [Int.reducePow];omega,by omega,by omega,rfl⟩
   rw [bQ c2]
   simp only [bI,be]
   by_cases c3:256≤a / 4294967296
   ·rw [det c3]
    exact ⟨40,a / 4294967296 / 256,by omega,by simp only [Int.reducePow];omega,by omega,by omega,rfl⟩
   rw [bQ c3]
   exact ⟨32,a / 4294967296,by omega,by simp only [Int.reducePow],by omega,by omega,rfl⟩
  rw [bQ c1]
  simp only [bI,be]
  by_cases c2:65536≤a
  ·rw [det c2]
   simp only [bZ,be]
   by_cases c3:256≤a / 65536
   ·rw [det c3]
    exact ⟨24,a / 65536 / 256,by omega,by simp only [Int.reducePow];omega,by omega,by omega,rfl⟩
   rw [bQ c3]
   exact ⟨16,a / 65536,by omega,by simp only [Int.reducePow],by omega,by omega,rfl⟩
  rw [bQ c2]
  simp only [bI,be]
  by_cases c3:256≤a
  ·rw [det c3]
   exact ⟨8,a / 256,by omega,by simp only [Int.reducePow],by omega,by omega,rfl⟩
  rw [bQ c3]
  exact ⟨0,a,by omega,by simp,by omega,by omega,rfl⟩
 obtain ⟨k,v,k1,k2,k3,k4,k5⟩:=key
 obtain ⟨c,c1,c2,c3,c4⟩:=DY (v:=v) (by omega) k4
 obtain ⟨c5,c6⟩:=c2 k3
 obtain ⟨l1,l2⟩:=DX k2 c5 c6 c3
 rw [k5,ym (by omega),pn c1]
 unfold lb
 rw [cM (r:=(c.toNat:Int)) (by omega) (by omega),cM (by omega) (by omega)]
 exact ⟨k+c.toNat,by simp,by omega,by omega,l1,l2⟩
theorem lz64 {a:Int} (ha:U64 a) (h1:1≤a):∃ s:Nat,dE a=some (s:Int)∧s≤63∧9223372036854775808≤a*2 ^ s∧a*2 ^ s<18446744073709551616:=by
 obtain ⟨n,e1,e2,e3,e4,e5⟩:=len64 ha h1
 unfold dE
 rw [pn e1,cM (by omega) (by omega)]
 refine ⟨64 - n,by congr 1;omega,by omega,?_,?_⟩
 ·have:=Int.mul_le_mul_of_nonneg_right e4 (Int.le_of_lt (show (0:Int)<2 ^ (64 - n) from Int.pow_pos (by decide)))
  rw [← Int.pow_add,show n - 1+(64 - n)=63 by omega] at this
  exact this
 have:=Int.mul_lt_mul_of_pos_right e5 (show (0:Int)<2 ^ (64 - n) from Int.pow_pos (by decide))
 rw [← Int.pow_add,show n+(64 - n)=64 by omega] at this
 exact this
theorem BY {b:Int} (h:0≤b):lw b=some ():=by unfold lw;rw [if_pos h]
theorem BZ {a:Int} {s:Nat} (h:s≤64):fB .u64 a (s:Int)=IntKind.u64.wrap (a*2 ^ s):=by
 have e:fB .u64 a (s:Int)=IntKind.u64.wrap (a*2 ^ min (s:Int).toNat 64):=rfl
 rw [e,Int.toNat_natCast,Nat.min_eq_left h]
theorem ior_sh {h b:Int} {s:Nat} (hh:0≤h) (hb:0≤b) (hb2:b<2 ^ s) (h1:U64 (h*2 ^ s)) (h2:U64 b):ow .u64 (h*2 ^ s) b=h*2 ^ s+b:=by
 rw [Ga h1 h2]
 obtain ⟨x,rfl⟩:∃ k:Nat,h=(k:Int):=⟨h.toNat,by omega⟩
 obtain ⟨z,rfl⟩:∃ k:Nat,b=(k:Int):=⟨b.toNat,by omega⟩
 have e:((x:Int)*2 ^ s)=((2 ^ s*x:Nat):Int):=by push_cast;exact Int.mul_comm _ _
 have hz:z<2 ^ s:=by exact_mod_cast hb2
 rw [e,Int.toNat_natCast,Int.toNat_natCast,← Nat.two_pow_add_eq_or_of_lt hz]
 rfl
theorem dm_of {n q r y:Int} (e:n=q*y+r) (h0:0≤r) (h1:r<y):n / y=q∧n % y=r:=by
 have gd:n / y=q:=by
  rw [e,Int.add_comm,Int.add_mul_ediv_right _ _ (by omega),Int.ediv_eq_zero_of_lt h0 h1,Int.zero_add]
 refine ⟨gd,?_⟩
 have:=Int.emod_add_mul_ediv n y
 rw [gd,Int.mul_comm] at this
 omega
theorem div64 {hi lo y:Int} (h1:U64 hi) (h2:U64 lo) (h3:U64 y) (h4:hi<y):iv hi lo y=some ((hi*18446744073709551616+lo) / y,(hi*18446744073709551616+lo) % y):=by
 have hi0:=h1.1
 have hlo:=h2.1
 have hy1:1≤y:=by omega
 unfold iv
 have cy:(y == 0)=false:=by simp;omega
 rw [cy,bQ (show ¬ y≤hi by omega)]
 simp only [bI]
 by_cases hz:hi=0
 ·subst hz
  have:((0:Int) == 0)=true:=rfl
  rw [this]
  simp only [bZ]
  rw [pn (FC (show y≠0 by omega)),pn (FC (show y≠0 by omega)),Int.tdiv_eq_ediv_of_nonneg hlo,Int.tmod_eq_emod_of_nonneg hlo]
  have:lo / y≤lo:=Int.ediv_le_self _ hlo
  rw [fG ⟨Int.ediv_nonneg hlo (by omega),by have:=h2.2;omega⟩]
  simp
 have cz:(hi == 0)=false:=by simp;exact hz
 rw [cz]
 simp only [bI]
 obtain ⟨s,e1,e2,e3,e4⟩:=lz64 h3 hy1
 have hP:(0:Int)<2 ^ s:=Int.pow_pos (by omega)
 have hM:(0:Int)<2 ^ (64 - s):=Int.pow_pos (by omega)
 have hPM:(2:Int) ^ s*2 ^ (64 - s)=18446744073709551616:=by rw [← Int.pow_add,show s+(64 - s)=64 by omega];rfl
 have hhP:hi*2 ^ s<y*2 ^ s:=Int.mul_lt_mul_of_pos_right h4 hP
 have hhP0:0≤hi*2 ^ s:=Int.mul_nonneg hi0 (by omega)
 have hqd0:0≤lo / 2 ^ (64 - s):=Int.ediv_nonneg hlo (by omega)
 have hqd1:lo / 2 ^ (64 - s)<2 ^ s:=by
  apply Int.ediv_lt_of_lt_mul hM
  rw [hPM];exact h2.2
 have hPle:(2:Int) ^ s≤18446744073709551616:=by rw [← hPM];have:=Int.mul_le_mul_of_nonneg_left (show (1:Int)≤2 ^ (64 - s) by omega) (Int.le_of_lt hP);omega
 have f1:IntKind.u64.wrap (s:Int)=(s:Int):=fG ⟨by omega,by omega⟩
 have f2:IntKind.u64.wrap (64 - (s:Int))=((64 - s:Nat):Int):=by rw [fG ⟨by omega,by omega⟩];omega
 have f3:fB .u64 y (s:Int)=y*2 ^ s:=by rw [BZ (by omega),fG ⟨by omega,e4⟩]
 have f4:fB .u64 hi (s:Int)=hi*2 ^ s:=by rw [BZ (by omega),fG ⟨hhP0,by omega⟩]
 have f5:cC .u64 lo ((64 - s:Nat):Int)=lo / 2 ^ (64 - s):=by rw [o9 (by omega),Int.toNat_natCast]
 have f6:fB .u64 lo (s:Int)=(lo*2 ^ s) % 18446744073709551616:=by rw [BZ (by omega),wu]
 have f7:ow .u64 (hi*2 ^ s) (lo / 2 ^ (64 - s))=hi*2 ^ s+lo / 2 ^ (64 - s):=ior_sh hi0 hqd0 hqd1 ⟨hhP0,by omega⟩ ⟨hqd0,by omega⟩
 rw [pn e1]
 simp only [lb,f1,f2,f3,f4,f5,f6,f7,BY (Int.natCast_nonneg s),BY (Int.natCast_nonneg (64 - s)),be,C0]
 have hN:(hi*18446744073709551616+lo)*2 ^ s=(hi*2 ^ s+lo / 2 ^ (64 - s))*18446744073709551616+(lo*2 ^ s) % 18446744073709551616:=by
  have g1:=Int.emod_add_mul_ediv lo (2 ^ (64 - s))
  have g2:lo*2 ^ s=lo % 2 ^ (64 - s)*2 ^ s+18446744073709551616*(lo / 2 ^ (64 - s)):=by
   have:=congrArg (· * (2:Int) ^ s) g1
   simp only [Int.add_mul] at this
   rw [← this,← hPM]
   rw [Int.mul_assoc,Int.mul_comm (lo / 2 ^ (64 - s)),← Int.mul_assoc,Int.mul_comm (2 ^ (64 - s)),Int.mul_assoc]
  have g3:0≤lo % 2 ^ (64 - s)*2 ^ s:=Int.mul_nonneg (Int.emod_nonneg _ (by omega)) (by omega)
  have g4:lo % 2 ^ (64 - s)*2 ^ s<18446744073709551616:=by
   rw [← hPM,Int.mul_comm (2 ^ s)]
   exact Int.mul_lt_mul_of_pos_right (Int.emod_lt_of_pos _ hM) hP
  rw [Int.add_mul,Int.mul_right_comm hi]
  generalize lo % 2 ^ (64 - s)*2 ^ s=A at *
  generalize lo / 2 ^ (64 - s)=B at *
  generalize lo*2 ^ s=C at *
  generalize hi*2 ^ s=D at *
  omega
 have hu0:0≤hi*2 ^ s+lo / 2 ^ (64 - s):=by omega
 have huy:hi*2 ^ s+lo / 2 ^ (64 - s)<y*2 ^ s:=by
  have:(hi+1)*2 ^ s≤y*2 ^ s:=Int.mul_le_mul_of_nonneg_right (by omega) (by omega)
  rw [Int.add_mul] at this;omega
 have hU0:0≤(lo*2 ^ s) % 18446744073709551616:=by omega
 have hU1:(lo*2 ^ s) % 18446744073709551616<18446744073709551616:=by omega
 have hfin:∀ q R:Int,(hi*18446744073709551616+lo)*2 ^ s=q*(y*2 ^ s)+R→0≤R→R<y*2 ^ s→(hi*18446744073709551616+lo) / y=q∧(hi*18446744073709551616+lo) % y=R / 2 ^ s:=by
  intro q R hq hR0 hR1
  have hr:R=(hi*18446744073709551616+lo - q*y)*2 ^ s:=by rw [Int.sub_mul,Int.mul_assoc q];omega
  have hd:R / 2 ^ s=hi*18446744073709551616+lo - q*y:=by rw [hr];exact Int.mul_ediv_cancel _ (by omega)
  rw [hd]
  generalize hi*18446744073709551616+lo=n at *
  have:0≤n - q*y:=by
   by_cases hc:0≤n - q*y
   ·exact hc
   have:=Int.mul_le_mul_of_nonneg_right (show n - q*y ≤ -1 by omega) (Int.le_of_lt hP);omega
  have:n - q*y<y:=by
   apply Int.lt_of_mul_lt_mul_right (a:=2 ^ s) _ (by omega)
   omega
  exact dm_of (by omega) (by assumption) (by assumption)
 generalize (hi*18446744073709551616+lo)*2 ^ s=NP at *
 generalize hYe:y*2 ^ s=Y at *
 generalize hi*2 ^ s+lo / 2 ^ (64 - s)=u at *
 generalize (lo*2 ^ s) % 18446744073709551616=U at *
 rw [qj (a:=Y) ⟨by omega,e4⟩,qj (a:=U) ⟨hU0,hU1⟩]
 have k1:Y / 4294967296*4294967296+Y % 4294967296=Y:=by omega
 have k2:2147483648≤Y / 4294967296:=by omega
 have k3:Y / 4294967296<4294967296:=by omega
 have k4:0≤Y % 4294967296:=by omega
 have k5:Y % 4294967296<4294967296:=by omega
 have k6:0≤U / 4294967296:=by omega
 have k7:U / 4294967296<4294967296:=by omega
 have k8:0≤U % 4294967296:=by omega
 have k9:U % 4294967296<4294967296:=by omega
 have k10:U=U / 4294967296*4294967296+U % 4294967296:=by omega
 generalize U / 4294967296=u1 at *
 generalize U % 4294967296=u0 at *
 generalize Y / 4294967296=y1 at *
 generalize Y % 4294967296=y0 at *
 have dv:∀ v:Int,0≤v→v<Y→IntKind.u64.wrap (Int.tdiv v y1)=v / y1∧IntKind.u64.wrap (v - IntKind.u64.wrap (v / y1*y1))=v % y1:=by
  intro v v0 v1
  have:=Int.ediv_le_self y1 v0
  have q0:=Int.ediv_nonneg v0 (show 0≤y1 by omega)
  have m0:=Int.emod_nonneg v (show y1≠0 by omega)
  have m1:=Int.emod_lt_of_pos v (show 0<y1 by omega)
  have e:=Int.emod_add_mul_ediv v y1
  rw [Int.mul_comm] at e
  rw [Int.tdiv_eq_ediv_of_nonneg v0,fG (a:=v / y1) ⟨q0,by omega⟩]
  refine ⟨rfl,?_⟩
  have:0≤v / y1*y1:=Int.mul_nonneg q0 (by omega)
  rw [fG (a:=v / y1*y1) ⟨this,by omega⟩,fG ⟨by omega,by omega⟩]
  omega
 have hnz:nz y1=some ():=FC (by omega)
 obtain ⟨d1,d2⟩:=dv u hu0 huy
 simp only [hnz,d1,d2,be]
 obtain ⟨q1,l1,l2,l3,l4,l5⟩:=Gc (u:=u) (u1:=u1) (y1:=y1) (y0:=y0) hu0 (by omega) k6 k7 k2 k3 k4 k5
 rw [k1] at l4 l5
 rw [pn l1]
 have w25:IntKind.u64.wrap (IntKind.u64.wrap (IntKind.u64.wrap (u*4294967296)+u1) - IntKind.u64.wrap (q1*Y))=u*4294967296+u1 - q1*Y:=by
  simp only [wu]
  generalize q1*Y=z at *
  omega
 simp only [w25]
 have v0:0≤u*4294967296+u1 - q1*Y:=by omega
 have v1:u*4294967296+u1 - q1*Y<Y:=by omega
 have hv:u*4294967296+u1=q1*Y+(u*4294967296+u1 - q1*Y):=by omega
 generalize u*4294967296+u1 - q1*Y=v at *
 obtain ⟨d3,d4⟩:=dv v v0 v1
 simp only [d3,d4]
 obtain ⟨q0,m1,m2,m3,m4,m5⟩:=Gd (u:=v) (u1:=u0) (y1:=y1) (y0:=y0) v0 (by omega) k8 k9 k2 k3 k4 k5
 rw [k1] at m4 m5
 rw [pn m1]
 have w36:IntKind.u64.wrap (IntKind.u64.wrap (q1*4294967296)+q0)=q1*4294967296+q0:=by simp only [wu];omega
 have w37:IntKind.u64.wrap (IntKind.u64.wrap (IntKind.u64.wrap (v*4294967296)+u0) - IntKind.u64.wrap (q0*Y))=v*4294967296+u0 - q0*Y:=by
  simp only [wu]
  generalize q0*Y=z at *
  omega
 rw [w36,w37,o9 (by omega),Int.toNat_natCast]
 obtain ⟨g1,g2⟩:=hfin (q1*4294967296+q0) (v*4294967296+u0 - q0*Y) (by
  rw [hN,k10,Int.add_mul,Int.mul_right_comm]
  generalize q1*Y=z at *
  generalize q0*Y=z0 at *
  omega) (by omega) (by omega)
 rw [g1,g2]
def xv (w:Zo):Int:=w.Hi*18446744073709551616+w.Lo
def XW (w:Zo):Prop:=U64 w.Hi∧U64 w.Lo
theorem xI {a b:Int} (ha:U64 a) (hb:U64 b):∃ w,jU a b=some w∧XW w∧xv w=a*b:=by
 obtain ⟨h,l,e1,e2,e3,e4⟩:=mul64 ha hb
 unfold jU;rw [pn e1]
 exact ⟨_,rfl,⟨e2,e3⟩,e4⟩
def C7 (n c m:Int):Int:=if (m=2∧c≤2*(n % c))∨(m=1∧0<n % c) then n / c+1 else n / c
theorem DZ {w:Zo} {c m:Int} (hw:XW w) (hc:U64 c) (h1:1≤c) (hm:m=0∨m=1∨m=2):n8 w c m=some (if C7 (xv w) c m<18446744073709551616 then (C7 (xv w) c m,0) else (0,3)):=by
 unfold n8
 have hc0:((((c == 0)||(decide (m<0)))||(decide (3<m))):Bool)=false:=by
  rcases hm with rfl | rfl | rfl <;> simp <;> omega
 rw [hc0];simp only [bI]
 have hn0:0≤xv w:=by unfold xv;have:=hw.1.1;have:=hw.2.1;omega
 have hr0:0≤xv w % c:=Int.emod_nonneg _ (by omega)
 have hr1:xv w % c<c:=Int.emod_lt_of_pos _ (by omega)
 have hle:xv w / c≤C7 (xv w) c m:=by unfold C7;split <;> omega
 by_cases h:c≤w.Hi
 ·rw [det h]
  have:18446744073709551616≤xv w / c:=by
   apply Int.le_ediv_of_mul_le (by omega)
   have:=Int.mul_le_mul_of_nonneg_left h (show (0:Int)≤18446744073709551616 by omega)
   unfold xv;have:=hw.2.1;omega
  rw [if_neg (by omega)];rfl
 rw [bQ h]
 simp only [bI]
 have e:=div64 hw.1 hw.2 hc (by omega)
 rw [show w.Hi*18446744073709551616+w.Lo=xv w from rfl] at e
 rw [pn e]
 have hq:xv w / c<18446744073709551616:=by
  apply Int.ediv_lt_of_lt_mul (by omega)
  have:=Int.mul_le_mul_of_nonneg_right (show w.Hi+1≤c by omega) (show (0:Int)≤18446744073709551616 by omega)
  unfold xv;have:=hw.2.2;rw [Int.mul_comm 18446744073709551616];omega
 have hq0:0≤xv w / c:=Int.ediv_nonneg hn0 (by omega)
 dsimp only
 have er:kp (xv w / c) (xv w % c) c m=some (decide ((m=2∧c≤2*(xv w % c))∨(m=1∧0<xv w % c))):=by
  unfold kp
  rw [fG (a:=c - xv w % c) ⟨by omega,by have:=hc.2;omega⟩]
  rcases hm with rfl | rfl | rfl
  ·simp
  ·simp
  simp;omega
 rw [pn er]
 unfold C7
 by_cases hu:(m=2∧c≤2*(xv w % c))∨(m=1∧0<xv w % c)
 ·rw [det hu,if_pos hu]
  simp only [Bool.not_true,bI]
  by_cases hx:xv w / c=18446744073709551615
  ·rw [hx];rfl
  have:(xv w / c == 18446744073709551615)=false:=by simp;exact hx
  rw [this,if_pos (by omega),fG ⟨by omega,by omega⟩];rfl
 rw [bQ hu,if_neg hu,if_pos hq];rfl
theorem ref_div {w:Zm} {c m:Int} (hw:RW w) (hc:U64 c) (h1:1≤c) (hm:m=0∨m=1∨m=2):oa w c m=some (if C7 (rv w) c m<18446744073709551616 then (C7 (rv w) c m,0) else (0,3)):=by
 unfold oa
 have hc0:((((c == 0)||(decide (m<0)))||(decide (3<m))):Bool)=false:=by
  rcases hm with rfl | rfl | rfl <;> simp <;> omega
 rw [hc0];simp only [bI]
 have hn0:0≤rv w:=by unfold rv;have:=hw.1.1;have:=hw.2.1;omega
 have hn1:rv w<340282366920938463463374607431768211456:=by unfold rv;have:=hw.1.2;have:=hw.2.2;omega
 have hr0:0≤rv w % c:=Int.emod_nonneg _ (by omega)
 have hr1:rv w % c<c:=Int.emod_lt_of_pos _ (by omega)
 obtain ⟨q,r,e1,e2,e3,e4⟩:=BV hw hc h1
 rw [pn e1]
 dsimp only
 have er:(cond (m == 1) (some (decide (0<r))) (cond (m == 2) (some (decide ((IntKind.u64.wrap (c - r))≤r))) (cond (m == 3) (some ((decide ((IntKind.u64.wrap (c - r))<r))||((r == (IntKind.u64.wrap (c - r)))&&((dw .u64 q.Lo 1) == 1)))) (some false))))=some (decide ((m=2∧c≤2*(rv w % c))∨(m=1∧0<rv w % c))):=by
  rw [e4,fG (a:=c - rv w % c) ⟨by omega,by have:=hc.2;omega⟩]
  rcases hm with rfl | rfl | rfl
  ·simp
  ·simp
  simp;omega
 rw [pn er]
 have hq0:0≤rv w / c:=Int.ediv_nonneg hn0 (by omega)
 unfold C7
 have hfin:∀ z:Zm,RW z→(cond (decide (0<z.Hi)) (some ((0:Int),(3:Int))) (some (z.Lo,0)))=some (if rv z<18446744073709551616 then (rv z,0) else (0,3)):=by
  intro z hz
  obtain ⟨⟨a1,a2⟩,⟨a3,a4⟩⟩:=hz
  by_cases h:0<z.Hi
  ·rw [det h,if_neg (by unfold rv;omega)];rfl
  have:rv z=z.Lo:=by unfold rv;omega
  rw [bQ h,this,if_pos a4];rfl
 by_cases hu:(m=2∧c≤2*(rv w % c))∨(m=1∧0<rv w % c)
 ·rw [det hu,if_pos hu]
  obtain ⟨z,b,f1,f2,f3⟩:=ut (p:=q) (q:=⟨0,1⟩) e2 ⟨⟨by simp,by simp⟩,⟨by simp,by simp⟩⟩
  have hone:rv ⟨0,1⟩=1:=rfl
  have:rv w / c≤rv w:=Int.ediv_le_self _ hn0
  have hc2:2≤c:=by omega
  have t1:=Int.ediv_mul_le (rv w) (show c≠0 by omega)
  have t2:=Int.mul_le_mul_of_nonneg_left hc2 hq0
  rw [hone,e3] at f3
  have f3:=f3 (by omega)
  simp only [bZ]
  rw [pn f1]
  simp only [be]
  rw [hfin z f2,f3]
 rw [bQ hu,if_neg hu]
 simp only [bI,be]
 rw [hfin q e2,e3]
structure VProd (l:List Zd) (p:Zd):Prop where
 price:1≤p.Price∧p.Price≤1000000000000
 lvl:6≤dQ p.Code
 ctr:qM p.Country=true
 proc:kC p.Processes=true
 few:p.Inputs.length≤8
 asc:p.Inputs.Pairwise fun a b=>a.Product<b.Product
 inp:∀ x∈p.Inputs,(db l x.Product).isSome=true∧0≤x.Value∧x.Value≤1000000000000
 obt:p.Obtained=true→p.Inputs=[]
structure VPs (l:List Zd):Prop where
 len:l.length≤64
 asc:l.Pairwise fun a b=>a.ID<b.ID
 all:∀ p∈l,VProd l p
theorem kH {l:List ByteArray} (h:kC l=true):l.length≤8∧(∀ s∈l,ia s=true)∧Strict i9 l:=by
 unfold kC at h
 simp only [Bool.and_eq_true,decide_eq_true_eq] at h
 exact ⟨h.1,fun s hs=>List.all_eq_true.1 h.2.1 s hs,(lI _).1 h.2.2⟩
theorem VPs.sorted {l:List Zd} (h:VPs l):Sorted l:=⟨by have:=h.len;omega,h.asc,fun p hp=>by have h1:=(kH (h.all p hp).proc).1;have h2:=(h.all p hp).few;omega⟩
def bS (l:List Zd) (id:Int):Zd:=(db l id).getD F5
theorem sV {l:List Zd} {id:Int} {p:Zd} (h:db l id=some p):p∈l∧p.ID=id:=⟨List.mem_of_find?_eq_some h,by have:=List.find?_some h;simpa using this⟩
theorem jD {l:List Zd} (h:VPs l) {id:Int} (hs:(db l id).isSome=true):bS l id∈l∧VProd l (bS l id)∧(bS l id).ID=id:=by
 cases hf:db l id with
 | none=>rw [hf] at hs;cases hs
 | some p =>
  have:=sV hf
  unfold bS;rw [hf];exact ⟨this.1,h.all p this.1,this.2⟩
abbrev CSet:=Za→Bool
def dX (ps:List Int) (S:CSet) (q:Zd) (v:Int):Zl×Option Za:=match ps.find? (fun id=>S ⟨q.ID,id⟩) with
 | some id=>(⟨q.Code,v,true⟩,some ⟨q.ID,id⟩)
 | none=>(⟨q.Code,v,false⟩,none)
def dT (v part price:Int):Int:=if C7 (v*part) price 1≤1000000000000 then C7 (v*part) price 1 else 1000000000000
def sk (a:Zb) (q:Zd):Bool:=a.Kind == 3&&lV a.Parties q.Country
def dJ (plan:List Zd) (a:Zb) (ps:List Int) (S:CSet) (x:Zg):List (Zl×Option Za) :=
 cond ((dX ps S (bS plan x.Product) x.Value).2.isSome || !sk a (bS plan x.Product)||(bS plan x.Product).Inputs.isEmpty) [dX ps S (bS plan x.Product) x.Value]
  ((bS plan x.Product).Inputs.map fun y=>dX ps S (bS plan y.Product) (dT x.Value y.Value (bS plan x.Product).Price))
def dc (plan:List Zd) (a:Zb) (ps:List Int) (S:CSet) (p:Zd):List (Zl×Option Za):=p.Inputs.flatMap (dJ plan a ps S)
def lK (plan:List Zd) (a:Zb) (acc:List ByteArray) (x:Zg):List ByteArray:=cond (sk a (bS plan x.Product)) (nN acc (bS plan x.Product).Processes) acc
def zCase:Zn:=⟨ByteArray.empty,0,false,[],[]⟩
def mg (l:List Zb) (id:Int):Zb:=(mb l id).getD DT
def mh (plan:List Zd) (l:List Zb) (imp:ByteArray) (c:Za) (S:CSet):Zn :=
 ⟨(bS plan c.Product).Code,(bS plan c.Product).Price,(bS plan c.Product).Obtained,((bS plan c.Product).Inputs.foldl (lK plan (mg l c.Agreement)) (bS plan c.Product).Processes).take 8,
  (dc plan (mg l c.Agreement) (dS l c.Agreement (bS plan c.Product).Country imp) S (bS plan c.Product)).map (·.1)⟩
def nk (plan:List Zd) (l:List Zb) (imp:ByteArray) (c:Za) (S:CSet):List Za :=
 sd bJ ((dc plan (mg l c.Agreement) (dS l c.Agreement (bS plan c.Product).Country imp) S (bS plan c.Product)).filterMap (·.2))
def qk (plan:List Zd) (l:List Zb) (imp:ByteArray) (c:Za) (S:CSet):Zn×List Za:=cond (jh plan l imp c) (mh plan l imp c S,nk plan l imp c S) (zCase,[])
theorem za {n c:Int} (hn:0≤n) (hc:1≤c):0≤C7 n c 1:=by
 unfold C7
 have:=Int.ediv_nonneg hn (show (0:Int)≤c by omega)
 split <;> omega
theorem vY {v part price:Int} (h1:0≤v) (h2:0≤part) (h3:1≤price):0≤dT v part price∧dT v part price≤1000000000000:=by
 unfold dT
 have:=za (Int.mul_nonneg h1 h2) h3
 split <;> omega
theorem zb {v part price:Int} (h1:0≤v∧v≤1000000000000) (h2:0≤part∧part≤1000000000000) (h3:1≤price∧price≤1000000000000):fQ v part price=some (dT v part price):=by
 unfold fQ mv
 rw [fG (a:=v) ⟨by omega,by omega⟩,fG (a:=part) ⟨by omega,by omega⟩,fG (a:=price) ⟨by omega,by omega⟩]
 obtain ⟨w,e1,e2,e3⟩:=xI (a:=v) (b:=part) ⟨by omega,by omega⟩ ⟨by omega,by omega⟩
 rw [e1,be,DZ e2 ⟨by omega,by omega⟩ h3.1 (.inr (.inl rfl)),e3]
 unfold dT
 have hp:=za (Int.mul_nonneg h1.1 h2.1) h3.1
 generalize C7 (v*part) price 1=r at hp
 by_cases hr:r<18446744073709551616
 ·rw [if_pos hr]
  by_cases hm:r≤1000000000000
  ·rw [if_pos hm]
   simp only [be,bne_self_eq_false,Bool.false_or]
   rw [bQ (by omega),bI,cM (by omega) (by omega)]
  rw [if_neg hm]
  simp only [be,bne_self_eq_false,Bool.false_or]
  rw [det (by omega)];rfl
 rw [if_neg hr,if_neg (by omega)];rfl
theorem AK {v part price:Int} (h1:0≤v∧v≤1000000000000) (h2:0≤part∧part≤1000000000000) (h3:1≤price∧price≤1000000000000) {β:Type} (k:Int→Option β):Option.bind (ku (IntKind.u64.wrap v) (IntKind.u64.wrap part) (IntKind.u64.wrap price) 1) (fun x79=>Option.bind (cond ((x79.2 == 0)&&(decide (x79.1<1000000000000))) (some (IntKind.i64.wrap x79.1)) (some 1000000000000)) k)=k (dT v part price):=by
 unfold ku
 rw [fG (a:=v) ⟨by omega,by omega⟩,fG (a:=part) ⟨by omega,by omega⟩,fG (a:=price) ⟨by omega,by omega⟩]
 obtain ⟨w,e1,e2,e3⟩:=C1 (a:=v) (b:=part) ⟨by omega,by omega⟩ ⟨by omega,by omega⟩
 rw [e1,be,ref_div e2 ⟨by omega,by omega⟩ h3.1 (.inr (.inl rfl)),e3]
 unfold dT
 have hp:=za (Int.mul_nonneg h1.1 h2.1) h3.1
 generalize C7 (v*part) price 1=r at hp
 by_cases hr:r<18446744073709551616
 ·rw [if_pos hr]
  by_cases hm:r<1000000000000
  ·rw [if_pos (by omega)]
   simp only [be,beq_self_eq_true,Bool.true_and]
   rw [det (by omega),bZ,be,cM (by omega) (by omega)]
  simp only [be,beq_self_eq_true,Bool.true_and]
  rw [bQ (by omega),bI,be]
  congr 1
  split <;> omega
 rw [if_neg hr,if_neg (by omega)];rfl
def Bb:Zl×Option Za→Zf
 | (i,some c)=>.proved_ ⟨i,c⟩
 | (i,none)=>.plain_ ⟨i⟩
theorem xJ {K V:Type} [DecidableEq K] (m:List (K×V)) (k c:K) (v:V):fh (oO m k v) c=if k=c then some v else fh m c:=by
 induction m with
 | nil=>simp only [oO,fh]
 | cons p m ih =>
  obtain ⟨a,w⟩:=p
  simp only [oO]
  by_cases h:a=k
  ·subst h
   simp only [if_true,fh]
   split <;> rfl
  rw [if_neg h]
  simp only [fh,ih]
  by_cases h2:a=c
  ·subst h2;simp [show ¬ k=a from fun e=>h e.symm]
  simp [h2]
theorem Ge (set:List Za) (c:Za):(fh (set.foldl (fun m x=>oO m x true) []) c).getD false=aZ set c:=by
 have key:∀ (l:List Za) (m:List (Za×Bool)),(fh (l.foldl (fun m x=>oO m x true) m) c).getD false=(aZ l c||(fh m c).getD false):=by
  intro l
  induction l with
  | nil=>intro m;rfl
  | cons x l ih =>
   intro m
   rw [List.foldl_cons,ih,xJ]
   show _=((decide (x=c)||aZ l c)||_)
   by_cases h:x=c
   ·rw [if_pos h,det h];cases aZ l c <;> rfl
   rw [if_neg h,bQ h,Bool.false_or]
 rw [key];show (aZ set c||false)=_;rw [Bool.or_false]
theorem xK (ps:List Int) (m:List (Za×Bool)) (S:CSet) (hm:∀ c,(fh m c).getD false=S c) (hps:ps.length≤140737488355328) (q:Zd) (v:Int):cV ⟨ps,m⟩ q v=some (Bb (dX ps S q v)):=by
 unfold cV dX
 refine (bE (l:=ps) (by omega) (fun _ id=>cond (S ⟨q.ID,id⟩) (some (.inr (Zf.proved_ ⟨⟨q.Code,v,true⟩,⟨q.ID,id⟩⟩))) none) (.inl ()) (fun k hk=>?_) (by simp only [cO,bI])).trans ?_
 ·simp only [hZ hk,bZ,aQ hk,be,bU hk (show ps.length≤4611686018427387904 by omega),hm]
  cases S ⟨q.ID,ps[k]⟩ <;> rfl
 rw [kS (fun id:Int=>S ⟨q.ID,id⟩) (fun id=>(Sum.inr (Zf.proved_ ⟨⟨q.Code,v,true⟩,⟨q.ID,id⟩⟩):Unit⊕Zf))]
 cases ps.find? (fun id:Int=>S ⟨q.ID,id⟩) <;> rfl
def B0:Za:=⟨0,0⟩
theorem Gf (ps:List Int) (set:List Za) (hps:ps.length≤140737488355328) (hset:set.length≤140737488355328) (q:Zd) (v:Int):iI ps q.ID set=some (iD B0 (dX ps (aZ set) q v).2)∧(dX ps (aZ set) q v).1=⟨q.Code,v,(dX ps (aZ set) q v).2.isSome⟩:=by
 constructor
 ·unfold iI dX
  refine (bE (l:=ps) (by omega) (fun _ id=>cond (aZ set ⟨q.ID,id⟩) (some (.inr ((⟨q.ID,id⟩:Za),true))) none) (.inl ()) (fun k hk=>?_) (by simp only [cO,bI])).trans ?_
  ·simp only [hZ hk,bZ,aQ hk,be,bU hk (show ps.length≤4611686018427387904 by omega),kG _ _ hset]
   cases aZ set ⟨q.ID,ps[k]⟩ <;> rfl
  rw [kS (fun id:Int=>aZ set ⟨q.ID,id⟩) (fun id=>(Sum.inr ((⟨q.ID,id⟩:Za),true):Unit⊕(Za×Bool)))]
  cases ps.find? (fun id:Int=>aZ set ⟨q.ID,id⟩) <;> rfl
 unfold dX
 cases ps.find? (fun id:Int=>aZ set ⟨q.ID,id⟩) <;> rfl
theorem qm {plan:List Zd} (hv:VPs plan) (a:Zb) (ps:List Int) (S:CSet) (x:Zg) (hx:(db plan x.Product).isSome=true):(dJ plan a ps S x).length≤8:=by
 unfold dJ
 generalize ((dX ps S (bS plan x.Product) x.Value).2.isSome || !sk a (bS plan x.Product)||(bS plan x.Product).Inputs.isEmpty)=b
 cases b
 ·rw [bI,List.length_map];exact (jD hv hx).2.1.few
 simp
theorem Gg {w:List ByteArray} (h:kC w=true):w.length≤8:=(kH h).1
theorem B1 (a b:List ByteArray):(nN a b).length≤a.length+b.length:=by unfold nN;have:=F7 (lt:=i9) (a++b);rwa [List.length_append] at this
theorem xL {plan:List Zd} (hv:VPs plan) (a:Zb) (acc:List ByteArray) (x:Zg) (hx:(db plan x.Product).isSome=true):(lK plan a acc x).length≤acc.length+8:=by
 unfold lK
 cases sk a (bS plan x.Product)
 ·rw [bI];omega
 rw [bZ]
 have h1:=B1 acc (bS plan x.Product).Processes
 have h2:=Gg (jD hv hx).2.1.proc
 omega
theorem vZ {plan:List Zd} (hv:VPs plan) (id:Int):dj plan id=some (bS plan id,(db plan id).isSome):=by
 rw [vV _ _ hv.sorted];unfold bS;cases db plan id <;> rfl
theorem sW {plan:List Zd} (hv:VPs plan) (id:Int):fR plan id=some (bS plan id,(db plan id).isSome):=by
 rw [xB _ _ (by have:=hv.len;omega)];unfold bS;cases db plan id <;> rfl
theorem zc (t:Zl×Option Za):(Bb t).is_proved_=t.2.isSome:=by obtain ⟨i,c⟩:=t;cases c <;> rfl
theorem D0 {plan:List Zd} (hv:VPs plan) (a:Zb) (ha:a.Parties.length≤140737488355328) {p:Zd} (hp:VProd plan p) (ps:List Int) (hps:ps.length≤140737488355328) (m:List (Za×Bool)) (S:CSet) (hm:∀ c,(fh m c).getD false=S c) :
    fg plan a p ⟨ps,m⟩=some ((dc plan a ps S p).map Bb,(p.Inputs.foldl (lK plan a) p.Processes).take 8):=by
  unfold fg bY
  have hpr:=Gg hp.proc
  have hfew:=hp.few
  rw [jL (by omega) (by omega),be]
  refine (cx (l:=p.Inputs) (by omega) (fun i (s:List Zf×List ByteArray)=>(s.1,s.2,i)) (fun s x=>(s.1++(dJ plan a ps S x).map Bb,lK plan a s.2 x)) (fun s=>s) (fun k s=>s.1.length≤8*k∧s.2.length≤8+8*k) ([],p.Processes) ⟨by simp,by simpa using hpr⟩ (fun k hk s hs=>?_) (fun s _=>by simp only [cO,bI])).1.trans ?_
  · obtain ⟨l9,l12⟩:=s
    obtain ⟨h1,h2⟩:=hs
    dsimp only at h1 h2 ⊢
    obtain ⟨hin,hv0,hv1⟩:=hp.inp _ (List.getElem_mem hk)
    obtain ⟨hq1,hq2,hq3⟩:=jD hv hin
    have hql:=hq2.few
    refine ⟨?_,by have:=qm hv a ps S p.Inputs[k] hin;simp;omega,by have:=xL hv a l12 p.Inputs[k] hin;omega⟩
    simp only [hZ hk,bZ,aQ hk,be,bU hk (show p.Inputs.length≤4611686018427387904 by omega),vZ hv]
    generalize hx:p.Inputs[k]=x at *
    rw [se _ _ ha,xK ps m S hm hps]
    unfold dJ lK sk
    have e1:Option.bind (gd (a.Kind == 3) (some (lV a.Parties (bS plan x.Product).Country))) (fun x33=>some ((a.Kind == 3)&&x33))=some ((a.Kind == 3)&&lV a.Parties (bS plan x.Product).Country):=by cases (a.Kind == 3) <;> rfl
    have e2:∀ {β:Type} (K:Bool→Option β),(∀ b c,((a.Kind == 3)&&b)=((a.Kind == 3)&&c)→K b=K c)→Option.bind (gd (a.Kind == 3) (some (lV a.Parties (bS plan x.Product).Country))) K=K (lV a.Parties (bS plan x.Product).Country):=by
      intro β K hK
      cases hk3:(a.Kind == 3)
      · show K default=_;exact hK _ _ (by rw [hk3];rfl)
      rfl
    rw [e2 _ (fun b c hbc=>by simp only [hbc])]
    generalize hF:((a.Kind == 3)&&lV a.Parties (bS plan x.Product).Country)=F
    have e3:(cond F (Option.bind (j6 l12 (bS plan x.Product).Processes) (fun x38=>some x38)) (some l12))=some (cond F (nN l12 (bS plan x.Product).Processes) l12):=by
      cases F
      · rfl
      rw [bZ,BU _ _ (by have:=Gg hq2.proc;omega)];rfl
    simp only [e3,be,zc,len0]
    cases hc:((dX ps S (bS plan x.Product) x.Value).2.isSome || !F||(bS plan x.Product).Inputs.isEmpty)
    · simp only [bI]
      refine (congrArg (fun o=>Option.bind o _) (cx (l:=(bS plan x.Product).Inputs) (by omega) (fun i (s:List Zf)=>(s,i)) (fun s y=>s++[Bb (dX ps S (bS plan y.Product) (dT x.Value y.Value (bS plan x.Product).Price))]) (fun s=>s) (fun j s=>s.length≤8*k+j) l9 h1 (fun j hj s hs=>⟨?_,by simp;omega⟩) (fun s _=>by simp only [cO,bI])).1).trans ?_
      rotate_left
      · simp only [be]
        have hfl:∀ (ys:List Zg) (acc:List Zf),ys.foldl (fun s y=>s++[Bb (dX ps S (bS plan y.Product) (dT x.Value y.Value (bS plan x.Product).Price))]) acc=acc++(ys.map fun y=>dX ps S (bS plan y.Product) (dT x.Value y.Value (bS plan x.Product).Price)).map Bb:=by
          intro ys
          induction ys with
          | nil=>intro acc;simp
          | cons y ys ih=>intro acc;rw [List.foldl_cons,ih];simp
        rw [hfl]
      obtain ⟨hy1,hy2,hy3⟩:=hq2.inp _ (List.getElem_mem hj)
      simp only [hZ hj,bZ,aQ hj,be,bU hj (show (bS plan x.Product).Inputs.length≤4611686018427387904 by omega),vZ hv]
      rw [zb ⟨hv0,hv1⟩ ⟨hy2,hy3⟩ hq2.price,be,xK ps m S hm hps,be,cK (by simp;omega) (by simp;omega)];rfl
    simp only [bZ]
    rw [cK (by simp;omega) (by simp;omega)];rfl
  dsimp only
  have hfold:∀ (xs:List Zg) (s:List Zf×List ByteArray),xs.foldl (fun s x=>(s.1++(dJ plan a ps S x).map Bb,lK plan a s.2 x)) s=(s.1++(xs.flatMap (dJ plan a ps S)).map Bb,xs.foldl (lK plan a) s.2):=by
    intro xs
    induction xs with
    | nil=>intro s;simp
    | cons x xs ih=>intro s;rw [List.foldl_cons,ih,List.flatMap_cons];simp
  rw [hfold]
  dsimp only
  rw [CK _ _ (by omega),be];rfl
theorem ot {p:List Zd} {l:List Zb} {i:ByteArray} {c:Za} (h:jh p l i c=true):∃ q a r,db p c.Product=some q∧mb l c.Agreement=some a∧dz a q.Code=some r∧q.Country≠i∧yU a q.Country i=true:=by
 unfold jh at h
 split at h
 ·rename_i q a e1 e2
  simp only [Bool.and_eq_true,Bool.not_eq_true',decide_eq_false_iff_not] at h
  obtain ⟨⟨h1,h2⟩,h3⟩:=h
  obtain ⟨r,hr⟩:=Option.isSome_iff_exists.1 h3
  exact ⟨q,a,r,e1,e2,hr,h1,h2⟩
 cases h
theorem pa {plan:List Zd} (hv:VPs plan) (a:Zb) (ps:List Int) (S:CSet) {p:Zd} (hp:VProd plan p):(dc plan a ps S p).length≤64:=by
 unfold dc
 have key:∀ xs:List Zg,(∀ x∈xs,(db plan x.Product).isSome=true)→(xs.flatMap (dJ plan a ps S)).length≤8*xs.length:=by
  intro xs
  induction xs with
  | nil=>intro _;simp
  | cons x xs ih =>
   intro h
   rw [List.flatMap_cons,List.length_append,List.length_cons]
   have h1:=qm hv a ps S x (h x (by simp));have h2:=ih fun y hy=>h y (by simp [hy]);omega
 have h1:=key p.Inputs fun x hx=>(hp.inp x hx).1
 have h2:=hp.few
 omega
theorem D1 {plan:List Zd} {l:List Zb} (hv:VPs plan) (hl:VAs l) (imp:ByteArray) (c:Za) (set:List Za) (hs:set.length≤140737488355328):kz plan l imp c set=some (qk plan l imp c (aZ set)):=by
 unfold kz qk
 have hlen:=hl.len
 rw [AI _ _ _ _ hv.sorted hl,be]
 cases had:jh plan l imp c
 ·rfl
 obtain ⟨q,a,r,e1,e2,_,_,_⟩:=ot had
 have hq:VProd plan (bS plan c.Product):=(jD hv (by rw [e1];rfl)).2.1
 have ha:mg l c.Agreement=a:=by unfold mg;rw [e2];rfl
 have hva:=(oq hl e2).1
 simp only [Bool.not_true,bI,bZ]
 rw [vZ hv,be,rE _ _ (by omega),e2,be,wW _ _ _ _ hl,be]
 have hpl:=sg l c.Agreement (bS plan c.Product).Country imp
 unfold mh nk
 rw [ha]
 generalize hps:dS l c.Agreement (bS plan c.Product).Country imp=ps at *
 refine (cx (l:=set) (by omega) (fun i (m:List (Za×Bool))=>(i,m)) (fun m x=>oO m x true) (fun m=>m) (fun _ _=>True) [] trivial (fun k hk m _=>⟨?_,trivial⟩) (fun m _=>by simp only [cO,bI])).1.trans ?_
 ·simp only [hZ hk,bZ,aQ hk,be,bU hk (show set.length≤4611686018427387904 by omega)]
 rw [D0 hv (iD DT (some a)).1 hva.ok.par.1 hq ps (by omega) _ (aZ set) (fun c=>Ge set c),be]
 dsimp +instances only [iD]
 have hsl:=pa hv a ps (aZ set) hq
 refine (cx (l:=(dc plan a ps (aZ set) (bS plan c.Product)).map Bb) (by rw [List.length_map];omega) (fun i (s:List Za×List Zl)=>(s.1,i,s.2)) (fun s x=>(cond x.is_proved_ (s.1++[x.as_proved_.premise]) s.1,s.2++[match x with | .plain_ y=>y.use | .proved_ y=>y.use])) (fun s=>s) (fun k s=>s.1.length≤k∧s.2.length≤k) ([],[]) ⟨by simp,by simp⟩ (fun k hk s hs=>⟨?_,?_⟩) (fun s _=>by simp only [cO,bI])).1.trans ?_
 ·have hk2:k<64:=by rw [List.length_map] at hk;omega
  have ei:∀ x:Zf,Icumulation_supply_input x=some (match x with | .plain_ y=>y.use | .proved_ y=>y.use):=fun x=>by cases x <;> rfl
  simp only [hZ hk,bZ,aQ hk,be,bU hk (show ((dc plan a ps (aZ set) (bS plan c.Product)).map Bb).length≤4611686018427387904 by rw [List.length_map];omega),ei]
  rw [cK (by simp;omega) (by simp;omega),be,cK (by simp;omega) (by simp;omega)]
  cases ((dc plan a ps (aZ set) (bS plan c.Product)).map Bb)[k].is_proved_ <;> rfl
 ·obtain ⟨h1,h2⟩:=hs
  cases ((dc plan a ps (aZ set) (bS plan c.Product)).map Bb)[k].is_proved_ <;> simp <;> omega
 have key:∀ (xs:List (Zl×Option Za)) (s:List Za×List Zl),(xs.map Bb).foldl (fun s x=>(cond x.is_proved_ (s.1++[x.as_proved_.premise]) s.1,s.2++[match x with | .plain_ y=>y.use | .proved_ y=>y.use])) s=(s.1++xs.filterMap (·.2),s.2++xs.map (·.1)):=by
  intro xs
  induction xs with
  | nil=>intro s;simp
  | cons x xs ih =>
   intro s
   obtain ⟨i,o⟩:=x
   rw [List.map_cons,List.foldl_cons,ih]
   cases o with
   | none=>simp [Bb,Zf.is_proved_]
   | some c=>simp [Bb,Zf.is_proved_,Zf.as_proved_]
 rw [key]
 simp only [List.nil_append]
 show Option.bind (some (lz bJ _)) _=_
 rw [be,F9 _ (by rw [oh];have:=List.length_filterMap_le (fun x:Zl×Option Za=>x.2) (dc plan a ps (aZ set) (bS plan c.Product));omega)];rfl
theorem Gh {plan:List Zd} {l:List Zb} (hv:VPs plan) (hl:VAs l) (imp:ByteArray) (c:Za) (set:List Za) (hs:set.length≤140737488355328):ig plan l imp c set=some (qk plan l imp c (aZ set)):=by
 unfold ig qk
 have hlen:=hl.len
 rw [CX _ _ _ _ (by have:=hv.len;omega) hl,be]
 cases had:jh plan l imp c
 ·rfl
 obtain ⟨q,a,r,e1,e2,_,_,_⟩:=ot had
 have hq:VProd plan (bS plan c.Product):=(jD hv (by rw [e1];rfl)).2.1
 have ha:mg l c.Agreement=a:=by unfold mg;rw [e2];rfl
 have hva:=(oq hl e2).1
 simp only [Bool.not_true,bI,bZ]
 rw [sW hv,be,sU _ _ (by omega),e2,be,yV _ _ _ _ hl,be]
 have hpl:=sg l c.Agreement (bS plan c.Product).Country imp
 unfold mh nk
 rw [ha]
 simp only [iD]
 generalize hps:dS l c.Agreement (bS plan c.Product).Country imp=ps at *
 have hpr:=Gg hq.proc
 have hfew:=hq.few
 generalize bS plan c.Product=p at *
 have hps2:ps.length≤140737488355328:=by omega
 refine (cx (l:=p.Inputs) (by omega) (fun i (s:List Za×List ByteArray×List Zl)=>(s.1,s.2.1,i,s.2.2)) (fun s x=>(((dJ plan a ps (aZ set) x).filterMap (·.2)).foldl (iN bJ) s.1,lK plan a s.2.1 x,s.2.2++(dJ plan a ps (aZ set) x).map (·.1))) (fun s=>s) (fun k s=>s.1.length≤8*k∧s.2.1.length≤8+8*k∧s.2.2.length≤8*k) ([],p.Processes,[]) ⟨by simp,by simpa using hpr,by simp⟩ (fun k hk s hs=>?_) (fun s _=>by simp only [cO,bI])).1.trans ?_
 ·obtain ⟨l13,l14,l17⟩:=s
  obtain ⟨h1,h2,h3⟩:=hs
  dsimp only at h1 h2 h3 ⊢
  obtain ⟨hin,hv0,hv1⟩:=hq.inp _ (List.getElem_mem hk)
  obtain ⟨hq1,hq2,hq3⟩:=jD hv hin
  have hql:=hq2.few
  have hsl:=qm hv a ps (aZ set) p.Inputs[k] hin
  have hins:∀ (cs:List Za) (u:List Za),(cs.foldl (iN bJ) u).length≤u.length+cs.length:=by
   intro cs
   induction cs with
   | nil=>intro u;simp
   | cons c cs ih=>intro u;rw [List.foldl_cons,List.length_cons];have h1:=ih (iN bJ u c);have h2:=nj (lt:=bJ) u c;omega
  refine ⟨?_,?_,by have:=xL hv a l14 p.Inputs[k] hin;omega,by simp;omega⟩
  rotate_left
  ·have g1:=hins ((dJ plan a ps (aZ set) p.Inputs[k]).filterMap (·.2)) l13
   have g2:=List.length_filterMap_le (fun x:Zl×Option Za=>x.2) (dJ plan a ps (aZ set) p.Inputs[k])
   omega
  simp only [hZ hk,bZ,aQ hk,be,bU hk (show p.Inputs.length≤4611686018427387904 by omega),sW hv]
  generalize hx:p.Inputs[k]=x at *
  have hset:set.length≤140737488355328:=hs
  have htk:=Gf ps set hps2 hset
  rw [qD _ _ hva.ok.par.1,(htk (bS plan x.Product) x.Value).1]
  unfold dJ lK sk
  have e2:∀ {β:Type} (K:Bool→Option β),(∀ b c,((a.Kind == 3)&&b)=((a.Kind == 3)&&c)→K b=K c)→Option.bind (gd (a.Kind == 3) (some (lV a.Parties (bS plan x.Product).Country))) K=K (lV a.Parties (bS plan x.Product).Country):=by
   intro β K hK
   cases hk3:(a.Kind == 3)
   ·show K default=_;exact hK _ _ (by rw [hk3];rfl)
   rfl
  rw [e2 _ (fun b c hbc=>by simp only [hbc])]
  generalize hF:((a.Kind == 3)&&lV a.Parties (bS plan x.Product).Country)=F
  have e3:(cond F (Option.bind (jV l14 (bS plan x.Product).Processes) (fun x38=>some x38)) (some l14))=some (cond F (nN l14 (bS plan x.Product).Processes) l14):=by
   cases F
   ·rfl
   rw [bZ,DW _ _ (by have:=Gg hq2.proc;omega)];rfl
  have e4:∀ (o:Option Za) (u:List Za),u.length≤1000000→(cond o.isSome (Option.bind (fS u (iD B0 o).1) (fun x53=>some x53)) (some u))=some (match o with | some c=>iN bJ u c | none=>u):=by
   intro o u hu
   cases o with
   | none=>rfl
   | some c=>show Option.bind (fS u c) _=_;rw [xF _ _ (by omega)];rfl
  have e5:∀ o:Option Za,(iD B0 o).2=o.isSome:=fun o=>by cases o <;> rfl
  simp only [e3,be,e5]
  simp only [e4 _ l13 (show l13.length≤1000000 by omega),be,len0]
  have t1:=(htk (bS plan x.Product) x.Value).2
  generalize htt:dX ps (aZ set) (bS plan x.Product) x.Value=tt at *
  obtain ⟨ti,to⟩:=tt
  dsimp only at t1 ⊢
  cases hc:(to.isSome || !F||(bS plan x.Product).Inputs.isEmpty)
  ·have hto:to=none:=by cases to with | none=>rfl | some c=>simp at hc
   subst hto
   simp only [bI]
   refine (congrArg (fun o=>Option.bind o _) (cx (l:=(bS plan x.Product).Inputs) (by omega) (fun i (s:List Za×List Zl)=>(s.1,i,s.2)) (fun s y=>((match (dX ps (aZ set) (bS plan y.Product) (dT x.Value y.Value (bS plan x.Product).Price)).2 with | some c=>iN bJ s.1 c | none=>s.1),s.2++[(dX ps (aZ set) (bS plan y.Product) (dT x.Value y.Value (bS plan x.Product).Price)).1])) (fun s=>s) (fun j s=>s.1.length≤8*k+j∧s.2.length≤8*k+j) (l13,l17) ⟨h1,h3⟩ (fun j hj s hs=>⟨?_,?_⟩) (fun s _=>by simp only [cO,bI])).1).trans ?_
   ·obtain ⟨hy1,hy2,hy3⟩:=hq2.inp _ (List.getElem_mem hj)
    simp only [hZ hj,bZ,aQ hj,be,bU hj (show (bS plan x.Product).Inputs.length≤4611686018427387904 by omega)]
    rw [AK ⟨hv0,hv1⟩ ⟨hy2,hy3⟩ hq2.price,(htk (bS plan ((bS plan x.Product).Inputs[j]).Product) (dT x.Value ((bS plan x.Product).Inputs[j]).Value (bS plan x.Product).Price)).1,be,e5,e4 _ s.1 (by omega),be,← (htk (bS plan ((bS plan x.Product).Inputs[j]).Product) (dT x.Value ((bS plan x.Product).Inputs[j]).Value (bS plan x.Product).Price)).2,cK (by simp;omega) (by simp;omega)];rfl
   ·refine ⟨?_,by simp;omega⟩
    dsimp only
    split
    ·rename_i c' _;have:=nj (lt:=bJ) s.1 c';omega
    omega
   have hfl:∀ (ys:List Zg) (s:List Za×List Zl),ys.foldl (fun s y=>((match (dX ps (aZ set) (bS plan y.Product) (dT x.Value y.Value (bS plan x.Product).Price)).2 with | some c=>iN bJ s.1 c | none=>s.1),s.2++[(dX ps (aZ set) (bS plan y.Product) (dT x.Value y.Value (bS plan x.Product).Price)).1])) s=(((ys.map fun y=>dX ps (aZ set) (bS plan y.Product) (dT x.Value y.Value (bS plan x.Product).Price)).filterMap (·.2)).foldl (iN bJ) s.1,s.2++(ys.map fun y=>dX ps (aZ set) (bS plan y.Product) (dT x.Value y.Value (bS plan x.Product).Price)).map (·.1)):=by
    intro ys
    induction ys with
    | nil=>intro s;simp
    | cons y ys ih =>
     intro s
     rw [List.foldl_cons,ih,List.map_cons]
     cases h:(dX ps (aZ set) (bS plan y.Product) (dT x.Value y.Value (bS plan x.Product).Price)).2 with
     | none=>simp [h]
     | some c=>simp [h]
   simp only [be,hfl]
  simp only [bZ]
  rw [cK (by simp;omega) (by simp;omega),← t1]
  cases to <;> rfl
 have hfold:∀ (xs:List Zg) (s:List Za×List ByteArray×List Zl),xs.foldl (fun s x=>(((dJ plan a ps (aZ set) x).filterMap (·.2)).foldl (iN bJ) s.1,lK plan a s.2.1 x,s.2.2++(dJ plan a ps (aZ set) x).map (·.1))) s=(((xs.flatMap (dJ plan a ps (aZ set))).filterMap (·.2)).foldl (iN bJ) s.1,xs.foldl (lK plan a) s.2.1,s.2.2++(xs.flatMap (dJ plan a ps (aZ set))).map (·.1)):=by
  intro xs
  induction xs with
  | nil=>intro s;simp
  | cons x xs ih=>intro s;rw [List.foldl_cons,ih,List.flatMap_cons];simp
 rw [hfold]
 dsimp only
 rw [CK _ _ (by omega),be,tJ ordC,List.nil_append];rfl
theorem C6_ctry {s:ByteArray} (h:s∈C6):qM s=true:=List.all_eq_true.1 C6_ok.1 s h
theorem W5_words {l:List ByteArray} (h:l.Sublist W5):kC l=true:=by
 unfold kC
 have h1:=h.length_le
 have h5:W5.length=5:=rfl
 simp only [Bool.and_eq_true,decide_eq_true_eq]
 exact ⟨by omega,List.all_eq_true.2 fun s hs=>List.all_eq_true.1 W5_ok.1 s (h.subset hs),(lI _).2 (List.Pairwise.sublist h ((lI _).1 W5_ok.2.1))⟩
theorem MPs.found {l:List Zd} (h:MPs l) {k:Nat} (hk:k<l.length):(db l (3*((k:Int)+1))).isSome=true:=by
 unfold db
 rw [List.find?_isSome]
 exact ⟨l[k],List.getElem_mem hk,by have:=(h.all k _ (List.getElem?_eq_getElem hk)).id;simpa using this⟩
theorem MPs.vps {l:List Zd} (h:MPs l):VPs l:=by
 refine ⟨by have:=h.len;omega,h.sorted.asc,fun p hp=>?_⟩
 obtain ⟨i,hi,rfl⟩:=List.getElem_of_mem hp
 have hm:=h.all i _ (List.getElem?_eq_getElem hi)
 refine ⟨by have:=hm.price;omega,by have:=hm.lvl.1;omega,C6_ctry hm.ctr,W5_words hm.proc,by have:=hm.few;omega,hm.asc,fun x hx=>?_,hm.obt⟩
 obtain ⟨⟨k,hk,e⟩,h1,h2⟩:=hm.inp x hx
 exact ⟨by rw [e];exact h.found hk,h1,by omega⟩
theorem Gi (ps:List Int) (S:CSet) (q:Zd) (v:Int):(dX ps S q v).1.Code=q.Code∧(dX ps S q v).1.Value=v∧(dX ps S q v).1.Originating=(dX ps S q v).2.isSome:=by
 unfold dX;split <;> exact ⟨rfl,rfl,rfl⟩
theorem Gj {ps:List Int} {S:CSet} {q:Zd} {v:Int} {c:Za} (h:(dX ps S q v).2=some c):S c=true:=by
 unfold dX at h
 split at h
 ·rename_i id hid
  injection h with h;rw [← h];have:=List.find?_some hid;exact this
 cases h
theorem wa {plan:List Zd} (hv:VPs plan) (a:Zb) (ps:List Int) (S:CSet) {p:Zd} (hp:VProd plan p) (P:Zl×Option Za→Prop) (h:∀ q∈plan,∀ v,0≤v→v≤1000000000000→P (dX ps S q v)):∀ t∈dc plan a ps S p,P t:=by
 intro t ht
 unfold dc at ht
 obtain ⟨x,hx,ht⟩:=List.mem_flatMap.1 ht
 obtain ⟨h1,h2,h3⟩:=hp.inp x hx
 obtain ⟨hq1,hq2,_⟩:=jD hv h1
 unfold dJ at ht
 cases hc:((dX ps S (bS plan x.Product) x.Value).2.isSome || !sk a (bS plan x.Product)||(bS plan x.Product).Inputs.isEmpty)
 ·rw [hc,bI] at ht
  obtain ⟨y,hy,rfl⟩:=List.mem_map.1 ht
  obtain ⟨g1,g2,g3⟩:=hq2.inp y hy
  have hr:=vY h2 g2 hq2.price.1
  exact h _ (jD hv g1).1 _ hr.1 hr.2
 rw [hc,bZ] at ht
 rw [List.mem_singleton.1 ht]
 exact h _ hq1 _ h2 h3
theorem AL {a b:List ByteArray} (ha:∀ s∈a,ia s=true) (hb:∀ s∈b,ia s=true):(∀ s∈nN a b,ia s=true)∧Strict i9 (nN a b):=by
 refine ⟨fun s hs=>?_,xE BT _⟩
 have:=(yY (lt:=i9) (a++b) s).1 hs
 rcases List.mem_append.1 this with h | h
 ·exact ha s h
 exact hb s h
theorem wb {plan:List Zd} (hv:VPs plan) (a:Zb):∀ (xs:List Zg) (acc:List ByteArray),(∀ x∈xs,(db plan x.Product).isSome=true)→(∀ s∈acc,ia s=true)→Strict i9 acc→(∀ s∈xs.foldl (lK plan a) acc,ia s=true)∧Strict i9 (xs.foldl (lK plan a) acc)
 | [],acc,_,h1,h2=>⟨h1,h2⟩
 | x::xs,acc,h,h1,h2=>by
  have hx:=jD hv (h x (by simp))
  rw [List.foldl_cons]
  have:(∀ s∈lK plan a acc x,ia s=true)∧Strict i9 (lK plan a acc x):=by
   unfold lK
   cases sk a (bS plan x.Product)
   ·exact ⟨h1,h2⟩
   exact AL h1 (kH hx.2.1.proc).2.1
  exact wb hv a xs _ (fun y hy=>h y (by simp [hy])) this.1 this.2
theorem wc {s:ByteArray} (h:ia s=true):s.size≤12:=by
 unfold ia at h;simp only [Bool.and_eq_true,decide_eq_true_eq] at h;omega
theorem B2 {l:List ByteArray} (h1:∀ s∈l,ia s=true) (h2:Strict i9 l):kC (l.take 8)=true∧StrsOk (l.take 8):=by
 refine ⟨?_,by rw [List.length_take];omega,fun s hs=>by have:=wc (h1 s (List.mem_of_mem_take hs));omega⟩
 unfold kC
 simp only [Bool.and_eq_true,decide_eq_true_eq]
 exact ⟨by rw [List.length_take];omega,List.all_eq_true.2 fun s hs=>h1 s (List.mem_of_mem_take hs),(lI _).2 (List.Pairwise.sublist (List.take_sublist _ _) h2)⟩
structure VCase (x:Zn):Prop where
 lvl:6≤dQ x.Code
 price:1≤x.Price∧x.Price≤1000000000000
 proc:kC x.Processes=true∧StrsOk x.Processes
 few:x.Inputs.length≤100
 inp:∀ y∈x.Inputs,6≤dQ y.Code∧0≤y.Value∧y.Value≤1000000000000
theorem wd {plan:List Zd} {l:List Zb} (hv:VPs plan) (imp:ByteArray) (c:Za) (S:CSet) (h:(db plan c.Product).isSome=true):VCase (mh plan l imp c S):=by
 obtain ⟨hq1,hq,_⟩:=jD hv h
 obtain ⟨w1,w2,w3⟩:=kH hq.proc
 have hw:=wb hv (mg l c.Agreement) (bS plan c.Product).Inputs _ (fun x hx=>(hq.inp x hx).1) w2 w3
 refine ⟨hq.lvl,hq.price,B2 hw.1 hw.2,?_,?_⟩
 ·unfold mh;dsimp only;rw [List.length_map];have:=pa hv (mg l c.Agreement) (dS l c.Agreement (bS plan c.Product).Country imp) S hq;omega
 unfold mh;dsimp only
 intro y hy
 obtain ⟨t,ht,rfl⟩:=List.mem_map.1 hy
 refine wa hv _ _ S hq (fun t=>6≤dQ t.1.Code∧0≤t.1.Value∧t.1.Value≤1000000000000) (fun q hqp v h1 h2=>?_) t ht
 obtain ⟨g1,g2,_⟩:=Gi (dS l c.Agreement (bS plan c.Product).Country imp) S q v
 rw [g1,g2];exact ⟨(hv.all q hqp).lvl,h1,h2⟩
theorem we {x:Zn} (h:VCase x):gB x=some 0:=by
 unfold gB iW
 have hl:=h.few
 show Option.bind (some (decide (6≤dQ x.Code))) _=_
 rw [det h.lvl,be]
 simp only [Bool.not_true,bI]
 rw [bQ (by have:=h.price;omega),bQ (by have:=h.price;omega),Bool.or_self,bI,rB _ h.proc.2,h.proc.1,be]
 simp only [Bool.not_true,bI]
 rw [bQ (by omega),bI]
 refine (bE (l:=x.Inputs) (by omega) (fun _ _=>none) (.inl ()) (fun k hk=>?_) (by simp only [cO,bI])).trans ?_
 ·have hy:=h.inp _ (List.getElem_mem hk)
  simp only [hZ hk,bZ,aQ hk,be,bU hk (show x.Inputs.length≤4611686018427387904 by omega)]
  show Option.bind (Option.bind (some (dQ x.Inputs[k].Code)) _) _=_
  rw [be,det hy.1,be,bQ (by omega),bQ (by omega)];rfl
 have:∀ (m:List Zl) (i:Nat),cE (fun (_:Nat) (_:Zl)=>(none:Option (Unit⊕Int))) m i=none:=by
  intro m
  induction m with
  | nil=>intro i;rfl
  | cons x m ih=>intro i;exact ih _
 rw [this];rfl
theorem Gk {plan:List Zd} {l:List Zb} (hv:VPs plan) (imp:ByteArray) (c:Za) (S:CSet) (h:(db plan c.Product).isSome=true):(nk plan l imp c S).length≤64:=by
 obtain ⟨hq1,hq,_⟩:=jD hv h
 unfold nk
 have h1:=F7 (lt:=bJ) ((dc plan (mg l c.Agreement) (dS l c.Agreement (bS plan c.Product).Country imp) S (bS plan c.Product)).filterMap (·.2))
 have h2:=List.length_filterMap_le (fun x:Zl×Option Za=>x.2) (dc plan (mg l c.Agreement) (dS l c.Agreement (bS plan c.Product).Country imp) S (bS plan c.Product))
 have h3:=pa hv (mg l c.Agreement) (dS l c.Agreement (bS plan c.Product).Country imp) S hq
 omega
theorem sX {p:List Zd} {l:List Zb} {i:ByteArray} {c:Za} (h:jh p l i c=true):(db p c.Product).isSome=true:=by
 obtain ⟨q,a,r,e,_⟩:=ot h;rw [e];rfl
theorem xM {ps:List Int} {S U:CSet} {q:Zd} {v:Int} (hUS:∀ c,U c=true→S c=true) (h:∀ c,(dX ps S q v).2=some c→U c=true):dX ps U q v=dX ps S q v:=by
 have hf:ps.find? (fun id=>U ⟨q.ID,id⟩)=ps.find? (fun id=>S ⟨q.ID,id⟩):=by
  cases hS:ps.find? (fun id=>S ⟨q.ID,id⟩) with
  | none =>
   rw [List.find?_eq_none] at hS ⊢
   exact fun x hx hu=>hS x hx (hUS _ hu)
  | some id =>
   have hU:U ⟨q.ID,id⟩=true:=h _ (by unfold dX;rw [hS])
   rw [List.find?_eq_some_iff_append] at hS ⊢
   obtain ⟨_,as1,bs1,e,hn⟩:=hS
   refine ⟨hU,as1,bs1,e,fun x hx=>?_⟩
   have:=hn x hx
   cases hu:U ⟨q.ID,x⟩
   ·rfl
   rw [hUS _ hu] at this;cases this
 unfold dX;rw [hf]
theorem AM {plan:List Zd} (a:Zb) (ps:List Int) {S U:CSet} (x:Zg) (hUS:∀ c,U c=true→S c=true) (h:∀ c∈(dJ plan a ps S x).filterMap (·.2),U c=true):dJ plan a ps U x=dJ plan a ps S x:=by
 unfold dJ at h ⊢
 have h0:dX ps U (bS plan x.Product) x.Value=dX ps S (bS plan x.Product) x.Value:=by
  refine xM hUS fun c hc=>h c ?_
  rw [hc];simp [hc]
 rw [h0]
 cases hc:((dX ps S (bS plan x.Product) x.Value).2.isSome || !sk a (bS plan x.Product)||(bS plan x.Product).Inputs.isEmpty)
 ·rw [hc] at h
  simp only [bI] at h ⊢
  refine List.map_congr_left fun y hy=>xM hUS fun c hcy=>h c ?_
  exact List.mem_filterMap.2 ⟨_,List.mem_map.2 ⟨y,hy,rfl⟩,hcy⟩
 rfl
theorem wX {plan:List Zd} (a:Zb) (ps:List Int) {S U:CSet} (p:Zd) (hUS:∀ c,U c=true→S c=true) (h:∀ c∈(dc plan a ps S p).filterMap (·.2),U c=true):dc plan a ps U p=dc plan a ps S p:=by
 unfold dc at h ⊢
 have key:∀ xs:List Zg,(∀ c∈(xs.flatMap (dJ plan a ps S)).filterMap (·.2),U c=true)→xs.flatMap (dJ plan a ps U)=xs.flatMap (dJ plan a ps S):=by
  intro xs
  induction xs with
  | nil=>intro _;rfl
  | cons x xs ih =>
   intro h
   rw [List.flatMap_cons,List.filterMap_append] at h
   rw [List.flatMap_cons,List.flatMap_cons,AM a ps x hUS fun c hc=>h c (List.mem_append.2 (.inl hc)),ih fun c hc=>h c (List.mem_append.2 (.inr hc))]
 exact key _ h
theorem C8 {plan:List Zd} {l:List Zb} (hv:VPs plan) (imp:ByteArray) (c:Za) (S:CSet) (hf:(db plan c.Product).isSome=true):∀ d∈nk plan l imp c S,S d=true:=by
 intro d hd
 obtain ⟨hq1,hq,_⟩:=jD hv hf
 unfold nk at hd
 rw [yY] at hd
 obtain ⟨t,ht,he⟩:=List.mem_filterMap.1 hd
 exact wa hv _ _ S hq (fun t=>∀ d,t.2=some d→S d=true) (fun q _ v _ _ d h=>Gj h) t ht d he
theorem D2 {plan:List Zd} {l:List Zb} (hv:VPs plan) (imp:ByteArray) (c:Za) (S:CSet):qk plan l imp c (aZ (qk plan l imp c S).2)=qk plan l imp c S:=by
 unfold qk
 cases h:jh plan l imp c
 ·rfl
 simp only [bZ]
 have hin:=C8 (l:=l) hv imp c S (sX h)
 have e:dc plan (mg l c.Agreement) (dS l c.Agreement (bS plan c.Product).Country imp) (aZ (nk plan l imp c S)) (bS plan c.Product)=dc plan (mg l c.Agreement) (dS l c.Agreement (bS plan c.Product).Country imp) S (bS plan c.Product):=by
  refine wX _ _ _ (fun d hd=>hin d (eK.1 hd)) fun d hd=>eK.2 ?_
  unfold nk;rw [yY];exact hd
 unfold mh
 rw [e]
 congr 1
 show sd bJ _=sd bJ _
 rw [e]
def xw (n:Int):Zo:=⟨n / 18446744073709551616,n % 18446744073709551616⟩
def U128 (n:Int):Prop:=0≤n∧n<340282366920938463463374607431768211456
theorem xw_of {w:Zo} (h:XW w):w=xw (xv w)∧U128 (xv w):=by
 obtain ⟨a,b⟩:=w
 unfold XW U64 at h;unfold xw xv U128;dsimp only at *
 refine ⟨?_,by omega⟩
 congr 1 <;> omega
theorem xmul {a b:Int} (ha:U64 a) (hb:U64 b):jU a b=some (xw (a*b))∧U128 (a*b):=by
 obtain ⟨w,e1,e2,e3⟩:=xI ha hb
 have:=xw_of e2
 rw [e3] at this
 rw [e1];exact ⟨congrArg some this.1,this.2⟩
theorem xcmp {a b:Int} (ha:U128 a) (hb:U128 b):gy (xw a) (xw b)=some (if a<b then -1 else if a=b then 0 else 1):=by
 unfold U128 at *
 unfold gy xw Zo.eqb
 dsimp only
 by_cases h:a<b
 ·have:((decide (a / 18446744073709551616<b / 18446744073709551616))||((a / 18446744073709551616 == b / 18446744073709551616)&&(decide (a % 18446744073709551616<b % 18446744073709551616))))=true:=by
   simp only [Bool.or_eq_true,Bool.and_eq_true,decide_eq_true_eq,beq_iff_eq];omega
  rw [this,if_pos h];rfl
 ·have:((decide (a / 18446744073709551616<b / 18446744073709551616))||((a / 18446744073709551616 == b / 18446744073709551616)&&(decide (a % 18446744073709551616<b % 18446744073709551616))))=false:=by
   simp only [Bool.or_eq_false_iff,Bool.and_eq_false_iff,decide_eq_false_iff_not,beq_eq_false_iff_ne];omega
  rw [this,if_neg h]
  simp only [bI]
  by_cases h2:a=b
  ·subst h2;simp
  rw [if_neg h2]
  have:((a / 18446744073709551616 == b / 18446744073709551616)&&(a % 18446744073709551616 == b % 18446744073709551616))=false:=by
   simp only [Bool.and_eq_false_iff,beq_eq_false_iff_ne];omega
  simp [this]
theorem tL {v s p:Int} (hv:0≤v∧v≤100000000000000) (hs:0≤s∧s≤1000000) (hp:0≤p∧p≤1000000000000):jZ v s p=some (decide (v*1000000≤s*p)):=by
 unfold jZ
 rw [fG (a:=v) ⟨by omega,by omega⟩,fG (a:=s) ⟨by omega,by omega⟩,fG (a:=p) ⟨by omega,by omega⟩]
 obtain ⟨e1,u1⟩:=xmul (a:=v) (b:=1000000) ⟨by omega,by omega⟩ ⟨by omega,by omega⟩
 obtain ⟨e2,u2⟩:=xmul (a:=s) (b:=p) ⟨by omega,by omega⟩ ⟨by omega,by omega⟩
 rw [e1,be,e2,be,xcmp u1 u2,be]
 congr 1
 by_cases h:v*1000000<s*p
 ·rw [if_pos h,det (by omega),det (by omega)]
 rw [if_neg h]
 by_cases h2:v*1000000=s*p
 ·rw [if_pos h2,det (by omega),det (by omega)]
 rw [if_neg h2,bQ (by omega),bQ (by omega)]
def qn (r:Ze) (code inp:ByteArray):Bool:=iC inp (code.extract 0 r.Digits.toNat)||r.Except.any fun x=>iC inp x
theorem Gl (l:List ByteArray) (s:ByteArray) (hl:l.length≤140737488355328):cu l (fun y=>gj y s)=some (l.any fun x=>iC s x):=by
 unfold cu
 have e:cL l (fun y=>gj y s)=some (match cE (fun k x=>cond (iC s x) (some (Sum.inr (k:Int):Unit⊕Int)) none) l 0 with | some (.inr k)=>k | _ => -1):=by
  unfold cL
  refine (bE (l:=l) (by omega) (fun k x=>cond (iC s x) (some (.inr (k:Int))) none) (.inl ()) (fun k hk=>?_) (by simp only [cO,bI])).trans ?_
  ·simp only [hZ hk,bZ,aQ hk,be,bU hk (show l.length≤4611686018427387904 by omega)]
   unfold gj
   rw [sT,be,be];cases iC s l[k] <;> rfl
  cases cE (fun k x=>cond (iC s x) (some (Sum.inr (k:Int):Unit⊕Int)) none) l 0 with
  | none=>rfl
  | some t=>cases t <;> rfl
 rw [e,be]
 rcases oo (fun x=>iC s x) (fun k=>(Sum.inr (k:Int):Unit⊕Int)) l 0 with ⟨h1,h2⟩ | ⟨j,hj,h1,h2⟩
 ·rw [h1]
  have:(l.any fun x=>iC s x)=false:=by rw [List.any_eq_false];exact fun x hx=>by have:=List.find?_eq_none.1 h2 x hx;simpa using this
  rw [this];rfl
 rw [h1]
 have:(l.any fun x=>iC s x)=true:=by
  rw [List.any_eq_true];exact ⟨_,List.getElem_mem hj,List.find?_some h2⟩
 rw [this]
 show some (decide (0≤((0+j:Nat):Int)))=_
 rw [det (by omega)]
theorem rF {s:ByteArray} (h:6≤dQ s):6≤s.size:=by
 unfold dQ at h
 split at h
 ·omega
 omega
theorem wY {r:Ze} {code:ByteArray} (hd:r.Digits=2∨r.Digits=4∨r.Digits=6) (he:r.Except.length≤6) (hc:6≤dQ code) (inp:ByteArray):iJ r code inp=some (qn r code inp):=by
 unfold iJ qn
 have hs:=rF hc
 have e:ki code 0 r.Digits=some (code.extract 0 r.Digits.toNat):=by
  unfold ki;rw [if_pos (by omega)];rfl
 rw [e,be,sT,be]
 cases iC inp (code.extract 0 r.Digits.toNat)
 ·simp only [bI,Bool.false_or];rw [Gl _ _ (by omega),be]
 rfl
def wS (f:Zl→Int):List Zl→Int
 | []=>0
 | i::l=>cond i.Originating 0 (f i)+wS f l
def fV (i:Zl):Int:=i.Value
def fW (r:Ze) (code:ByteArray) (i:Zl):Int:=cond (qn r code i.Code) i.Value 0
def fN (_:Zl):Int:=1
def kL (r:Ze) (x:Zn):Bool :=
 cond (r.Kind == 1) (x.Obtained&&(wS fN x.Inputs == 0)) (cond (r.Kind == 2) (decide (wS (fW r x.Code) x.Inputs*1000000≤r.Tolerance*x.Price)) (cond (r.Kind == 3) (decide (wS fV x.Inputs*1000000≤r.Limit*x.Price)) (cond (r.Kind == 4) (lV x.Processes r.Name) false)))
theorem qo {f:Zl→Int} {b:Int} (hb:0≤b):∀ {l:List Zl},(∀ i∈l,0≤f i∧f i≤b)→0≤wS f l∧wS f l≤l.length*b
 | [],_=>by simp [wS]
 | i::l,h=>by
  have h1:=qo hb (l:=l) fun j hj=>h j (by simp [hj])
  have h2:=h i (by simp)
  rw [wS,List.length_cons]
  have e:((l.length+1:Nat):Int)*b=l.length*b+b:=by rw [Int.natCast_add,Int.add_mul];simp
  rw [e]
  cases i.Originating
  ·simp only [bI];omega
  simp only [bZ];omega
theorem prog_holds {r:Ze} {x:Zn} (hx:VCase x) (hr:em r=true):rule_holds r x=some (kL r x):=by
 unfold rule_holds
 have hfew:=hx.few
 have hrl:=mH hr
 have hvi:r.Kind=2→∀ i,iJ r x.Code i=some (qn r x.Code i):=by
  intro hk i
  have hl:=hr
  rw [hQ,hk] at hl
  simp only [j7,hk,Bool.and_eq_true] at hl
  have h3:=hl.2
  simp at h3
  exact wY (by omega) hrl.2.2 hx.lvl i
 refine (cx (l:=x.Inputs) (by omega) (fun i (s:Int×Int×Int)=>(s.1,s.2.1,s.2.2,i)) (fun s i=>(s.1+cond i.Originating 0 (fV i),s.2.1+cond i.Originating 0 (cond (r.Kind == 2) (fW r x.Code i) 0),s.2.2+cond i.Originating 0 (fN i))) (fun s=>s) (fun k s=>(0≤s.1∧s.1≤k*1000000000000)∧(0≤s.2.1∧s.2.1≤k*1000000000000)∧(0≤s.2.2∧s.2.2≤k)) (0,0,0) ⟨by simp,by simp,by simp⟩ (fun k hk s hs=>?_) (fun s _=>by simp only [cO,bI])).1.trans ?_
 ·obtain ⟨a,b,c⟩:=s
  obtain ⟨s1,s2,s3⟩:=hs
  dsimp only at s1 s2 s3 ⊢
  have hi:=hx.inp _ (List.getElem_mem hk)
  have hk100:k<100:=by omega
  simp only [hZ hk,bZ,aQ hk,be,bU hk (show x.Inputs.length≤4611686018427387904 by omega)]
  generalize x.Inputs[k]=i at hi
  unfold fV fN fW
  cases i.Originating
  ·simp only [bI]
   cases hk2:(r.Kind == 2)
   ·simp only [ji,be,Bool.false_and,bI]
    rw [cM (r:=a+i.Value) (by omega) (by omega),cM (r:=c+1) (by omega) (by omega)]
    refine ⟨by simp,⟨by omega,by omega⟩,⟨by omega,by omega⟩,by omega,by omega⟩
   rw [cH,hvi (eq_of_beq hk2),be]
   cases qn r x.Code i.Code
   ·simp only [Bool.and_false,bI,be,bZ]
    rw [cM (r:=a+i.Value) (by omega) (by omega),cM (r:=c+1) (by omega) (by omega)]
    refine ⟨by simp,⟨by omega,by omega⟩,⟨by omega,by omega⟩,by omega,by omega⟩
   simp only [Bool.and_self,bZ,be]
   rw [cM (r:=a+i.Value) (by omega) (by omega),cM (r:=c+1) (by omega) (by omega),cM (r:=b+i.Value) (by omega) (by omega)]
   refine ⟨rfl,⟨by omega,by omega⟩,⟨by omega,by omega⟩,by omega,by omega⟩
  simp only [bZ,be,Int.add_zero]
  refine ⟨trivial,⟨by omega,by omega⟩,⟨by omega,by omega⟩,by omega,by omega⟩
 have key:∀ (l:List Zl) (a b c:Int),l.foldl (fun (s:Int×Int×Int) i=>(s.1+cond i.Originating 0 (fV i),s.2.1+cond i.Originating 0 (cond (r.Kind == 2) (fW r x.Code i) 0),s.2.2+cond i.Originating 0 (fN i))) (a,b,c)=(a+wS fV l,b+wS (fun i=>cond (r.Kind == 2) (fW r x.Code i) 0) l,c+wS fN l):=by
  intro l
  induction l with
  | nil=>intro a b c;simp [wS]
  | cons i l ih=>intro a b c;rw [List.foldl_cons,ih];simp only [wS,Int.add_assoc]
 rw [key]
 dsimp only
 have hv:0≤wS fV x.Inputs∧wS fV x.Inputs≤100000000000000:=by
  have:=qo (f:=fV) (b:=1000000000000) (by omega) (l:=x.Inputs) fun i hi=>(hx.inp i hi).2
  omega
 have hw:0≤wS (fW r x.Code) x.Inputs∧wS (fW r x.Code) x.Inputs≤100000000000000:=by
  have:=qo (f:=fW r x.Code) (b:=1000000000000) (by omega) (l:=x.Inputs) fun i hi=>by
   have:=(hx.inp i hi).2
   unfold fW;cases qn r x.Code i.Code
   ·simp only [bI];omega
   exact this
  omega
 have hp:=hx.price
 unfold kL
 have hl:=hr
 rw [hQ] at hl
 unfold j7 FL at hl
 simp only [Int.zero_add]
 cases h1:(r.Kind == 1)
 ·cases h2:(r.Kind == 2)
  ·cases h3:(r.Kind == 3)
   ·simp only [bI]
    cases h4:(r.Kind == 4)
    ·rfl
    simp only [bZ];rw [se _ _ hx.proc.2.1];rfl
   have hk:=eq_of_beq h3
   rw [hk] at hl
   simp at hl
   simp only [bI,bZ]
   rw [tL hv hl.2 (by omega)];rfl
  have hk:=eq_of_beq h2
  rw [hk] at hl
  simp at hl
  simp only [bI,bZ]
  rw [tL hw (by omega) (by omega)];rfl
 simp only [bZ]
mutual
def tt:Ze→Zh
 | ⟨k,d,e,t,m,n,l⟩=>cond (k == 5) (.every_ (tts l)) (cond (k == 6) (.some_ (tts l)) (.single_ ⟨⟨k,d,e,t,m,n,l⟩⟩))
def tts:List Ze→List Zh
 | []=>[]
 | a::l=>tt a::tts l
end
theorem C9:∀ l:List Ze,tts l=l.map tt
 | []=>by rw [tts];rfl
 | a::l=>by rw [tts,C9 l];rfl
theorem tt_eq (r:Ze):tt r=cond (r.Kind == 5) (.every_ (r.Args.map tt)) (cond (r.Kind == 6) (.some_ (r.Args.map tt)) (.single_ ⟨r⟩)):=by
 cases r;rw [tt,C9]
theorem sm:∀ {l:List Ze} {a:Ze},a∈l→qN a≤nM l
 | b::l,a,h=>by
  rw [nM]
  rcases List.mem_cons.1 h with rfl | h
  ·omega
  have:=sm h;omega
theorem Gm (n:Nat):∀ r:Ze,em r=true→us r≤n→ju n r=some (tt r):=by
 induction n with
 | zero=>intro r _ hd;rw [lU] at hd;omega
 | succ n ih =>
  intro r hr hd
  obtain ⟨hl,ha,_⟩:=mH hr
  show jt (ju n) r=_
  unfold jt
  refine (cx (l:=r.Args) (by omega) (fun i (s:List Zh)=>(s,i)) (fun s x=>s++[tt x]) (fun s=>s) (fun k s=>s.length=k) [] rfl (fun k hk s hs=>?_) (fun s _=>by simp only [cO,bI])).1.trans ?_
  ·simp only [hZ hk,bZ,aQ hk,be,bU hk (show r.Args.length≤4611686018427387904 by omega)]
   rw [ih _ (ha _ (List.getElem_mem hk)) (by have:=kD (List.getElem_mem hk);omega),be,cK (by simp;omega) (by simp;omega)]
   exact ⟨rfl,by simp [hs]⟩
  have key:∀ (l:List Ze) (a:List Zh),l.foldl (fun s x=>s++[tt x]) a=a++l.map tt:=by
   intro l
   induction l with
   | nil=>intro a;simp
   | cons x l ih=>intro a;rw [List.foldl_cons,ih];simp
  rw [key,List.nil_append,tt_eq]
  cases (r.Kind == 5) <;> cases (r.Kind == 6) <;> rfl
section
variable (x:Zn)
mutual
def ka:Ze→Option (List Int)
 | ⟨k,d,e,t,m,n,l⟩=>cond (k == 5) (jz l) (cond (k == 6) (ll 0 l) (cond (kL ⟨k,d,e,t,m,n,l⟩ x) (some []) none))
def jz:List Ze→Option (List Int)
 | []=>some []
 | a::l=>(ka a).bind fun p=>(jz l).bind fun q=>some (p++q)
def ll (i:Nat):List Ze→Option (List Int)
 | []=>none
 | a::l=>match ka a with
  | some p=>some ((i:Int)::p)
  | none=>ll (i+1) l
end
end
theorem B3 (x:Zn) (r:Ze):ka x r=cond (r.Kind == 5) (jz x r.Args) (cond (r.Kind == 6) (ll x 0 r.Args) (cond (kL r x) (some []) none)):=by
 cases r;rw [ka]
mutual
theorem sn (x:Zn):∀ (r:Ze) (p:List Int),ka x r=some p→p.length≤qN r
 | ⟨k,d,e,t,m,n,l⟩,p,h=>by
  rw [ka] at h
  rw [qN]
  cases h5:(k == 5)
  ·rw [h5] at h
   simp only [bI] at h
   cases h6:(k == 6)
   ·rw [h6] at h
    simp only [bI] at h
    cases hh:kL ⟨k,d,e,t,m,n,l⟩ x
    ·rw [hh] at h;cases h
    rw [hh] at h;injection h with h;subst h;simp
   rw [h6] at h
   exact AN x l 0 p h
  rw [h5] at h
  have:=AO x l p h;omega
theorem AO (x:Zn):∀ (l:List Ze) (p:List Int),jz x l=some p→p.length≤nM l
 | [],p,h=>by rw [jz] at h;injection h with h;subst h;simp
 | a::l,p,h=>by
  rw [jz] at h
  rw [nM]
  cases ha:ka x a with
  | none=>rw [ha] at h;cases h
  | some q =>
   rw [ha,be] at h
   cases hl:jz x l with
   | none=>rw [hl] at h;cases h
   | some s =>
    rw [hl,be] at h
    injection h with h
    subst h
    have h1:=sn x a q ha
    have h2:=AO x l s hl
    rw [List.length_append];omega
theorem AN (x:Zn):∀ (l:List Ze) (i:Nat) (p:List Int),ll x i l=some p→p.length≤1+nM l
 | [],i,p,h=>by rw [ll] at h;cases h
 | a::l,i,p,h=>by
  rw [ll] at h
  rw [nM]
  cases ha:ka x a with
  | none =>
   rw [ha] at h
   have:=AN x l (i+1) p h;omega
  | some q =>
   rw [ha] at h
   injection h with h
   subst h
   have h1:=sn x a q ha
   rw [List.length_cons];omega
end
theorem concatI (a b:List Int) (h:a.length+b.length≤1000000):dC [a,b]=some (a++b):=by
 unfold dC gJ
 refine (km (l:=[a,b]) (by simp) (fun i (s:Nat)=>((s:Int),i)) (fun _ x s=>(.inl (s+x.length):Nat⊕Empty)) (fun (s:Nat)=>(s:Int)) noE (fun k s=>s≤1000000∧s=([a,b].take k).flatten.length) 0 ⟨by omega,rfl⟩ (fun k hk s hs=>⟨?_,fun s' h'=>?_⟩) (fun s _=>by simp only [cO,bI])).trans ?_
 ·have hb:s+([a,b][k]).length≤1000000:=by
   obtain ⟨_,e⟩:=hs
   match k,hk with
   | 0,_=>simp at e;subst e;simp;omega
   | 1,_=>simp at e;subst e;simp;omega
  simp only [hZ hk,bZ,aQ hk,be,bU hk (show [a,b].length≤4611686018427387904 by simp),Ak]
  rw [cM (by omega) (by omega),bQ (by omega)]
  simp only [bI,Int.natCast_add]
 ·injection h' with h'
  obtain ⟨h1,h2⟩:=hs
  subst h'
  match k,hk with
  | 0,_=>simp at h2 ⊢;subst h2;simp;omega
  | 1,_=>simp at h2 ⊢;subst h2;omega
 show Option.bind (Option.bind (DH 8 ((0+a.length+b.length:Nat):Int)) _) _=_
 rw [BG (by omega) (by omega),be,be]
 refine (cx (l:=[a,b]) (by simp) (fun i (s:List Int)=>(s,i)) (fun s x=>s++x) (fun s=>s) (fun k s=>s=([a,b].take k).flatten) [] rfl (fun k hk s hs=>⟨?_,?_⟩) (fun s _=>by simp only [cO,bI])).1.trans ?_
 ·have hb:s.length+([a,b][k]).length≤1000000:=by
   match k,hk with
   | 0,_=>simp at hs;subst hs;simp;omega
   | 1,_=>simp at hs;subst hs;simp;omega
  simp only [hZ hk,bZ,aQ hk,be,bU hk (show [a,b].length≤4611686018427387904 by simp)]
  rw [cK (by omega) (by omega)];rfl
 ·match k,hk with
  | 0,_=>simp at hs;subst hs;simp
  | 1,_=>simp at hs;subst hs;simp
 simp
theorem D3 (x:Zn) (hx:VCase x) (n:Nat):∀ r:Ze,em r=true→qN r≤1000→us r≤n→Irule_test_witness_F n (tt r) x=some (iD [] (ka x r)):=by
 induction n with
 | zero=>intro r _ _ hd;rw [lU] at hd;omega
 | succ n ih =>
  intro r hr hc hd
  obtain ⟨hl,ha,_⟩:=mH hr
  have hargs:∀ k (hk:k<r.Args.length),Irule_test_witness_F n (tt r.Args[k]) x=some (iD [] (ka x r.Args[k])):=fun k hk=>ih _ (ha _ (List.getElem_mem hk)) (by have:=qd r;have:=sm (List.getElem_mem hk);omega) (by have:=kD (List.getElem_mem hk);omega)
  have hcl:∀ k (hk:k<r.Args.length) p,ka x r.Args[k]=some p→p.length≤1000:=fun k hk p h=>by have h1:=sn x _ p h;have:=qd r;have:=sm (List.getElem_mem hk);omega
  show Irule_test_witness_B (Irule_test_witness_F n) (tt r) x=_
  rw [tt_eq,B3]
  have hml:(r.Args.map tt).length=r.Args.length:=List.length_map _
  have hmi:∀ k (hk:k<(r.Args.map tt).length),(r.Args.map tt)[k]=tt (r.Args[k]'(by omega)):=fun k hk=>by rw [List.getElem_map]
  cases h5:(r.Kind == 5)
  ·cases h6:(r.Kind == 6)
   ·show fx ⟨r⟩ x=_
    unfold fx
    rw [prog_holds hx hr,be]
    simp only [bI]
    cases kL r x <;> rfl
   show fw (Irule_test_witness_F n) (r.Args.map tt) x=_
   unfold fw
   refine (bE (l:=r.Args.map tt) (by omega) (fun k t=>match Irule_test_witness_F n t x with | some (p,true)=>some (.inr ((k:Int)::p,true)) | _=>none) (.inl ()) (fun k hk=>?_) (by simp only [cO,bI])).trans ?_
   ·simp only [hZ hk,bZ,aQ hk,be,bU hk (show (r.Args.map tt).length≤4611686018427387904 by omega),hmi k hk]
    rw [hargs k (by omega)]
    have:=hcl k (by omega)
    cases hw:ka x (r.Args[k]'(by omega)) with
    | none=>rfl
    | some p =>
     have:=this p hw
     show Option.bind (dC [[(k:Int)],p]) _=_
     rw [concatI _ _ (by simp;omega)];rfl
   have key:∀ (m:List Ze) (i:Nat),(∀ j (hj:j<m.length),Irule_test_witness_F n (tt m[j]) x=some (iD [] (ka x m[j])))→cE (fun k t=>match Irule_test_witness_F n t x with | some (p,true)=>some (Sum.inr ((k:Int)::p,true):Unit⊕(List Int×Bool)) | _=>none) (m.map tt) i=(ll x i m).map fun p=>Sum.inr (p,true):=by
    intro m
    induction m with
    | nil=>intro i _;rw [ll];rfl
    | cons a m ih =>
     intro i h
     have h0:=h 0 (by simp)
     have h1:=ih (i+1) fun j hj=>h (j+1) (by simpa using hj)
     rw [List.map_cons,cE,ll,h1]
     change Irule_test_witness_F n (tt a) x=some (iD [] (ka x a)) at h0
     rw [h0]
     cases ka x a <;> rfl
   rw [key _ 0 hargs]
   simp only [bI,bZ]
   cases ll x 0 r.Args <;> rfl
  show e8 (Irule_test_witness_F n) (r.Args.map tt) x=_
  unfold e8
  simp only [bZ]
  refine (km (l:=r.Args.map tt) (by omega) (fun i (s:List Int)=>(s,i)) (fun _ t s=>match Irule_test_witness_F n t x with | some (p,true)=>(.inl (s++p):List Int⊕Unit) | _=>.inr ()) (fun s=>.inl s) (fun _=>.inr ([],false)) (fun k s=>s.length≤k*1000) [] (by simp) (fun k hk s hs=>⟨?_,fun s' h'=>?_⟩) (fun s _=>by simp only [cO,bI])).trans ?_
  ·simp only [hZ hk,bZ,aQ hk,be,bU hk (show (r.Args.map tt).length≤4611686018427387904 by omega),hmi k hk]
   rw [hargs k (by omega)]
   have:=hcl k (by omega)
   cases hw:ka x (r.Args[k]'(by omega)) with
   | none=>rfl
   | some p =>
    have:=this p hw
    show Option.bind (app 8 s p) _=_
    rw [cK (by omega) (by omega)];rfl
  ·have h0:=hargs k (by omega)
   have:=hcl k (by omega)
   rw [hmi k hk,h0] at h'
   cases hw:ka x (r.Args[k]'(by omega)) with
   | none=>rw [hw] at h';cases h'
   | some p =>
    have:=this p hw
    rw [hw] at h'
    injection h' with h'
    subst h'
    rw [List.length_append];omega
  have key:∀ (m:List Ze) (i:Nat) (s:List Int),(∀ j (hj:j<m.length),Irule_test_witness_F n (tt m[j]) x=some (iD [] (ka x m[j])))→run (fun _ t s=>match Irule_test_witness_F n t x with | some (p,true)=>(.inl (s++p):List Int⊕Unit) | _=>.inr ()) (m.map tt) i s=match jz x m with | some p=>.inl (s++p) | none=>.inr ():=by
   intro m
   induction m with
   | nil=>intro i s _;rw [jz];simp [run]
   | cons a m ih =>
    intro i s h
    have h0:=h 0 (by simp)
    have h1:=fun s=>ih (i+1) s fun j hj=>h (j+1) (by simpa using hj)
    rw [List.map_cons,jj,jz]
    change Irule_test_witness_F n (tt a) x=some (iD [] (ka x a)) at h0
    rw [h0]
    cases ka x a with
    | none=>rfl
    | some p =>
     show run _ (m.map tt) (i+1) (s++p)=_
     rw [h1,be]
     cases jz x m with
     | none=>rfl
     | some q=>show Sum.inl (s++p++q)=Sum.inl (s++(p++q));rw [List.append_assoc]
  rw [key _ 0 [] hargs]
  cases jz x r.Args <;> rfl
theorem zd {r:Ze} {x:Zn} (hx:VCase x) (ok:ROk r) (hr:em r=true) (hc:qN r≤32):kA r x=some (iD [] (ka x r)):=by
 have hd:=r7 r
 have hf:FUEL=1267650600228229401496703205376:=rfl
 unfold kA jB
 rw [qB r ok (by omega),(ni r).2 ⟨hc,hr⟩,be,show ((0:Int) == 0)=true from rfl,cH,we hx,be,be]
 show Option.bind (ju FUEL r) _=_
 rw [Gm FUEL r hr (by omega),be]
 show Option.bind (Irule_test_witness_F FUEL (tt r) x) _=_
 rw [D3 x hx FUEL r hr (by omega) (by omega)];rfl
mutual
theorem AP {x y:Zn} (h:∀ r,em r=true→kL r x=true→kL r y=true):∀ r:Ze,em r=true→(ka x r).isSome=true→(ka y r).isSome=true
 | ⟨k,d,e,t,m,n,l⟩,hr,hw=>by
  have hl:=hr
  rw [em] at hl
  rw [ka] at hw ⊢
  cases h5:(k == 5)
  ·rw [h5] at hw hl
   simp only [bI] at hw ⊢
   cases h6:(k == 6)
   ·rw [h6] at hw
    simp only [bI] at hw ⊢
    cases hh:kL ⟨k,d,e,t,m,n,l⟩ x
    ·rw [hh] at hw;cases hw
    rw [h _ hr hh];rfl
   rw [h6] at hw hl
   simp only [Bool.or_true,bZ,Bool.and_eq_true] at hl
   exact xN h l 0 0 k hl.2.2 hw
  rw [h5] at hw hl
  simp only [Bool.true_or,bZ,Bool.and_eq_true] at hl
  exact xO h l k hl.2.2 hw
theorem xO {x y:Zn} (h:∀ r,em r=true→kL r x=true→kL r y=true):∀ (l:List Ze) (k:Int),oY k l=true→(jz x l).isSome=true→(jz y l).isSome=true
 | [],k,_,_=>by rw [jz];rfl
 | a::l,k,hr,hw=>by
  rw [oY] at hr
  simp only [Bool.and_eq_true] at hr
  rw [jz] at hw ⊢
  have h1:=AP h a hr.1.2
  have h2:=xO h l k hr.2
  cases ha:ka x a with
  | none=>rw [ha] at hw;cases hw
  | some p =>
   cases hl:jz x l with
   | none=>rw [ha,hl] at hw;cases hw
   | some q =>
    rw [ha] at h1;rw [hl] at h2
    obtain ⟨p',e1⟩:=Option.isSome_iff_exists.1 (h1 rfl)
    obtain ⟨q',e2⟩:=Option.isSome_iff_exists.1 (h2 rfl)
    rw [e1,e2];rfl
theorem xN {x y:Zn} (h:∀ r,em r=true→kL r x=true→kL r y=true):∀ (l:List Ze) (i j:Nat) (k:Int),oY k l=true→(ll x i l).isSome=true→(ll y j l).isSome=true
 | [],i,j,k,_,hw=>by rw [ll] at hw;cases hw
 | a::l,i,j,k,hr,hw=>by
  rw [oY] at hr
  simp only [Bool.and_eq_true] at hr
  rw [ll] at hw ⊢
  have h1:=AP h a hr.1.2
  cases ha:ka x a with
  | none =>
   rw [ha] at hw
   cases ka y a with
   | none=>exact xN h l (i+1) (j+1) k hr.2 hw
   | some p=>rfl
  | some p =>
   rw [ha] at h1
   obtain ⟨p',e1⟩:=Option.isSome_iff_exists.1 (h1 rfl)
   rw [e1];rfl
end
structure Wt (f:Zl→Int):Prop where
 same:∀ c v a b,f ⟨c,v,a⟩=f ⟨c,v,b⟩
 pos:∀ i:Zl,0≤i.Value→0≤f i
section
variable {γ δ π:Type} [DecidableEq δ] (gc:γ→δ) (cl:π→δ) (pv:(δ→Bool)→γ→Option π)
def jN:Nat→List γ→List π→List π
 | 0,_,ps=>ps
 | n+1,o,ps=>cond (o.filterMap (pv (aZ (ps.map cl)))).isEmpty ps (jN n (o.filter fun g=>(pv (aZ (ps.map cl)) g).isNone) (ps++o.filterMap (pv (aZ (ps.map cl)))))
def so (G:List γ):Nat→List π→List π
 | 0,ps=>ps
 | n+1,ps=>cond (G.filterMap fun g=>cond (aZ (ps.map cl) (gc g)) none (pv (aZ (ps.map cl)) g)).isEmpty ps (so G n (ps++G.filterMap fun g=>cond (aZ (ps.map cl) (gc g)) none (pv (aZ (ps.map cl)) g)))
def Closed (G:List γ) (T:δ→Bool):Prop:=∀ g∈G,(pv T g).isSome=true→T (gc g)=true
structure RInv (G o:List γ) (ps:List π):Prop where
 all:∀ g∈G,g∈o∨aZ (ps.map cl) (gc g)=true
 opn:∀ g∈o,g∈G∧aZ (ps.map cl) (gc g)=false
 prv:∀ p∈ps,∃ g∈G,gc g=cl p∧(pv (aZ (ps.map cl)) g).isSome=true
 lst:∀ T,Closed gc pv G T→∀ p∈ps,T (cl p)=true
variable {gc cl pv} (hcl:∀ S g p,pv S g=some p→cl p=gc g)
theorem iE {l:List π} {c:δ}:aZ (l.map cl) c=true↔∃ p∈l,cl p=c:=by rw [eK,List.mem_map]
theorem sq {o:List γ} {f:γ→Option π} (h:(o.filterMap f).isEmpty=false):(o.filter fun g=>(f g).isNone).length<o.length:=by
 induction o with
 | nil=>cases h
 | cons g o ih =>
  rw [List.filter_cons]
  cases hf:f g with
  | some p =>
   have:=List.length_filter_le (fun g=>(f g).isNone) o
   simp only [Option.isNone_some,Bool.false_eq_true,if_false,List.length_cons];omega
  | none =>
   rw [List.filterMap_cons_none hf] at h
   have:=ih h
   simp only [Option.isNone_none,if_true,List.length_cons];omega
include hcl in
theorem B4 {G:List γ} (inj:∀ g∈G,∀ g'∈G,gc g=gc g'→g=g'):∀ (n:Nat) (ps:List π),jN cl pv n (G.filter fun g => !aZ (ps.map cl) (gc g)) ps=so gc cl pv G n ps:=by
 intro n
 induction n with
 | zero=>intro ps;rfl
 | succ n ih =>
  intro ps
  rw [jN,so]
  have e1:(G.filter fun g => !aZ (ps.map cl) (gc g)).filterMap (pv (aZ (ps.map cl)))=G.filterMap fun g=>cond (aZ (ps.map cl) (gc g)) none (pv (aZ (ps.map cl)) g):=by
   generalize pv (aZ (ps.map cl))=f
   generalize aZ (ps.map cl)=m
   clear ih inj
   induction G with
   | nil=>rfl
   | cons g G ihG =>
    rw [List.filter_cons]
    cases hm:m (gc g)
    ·simp only [Bool.not_false,if_true,List.filterMap_cons,ihG,hm,bI]
    simp only [Bool.not_true,Bool.false_eq_true,if_false,List.filterMap_cons,ihG,hm,bZ]
  rw [e1]
  have e2:((G.filter fun g => !aZ (ps.map cl) (gc g)).filter fun g=>(pv (aZ (ps.map cl)) g).isNone)=G.filter fun g => !aZ ((ps++G.filterMap fun g=>cond (aZ (ps.map cl) (gc g)) none (pv (aZ (ps.map cl)) g)).map cl) (gc g):=by
   rw [List.filter_filter]
   refine List.filter_congr fun g hg=>?_
   cases hm:aZ (ps.map cl) (gc g)
   ·cases hp:pv (aZ (ps.map cl)) g with
    | none =>
     cases hq:aZ ((ps++G.filterMap fun g=>cond (aZ (ps.map cl) (gc g)) none (pv (aZ (ps.map cl)) g)).map cl) (gc g)
     ·rfl
     ·obtain ⟨p,k1,k2⟩:=iE.1 hq
      rcases List.mem_append.1 k1 with k1 | k1
      ·rw [iE.2 ⟨p,k1,k2⟩] at hm;cases hm
      ·obtain ⟨g',hg',he⟩:=List.mem_filterMap.1 k1
       cases hm':aZ (ps.map cl) (gc g')
       ·rw [hm'] at he
        have:=inj g' hg' g hg ((hcl _ _ _ he).symm.trans k2)
        subst this
        rw [bI,hp] at he;cases he
       ·rw [hm'] at he;cases he
    | some p =>
     have:aZ ((ps++G.filterMap fun g=>cond (aZ (ps.map cl) (gc g)) none (pv (aZ (ps.map cl)) g)).map cl) (gc g)=true:=iE.2 ⟨p,List.mem_append.2 (.inr (List.mem_filterMap.2 ⟨g,hg,by rw [hm];exact hp⟩)),hcl _ _ _ hp⟩
     rw [this];rfl
   have:aZ ((ps++G.filterMap fun g=>cond (aZ (ps.map cl) (gc g)) none (pv (aZ (ps.map cl)) g)).map cl) (gc g)=true:=by
    obtain ⟨p,k1,k2⟩:=iE.1 hm
    exact iE.2 ⟨p,List.mem_append.2 (.inl k1),k2⟩
   rw [this]
   cases (pv (aZ (ps.map cl)) g).isNone <;> rfl
  rw [e2,ih]
end
abbrev Goal:=Za×Ze
abbrev Prf:=Za×List Int×List Za
def cI (plan:List Zd) (l:List Zb) (imp:ByteArray):List Goal:=plan.flatMap fun p=>l.filterMap fun a=>cond (jh plan l imp ⟨p.ID,a.ID⟩) ((dz a p.Code).map fun r=>((⟨p.ID,a.ID⟩:Za),r)) none
def eD (plan:List Zd) (l:List Zb) (imp:ByteArray) (S:CSet) (g:Goal):Option Prf:=(ka (mh plan l imp g.1 S) g.2).map fun path=>(g.1,path,nk plan l imp g.1 S)
def iX (plan:List Zd) (l:List Zb) (imp:ByteArray):List Prf:=jN (fun p:Prf=>p.1) (eD plan l imp) (cI plan l imp).length (cI plan l imp) []
theorem ou {plan:List Zd} {l:List Zb} {imp:ByteArray} {g:Goal}:g∈cI plan l imp↔∃ p∈plan,∃ a∈l,jh plan l imp ⟨p.ID,a.ID⟩=true∧dz a p.Code=some g.2∧g.1=⟨p.ID,a.ID⟩:=by
 unfold cI
 rw [List.mem_flatMap]
 constructor
 ·rintro ⟨p,hp,hg⟩
  obtain ⟨a,ha,he⟩:=List.mem_filterMap.1 hg
  cases hc:jh plan l imp ⟨p.ID,a.ID⟩
  ·rw [hc] at he;cases he
  rw [hc,bZ] at he
  cases hr:dz a p.Code with
  | none=>rw [hr] at he;cases he
  | some r =>
   rw [hr,Option.map_some] at he
   injection he with he
   subst he
   exact ⟨p,hp,a,ha,hc,hr,rfl⟩
 rintro ⟨p,hp,a,ha,hc,hr,hg⟩
 obtain ⟨c,r⟩:=g
 dsimp only at hr hg
 subst hg
 exact ⟨p,hp,List.mem_filterMap.2 ⟨a,ha,by rw [hc,hr];rfl⟩⟩
theorem ze {α:Type} {f:α→Int} {l:List α} (h:l.Pairwise fun a b=>f a<f b) {a b:α} (ha:a∈l) (hb:b∈l) (e:f a=f b):a=b:=by
 induction l with
 | nil=>cases ha
 | cons x l ih =>
  obtain ⟨h1,h2⟩:=List.pairwise_cons.1 h
  rcases List.mem_cons.1 ha with e1 | ha'
  ·rcases List.mem_cons.1 hb with e2 | hb'
   ·rw [e1,e2]
   have:=h1 b hb';rw [← e1] at this;omega
  rcases List.mem_cons.1 hb with e2 | hb'
  ·have:=h1 a ha';rw [← e2] at this;omega
  exact ih h2 ha' hb'
theorem qE {plan:List Zd} {l:List Zb} {imp:ByteArray} (hv:VPs plan) (hl:AscA l):∀ g∈cI plan l imp,∀ g'∈cI plan l imp,g.1=g'.1→g=g':=by
 intro g hg g' hg' e
 obtain ⟨p,hp,a,ha,_,hr,h1⟩:=ou.1 hg
 obtain ⟨p',hp',a',ha',_,hr',h1'⟩:=ou.1 hg'
 rw [h1,h1'] at e
 injection e with e1 e2
 have:=ze hv.asc hp hp' e1
 have:=ze hl ha ha' e2
 subst_vars
 rw [hr] at hr'
 injection hr' with hr'
 exact Prod.ext (h1.trans h1'.symm) hr'
theorem wf {a:Zb} (ha:VA a) {code:ByteArray} {r:Ze} (h:dz a code=some r):ROk r∧em r=true∧qN r≤32:=by
 rcases o4 a code with ⟨_,h2⟩ | ⟨j,hj,_,h2⟩
 ·rw [h2] at h;cases h
 rw [h2] at h
 injection h with h
 have h1:=(ni _).1 (ha.rules _ (List.getElem_mem hj))
 have h3:=ha.ok.rules _ (List.getElem_mem hj)
 rw [← h]
 exact ⟨h3.rule,h1.2,h1.1⟩
theorem xP {plan:List Zd} {l:List Zb} {imp:ByteArray} (hl:VAs l) {g:Goal} (hg:g∈cI plan l imp):ROk g.2∧em g.2=true∧qN g.2≤32:=by
 obtain ⟨p,hp,a,ha,_,hr,_⟩:=ou.1 hg
 exact wf (hl.all a ha) hr
theorem pb {plan:List Zd} {l:List Zb} {imp:ByteArray} {g:Goal} (hg:g∈cI plan l imp):jh plan l imp g.1=true∧(db plan g.1.Product).isSome=true:=by
 obtain ⟨p,hp,a,ha,hc,_,h1⟩:=ou.1 hg
 rw [h1];exact ⟨hc,sX hc⟩
theorem B5 (plan:List Zd) (l:List Zb) (imp:ByteArray):∀ (S:CSet) (g:Goal) (p:Prf),eD plan l imp S g=some p→p.1=g.1:=by
 intro S g p h
 unfold eD at h
 cases hw:ka (mh plan l imp g.1 S) g.2 with
 | none=>rw [hw] at h;cases h
 | some q=>rw [hw,Option.map_some] at h;injection h with h;rw [← h]
inductive Chp:List Zg→List Zg→Prop
 | nil:Chp [] []
 | cons {x y:Zg} {l m:List Zg} (h1:y.Product=x.Product) (h2:0≤y.Value) (h3:y.Value≤x.Value) (h:Chp l m):Chp (x::l) (y::m)
theorem Chp.empty {l m:List Zg} (h:Chp l m):m.isEmpty=l.isEmpty:=by cases h <;> rfl
theorem Chp.refl:∀ {l:List Zg},(∀ x∈l,0≤x.Value)→Chp l l
 | [],_=>.nil
 | x::l,h=>.cons rfl (h x (by simp)) (Int.le_refl _) (Chp.refl fun y hy=>h y (by simp [hy]))
structure PLe (p q:Zd):Prop where
 id:q.ID=p.ID
 code:q.Code=p.Code
 ctr:q.Country=p.Country
 price:q.Price=p.Price
 obt:q.Obtained=p.Obtained
 proc:q.Processes=p.Processes
 inp:Chp p.Inputs q.Inputs
structure WtM (f:Zl→Int):Prop where
 wt:Wt f
 le:∀ c v w a,0≤v→v≤w→f ⟨c,v,a⟩≤f ⟨c,w,a⟩
section
variable {ps ps':List Int} {S T:CSet} (hps:∀ x∈ps,x∈ps') (hST:∀ c,S c=true→T c=true)
variable {plan plan':List Zd} (hpl:∀ id,(db plan id).isSome=true→PLe (bS plan id) (bS plan' id))
end
inductive PsLe:List Zd→List Zd→Prop
 | nil:PsLe [] []
 | cons {p q:Zd} {l m:List Zd} (h1:PLe p q) (h:PsLe l m):PsLe (p::l) (q::m)
theorem PsLe.find {l m:List Zd} (h:PsLe l m) (id:Int):(db l id=none∧db m id=none)∨∃ p q,db l id=some p∧db m id=some q∧PLe p q:=by
 induction h with
 | nil=>exact .inl ⟨rfl,rfl⟩
 | @cons p q l m h1 h ih =>
  unfold db at ih ⊢
  rw [List.find?_cons,List.find?_cons,h1.id]
  cases p.ID == id
  ·exact ih
  exact .inr ⟨p,q,rfl,rfl,h1⟩
theorem PsLe.mem {l m:List Zd} (h:PsLe l m) {p:Zd} (hp:p∈l):∃ q∈m,PLe p q:=by
 induction h with
 | nil=>cases hp
 | @cons x q l m h1 h ih =>
  rcases List.mem_cons.1 hp with e | hp'
  ·subst e;exact ⟨q,by simp,h1⟩
  obtain ⟨r,k1,k2⟩:=ih hp'
  exact ⟨r,by simp [k1],k2⟩
theorem PLe.refl {plan:List Zd} {p:Zd} (h:VProd plan p):PLe p p:=⟨rfl,rfl,rfl,rfl,rfl,rfl,Chp.refl fun x hx=>(h.inp x hx).2.1⟩
section
variable {plan:List Zd} (R:Int→Bool) (hR:∀ p∈plan,R p.ID=true→∀ y∈p.Inputs,R y.Product=true)
end
section
variable (x:Zn)
mutual
def fol:Ze→List Int→Option (List Int)
 | ⟨k,d,e,t,m,n,l⟩,p=>cond (k == 5) (B6 l p) (cond (k == 6) (cond (!p.isEmpty&&decide (0≤p.headD 0)) (wZ l (p.headD 0).toNat p.tail) none) (cond (kL ⟨k,d,e,t,m,n,l⟩ x) (some p) none))
def B6:List Ze→List Int→Option (List Int)
 | [],p=>some p
 | a::l,p=>match fol a p with
  | some q=>B6 l q
  | none=>none
def wZ:List Ze→Nat→List Int→Option (List Int)
 | [],_,_=>none
 | a::_,0,p=>fol a p
 | _::l,n+1,p=>wZ l n p
end
end
mutual
theorem Da (x:Zn):∀ (r:Ze) (p q:List Int),fol x r p=some q→(ka x r).isSome=true
 | ⟨k,d,e,t,m,n,l⟩,p,q,h=>by
  rw [fol] at h
  rw [ka]
  cases h5:(k == 5)
  ·rw [h5] at h
   simp only [bI] at h ⊢
   cases h6:(k == 6)
   ·rw [h6] at h
    simp only [bI] at h ⊢
    cases hh:kL ⟨k,d,e,t,m,n,l⟩ x
    ·rw [hh] at h;cases h
    rfl
   rw [h6] at h
   simp only [bZ] at h ⊢
   cases hi:(!p.isEmpty&&decide (0≤p.headD 0))
   ·rw [hi] at h;cases h
   rw [hi] at h;exact AQ x l _ 0 _ q h
  rw [h5] at h
  exact AR x l p q h
theorem AR (x:Zn):∀ (l:List Ze) (p q:List Int),B6 x l p=some q→(jz x l).isSome=true
 | [],p,q,h=>by rw [jz];rfl
 | a::l,p,q,h=>by
  rw [B6] at h
  rw [jz]
  cases ha:fol x a p with
  | none=>rw [ha] at h;cases h
  | some s =>
   rw [ha] at h
   obtain ⟨w,e1⟩:=Option.isSome_iff_exists.1 (Da x a p s ha)
   obtain ⟨v,e2⟩:=Option.isSome_iff_exists.1 (AR x l s q h)
   rw [e1,e2];rfl
theorem AQ (x:Zn):∀ (l:List Ze) (n i:Nat) (p q:List Int),wZ x l n p=some q→(ll x i l).isSome=true
 | [],n,i,p,q,h=>by rw [wZ] at h;cases h
 | a::l,0,i,p,q,h=>by
  rw [wZ] at h
  rw [ll]
  obtain ⟨w,e1⟩:=Option.isSome_iff_exists.1 (Da x a p q h)
  rw [e1];rfl
 | a::l,n+1,i,p,q,h=>by
  rw [wZ] at h
  rw [ll]
  cases ka x a with
  | none=>exact AQ x l n (i+1) p q h
  | some w=>rfl
end
mutual
theorem zf (x:Zn):∀ (r:Ze) (w t:List Int),ka x r=some w→fol x r (w++t)=some t
 | ⟨k,d,e,u,m,n,l⟩,w,t,h=>by
  rw [ka] at h
  rw [fol]
  cases h5:(k == 5)
  ·rw [h5] at h
   simp only [bI] at h ⊢
   cases h6:(k == 6)
   ·rw [h6] at h
    simp only [bI] at h ⊢
    cases hh:kL ⟨k,d,e,u,m,n,l⟩ x
    ·rw [hh] at h;cases h
    rw [hh] at h;injection h with h;subst h;rfl
   rw [h6] at h
   simp only [bZ] at h ⊢
   obtain ⟨j,v,e1,e2⟩:=AS x l 0 w t h
   subst e1
   show cond (true&&decide (0≤((0+j:Nat):Int))) (wZ x l ((0+j:Nat):Int).toNat (v++t)) none=_
   rw [det (by omega),Bool.and_self,bZ,show ((0+j:Nat):Int).toNat=j by omega]
   exact e2
  rw [h5] at h
  exact AT x l w t h
theorem AT (x:Zn):∀ (l:List Ze) (w t:List Int),jz x l=some w→B6 x l (w++t)=some t
 | [],w,t,h=>by rw [jz] at h;injection h with h;subst h;rw [B6];rfl
 | a::l,w,t,h=>by
  rw [jz] at h
  rw [B6]
  cases ha:ka x a with
  | none=>rw [ha] at h;cases h
  | some p =>
   cases hl:jz x l with
   | none=>rw [ha,hl] at h;cases h
   | some q =>
    rw [ha,hl,be,be] at h
    injection h with h
    subst h
    rw [List.append_assoc,zf x a p (q++t) ha]
    exact AT x l q t hl
theorem AS (x:Zn):∀ (l:List Ze) (i:Nat) (w t:List Int),ll x i l=some w→∃ (j:Nat) (v:List Int),w=((i+j:Nat):Int)::v∧wZ x l j (v++t)=some t
 | [],i,w,t,h=>by rw [ll] at h;cases h
 | a::l,i,w,t,h=>by
  rw [ll] at h
  cases ha:ka x a with
  | none =>
   rw [ha] at h
   obtain ⟨j,v,e1,e2⟩:=AS x l (i+1) w t h
   exact ⟨j+1,v,by rw [e1];congr 2;omega,by rw [wZ];exact e2⟩
  | some p =>
   rw [ha] at h
   injection h with h
   exact ⟨0,p,h.symm,by rw [wZ];exact zf x a p t ha⟩
end
def wg (plan:List Zd) (l:List Zb) (c:Za):Ze:=(dz (mg l c.Agreement) (bS plan c.Product).Code).getD vR
def zg (plan:List Zd) (l:List Zb) (imp:ByteArray) (K:CSet) (p:Prf):Bool :=
 jh plan l imp p.1 && !K p.1&&p.2.2.all K&&decide (nk plan l imp p.1 (aZ p.2.2)=p.2.2)&&decide (fol (mh plan l imp p.1 (aZ p.2.2)) (wg plan l p.1) p.2.1=some [])
def B7 (plan:List Zd) (l:List Zb) (imp:ByteArray):List Za→List Prf→Bool
 | _,[]=>true
 | K,p::ps=>zg plan l imp (aZ K) p&&B7 plan l imp (K++[p.1]) ps
theorem Gn {plan:List Zd} {l:List Zb} {imp:ByteArray} {c:Za} (h:jh plan l imp c=true):(c,wg plan l c)∈cI plan l imp:=by
 obtain ⟨q,a,r,e1,e2,e3,_⟩:=ot h
 have h1:=sV e1
 have h2:a∈l∧a.ID=c.Agreement:=⟨List.mem_of_find?_eq_some e2,by have:=List.find?_some e2;simpa using this⟩
 have ec:c=⟨q.ID,a.ID⟩:=by obtain ⟨x,y⟩:=c;dsimp only at h1 h2;rw [h1.2,h2.2]
 have er:wg plan l c=r:=by unfold wg mg bS;rw [e1,e2];show (dz a q.Code).getD vR=r;rw [e3];rfl
 exact ou.2 ⟨q,h1.1,a,h2.1,by rw [← ec];exact h,by rw [er];exact e3,ec⟩
theorem zh {plan:List Zd} {l:List Zb} {imp:ByteArray} (hv:VPs plan) (ha:AscA l) {g:Goal} (hg:g∈cI plan l imp):wg plan l g.1=g.2:=by
 have h:=qE hv ha _ (Gn (pb hg).1) _ hg rfl
 exact congrArg Prod.snd h
theorem wh {plan:List Zd} {l:List Zb} {imp:ByteArray}:∀ (a b:List Prf) (K:List Za),B7 plan l imp K (a++b)=(B7 plan l imp K a&&B7 plan l imp (K++a.map (·.1)) b)
 | [],b,K=>by rw [List.nil_append,B7,Bool.true_and,List.map_nil,List.append_nil]
 | p::a,b,K=>by rw [List.cons_append,B7,B7,wh a b,Bool.and_assoc,List.append_assoc];rfl
theorem wi {plan:List Zd} {l:List Zb} (hv:VPs plan) (imp:ByteArray) {c:Za} (S:CSet) (h:jh plan l imp c=true):mh plan l imp c (aZ (nk plan l imp c S))=mh plan l imp c S∧nk plan l imp c (aZ (nk plan l imp c S))=nk plan l imp c S:=by
 have e:=D2 (l:=l) hv imp c S
 unfold qk at e
 rw [h] at e
 simp only [bZ] at e
 exact ⟨congrArg Prod.fst e,congrArg Prod.snd e⟩
theorem D4 {plan:List Zd} {l:List Zb} (hv:VPs plan) (ha:AscA l) {imp:ByteArray} {S K:CSet} (hSK:∀ c,S c=true→K c=true) {g:Goal} (hg:g∈cI plan l imp) (hn:K g.1=false) {p:Prf} (h:eD plan l imp S g=some p):zg plan l imp K p=true∧p.1=g.1:=by
 unfold eD at h
 cases hw:ka (mh plan l imp g.1 S) g.2 with
 | none=>rw [hw] at h;cases h
 | some w =>
  rw [hw,Option.map_some] at h
  injection h with h
  subst h
  refine ⟨?_,rfl⟩
  have hf:=pb hg
  obtain ⟨e1,e2⟩:=wi hv imp S hf.1
  unfold zg
  dsimp only
  rw [hf.1,hn,e1,e2,det rfl,zh hv ha hg]
  have:=zf _ _ w [] hw
  rw [List.append_nil] at this
  rw [this,det rfl]
  simp only [Bool.not_false,Bool.and_true,Bool.true_and]
  exact List.all_eq_true.2 fun d hd=>hSK d (C8 hv imp g.1 S hf.2 d hd)
theorem sY {plan:List Zd} {l:List Zb} (hv:VPs plan) (ha:AscA l) {imp:ByteArray} (S:CSet):∀ (o:List Goal) (K:List Za),o.Pairwise (fun a b=>a.1≠b.1)→(∀ g∈o,g∈cI plan l imp∧aZ K g.1=false)→(∀ c,S c=true→aZ K c=true)→B7 plan l imp K (o.filterMap (eD plan l imp S))=true
 | [],K,_,_,_=>by rw [List.filterMap_nil,B7]
 | g::o,K,hp,ho,hS=>by
  obtain ⟨h1,h2⟩:=List.pairwise_cons.1 hp
  obtain ⟨g1,g2⟩:=ho g (by simp)
  cases hg:eD plan l imp S g with
  | none =>
   rw [List.filterMap_cons_none hg]
   exact sY hv ha S o K h2 (fun x hx=>ho x (by simp [hx])) hS
  | some p =>
   obtain ⟨r1,r2⟩:=D4 hv ha hS g1 g2 hg
   rw [List.filterMap_cons_some hg,B7,r1,Bool.true_and]
   refine sY hv ha S o _ h2 (fun x hx=>⟨(ho x (by simp [hx])).1,?_⟩) (fun c hc=>?_)
   ·rw [lJ,List.mem_append,List.mem_singleton]
    rintro (h | h)
    ·have:=(ho x (by simp [hx])).2;rw [eK.2 h] at this;cases this
    exact h1 x hx (by rw [h,r2])
   rw [eK,List.mem_append];exact .inl (eK.1 (hS c hc))
theorem B8 {plan:List Zd} {l:List Zb} {imp:ByteArray} (hv:VPs plan) (ha:AscA l):(cI plan l imp).Pairwise fun a b=>a.1≠b.1:=by
 unfold cI
 rw [List.pairwise_flatMap]
 refine ⟨fun p hp=>?_,List.Pairwise.imp (fun {p q} hpq x hx y hy=>?_) hv.asc⟩
 ·rw [List.pairwise_filterMap]
  refine List.Pairwise.imp (fun {a b} hab x hx y hy=>?_) ha
  have e:∀ (a:Zb) (x:Goal),cond (jh plan l imp ⟨p.ID,a.ID⟩) ((dz a p.Code).map fun r=>((⟨p.ID,a.ID⟩:Za),r)) none=some x→x.1=⟨p.ID,a.ID⟩:=by
   intro a x h
   cases hc:jh plan l imp ⟨p.ID,a.ID⟩
   ·rw [hc] at h;cases h
   rw [hc,bZ] at h
   cases hr:dz a p.Code with
   | none=>rw [hr] at h;cases h
   | some r=>rw [hr,Option.map_some] at h;injection h with h;rw [← h]
  rw [e a x hx,e b y hy]
  intro h;injection h with h1 h2;omega
 have e:∀ (p:Zd) (x:Goal),x∈(l.filterMap fun a=>cond (jh plan l imp ⟨p.ID,a.ID⟩) ((dz a p.Code).map fun r=>((⟨p.ID,a.ID⟩:Za),r)) none)→x.1.Product=p.ID:=by
  intro p x h
  obtain ⟨a,_,h⟩:=List.mem_filterMap.1 h
  cases hc:jh plan l imp ⟨p.ID,a.ID⟩
  ·rw [hc] at h;cases h
  rw [hc,bZ] at h
  cases hr:dz a p.Code with
  | none=>rw [hr] at h;cases h
  | some r=>rw [hr,Option.map_some] at h;injection h with h;rw [← h]
 intro h
 have h1:=e p x hx
 have h2:=e q y hy
 rw [h] at h1;omega
theorem sr {plan:List Zd} {l:List Zb} (hv:VPs plan) (ha:AscA l) {imp:ByteArray}:∀ (n:Nat) (o:List Goal) (ps:List Prf),o.Pairwise (fun a b=>a.1≠b.1)→(∀ g∈o,g∈cI plan l imp∧aZ (ps.map fun p:Prf=>p.1) g.1=false)→B7 plan l imp [] ps=true→B7 plan l imp [] (jN (fun p:Prf=>p.1) (eD plan l imp) n o ps)=true
 | 0,o,ps,_,_,h=>by rw [jN];exact h
 | n+1,o,ps,hp,ho,h=>by
  rw [jN]
  have hnew:=sY hv ha (aZ (ps.map fun p:Prf=>p.1)) o (ps.map fun p:Prf=>p.1) hp ho (fun c hc=>hc)
  cases (o.filterMap (eD plan l imp (aZ (ps.map fun p:Prf=>p.1)))).isEmpty
  ·refine sr hv ha n _ _ (List.Pairwise.sublist List.filter_sublist hp) (fun g hg=>?_) ?_
   ·obtain ⟨k1,k2⟩:=List.mem_filter.1 hg
    obtain ⟨k3,k4⟩:=ho g k1
    refine ⟨k3,?_⟩
    cases hm:aZ ((ps++o.filterMap (eD plan l imp (aZ (ps.map fun p:Prf=>p.1)))).map fun p:Prf=>p.1) g.1
    ·rfl
    obtain ⟨p,j1,j2⟩:=iE.1 hm
    rcases List.mem_append.1 j1 with j1 | j1
    ·rw [iE.2 ⟨p,j1,j2⟩] at k4;cases k4
    obtain ⟨g',j3,j4⟩:=List.mem_filterMap.1 j1
    have:=qE hv ha g' (ho g' j3).1 g k3 ((B5 plan l imp _ _ _ j4).symm.trans j2)
    subst this
    rw [j4] at k2;cases k2
   rw [wh,h,Bool.true_and,List.nil_append];exact hnew
  exact h
theorem AU {plan:List Zd} {l:List Zb} (hv:VPs plan) (ha:AscA l) (imp:ByteArray):B7 plan l imp [] (iX plan l imp)=true :=
 sr hv ha _ _ _ (B8 hv ha) (fun g hg=>⟨hg,rfl⟩) rfl
section
variable {γ π:Type}
end
def kK (plan:List Zd) (l:List Zb) (imp:ByteArray) (S:CSet) (p:Zd) (a:Zb):Option Prf :=
 cond (S ⟨p.ID,a.ID⟩ || !jh plan l imp ⟨p.ID,a.ID⟩) none (eD plan l imp S (⟨p.ID,a.ID⟩,(dz a p.Code).getD vR))
theorem B9 {plan:List Zd} (h:VPs plan) {p:Zd} (hp:p∈plan):db plan p.ID=some p:=by
 cases hf:db plan p.ID with
 | none =>
  unfold db at hf
  rw [List.find?_eq_none] at hf
  exact absurd (by simp) (hf p hp)
 | some q =>
  have h1:=sV hf
  rw [ze h.asc h1.1 hp h1.2]
theorem AV {plan:List Zd} {l:List Zb} {imp:ByteArray} (hv:VPs plan) (ha:AscA l) {p:Zd} (hp:p∈plan) {a:Zb} (hal:a∈l) (h:jh plan l imp ⟨p.ID,a.ID⟩=true):∃ r,dz a p.Code=some r:=by
 obtain ⟨q,b,r,e1,e2,e3,_⟩:=ot h
 dsimp only at e1 e2
 rw [B9 hv hp] at e1
 rw [DV ha hal] at e2
 injection e1 with e1
 injection e2 with e2
 exact ⟨r,by rw [e1,e2];exact e3⟩
theorem wj {plan:List Zd} {l:List Zb} (hv:VPs plan) (ha:AscA l) (imp:ByteArray) (S:CSet):(cI plan l imp).filterMap (fun g=>cond (S g.1) none (eD plan l imp S g))=plan.flatMap fun p=>l.filterMap fun a=>kK plan l imp S p a:=by
 have inner:∀ p∈plan,∀ m:List Zb,(∀ a∈m,a∈l)→(m.filterMap fun a=>cond (jh plan l imp ⟨p.ID,a.ID⟩) ((dz a p.Code).map fun r=>((⟨p.ID,a.ID⟩:Za),r)) none).filterMap (fun g=>cond (S g.1) none (eD plan l imp S g))=m.filterMap fun a=>kK plan l imp S p a:=by
  intro p hp m
  induction m with
  | nil=>intro _;rfl
  | cons a m ih =>
   intro hm
   have ih:=ih fun b hb=>hm b (by simp [hb])
   cases hc:jh plan l imp ⟨p.ID,a.ID⟩
   ·rw [List.filterMap_cons_none (by rw [hc];rfl),ih,List.filterMap_cons_none (by unfold kK;rw [hc];cases S ⟨p.ID,a.ID⟩ <;> rfl)]
   obtain ⟨r,hr⟩:=AV hv ha hp (hm a (by simp)) hc
   rw [List.filterMap_cons_some (b:=((⟨p.ID,a.ID⟩:Za),r)) (by rw [hc,hr];rfl)]
   have e:kK plan l imp S p a=cond (S ⟨p.ID,a.ID⟩) none (eD plan l imp S (⟨p.ID,a.ID⟩,r)):=by
    unfold kK;rw [hc,hr];cases S ⟨p.ID,a.ID⟩ <;> rfl
   cases hs:cond (S ⟨p.ID,a.ID⟩) none (eD plan l imp S (⟨p.ID,a.ID⟩,r)) with
   | none=>rw [List.filterMap_cons_none (f:=fun g:Goal=>cond (S g.1) none (eD plan l imp S g)) hs,List.filterMap_cons_none (e.trans hs),ih]
   | some q=>rw [List.filterMap_cons_some (f:=fun g:Goal=>cond (S g.1) none (eD plan l imp S g)) hs,List.filterMap_cons_some (e.trans hs),ih]
 unfold cI
 have outer:∀ q:List Zd,(∀ p∈q,p∈plan)→(q.flatMap fun p=>l.filterMap fun a=>cond (jh plan l imp ⟨p.ID,a.ID⟩) ((dz a p.Code).map fun r=>((⟨p.ID,a.ID⟩:Za),r)) none).filterMap (fun g=>cond (S g.1) none (eD plan l imp S g))=q.flatMap fun p=>l.filterMap fun a=>kK plan l imp S p a:=by
  intro q
  induction q with
  | nil=>intro _;rfl
  | cons p q ih =>
   intro hq
   rw [List.flatMap_cons,List.flatMap_cons,List.filterMap_append,inner p (hq p (by simp)) l (fun _ h=>h),ih fun x hx=>hq x (by simp [hx])]
 exact outer plan fun _ h=>h
def j8 (plan:List Zd) (l:List Zb) (imp:ByteArray):Nat→List Prf→List Za→List Prf
  | 0,ps,_=>ps
  | n+1,ps,set=>cond (plan.flatMap fun p=>l.filterMap fun a=>kK plan l imp (aZ set) p a).isEmpty ps
      (j8 plan l imp n (ps++plan.flatMap fun p=>l.filterMap fun a=>kK plan l imp (aZ set) p a) ((plan.flatMap fun p=>l.filterMap fun a=>kK plan l imp (aZ set) p a).foldl (fun t p=>iN bJ t p.1) set))
theorem rG:∀ (ps:List Prf) (set:List Za) (c:Za),aZ (ps.foldl (fun t p=>iN bJ t p.1) set) c=(aZ set c||aZ (ps.map fun p:Prf=>p.1) c)
 | [],set,c=>by simp [aZ]
 | p::ps,set,c=>by
  rw [List.foldl_cons,rG ps]
  have:aZ (iN bJ set p.1) c=(aZ set c||decide (p.1=c)):=by
   cases h:aZ (iN bJ set p.1) c
   ·rw [lJ,vW] at h
    rw [lJ.2 (fun hm=>h (.inr hm)),bQ (fun e=>h (.inl e.symm))];rfl
   rw [eK,vW] at h
   rcases h with h | h
   ·rw [det h.symm,Bool.or_true]
   rw [eK.2 h,Bool.true_or]
  rw [this,List.map_cons]
  show _=(aZ set c||(decide (p.1=c)||aZ (ps.map fun p:Prf=>p.1) c))
  rw [Bool.or_assoc]
theorem su {plan:List Zd} {l:List Zb} (hv:VPs plan) (ha:AscA l) (imp:ByteArray):∀ (n:Nat) (ps:List Prf) (set:List Za),(∀ c,aZ set c=aZ (ps.map fun p:Prf=>p.1) c)→j8 plan l imp n ps set=so (fun g:Goal=>g.1) (fun p:Prf=>p.1) (eD plan l imp) (cI plan l imp) n ps
 | 0,ps,set,_=>rfl
 | n+1,ps,set,h=>by
  have hS:aZ set=aZ (ps.map fun p:Prf=>p.1):=funext h
  rw [j8,so,hS,← wj hv ha]
  cases ((cI plan l imp).filterMap fun g=>cond (aZ (ps.map fun p:Prf=>p.1) g.1) none (eD plan l imp (aZ (ps.map fun p:Prf=>p.1)) g)).isEmpty
  ·simp only [bI]
   refine su hv ha imp n _ _ fun c=>?_
   rw [rG,h,List.map_append]
   unfold aZ;rw [List.any_append]
  rfl
theorem uf {plan:List Zd} {l:List Zb} (hv:VPs plan) (ha:AscA l) (imp:ByteArray):j8 plan l imp (cI plan l imp).length [] []=iX plan l imp:=by
 rw [su hv ha imp _ [] [] (fun _=>rfl),← B4 (B5 plan l imp) (qE hv ha)]
 unfold iX
 congr 1
 exact List.filter_eq_self.2 fun _ _=>rfl
section
variable (ps:List Prf)
def cW (d:Za):Option Nat:=ps.findIdx? fun p=>decide (p.1=d)
inductive Reach (c:Za):Za→Prop
 | base:Reach c c
 | step {d e:Za} {i:Nat} {p:Prf} (h:Reach c d) (h1:cW ps d=some i) (h2:ps[i]?=some p) (h3:e∈p.2.2):Reach c e
variable {ps} {c:Za}
theorem gD {d:Za} {i:Nat} (h:cW ps d=some i):∃ p,ps[i]?=some p∧p.1=d:=by
 unfold cW at h
 rw [List.findIdx?_eq_some_iff_getElem] at h
 obtain ⟨h1,h2,_⟩:=h
 exact ⟨ps[i],List.getElem?_eq_getElem h1,of_decide_eq_true h2⟩
def TCov (ps:List Prf) (nd:List Bool) (todo:List Za) (e:Za):Prop:=e∈todo∨∃ j,cW ps e=some j∧nd[j]?=some true
structure Zv (ps:List Prf) (c:Za) (nd:List Bool) (todo:List Za):Prop where
 len:nd.length=ps.length
 tr:∀ d∈todo,Reach ps c d
 nr:∀ i:Nat,nd[i]?=some true→∃ d,Reach ps c d∧cW ps d=some i
 cl:∀ (i:Nat) p,nd[i]?=some true→ps[i]?=some p→∀ e∈p.2.2,TCov ps nd todo e
 st:TCov ps nd todo c
def TOk (ps:List Prf) (c:Za) (P:Nat→Prop):Prop:=(∀ i,P i↔∃ d,Reach ps c d∧cW ps d=some i)∧∀ d,Reach ps c d→cW ps d≠none
def TErr (ps:List Prf) (c:Za):Prop:=∃ d,Reach ps c d∧cW ps d=none
theorem t_start:Zv ps c (List.replicate ps.length false) [c]:=by
 have hn:∀ i:Nat,(List.replicate ps.length false)[i]?≠some true:=by
  intro i h
  rw [List.getElem?_replicate] at h
  split at h
  ·injection h with h;cases h
  cases h
 exact ⟨by simp,fun d hd=>by rw [List.mem_singleton.1 hd];exact .base,fun i h=>absurd h (hn i),fun i p h=>absurd h (hn i),.inl (by simp)⟩
theorem t_fail {nd:List Bool} {t:List Za} {d:Za} (h:Zv ps c nd (t++[d])) (hf:cW ps d=none):TErr ps c:=⟨d,h.tr d (by simp),hf⟩
theorem t_skip {nd:List Bool} {t:List Za} {d:Za} {i:Nat} (h:Zv ps c nd (t++[d])) (hf:cW ps d=some i) (hn:nd[i]?=some true):Zv ps c nd t:=by
 have hc:∀ e,TCov ps nd (t++[d]) e→TCov ps nd t e:=by
  rintro e (h1 | h1)
  ·rcases List.mem_append.1 h1 with h1 | h1
   ·exact .inl h1
   rw [List.mem_singleton.1 h1];exact .inr ⟨i,hf,hn⟩
  exact .inr h1
 exact ⟨h.len,fun d hd=>h.tr d (by simp [hd]),h.nr,fun i p h1 h2 e he=>hc e (h.cl i p h1 h2 e he),hc c h.st⟩
theorem t_add {nd:List Bool} {t:List Za} {d:Za} {i:Nat} {p:Prf} (h:Zv ps c nd (t++[d])) (hf:cW ps d=some i) (hp:ps[i]?=some p):Zv ps c (nd.set i true) (t++p.2.2):=by
 have hi:i<nd.length:=by rw [h.len];exact (List.getElem?_eq_some_iff.1 hp).1
 have hset:(nd.set i true)[i]?=some true:=by rw [List.getElem?_set_self hi]
 have hup:∀ j:Nat,nd[j]?=some true→(nd.set i true)[j]?=some true:=by
  intro j hj
  by_cases e:i=j
  ·subst e;exact hset
  rw [List.getElem?_set_ne e];exact hj
 have hdn:∀ j:Nat,(nd.set i true)[j]?=some true→j=i∨nd[j]?=some true:=by
  intro j hj
  by_cases e:i=j
  ·exact .inl e.symm
  rw [List.getElem?_set_ne e] at hj;exact .inr hj
 have hrd:Reach ps c d:=h.tr d (by simp)
 have hc:∀ e,TCov ps nd (t++[d]) e→TCov ps (nd.set i true) (t++p.2.2) e:=by
  rintro e (h1 | ⟨j,h1,h2⟩)
  ·rcases List.mem_append.1 h1 with h1 | h1
   ·exact .inl (List.mem_append.2 (.inl h1))
   rw [List.mem_singleton.1 h1];exact .inr ⟨i,hf,hset⟩
  exact .inr ⟨j,h1,hup j h2⟩
 refine ⟨by rw [List.length_set];exact h.len,fun e he=>?_,fun j hj=>?_,fun j q h1 h2 e he=>?_,hc c h.st⟩
 ·rcases List.mem_append.1 he with he | he
  ·exact h.tr e (by simp [he])
  exact .step hrd hf hp he
 ·rcases hdn j hj with rfl | hj
  ·exact ⟨d,hrd,hf⟩
  exact h.nr j hj
 rcases hdn j h1 with rfl | h1
 ·rw [hp] at h2
  injection h2 with h2
  subst h2
  exact .inl (List.mem_append.2 (.inr he))
 exact hc e (h.cl j q h1 h2 e he)
theorem t_end {nd:List Bool} (h:Zv ps c nd []):TOk ps c fun i=>nd[i]?=some true:=by
 have key:∀ d,Reach ps c d→∃ j,cW ps d=some j∧nd[j]?=some true:=by
  intro d hd
  induction hd with
  | base=>rcases h.st with h1 | h1;cases h1;exact h1
  | @step d e i p _ h1 h2 h3 ih =>
   obtain ⟨j,k1,k2⟩:=ih
   rw [h1] at k1
   injection k1 with k1
   subst k1
   rcases h.cl i p k2 h2 e h3 with h4 | h4
   ·cases h4
   exact h4
 refine ⟨fun i=>⟨h.nr i,fun ⟨d,hd,hi⟩=>?_⟩,fun d hd=>?_⟩
 ·obtain ⟨j,k1,k2⟩:=key d hd
  rw [hi] at k1
  injection k1 with k1
  subst k1;exact k2
 obtain ⟨j,k1,_⟩:=key d hd
 rw [k1];simp
structure NInv (ps:List Prf) (c:Za) (need:List Za) (k:Nat):Prop where
 rr:∀ d∈need,Reach ps c d
 st:c∈need
 nd:need.Nodup
 cl:∀ (j:Nat),j<k→∀ d,need[j]?=some d→∃ i p,cW ps d=some i∧ps[i]?=some p∧∀ e∈p.2.2,e∈need
theorem n_start:NInv ps c [c] 0:=⟨fun d hd=>by rw [List.mem_singleton.1 hd];exact .base,by simp,by simp,fun j h=>by omega⟩
def ij (need:List Za) (e:Za):List Za:=cond (aZ need e) need (need++[e])
theorem pg:∀ (es need:List Za),∃ m,es.foldl ij need=need++m∧(∀ e∈es,e∈es.foldl ij need)∧(∀ d∈m,d∈es)∧(need.Nodup→(es.foldl ij need).Nodup)
 | [],need=>⟨[],by simp,by simp,by simp,fun h=>h⟩
 | e::es,need=>by
  obtain ⟨m,h1,h2,h3,h4⟩:=pg es (ij need e)
  rw [List.foldl_cons]
  cases hm:aZ need e
  ·have he:ij need e=need++[e]:=by unfold ij;rw [hm];rfl
   rw [he] at h1 h2 h4 ⊢
   refine ⟨e::m,by rw [h1];simp,fun x hx=>?_,fun d hd=>?_,fun hn=>h4 ?_⟩
   ·rcases List.mem_cons.1 hx with rfl | hx
    ·rw [h1];simp
    exact h2 x hx
   ·rcases List.mem_cons.1 hd with rfl | hd
    ·simp
    exact List.mem_cons.2 (.inr (h3 d hd))
   rw [List.nodup_append]
   refine ⟨hn,by simp,fun a ha b hb=>?_⟩
   rw [List.mem_singleton.1 hb]
   rintro rfl
   exact (lJ.1 hm) ha
  have he:ij need e=need:=by unfold ij;rw [hm];rfl
  rw [he] at h1 h2 h4 ⊢
  refine ⟨m,h1,fun x hx=>?_,fun d hd=>List.mem_cons.2 (.inr (h3 d hd)),h4⟩
  rcases List.mem_cons.1 hx with rfl | hx
  ·rw [h1];exact List.mem_append.2 (.inl (eK.1 hm))
  exact h2 x hx
theorem n_fail {need:List Za} {k:Nat} {d:Za} (h:NInv ps c need k) (hd:need[k]?=some d) (hf:cW ps d=none):TErr ps c:=⟨d,h.rr d (List.mem_of_getElem? hd),hf⟩
theorem n_add {need:List Za} {k i:Nat} {d:Za} {p:Prf} (h:NInv ps c need k) (hd:need[k]?=some d) (hf:cW ps d=some i) (hp:ps[i]?=some p):NInv ps c (p.2.2.foldl ij need) (k+1):=by
 obtain ⟨m,h1,h2,h3,h4⟩:=pg p.2.2 need
 have hrd:=h.rr d (List.mem_of_getElem? hd)
 have hk:=(List.getElem?_eq_some_iff.1 hd).1
 refine ⟨fun e he=>?_,by rw [h1];exact List.mem_append.2 (.inl h.st),h4 h.nd,fun j hj x hx=>?_⟩
 ·rw [h1] at he
  rcases List.mem_append.1 he with he | he
  ·exact h.rr e he
  exact .step hrd hf hp (h3 e he)
 rw [h1,List.getElem?_append_left (by omega)] at hx
 by_cases e:j=k
 ·subst e
  rw [hd] at hx
  injection hx with hx
  subst hx
  exact ⟨i,p,hf,hp,h2⟩
 obtain ⟨i',q,k1,k2,k3⟩:=h.cl j (by omega) x hx
 exact ⟨i',q,k1,k2,fun e he=>by rw [h1];exact List.mem_append.2 (.inl (k3 e he))⟩
theorem n_end {need:List Za} (h:NInv ps c need need.length):TOk ps c fun i=>∃ p,ps[i]?=some p∧p.1∈need∧cW ps p.1=some i:=by
 have key:∀ d,Reach ps c d→d∈need:=by
  intro d hd
  induction hd with
  | base=>exact h.st
  | @step d e i p _ h1 h2 h3 ih =>
   obtain ⟨j,hj,e1⟩:=List.getElem_of_mem ih
   obtain ⟨i',q,k1,k2,k3⟩:=h.cl j hj d (by rw [List.getElem?_eq_getElem hj,e1])
   rw [h1] at k1
   injection k1 with k1
   subst k1
   rw [h2] at k2
   injection k2 with k2
   subst k2
   exact k3 e h3
 refine ⟨fun i=>⟨fun ⟨p,_,h2,h3⟩=>⟨p.1,h.rr _ h2,h3⟩,fun ⟨d,hd,hi⟩=>?_⟩,fun d hd=>?_⟩
 ·obtain ⟨p,h1,h2⟩:=gD hi
  exact ⟨p,h1,by rw [h2];exact key d hd,by rw [h2];exact hi⟩
 obtain ⟨j,hj,e1⟩:=List.getElem_of_mem (key d hd)
 obtain ⟨i',q,k1,_⟩:=h.cl j hj d (by rw [List.getElem?_eq_getElem hj,e1])
 rw [k1];simp
theorem Gp {P Q:Nat→Prop} (h1:TOk ps c P) (h2:TOk ps c Q) (i:Nat):P i↔Q i:=(h1.1 i).trans (h2.1 i).symm
theorem Db {P:Nat→Prop} (h1:TOk ps c P) (h2:TErr ps c):False:=by obtain ⟨d,hd,hn⟩:=h2;exact h1.2 d hd hn
end
def rw' (n:Int):Zm:=⟨n / 18446744073709551616,n % 18446744073709551616⟩
theorem rw_of {w:Zm} (h:RW w):w=rw' (rv w)∧U128 (rv w):=by
 obtain ⟨a,b⟩:=w
 unfold RW U64 at h;unfold rw' rv U128;dsimp only at *
 refine ⟨?_,by omega⟩
 congr 1 <;> omega
theorem rmul {a b:Int} (ha:U64 a) (hb:U64 b):jW a b=some (rw' (a*b))∧U128 (a*b):=by
 obtain ⟨w,e1,e2,e3⟩:=C1 ha hb
 have:=rw_of e2
 rw [e3] at this
 rw [e1];exact ⟨congrArg some this.1,this.2⟩
theorem rless {a b:Int} (ha:U128 a) (hb:U128 b):lc (rw' a) (rw' b)=some (decide (a<b)):=by
 unfold U128 at *
 unfold lc rw'
 dsimp only
 congr 1
 by_cases h:a<b
 ·rw [det h];simp only [Bool.or_eq_true,Bool.and_eq_true,decide_eq_true_eq,beq_iff_eq];omega
 rw [bQ h];simp only [Bool.or_eq_false_iff,Bool.and_eq_false_iff,decide_eq_false_iff_not,beq_eq_false_iff_ne];omega
theorem wk {v s p:Int} (hv:0≤v∧v≤100000000000000) (hs:0≤s∧s≤1000000) (hp:0≤p∧p≤1000000000000):i7 v s p=some (decide (v*1000000≤s*p)):=by
 unfold i7
 rw [fG (a:=v) ⟨by omega,by omega⟩,fG (a:=s) ⟨by omega,by omega⟩,fG (a:=p) ⟨by omega,by omega⟩]
 obtain ⟨e1,u1⟩:=rmul (a:=v) (b:=1000000) ⟨by omega,by omega⟩ ⟨by omega,by omega⟩
 obtain ⟨e2,u2⟩:=rmul (a:=s) (b:=p) ⟨by omega,by omega⟩ ⟨by omega,by omega⟩
 rw [e1,be,e2,be]
 unfold nu
 rw [rless u1 u2,rless u2 u1]
 simp only [be]
 by_cases h:v*1000000<s*p
 ·rw [det h]
  simp only [bZ,be]
  rw [det (by omega),det (by omega)]
 rw [bQ h]
 by_cases h2:s*p<v*1000000
 ·rw [det h2]
  simp only [bI,bZ,be]
  rw [bQ (by omega),bQ (by omega)]
 rw [bQ h2]
 simp only [bI,be]
 rw [det (by omega),det (by omega)]
theorem zi {r:Ze} {x:Zn} {i:Zl} (hd:r.Digits=2∨r.Digits=4∨r.Digits=6) (he:r.Except.length≤6) (hc:6≤dQ x.Code) (hi:6≤dQ i.Code):gZ r x i=some (qn r x.Code i.Code):=by
 unfold gZ qn
 have hs:=rF hc
 have hs2:=rF hi
 have e:ki x.Code 0 r.Digits=some (x.Code.extract 0 r.Digits.toNat):=by unfold ki;rw [if_pos (by omega)];rfl
 have e2:ki i.Code 0 r.Digits=some (i.Code.extract 0 r.Digits.toNat):=by unfold ki;rw [if_pos (by omega)];rfl
 have hsz:(x.Code.extract 0 r.Digits.toNat).size=r.Digits.toNat:=by rw [ByteArray.size_extract];omega
 have ep:iC i.Code (x.Code.extract 0 r.Digits.toNat)=decide (i.Code.extract 0 r.Digits.toNat=x.Code.extract 0 r.Digits.toNat):=by
  unfold iC;rw [hsz,det (by omega),Bool.true_and]
 rw [e2,be,e,be,ep]
 cases decide (i.Code.extract 0 r.Digits.toNat=x.Code.extract 0 r.Digits.toNat)
 ·simp only [bI,Bool.false_or]
  refine (bE (l:=r.Except) (by omega) (fun _ x=>cond (iC i.Code x) (some (.inr true)) none) (.inl ()) (fun k hk=>?_) (by simp only [cO,bI])).trans ?_
  ·simp only [hZ hk,bZ,aQ hk,be,bU hk (show r.Except.length≤4611686018427387904 by omega),AD]
   cases iC i.Code r.Except[k] <;> rfl
  rw [qy (fun x=>iC i.Code x) (Sum.inr true:Unit⊕Bool)]
  cases r.Except.any fun x=>iC i.Code x <;> rfl
 rfl
mutual
theorem AW (x:Zn):∀ l:List Ze,(jz x l).isSome=l.all fun a=>(ka x a).isSome
 | []=>by rw [jz];rfl
 | a::l=>by
  have h:=AW x l
  rw [jz,List.all_cons,← h]
  cases ka x a with
  | none=>rfl
  | some p=>cases jz x l <;> rfl
theorem AX (x:Zn):∀ (l:List Ze) (i:Nat),(ll x i l).isSome=l.any fun a=>(ka x a).isSome
 | [],i=>by rw [ll];rfl
 | a::l,i=>by
  have h:=AX x l (i+1)
  rw [ll,List.any_cons,← h]
  cases ka x a <;> rfl
end
def zj {α:Type} (p:α→Bool):List α→Nat
 | []=>0
 | a::l=>cond (p a) 1 0+zj p l
theorem Dc {α:Type} (p:α→Bool):∀ l:List α,zj p l≤l.length
 | []=>Nat.le_refl _
 | a::l=>by have:=Dc p l;rw [zj,List.length_cons];cases p a <;> simp <;> omega
theorem AY {α:Type} (p:α→Bool):∀ l:List α,(zj p l == l.length)=l.all p
 | []=>rfl
 | a::l=>by
  have h:=AY p l
  have hle:=Dc p l
  rw [zj,List.length_cons,List.all_cons,← h]
  cases p a
  ·rw [bI,Bool.false_and,beq_eq_false_iff_ne];omega
  rw [bZ,Bool.true_and,Bool.eq_iff_iff,beq_iff_eq,beq_iff_eq];omega
theorem AZ {α:Type} (p:α→Bool):∀ l:List α,decide (0<zj p l)=l.any p
 | []=>rfl
 | a::l=>by
  have h:=AZ p l
  rw [zj,List.any_cons,← h]
  cases p a
  ·rw [bI,Bool.false_or];exact decide_eq_decide.2 (by omega)
  rw [bZ,Bool.true_or];exact det (by omega)
theorem A0 (x:Zn) (hx:VCase x) (n:Nat):∀ r:Ze,em r=true→us r≤n→lr n r x=some (ka x r).isSome:=by
 induction n with
 | zero=>intro r _ hd;rw [lU] at hd;omega
 | succ n ih =>
  intro r hr hd
  obtain ⟨hl,ha,he⟩:=mH hr
  have hfew:=hx.few
  show jr (lr n) r x=_
  unfold jr
  have hvi:r.Kind=2→∀ i∈x.Inputs,gZ r x i=some (qn r x.Code i.Code):=by
   intro hk i hi
   have h:=hr
   rw [hQ,hk] at h
   simp only [j7,hk,Bool.and_eq_true] at h
   have h3:=h.2
   simp at h3
   exact zi (by omega) he hx.lvl (hx.inp i hi).1
  refine (cx (l:=x.Inputs) (by omega) (fun i (s:Int×Int)=>(s.1,s.2,i)) (fun s i=>(s.1+cond i.Originating 0 (cond (r.Kind == 3) (fV i) (cond (r.Kind == 2) (fW r x.Code i) 0)),s.2+cond i.Originating 0 (fN i))) (fun s=>s) (fun k s=>(0≤s.1∧s.1≤k*1000000000000)∧(0≤s.2∧s.2≤k)) (0,0) ⟨by simp,by simp⟩ (fun k hk s hs=>?_) (fun s _=>by simp only [cO,bI])).1.trans ?_
  ·obtain ⟨a,b⟩:=s
   obtain ⟨s1,s2⟩:=hs
   dsimp only at s1 s2 ⊢
   have hmem:=List.getElem_mem hk
   have hi:=hx.inp _ hmem
   have hk100:k<100:=by omega
   simp only [hZ hk,bZ,aQ hk,be,bU hk (show x.Inputs.length≤4611686018427387904 by omega)]
   generalize x.Inputs[k]=i at hi hmem
   unfold fV fN fW
   cases i.Originating
   ·simp only [bI]
    cases hk3:(r.Kind == 3)
    ·cases hk2:(r.Kind == 2)
     ·simp only [Bool.not_false,Bool.and_false,ji,be,Bool.false_and,Bool.or_self,bI,Int.add_zero]
      rw [cM (r:=b+1) (by omega) (by omega)]
      exact ⟨rfl,⟨by omega,by omega⟩,by omega,by omega⟩
     simp only [Bool.not_false,Bool.and_self,cH,Bool.false_or,Bool.true_and]
     rw [hvi (eq_of_beq hk2) i hmem,be]
     cases qn r x.Code i.Code
     ·simp only [bI,bZ,be,Int.add_zero]
      rw [cM (r:=b+1) (by omega) (by omega)]
      exact ⟨rfl,⟨by omega,by omega⟩,by omega,by omega⟩
     simp only [bZ,bI,be]
     rw [cM (r:=b+1) (by omega) (by omega),cM (r:=a+i.Value) (by omega) (by omega)]
     exact ⟨rfl,⟨by omega,by omega⟩,by omega,by omega⟩
    simp only [Bool.not_true,Bool.false_and,ji,be,Bool.true_or,bZ]
    rw [cM (r:=b+1) (by omega) (by omega),cM (r:=a+i.Value) (by omega) (by omega)]
    exact ⟨rfl,⟨by omega,by omega⟩,by omega,by omega⟩
   simp only [bZ,be,Int.add_zero]
   exact ⟨trivial,⟨by omega,by omega⟩,by omega,by omega⟩
  have key:∀ (l:List Zl) (a b:Int),l.foldl (fun (s:Int×Int) i=>(s.1+cond i.Originating 0 (cond (r.Kind == 3) (fV i) (cond (r.Kind == 2) (fW r x.Code i) 0)),s.2+cond i.Originating 0 (fN i))) (a,b)=(a+wS (fun i=>cond (r.Kind == 3) (fV i) (cond (r.Kind == 2) (fW r x.Code i) 0)) l,b+wS fN l):=by
   intro l
   induction l with
   | nil=>intro a b;simp [wS]
   | cons i l ih=>intro a b;rw [List.foldl_cons,ih];simp only [wS,Int.add_assoc]
  rw [key]
  dsimp only
  simp only [Int.zero_add]
  refine (cx (l:=r.Args) (by omega) (fun i (s:Nat)=>((s:Int),i)) (fun s a=>s+cond (ka x a).isSome 1 0) (fun s=>(s:Int)) (fun k s=>s≤k) 0 (Nat.le_refl _) (fun k hk s hs=>?_) (fun s _=>by simp only [cO,bI])).1.trans ?_
  ·simp only [hZ hk,bZ,aQ hk,be,bU hk (show r.Args.length≤4611686018427387904 by omega)]
   rw [ih _ (ha _ (List.getElem_mem hk)) (by have:=kD (List.getElem_mem hk);omega),be]
   cases (ka x r.Args[k]).isSome
   ·exact ⟨rfl,by simp;omega⟩
   simp only [bZ,be]
   rw [cM (by omega) (by omega)]
   exact ⟨rfl,by omega⟩
  have key2:∀ (l:List Ze) (s:Nat),l.foldl (fun s a=>s+cond (ka x a).isSome 1 0) s=s+zj (fun a=>(ka x a).isSome) l:=by
   intro l
   induction l with
   | nil=>intro s;rfl
   | cons a l ih=>intro s;rw [List.foldl_cons,ih,zj];omega
  rw [key2,Nat.zero_add,B3]
  have hv:0≤wS fV x.Inputs∧wS fV x.Inputs≤100000000000000:=by
   have:=qo (f:=fV) (b:=1000000000000) (by omega) (l:=x.Inputs) fun i hi=>(hx.inp i hi).2
   omega
  have hw:0≤wS (fW r x.Code) x.Inputs∧wS (fW r x.Code) x.Inputs≤100000000000000:=by
   have:=qo (f:=fW r x.Code) (b:=1000000000000) (by omega) (l:=x.Inputs) fun i hi=>by
    have:=(hx.inp i hi).2
    unfold fW;cases qn r x.Code i.Code
    ·simp only [bI];omega
    exact this
   omega
  have hp:=hx.price
  have hb:=hr
  rw [hQ] at hb
  unfold j7 FL at hb
  unfold kL
  have fin:∀ b:Bool,(some b:Option Bool)=some ((cond b (some ([]:List Int)) none).isSome):=fun b=>by cases b <;> rfl
  cases h1:(r.Kind == 1)
  ·cases h2:(r.Kind == 2)
   ·cases h3:(r.Kind == 3)
    ·cases h4:(r.Kind == 4)
     ·cases h5:(r.Kind == 5)
      ·cases h6:(r.Kind == 6)
       ·rw [h1,h2,h3,h4,h5,h6] at hb;simp at hb
       simp only [bI,bZ]
       rw [AX,← AZ]
       congr 1
       exact decide_eq_decide.2 (by omega)
      simp only [bI,bZ]
      rw [AW,← AY]
      congr 1
      rw [Bool.eq_iff_iff,beq_iff_eq,beq_iff_eq];omega
     have hk:=eq_of_beq h4
     rw [hk]
     simp only [bI,bZ]
     rw [qD _ _ hx.proc.2.1,be]
     exact fin _
    have hk:=eq_of_beq h3
    rw [hk] at hb
    simp at hb
    rw [hk]
    simp only [bI,bZ]
    rw [wk hv hb.2 (by omega),be]
    exact fin _
   have hk:=eq_of_beq h2
   rw [hk] at hb
   simp at hb
   rw [hk]
   simp only [bI,bZ]
   have e3:((2:Int) == 3)=false:=rfl
   rw [show (fun i=>cond ((2:Int) == 3) (fV i) (fW r x.Code i))=fW r x.Code from rfl,wk hw (by omega) (by omega),be]
   exact fin _
  have hk:=eq_of_beq h1
  rw [hk]
  simp only [bZ]
  exact fin _
theorem D5 {r:Ze} {x:Zn} (hx:VCase x) (hr:em r=true) (hd:us r≤1000):pX r x=some (ka x r).isSome:=A0 x hx FUEL r hr (by have hf:FUEL=1267650600228229401496703205376:=rfl;omega)
def rwF (x:Zn) (six:Bool) (k:Nat) (a:Ze) (l:List Int):List Int⊕List Int:=match ka x a with
 | none=>.inl l
 | some p=>cond six (.inr ((k:Int)::p)) (.inl (l++p))
theorem Dd (x:Zn):∀ (m:List Ze) (i:Nat) (l:List Int),run (rwF x true) m i l=match ll x i m with | some p=>.inr p | none=>.inl l
 | [],i,l=>by rw [ll];rfl
 | a::m,i,l=>by
  rw [jj,ll]
  unfold rwF
  cases ka x a with
  | none=>exact Dd x m (i+1) l
  | some p=>rfl
theorem De (x:Zn):∀ (m:List Ze) (i:Nat) (l w:List Int),jz x m=some w→run (rwF x false) m i l=.inl (l++w)
 | [],i,l,w,h=>by rw [jz] at h;injection h with h;subst h;rw [List.append_nil];rfl
 | a::m,i,l,w,h=>by
  rw [jz] at h
  rw [jj]
  unfold rwF
  cases ha:ka x a with
  | none=>rw [ha] at h;cases h
  | some p =>
   cases hm:jz x m with
   | none=>rw [ha,hm] at h;cases h
   | some q =>
    rw [ha,hm,be,be] at h
    injection h with h
    subst h
    rw [← List.append_assoc]
    exact De x m (i+1) (l++p) q hm
theorem w0 (x:Zn) (hx:VCase x) (n:Nat):∀ r:Ze,em r=true→qN r≤1000→us r≤n→iA n r x=some (iD [] (ka x r)):=by
 induction n with
 | zero=>intro r _ _ hd;rw [lU] at hd;omega
 | succ n ih =>
  intro r hr hc hd
  obtain ⟨hl,ha,_⟩:=mH hr
  have hdc:=r7 r
  show iz (iA n) r x=_
  unfold iz
  rw [D5 hx hr (by omega),be]
  cases hw:ka x r with
  | none=>rfl
  | some w =>
   simp only [Option.isSome_some,Bool.not_true,bI]
   have hargs:∀ k (hk:k<r.Args.length),iA n r.Args[k] x=some (iD [] (ka x r.Args[k])):=fun k hk=>ih _ (ha _ (List.getElem_mem hk)) (by have:=qd r;have:=sm (List.getElem_mem hk);omega) (by have:=kD (List.getElem_mem hk);omega)
   have hcl:∀ k (hk:k<r.Args.length) p,ka x r.Args[k]=some p→p.length≤1000:=fun k hk p h=>by have h1:=sn x _ p h;have:=qd r;have:=sm (List.getElem_mem hk);omega
   refine (km (l:=r.Args) (by omega) (fun i (s:List Int)=>(s,i)) (rwF x (r.Kind == 6)) (fun s=>.inl s) (fun p=>.inr (p,true)) (fun k s=>s.length≤k*1000) [] (by simp) (fun k hk s hs=>⟨?_,fun s' h'=>?_⟩) (fun s _=>by simp only [cO,bI])).trans ?_
   ·simp only [hZ hk,bZ,aQ hk,be,bU hk (show r.Args.length≤4611686018427387904 by omega)]
    rw [hargs k hk]
    have:=hcl k hk
    unfold rwF
    cases hwk:ka x r.Args[k] with
    | none=>rfl
    | some p =>
     have:=this p hwk
     show Option.bind (cond (r.Kind == 6) _ _) _=_
     cases (r.Kind == 6)
     ·simp only [bI]
      rw [show (iD ([]:List Int) (some p)).1=p from rfl]
      rw [cK (show (s.length+p.length)*8≤140737488355328 by omega) (by omega)];rfl
     simp only [bZ]
     rw [show (iD ([]:List Int) (some p)).1=p from rfl]
     rw [cK (show (([(k:Int)]).length+p.length)*8≤140737488355328 by simp;omega) (by simp;omega)];rfl
   ·have:=hcl k hk
    unfold rwF at h'
    cases hwk:ka x r.Args[k] with
    | none=>rw [hwk] at h';injection h' with h';subst h';omega
    | some p =>
     have:=this p hwk
     rw [hwk] at h'
     cases h6:(r.Kind == 6)
     ·rw [h6] at h';injection h' with h';subst h';rw [List.length_append];omega
     rw [h6] at h';cases h'
   rw [B3] at hw
   cases h5:(r.Kind == 5)
   ·rw [h5] at hw
    simp only [bI] at hw
    cases h6:(r.Kind == 6)
    ·rw [h6] at hw
     simp only [bI] at hw
     have hnil:r.Args=[]:=by
      have hp:=hr
      rw [hQ,Bool.and_eq_true] at hp
      have h1:=hp.1
      unfold kE at h1
      simp only [Bool.and_eq_true,h5,h6,Bool.false_or] at h1
      exact List.isEmpty_iff.1 h1.2
     rw [hnil]
     cases hh:kL r x
     ·rw [hh] at hw;cases hw
     rw [hh] at hw;injection hw with hw;subst hw;rfl
    rw [h6] at hw
    rw [Dd,show ll x 0 r.Args=some w from hw];rfl
   rw [h5] at hw
   have h6:(r.Kind == 6)=false:=by rw [eq_of_beq h5];rfl
   rw [h6,De x r.Args 0 [] w hw];rfl
theorem A1 {r:Ze} {x:Zn} (hx:VCase x) (hr:em r=true) (hc:qN r≤32):js r x=some (iD [] (ka x r)):=w0 x hx FUEL r hr (by omega) (by have:=r7 r;have hf:FUEL=1267650600228229401496703205376:=rfl;omega)
def wl (g:Goal):Zj:=⟨g.1,g.2⟩
def ox (p:Prf):Zc:=⟨p.1,p.2.1,p.2.2⟩
def nO (plan:List Zd) (l:List Zb) (imp:ByteArray) (p:Zd) (a:Zb):Option Goal:=cond (jh plan l imp ⟨p.ID,a.ID⟩) ((dz a p.Code).map fun r=>((⟨p.ID,a.ID⟩:Za),r)) none
theorem A2 {α β:Type} (h:α→Option β):∀ (l:List α) (s:List β),l.foldl (fun s a=>s++(h a).toList) s=s++l.filterMap h
 | [],s=>by simp
 | a::l,s=>by
  rw [List.foldl_cons,A2 h l]
  cases ha:h a with
  | none=>rw [List.filterMap_cons_none ha];simp
  | some b=>rw [List.filterMap_cons_some ha];simp
theorem sZ (plan:List Zd) (l:List Zb) (imp:ByteArray):(cI plan l imp).length≤plan.length*l.length:=by
 have key:∀ q:List Zd,(q.flatMap fun p=>l.filterMap (nO plan l imp p)).length≤q.length*l.length:=by
  intro q
  induction q with
  | nil=>simp
  | cons p q ih =>
   rw [List.flatMap_cons,List.length_append,List.length_cons,Nat.add_mul,Nat.one_mul]
   have:=List.length_filterMap_le (nO plan l imp p) l;omega
 exact key plan
theorem Ca {plan:List Zd} {l:List Zb} (hv:VPs plan) (hl:VAs l) (imp:ByteArray):kB plan l imp=some ((cI plan l imp).map wl):=by
 unfold kB
 have hlen:=hv.len
 have hll:=hl.len
 have inner:∀ (p:Zd) (s:List Zj),s.length≤64000→Option.bind (aV (S:=(List Zj)×Int) (T:=((List Zj))) (fun (l17,v20)=>cond (decide (v20<(l.length:Int))) (Option.bind (Option.bind (idx l v20) (fun m33=>Option.bind (el m33 p.Code) (fun x36=>Option.bind (gd x36.2 (cJ plan l imp (⟨p.ID,m33.ID⟩:Za))) (fun x38=>cond (x36.2&&x38) (Option.bind (app 112 l17 [(⟨(⟨p.ID,m33.ID⟩:Za),x36.1⟩:Zj)]) (fun l42=>some l42)) (some l17))))) (fun l31=>some (.inl (l31,(IntKind.i64.wrap (v20+1)))))) (some (.inr l17))) FUEL (s,0)) (fun t=>(some t:Option (List Zj)))=some (s++(l.filterMap (nO plan l imp p)).map wl):=by
  intro p s hs
  refine (cx (l:=l) (by omega) (fun i (s:List Zj)=>(s,i)) (fun s a=>s++((nO plan l imp p a).map wl).toList) (fun s=>s) (fun k t=>t.length≤s.length+k) s (Nat.le_refl _) (fun k hk t ht=>?_) (fun t _=>by simp only [cO,bI])).1.trans ?_
  ·simp only [hZ hk,bZ,aQ hk,be,bU hk (show l.length≤4611686018427387904 by omega)]
   have hva:=hl.all _ (List.getElem_mem hk)
   rw [tF _ _ hva,be,AI _ _ _ _ hv.sorted hl]
   unfold nO
   cases hr:dz l[k] p.Code with
   | none =>
    have e:(cond (jh plan l imp ⟨p.ID,l[k].ID⟩) ((none:Option Ze).map fun r=>((⟨p.ID,l[k].ID⟩:Za),r)) none)=none:=by cases jh plan l imp ⟨p.ID,l[k].ID⟩ <;> rfl
    rw [e]
    exact ⟨by simp [iD,gd],by simp;omega⟩
   | some r =>
    show Option.bind (Option.bind (gd true (some (jh plan l imp ⟨p.ID,l[k].ID⟩))) _) _=_∧_
    rw [cH,be]
    cases jh plan l imp ⟨p.ID,l[k].ID⟩
    ·exact ⟨by simp [iD],by simp;omega⟩
    show Option.bind (Option.bind (app 112 t [_]) _) _=_∧_
    rw [cK (by simp;omega) (by simp;omega)]
    exact ⟨rfl,by simp;omega⟩
  rw [A2 (fun a=>(nO plan l imp p a).map wl)]
  congr 2
  rw [List.map_filterMap]
 refine (cx (l:=plan) (by omega) (fun i (s:List Zj)=>(s,i)) (fun s p=>s++(l.filterMap (nO plan l imp p)).map wl) (fun s=>s) (fun k t=>t.length≤1000*k) [] (by simp) (fun k hk t ht=>?_) (fun t _=>by simp only [cO,bI])).1.trans ?_
 ·simp only [hZ hk,bZ,aQ hk,be,bU hk (show plan.length≤4611686018427387904 by omega)]
  have hin:=inner plan[k] t (by omega)
  have e:∀ {α β:Type} (x:Option α) (z:α) (K:α→Option β),Option.bind x (fun t=>some t)=some z→Option.bind x K=K z:=by
   intro α β x z K h
   cases x with
   | none=>cases h
   | some y=>injection h with h;rw [h];rfl
  refine ⟨e _ _ _ hin,?_⟩
  have:=List.length_filterMap_le (nO plan l imp plan[k]) l
  simp;omega
 have key:∀ (q:List Zd) (s:List Zj),q.foldl (fun s p=>s++(l.filterMap (nO plan l imp p)).map wl) s=s++(q.flatMap fun p=>l.filterMap (nO plan l imp p)).map wl:=by
  intro q
  induction q with
  | nil=>intro s;simp
  | cons p q ih=>intro s;rw [List.foldl_cons,ih,List.flatMap_cons,List.map_append,List.append_assoc]
 rw [key,List.nil_append];rfl
theorem D6:gC=kz:=rfl
theorem Cb {plan:List Zd} {l:List Zb} (hv:VPs plan) (hl:VAs l) {imp:ByteArray} {g:Goal} (hg:g∈cI plan l imp) (known:List Za) (hk:known.length≤100000) (ps:List Zc) (hps:ps.length≤100000) :
    fX (wl g) plan l imp known ps=some ((eD plan l imp (aZ known) g).isSome,known,ps++((eD plan l imp (aZ known) g).map ox).toList):=by
  unfold fX
  have hf:=pb hg
  have hr:=xP hl hg
  rw [D6,D1 hv hl imp _ known (by omega),be]
  unfold qk wl
  dsimp only
  rw [hf.1]
  simp only [bZ]
  rw [zd (wd hv imp g.1 _ hf.2) hr.1 hr.2.1 hr.2.2,be]
  unfold eD
  cases hw:ka (mh plan l imp g.1 (aZ known)) g.2 with
  | none=>simp [iD]
  | some w =>
    show Option.bind (cond true (Option.bind (app 64 ps [_]) _) _) _=_
    rw [bZ,cK (by simp;omega) (by simp;omega)];rfl
theorem Cc {plan:List Zd} {l:List Zb} (hv:VPs plan) (hl:VAs l) {imp:ByteArray} (o:List Goal) (ho:∀ g∈o,g∈cI plan l imp) (ps:List Prf) (hlen:ps.length+o.length≤64000) {β:Type} (K:List Zj×List Zc×List Za→Option β) :
    Option.bind (aV (S:=(List Zj)×Int×(List Zc)×(List Za)) (T:=((List Zj)×(List Zc)×(List Za))) (fun (l27,v30,l32,l36)=>cond (decide (v30<((o.map wl).length:Int))) (Option.bind (Option.bind (idx (o.map wl) v30) (fun m68=>Option.bind (fX m68 plan l imp l36 l32) (fun x70=>cond (!x70.1) (Option.bind (app 112 l27 [m68]) (fun l80=>some (l80,x70.2.2,x70.2.1))) (some (l27,x70.2.2,x70.2.1))))) (fun (l58,l62,l66)=>some (.inl (l58,(IntKind.i64.wrap (v30+1)),l62,l66)))) (some (.inr (l27,l32,l36)))) FUEL (([]:List Zj),0,ps.map ox,ps.map fun p:Prf=>p.1)) K =
      K ((o.filter fun g=>(eD plan l imp (aZ (ps.map fun p:Prf=>p.1)) g).isNone).map wl,(ps++o.filterMap (eD plan l imp (aZ (ps.map fun p:Prf=>p.1)))).map ox,ps.map fun p:Prf=>p.1):=by
  generalize hS:(ps.map fun p:Prf=>p.1)=known
  have hkn:known.length=ps.length:=by rw [← hS,List.length_map]
  have hml:(o.map wl).length=o.length:=List.length_map _
  refine (cx (l:=o.map wl) (by omega) (fun i (s:List Zj×List Zc)=>(s.1,i,s.2,known)) (fun s t=>match eD plan l imp (aZ known) (t.claim,t.rule) with | some p=>(s.1,s.2++[ox p]) | none=>(s.1++[t],s.2)) (fun s=>(s.1,s.2,known)) (fun k s=>s.1.length≤k∧s.2.length≤ps.length+k) ([],ps.map ox) ⟨by simp,by simp⟩ (fun k hk s hs=>?_) (fun s _=>by simp only [cO,bI])).1.trans ?_
  · obtain ⟨a,b⟩:=s
    obtain ⟨h1,h2⟩:=hs
    dsimp only at h1 h2 ⊢
    simp only [hZ hk,bZ,aQ hk,be,bU hk (show (o.map wl).length≤4611686018427387904 by omega)]
    have hk':k<o.length:=by omega
    rw [List.getElem_map,Cb hv hl (ho _ (List.getElem_mem hk')) known (by omega) b (by omega),be]
    rw [show eD plan l imp (aZ known) ((wl o[k]).claim,(wl o[k]).rule)=eD plan l imp (aZ known) o[k] from rfl]
    cases hp:eD plan l imp (aZ known) o[k] with
    | none =>
      simp only [Option.isSome_none,Bool.not_false,bZ]
      rw [cK (by simp;omega) (by simp;omega)]
      exact ⟨by simp,by simp;omega,by omega⟩
    | some p =>
      simp only [Option.isSome_some,Bool.not_true,bI]
      exact ⟨rfl,by omega,by simp;omega⟩
  have key:∀ (o:List Goal) (a:List Zj) (b:List Zc),(o.map wl).foldl (fun (s:List Zj×List Zc) t=>match eD plan l imp (aZ known) (t.claim,t.rule) with | some p=>(s.1,s.2++[ox p]) | none=>(s.1++[t],s.2)) (a,b)=(a++(o.filter fun g=>(eD plan l imp (aZ known) g).isNone).map wl,b++(o.filterMap (eD plan l imp (aZ known))).map ox):=by
    intro o
    induction o with
    | nil=>intro a b;simp
    | cons g o ih =>
      intro a b
      rw [List.map_cons,List.foldl_cons,List.filter_cons]
      show List.foldl _ (match eD plan l imp (aZ known) g with | some p=>(a,b++[ox p]) | none=>(a++[wl g],b)) _=_
      cases hp:eD plan l imp (aZ known) g with
      | none=>rw [List.filterMap_cons_none hp];dsimp only;rw [ih];simp
      | some p=>rw [List.filterMap_cons_some hp];dsimp only;rw [ih];simp
  rw [key,List.nil_append,List.map_append]
def s7 (p0:List Zd) (p1:List Zb) (p2:ByteArray):(List Zj)×(List Zc)×(List Za)→Option (((List Zj)×(List Zc)×(List Za))⊕(Unit⊕(List Zc×Int))):=(fun (l13,l15,l19)=>Option.bind (aV (S:=(List Zj)×Int×(List Zc)×(List Za)) (T:=((List Zj)×(List Zc)×(List Za))) (fun (l27,v30,l32,l36)=>cond (decide (v30<(l13.length:Int))) (Option.bind (Option.bind (idx l13 v30) (fun m68=>Option.bind (fX m68 p0 p1 p2 l36 l32) (fun x70=>cond (!x70.1) (Option.bind (app 112 l27 [m68]) (fun l80=>some (l80,x70.2.2,x70.2.1))) (some (l27,x70.2.2,x70.2.1))))) (fun (l58,l62,l66)=>some (.inl (l58,(IntKind.i64.wrap (v30+1)),l62,l66)))) (some (.inr (l27,l32,l36)))) FUEL (([]:List Zj),0,l15,l19)) (fun (l42,l46,l50)=>cond (((l46.length:Nat):Int) == ((l15.length:Nat):Int)) (some (.inr (.inr (l46,(0:Int))))) (Option.bind (sub l46 ((l15.length:Nat):Int) (l46.length:Int)) (fun l85=>Option.bind (aV (S:=Int×(List Za)) (T:=((List Za))) (fun (v86,l88)=>cond (decide (v86<((l46.length - ((l15.length:Nat):Int).toNat:Nat):Int))) (Option.bind (lw v86) (fun u100=>Option.bind (idx l46 (((l15.length:Nat):Int)+v86)) (fun m101=>Option.bind (app 16 l88 [m101.Claim]) (fun l105=>some (.inl ((IntKind.i64.wrap (v86+1)),l105)))))) (some (.inr l88))) FUEL (0,l50)) (fun l96=>some (.inl (l42,l46,l96)))))))
theorem D7 (a b:List Zc) (known:List Za) (h:a.length+b.length+known.length≤200000) {β:Type} (K:List Za→Option β) :
    Option.bind (aV (S:=Int×(List Za)) (T:=((List Za))) (fun (v86,l88)=>cond (decide (v86<(((a++b).length - ((a.length:Nat):Int).toNat:Nat):Int))) (Option.bind (lw v86) (fun u100=>Option.bind (idx (a++b) (((a.length:Nat):Int)+v86)) (fun m101=>Option.bind (app 16 l88 [m101.Claim]) (fun l105=>some (.inl ((IntKind.i64.wrap (v86+1)),l105)))))) (some (.inr l88))) FUEL (0,known)) K=K (known++b.map (·.Claim)):=by
  have e:(a++b).length - ((a.length:Nat):Int).toNat=b.length:=by rw [List.length_append];omega
  rw [e]
  refine (cx (l:=b) (by omega) (fun i (s:List Za)=>(i,s)) (fun s p=>s++[p.Claim]) (fun s=>s) (fun k s=>s.length≤known.length+k) known (Nat.le_refl _) (fun k hk s hs=>?_) (fun s _=>by simp only [cO,bI])).1.trans ?_
  · simp only [hZ hk,bZ,bU hk (show b.length≤4611686018427387904 by omega)]
    rw [BY (by omega),be,show ((a.length:Nat):Int)+(k:Int)=((a.length+k:Nat):Int) by omega,aQ (show a.length+k<(a++b).length by rw [List.length_append];omega),be,cK (by simp;omega) (by simp;omega),be]
    have e2:(a++b)[a.length+k]'(by rw [List.length_append];omega)=b[k]:=by rw [List.getElem_append_right (by omega)];congr 1;omega
    rw [e2]
    exact ⟨rfl,by simp;omega⟩
  have key:∀ (b:List Zc) (s:List Za),b.foldl (fun s p=>s++[p.Claim]) s=s++b.map (·.Claim):=by
    intro b
    induction b with
    | nil=>intro s;simp
    | cons p b ih=>intro s;rw [List.foldl_cons,ih];simp
  rw [key]
theorem D8 (ps:List Prf):(ps.map ox).map (·.Claim)=ps.map fun p:Prf=>p.1:=by rw [List.map_map];rfl
theorem pj {γ π:Type} (f:γ→Option π):∀ o:List γ,(o.filterMap f).length+(o.filter fun g=>(f g).isNone).length=o.length
 | []=>rfl
 | g::o=>by
  have ih:=pj f o
  rw [List.filter_cons]
  cases hf:f g with
  | some p=>rw [List.filterMap_cons_some hf];simp;omega
  | none=>rw [List.filterMap_cons_none hf];simp;omega
theorem A3 {plan:List Zd} {l:List Zb} (hv:VPs plan) (hl:VAs l) {imp:ByteArray}:∀ (n:Nat) (o:List Goal) (ps:List Prf) (N:Nat),o.length≤n→n<N→(∀ g∈o,g∈cI plan l imp)→ps.length+o.length≤64000 →
    aV (s7 plan l imp) N (o.map wl,ps.map ox,ps.map fun p:Prf=>p.1)=some (.inr ((jN (fun p:Prf=>p.1) (eD plan l imp) n o ps).map ox,0)):=by
  have step:∀ (o:List Goal) (ps:List Prf),(∀ g∈o,g∈cI plan l imp)→ps.length+o.length≤64000→s7 plan l imp (o.map wl,ps.map ox,ps.map fun p:Prf=>p.1)=cond (o.filterMap (eD plan l imp (aZ (ps.map fun p:Prf=>p.1)))).isEmpty (some (.inr (.inr (ps.map ox,0))))
      (some (.inl ((o.filter fun g=>(eD plan l imp (aZ (ps.map fun p:Prf=>p.1)) g).isNone).map wl,(ps++o.filterMap (eD plan l imp (aZ (ps.map fun p:Prf=>p.1)))).map ox,(ps++o.filterMap (eD plan l imp (aZ (ps.map fun p:Prf=>p.1)))).map fun p:Prf=>p.1))):=by
    intro o ps ho hlen
    unfold s7
    refine (Cc hv hl o ho ps hlen _).trans ?_
    have hnl:=List.length_filterMap_le (eD plan l imp (aZ (ps.map fun p:Prf=>p.1))) o
    generalize o.filterMap (eD plan l imp (aZ (ps.map fun p:Prf=>p.1)))=new at hnl
    dsimp only
    rw [List.map_append]
    cases hn:new.isEmpty
    · have hne:new≠[]:=fun e=>by rw [e] at hn;cases hn
      have hpos:0<new.length:=List.length_pos_iff.2 hne
      rw [show ((((ps.map ox++new.map ox).length:Nat):Int) == (((ps.map ox).length:Nat):Int))=false from by rw [beq_eq_false_iff_ne];simp;omega]
      simp only [bI]
      rw [mR (by simp) (Nat.le_refl _),be,D7 _ _ _ (by simp;omega)]
      rw [D8,← List.map_append,← List.map_append]
    have e:new=[]:=List.isEmpty_iff.1 hn
    subst e
    simp
  intro n
  induction n with
  | zero =>
    intro o ps N ho hN hg hlen
    obtain rfl:o=[]:=List.length_eq_zero_iff.1 (by omega)
    obtain ⟨N,rfl⟩:∃ m,N=m+1:=⟨N - 1,by omega⟩
    rw [jN,fM,step [] ps hg hlen];rfl
  | succ n ih =>
    intro o ps N ho hN hg hlen
    obtain ⟨N,rfl⟩:∃ m,N=m+1:=⟨N - 1,by omega⟩
    rw [fM,step o ps hg hlen,jN]
    cases he:(o.filterMap (eD plan l imp (aZ (ps.map fun p:Prf=>p.1)))).isEmpty
    · have h1:=sq he
      have h2:=pj (eD plan l imp (aZ (ps.map fun p:Prf=>p.1))) o
      exact ih _ _ N (by omega) (by omega) (fun g hg'=>hg g (List.mem_filter.1 hg').1) (by rw [List.length_append];omega)
    rfl
theorem Cd {plan:List Zd} {l:List Zb} (hv:VPs plan) (hl:VAs l) {imp:ByteArray} (h1:ez plan=some 0) (h2:ey l=some 0) (h3:cq imp=some true):jb plan l imp=some ((iX plan l imp).map ox,0):=by
 have hlen:=hv.len
 have hll:=hl.len
 have hg:=sZ plan l imp
 have hm:plan.length*l.length≤64*1000:=Nat.mul_le_mul hlen hll
 unfold jb
 rw [h1,be,h2,be,h3,be,Ca hv hl,be]
 simp only [bne_self_eq_false,bI,Bool.not_true]
 have key:=A3 hv hl (imp:=imp) (cI plan l imp).length (cI plan l imp) [] FUEL (Nat.le_refl _) (by have hf:FUEL=1267650600228229401496703205376:=rfl;omega) (fun g h=>h) (by simp;omega)
 exact (congrArg (fun o=>Option.bind o _) key).trans rfl
abbrev RSt:=(List Zc)×Bool×(List Za)
def wm (s:RSt) (o:Option Prf):RSt:=match o with
 | some p=>(s.1++[ox p],true,iN bJ s.2.2 p.1)
 | none=>s
def gg (s:RSt) (new:List Prf):RSt:=(s.1++new.map ox,s.2.1 || !new.isEmpty,new.foldl (fun t p=>iN bJ t p.1) s.2.2)
theorem wn {α:Type} (h:α→Option Prf):∀ (l:List α) (s:RSt),l.foldl (fun s a=>wm s (h a)) s=gg s (l.filterMap h)
 | [],s=>by simp [gg]
 | a::l,s=>by
  rw [List.foldl_cons,wn h l]
  cases ha:h a with
  | none=>rw [List.filterMap_cons_none ha];rfl
  | some p=>rw [List.filterMap_cons_some ha];simp [gg,wm]
theorem Ce (s:RSt) (a b:List Prf):gg (gg s a) b=gg s (a++b):=by
 unfold gg
 rw [List.map_append,List.append_assoc,List.foldl_append]
 dsimp only
 congr 2
 cases a <;> cases b <;> cases s.2.1 <;> rfl
theorem D9 (s:RSt) (o:Option Prf):(wm s o).1.length≤s.1.length+1∧(wm s o).2.2.length≤s.2.2.length+1:=by
 cases o with
 | none=>exact ⟨by show s.1.length≤_;omega,by show s.2.2.length≤_;omega⟩
 | some p=>exact ⟨by simp [wm],nj _ _⟩
theorem wo (s:RSt):∀ (new:List Prf),(gg s new).1.length≤s.1.length+new.length∧(gg s new).2.2.length≤s.2.2.length+new.length:=by
 intro new
 refine ⟨by simp [gg],?_⟩
 show (new.foldl (fun t p=>iN bJ t p.1) s.2.2).length≤_
 generalize s.2.2=t
 induction new generalizing t with
 | nil=>simp
 | cons p new ih=>rw [List.foldl_cons,List.length_cons];have:=ih (iN bJ t p.1);have:=nj (lt:=bJ) t p.1;omega
theorem ref_one {plan:List Zd} {l:List Zb} (hv:VPs plan) (hl:VAs l) (ha:AscA l) (imp:ByteArray) (set:List Za) (hs:set.length≤1000000) {p:Zd} (hp:p∈plan) {a:Zb} (hal:a∈l) (s:RSt) (h1:s.1.length≤1000000) (h2:s.2.2.length≤1000000) {i j:Int} (hi:idx plan i=some p) (hj:idx l j=some a) :
    Option.bind (idx plan i) (fun m60=>Option.bind (idx l j) (fun m61=>Option.bind (dF set (⟨m60.ID,m61.ID⟩:Za)) (fun x63=>Option.bind (gd (!x63) (dO plan l imp (⟨m60.ID,m61.ID⟩:Za))) (fun x64=>cond (x63||(!x64)) (some (s.1,s.2.1,s.2.2)) (Option.bind (ig plan l imp (⟨m60.ID,m61.ID⟩:Za) set) (fun x66=>Option.bind (idx l j) (fun m68=>Option.bind (idx plan i) (fun m69=>Option.bind (gu m68 m69.Code) (fun x70=>Option.bind (js x70.1 x66.1) (fun x72=>cond x72.2 (Option.bind (app 64 s.1 [(⟨(⟨m60.ID,m61.ID⟩:Za),x72.1,x66.2⟩:Zc)]) (fun l76=>Option.bind (fS s.2.2 (⟨m60.ID,m61.ID⟩:Za)) (fun x80=>some (l76,true,x80)))) (some (s.1,s.2.1,s.2.2))))))))))))=some (wm s (kK plan l imp (aZ set) p a)):=by
  have hlen:=hv.len
  have hva:=hl.all a hal
  rw [hi,be,hj,be,kG _ _ (by omega),be,CX _ _ _ _ (by omega) hl]
  unfold kK
  cases hm:aZ set ⟨p.ID,a.ID⟩
  · rw [Bool.not_false,cH,be]
    cases hc:jh plan l imp ⟨p.ID,a.ID⟩
    · rfl
    simp only [Bool.not_true,Bool.or_self,bI]
    obtain ⟨r,hr⟩:=AV hv ha hp hal hc
    have hro:=wf hva hr
    have hf:=sX hc
    rw [Gh hv hl imp _ set (by omega),be,be,be,rD _ _ hva.ok.len,be,hr]
    unfold qk
    rw [hc]
    simp only [bZ]
    rw [show (iD vR (some r)).1=r from rfl,show (some r).getD vR=r from rfl,A1 (wd hv imp _ _ hf) hro.2.1 hro.2.2,be]
    unfold eD
    dsimp only
    cases hw:ka (mh plan l imp ⟨p.ID,a.ID⟩ (aZ set)) r with
    | none=>rfl
    | some w =>
      show Option.bind (app 64 s.1 [_]) _=_
      rw [cK (by simp;omega) (by simp;omega),be,xF _ _ (by omega)];rfl
  rfl
theorem Ea {plan:List Zd} {l:List Zb} (hv:VPs plan) (hl:VAs l) (ha:AscA l) (imp:ByteArray) (set:List Za) (hs:set.length≤100000) (out:List Zc) (h1:out.length≤100000) {β:Type} (K:RSt→Option β) :
    Option.bind (aV (S:=(List Zc)×Bool×(List Za)×Int) (T:=((List Zc)×Bool×(List Za))) (fun (l22,v25,l26,v27)=>cond (decide (v27<(plan.length:Int))) (Option.bind (aV (S:=(List Zc)×Bool×(List Za)×Int) (T:=((List Zc)×Bool×(List Za))) (fun (l38,v41,l42,v43)=>cond (decide (v43<(l.length:Int))) (Option.bind (Option.bind (idx plan v27) (fun m60=>Option.bind (idx l v43) (fun m61=>Option.bind (dF set (⟨m60.ID,m61.ID⟩:Za)) (fun x63=>Option.bind (gd (!x63) (dO plan l imp (⟨m60.ID,m61.ID⟩:Za))) (fun x64=>cond (x63||(!x64)) (some (l38,v41,l42)) (Option.bind (ig plan l imp (⟨m60.ID,m61.ID⟩:Za) set) (fun x66=>Option.bind (idx l v43) (fun m68=>Option.bind (idx plan v27) (fun m69=>Option.bind (gu m68 m69.Code) (fun x70=>Option.bind (js x70.1 x66.1) (fun x72=>cond x72.2 (Option.bind (app 64 l38 [(⟨(⟨m60.ID,m61.ID⟩:Za),x72.1,x66.2⟩:Zc)]) (fun l76=>Option.bind (fS l42 (⟨m60.ID,m61.ID⟩:Za)) (fun x80=>some (l76,true,x80)))) (some (l38,v41,l42))))))))))))) (fun (l56,v57,l58)=>some (.inl (l56,v57,l58,(IntKind.i64.wrap (v43+1)))))) (some (.inr (l38,v41,l42)))) FUEL (l22,v25,l26,0)) (fun (l47,v48,l49)=>some (.inl (l47,v48,l49,(IntKind.i64.wrap (v27+1)))))) (some (.inr (l22,v25,l26)))) FUEL (out,false,set,0)) K =
      K (gg (out,false,set) (plan.flatMap fun p=>l.filterMap fun a=>kK plan l imp (aZ set) p a)):=by
  have hlen:=hv.len
  have hll:=hl.len
  refine (cx (l:=plan) (by omega) (fun i (s:RSt)=>(s.1,s.2.1,s.2.2,i)) (fun s p=>gg s (l.filterMap fun a=>kK plan l imp (aZ set) p a)) (fun s=>(s.1,s.2.1,s.2.2)) (fun k s=>s.1.length≤out.length+1000*k∧s.2.2.length≤set.length+1000*k) (out,false,set) ⟨by simp,by simp⟩ (fun k hk s hs=>?_) (fun s _=>by simp only [cO,bI])).1.trans ?_
  · obtain ⟨g1,g2⟩:=hs
    have hfl:=List.length_filterMap_le (fun a=>kK plan l imp (aZ set) plan[k] a) l
    have hrl:=wo s (l.filterMap fun a=>kK plan l imp (aZ set) plan[k] a)
    refine ⟨?_,by omega,by omega⟩
    simp only [hZ hk,bZ,bU hk (show plan.length≤4611686018427387904 by omega)]
    refine (cx (l:=l) (by omega) (fun i (s:RSt)=>(s.1,s.2.1,s.2.2,i)) (fun s a=>wm s (kK plan l imp (aZ set) plan[k] a)) (fun s=>(s.1,s.2.1,s.2.2)) (fun j t=>t.1.length≤s.1.length+j∧t.2.2.length≤s.2.2.length+j) s ⟨Nat.le_refl _,Nat.le_refl _⟩ (fun j hj t ht=>?_) (fun t _=>by simp only [cO,bI])).1.trans ?_
    · obtain ⟨t1,t2⟩:=ht
      have hst:=D9 t (kK plan l imp (aZ set) plan[k] l[j])
      refine ⟨?_,by omega,by omega⟩
      simp only [hZ hj,bZ,bU hj (show l.length≤4611686018427387904 by omega)]
      exact (congrArg (fun o=>Option.bind o _) (ref_one hv hl ha imp set (by omega) (List.getElem_mem hk) (List.getElem_mem hj) t (by omega) (by omega) (aQ hk) (aQ hj))).trans rfl
    rw [wn (fun a=>kK plan l imp (aZ set) plan[k] a)]
  have key:∀ (q:List Zd) (s:RSt),q.foldl (fun s p=>gg s (l.filterMap fun a=>kK plan l imp (aZ set) p a)) s=gg s (q.flatMap fun p=>l.filterMap fun a=>kK plan l imp (aZ set) p a):=by
    intro q
    induction q with
    | nil=>intro s;simp [gg]
    | cons p q ih=>intro s;rw [List.foldl_cons,ih,List.flatMap_cons,Ce]
  rw [key]
section
variable {γ δ π:Type} [DecidableEq δ] {gc:γ→δ} {cl:π→δ} {pv:(δ→Bool)→γ→Option π}
theorem Df (G:List γ) (ps:List π):(G.filter fun g => !aZ (ps.map cl) (gc g)).filterMap (pv (aZ (ps.map cl)))=G.filterMap fun g=>cond (aZ (ps.map cl) (gc g)) none (pv (aZ (ps.map cl)) g):=by
    generalize pv (aZ (ps.map cl))=f
    generalize aZ (ps.map cl)=m
    induction G with
    | nil=>rfl
    | cons g G ihG =>
      rw [List.filter_cons]
      cases hm:m (gc g)
      · simp only [Bool.not_false,if_true,List.filterMap_cons,ihG,hm,bI]
      simp only [Bool.not_true,Bool.false_eq_true,if_false,List.filterMap_cons,ihG,hm,bZ]
theorem Gq (hcl:∀ S g p,pv S g=some p→cl p=gc g) {G:List γ} (inj:∀ g∈G,∀ g'∈G,gc g=gc g'→g=g') (ps:List π):((G.filter fun g => !aZ (ps.map cl) (gc g)).filter fun g=>(pv (aZ (ps.map cl)) g).isNone)=G.filter fun g => !aZ ((ps++G.filterMap fun g=>cond (aZ (ps.map cl) (gc g)) none (pv (aZ (ps.map cl)) g)).map cl) (gc g):=by
    rw [List.filter_filter]
    refine List.filter_congr fun g hg=>?_
    cases hm:aZ (ps.map cl) (gc g)
    · cases hp:pv (aZ (ps.map cl)) g with
      | none =>
        cases hq:aZ ((ps++G.filterMap fun g=>cond (aZ (ps.map cl) (gc g)) none (pv (aZ (ps.map cl)) g)).map cl) (gc g)
        · rfl
        · obtain ⟨p,k1,k2⟩:=iE.1 hq
          rcases List.mem_append.1 k1 with k1 | k1
          · rw [iE.2 ⟨p,k1,k2⟩] at hm;cases hm
          · obtain ⟨g',hg',he⟩:=List.mem_filterMap.1 k1
            cases hm':aZ (ps.map cl) (gc g')
            · rw [hm'] at he
              have:=inj g' hg' g hg ((hcl _ _ _ he).symm.trans k2)
              subst this
              rw [bI,hp] at he;cases he
            · rw [hm'] at he;cases he
      | some p =>
        have:aZ ((ps++G.filterMap fun g=>cond (aZ (ps.map cl) (gc g)) none (pv (aZ (ps.map cl)) g)).map cl) (gc g)=true:=iE.2 ⟨p,List.mem_append.2 (.inr (List.mem_filterMap.2 ⟨g,hg,by rw [hm];exact hp⟩)),hcl _ _ _ hp⟩
        rw [this];rfl
    have:aZ ((ps++G.filterMap fun g=>cond (aZ (ps.map cl) (gc g)) none (pv (aZ (ps.map cl)) g)).map cl) (gc g)=true:=by
      obtain ⟨p,k1,k2⟩:=iE.1 hm
      exact iE.2 ⟨p,List.mem_append.2 (.inl k1),k2⟩
    rw [this]
    cases (pv (aZ (ps.map cl)) g).isNone <;> rfl
end
theorem Cf {plan:List Zd} {l:List Zb} (hv:VPs plan) (hl:VAs l) (ha:AscA l) (imp:ByteArray) {body:(List Zc)×(List Za)×Bool→Option (((List Zc)×(List Za)×Bool)⊕(List Zc))}
    (hb:∀ (out:List Zc) (set:List Za) (more:Bool),out.length≤100000→set.length≤100000→body (out,set,more)=cond more (some (.inl ((gg (out,false,set) (plan.flatMap fun p=>l.filterMap fun a=>kK plan l imp (aZ set) p a)).1,(gg (out,false,set) (plan.flatMap fun p=>l.filterMap fun a=>kK plan l imp (aZ set) p a)).2.2,(gg (out,false,set) (plan.flatMap fun p=>l.filterMap fun a=>kK plan l imp (aZ set) p a)).2.1))) (some (.inr out))) :
    ∀ (n:Nat) (ps:List Prf) (set:List Za) (N:Nat),((cI plan l imp).filter fun g => !aZ (ps.map fun p:Prf=>p.1) g.1).length≤n→n+1<N→(∀ c,aZ set c=aZ (ps.map fun p:Prf=>p.1) c)→ps.length+((cI plan l imp).filter fun g => !aZ (ps.map fun p:Prf=>p.1) g.1).length≤64000→set.length≤ps.length →
      aV body N (ps.map ox,set,true)=some ((j8 plan l imp n ps set).map ox):=by
  have hnewE:∀ (ps:List Prf) (set:List Za),(∀ c,aZ set c=aZ (ps.map fun p:Prf=>p.1) c)→(plan.flatMap fun p=>l.filterMap fun a=>kK plan l imp (aZ set) p a)=((cI plan l imp).filter fun g => !aZ (ps.map fun p:Prf=>p.1) g.1).filterMap (eD plan l imp (aZ (ps.map fun p:Prf=>p.1))):=by
    intro ps set hS
    have hSS:aZ set=aZ (ps.map fun p:Prf=>p.1):=funext hS
    rw [hSS,← wj hv ha]
    exact (Df (gc:=fun g:Goal=>g.1) (cl:=fun p:Prf=>p.1) (pv:=eD plan l imp) (cI plan l imp) ps).symm
  have hempty:∀ (ps:List Prf) (set:List Za) (N:Nat),ps.length≤64000→set.length≤ps.length→(plan.flatMap fun p=>l.filterMap fun a=>kK plan l imp (aZ set) p a)=[]→aV body (N+2) (ps.map ox,set,true)=some (ps.map ox):=by
    intro ps set N h1 h2 h
    have hm:(ps.map ox).length=ps.length:=List.length_map _
    rw [fM,hb _ _ _ (by omega) (by omega),h]
    have e:gg (ps.map ox,false,set) []=(ps.map ox,false,set):=by simp [gg]
    rw [e]
    show aV body (N+1) (ps.map ox,set,false)=_
    rw [fM,hb _ _ _ (by omega) (by omega)];rfl
  intro n
  induction n with
  | zero =>
    intro ps set N ho hN hS hlen hset
    obtain ⟨N,rfl⟩:∃ m,N=m+2:=⟨N - 2,by omega⟩
    rw [j8]
    refine hempty ps set N (by omega) hset ?_
    rw [hnewE ps set hS,List.length_eq_zero_iff.1 (Nat.le_zero.1 ho)];rfl
  | succ n ih =>
    intro ps set N ho hN hS hlen hset
    obtain ⟨N,rfl⟩:∃ m,N=m+2:=⟨N - 2,by omega⟩
    rw [j8]
    cases he:(plan.flatMap fun p=>l.filterMap fun a=>kK plan l imp (aZ set) p a).isEmpty
    · have hm:(ps.map ox).length=ps.length:=List.length_map _
      rw [fM,hb _ _ _ (by omega) (by omega)]
      have hn:=hnewE ps set hS
      have hrl:=wo (ps.map ox,false,set) (plan.flatMap fun p=>l.filterMap fun a=>kK plan l imp (aZ set) p a)
      have hmem:=rG (plan.flatMap fun p=>l.filterMap fun a=>kK plan l imp (aZ set) p a) set
      rw [hn] at he hrl hmem ⊢
      have hsh:=sq he
      have hsum:=pj (eD plan l imp (aZ (ps.map fun p:Prf=>p.1))) ((cI plan l imp).filter fun g => !aZ (ps.map fun p:Prf=>p.1) g.1)
      have hop:=Gq (gc:=fun g:Goal=>g.1) (cl:=fun p:Prf=>p.1) (pv:=eD plan l imp) (B5 plan l imp) (G:=cI plan l imp) (qE (imp:=imp) hv ha) ps
      rw [hop,← Df (gc:=fun g:Goal=>g.1) (cl:=fun p:Prf=>p.1) (pv:=eD plan l imp) (cI plan l imp) ps] at hsh hsum
      generalize ((cI plan l imp).filter fun g => !aZ (ps.map fun p:Prf=>p.1) g.1).filterMap (eD plan l imp (aZ (ps.map fun p:Prf=>p.1)))=new at *
      have e:gg (ps.map ox,false,set) new=((ps++new).map ox,true,new.foldl (fun t p=>iN bJ t p.1) set):=by unfold gg;rw [he,List.map_append];rfl
      rw [e]
      rw [e] at hrl
      refine ih (ps++new) _ (N+1) (by omega) (by omega) (fun c=>?_) (by rw [List.length_append];omega) (by rw [List.length_append];exact Nat.le_trans hrl.2 (by dsimp only;omega))
      rw [hmem,hS,List.map_append]
      unfold aZ;rw [List.any_append]
    exact hempty ps set N (by omega) hset (List.isEmpty_iff.1 he)
theorem Eb {plan:List Zd} {l:List Zb} (hv:VPs plan) (hl:VAs l) (ha:AscA l) {imp:ByteArray} (h1:kY plan=some 0) (h2:fJ l=some 0) (h3:eX imp=some true):jY plan l imp=some ((iX plan l imp).map ox,0):=by
 have hlen:=hv.len
 have hll:=hl.len
 have hg:=sZ plan l imp
 have hm:plan.length*l.length≤64*1000:=Nat.mul_le_mul hlen hll
 unfold jY
 rw [h1,be,h2,be,h3,be]
 simp only [bne_self_eq_false,bI,Bool.not_true]
 have hfl:=List.length_filter_le (fun g:Goal => !aZ (([]:List Prf).map fun p:Prf=>p.1) g.1) (cI plan l imp)
 refine (congrArg (fun o=>Option.bind o _) (Cf hv hl ha imp (fun out set more k1 k2=>?_) (cI plan l imp).length [] [] FUEL hfl (by have hf:FUEL=1267650600228229401496703205376:=rfl;omega) (fun c=>rfl) (by simp only [List.length_nil];omega) (Nat.le_refl _))).trans ?_
 ·cases more
  ·rfl
  exact (Ea hv hl ha imp set k2 out k1 _).trans rfl
 show some ((j8 plan l imp (cI plan l imp).length [] []).map ox,(0:Int))=_
 rw [uf hv ha]
theorem mI {α T:Type}:∀ (m:List α) (i:Nat),cE (fun (_:Nat) (_:α)=>(none:Option T)) m i=none
 | [],_=>rfl
 | _::m,i=>mI m (i+1)
theorem Ec (l:List Zd) (x:Zg) (hl:l.length≤140737488355328):bK l (fun y=>cG y x)=some (db l x.Product).isSome:=by
 unfold bK
 have e:bW l (fun y=>cG y x)=some (match cE (fun k p=>cond (p.ID == x.Product) (some (Sum.inr (k:Int):Unit⊕Int)) none) l 0 with | some (.inr k)=>k | _ => -1):=by
  unfold bW
  refine (bE (l:=l) (by omega) (fun k (p:Zd)=>cond (p.ID == x.Product) (some (.inr (k:Int))) none) (.inl ()) (fun k hk=>?_) (by simp only [cO,bI])).trans ?_
  ·simp only [hZ hk,bZ,aQ hk,be,bU hk (show l.length≤4611686018427387904 by omega)]
   unfold cG
   rw [be];cases (l[k].ID == x.Product) <;> rfl
  cases cE (fun k (p:Zd)=>cond (p.ID == x.Product) (some (Sum.inr (k:Int):Unit⊕Int)) none) l 0 with
  | none=>rfl
  | some t=>cases t <;> rfl
 rw [e,be]
 unfold db
 rcases oo (fun p:Zd=>p.ID == x.Product) (fun k=>(Sum.inr (k:Int):Unit⊕Int)) l 0 with ⟨h1,h2⟩ | ⟨j,hj,h1,h2⟩
 ·rw [h1,h2];rfl
 rw [h1,h2]
 show some (decide (0≤((0+j:Nat):Int)))=_
 rw [det (by omega)];rfl
structure VIds (l:List Zd):Prop where
 id:∀ p∈l,1≤p.ID∧p.ID≤1000000
 lvl:∀ p∈l,dQ p.Code=6∨dQ p.Code=8
theorem uv {α:Type} {f:α→Int} {l:List α} (h:l.Pairwise fun a b=>f a<f b) {k:Nat} (h0:0<k) (hk:k<l.length):f (l[k - 1]'(by omega))<f l[k]:=List.pairwise_iff_getElem.1 h (k - 1) k (by omega) hk (by omega)
theorem A4 {plan:List Zd} (hv:VPs plan) {p:Zd} (hp:VProd plan p):dt plan p.Inputs=some 0:=by
 unfold dt
 have hlen:=hv.len
 have hfew:=hp.few
 refine (bE (l:=p.Inputs) (by omega) (fun _ _=>none) (.inl ()) (fun k hk=>?_) (by simp only [cO,bI])).trans ?_
 ·have hin:=hp.inp _ (List.getElem_mem hk)
  simp only [hZ hk,bZ,aQ hk,be,bU hk (show p.Inputs.length≤4611686018427387904 by omega),CJ]
  rw [Ec _ _ (by omega),hin.1,bQ (show ¬ p.Inputs[k].Value<0 by omega),bQ (show ¬ 1000000000000<p.Inputs[k].Value by omega)]
  by_cases h0:0<k
  ·have hlt:=uv hp.asc h0 hk
   rw [det h0,cH,gp h0 hk (by omega),be,bQ (by omega)];rfl
  rw [bQ h0];rfl
 rw [mI];rfl
theorem zk {plan:List Zd} {p:Zd} (hp:VProd plan p) (hl:dQ p.Code=6∨dQ p.Code=8) (hw:StrsOk p.Processes):di p=some 0:=by
 unfold di
 show Option.bind (some (dQ p.Code)) _=_
 have hne:((dQ p.Code != 6)&&(dQ p.Code != 8))=false:=by rcases hl with h | h <;> rw [h] <;> rfl
 have hfew:=hp.few
 have hpr:=hp.price
 rw [be,hne,Bool.not_false,cH,nL,hp.ctr,be,Bool.not_true,Bool.or_self,Bool.not_false,cH,rB _ hw,hp.proc,be]
 simp only [Bool.not_true,Bool.or_self,bI]
 rw [bQ (show ¬ p.Price<1 by omega),bQ (show ¬ 1000000000000<p.Price by omega),bQ (show ¬ 8<(p.Inputs.length:Int) by omega)]
 simp only [Bool.or_self,bI]
 cases ho:p.Obtained
 ·rfl
 rw [hp.obt ho];rfl
theorem xQ {plan:List Zd} {p:Zd} (hp:VProd plan p):StrsOk p.Processes:=by
 obtain ⟨h1,h2,_⟩:=kH hp.proc
 exact ⟨by omega,fun s hs=>by have:=wc (h2 s hs);omega⟩
theorem Cg {plan:List Zd} (hv:VPs plan) (hi:VIds plan):ez plan=some 0:=by
 unfold ez
 have hlen:=hv.len
 rw [bQ (by omega),bI]
 refine (bE (l:=plan) (by omega) (fun _ _=>none) (.inl ()) (fun k hk=>?_) (by simp only [cO,bI])).trans ?_
 ·have hm:=List.getElem_mem hk
  have hp:=hv.all _ hm
  have hid:=hi.id _ hm
  simp only [hZ hk,bZ,aQ hk,be,bU hk (show plan.length≤4611686018427387904 by omega),CJ]
  rw [bQ (show ¬ plan[k].ID<1 by omega),bQ (show ¬ 1000000<plan[k].ID by omega),zk hp (hi.lvl _ hm) (xQ hp),A4 hv hp]
  by_cases h0:0<k
  ·have hlt:=uv hv.asc h0 hk
   rw [det h0,cH,gp h0 hk (by omega),be,bQ (by omega)];rfl
  rw [bQ h0];rfl
 rw [mI];rfl
theorem MPs.vids {l:List Zd} (h:MPs l):VIds l:=by
 have hlen:=h.len
 refine ⟨fun p hp=>?_,fun p hp=>?_⟩
 ·obtain ⟨i,hi,rfl⟩:=List.getElem_of_mem hp
  have:=(h.all i _ (List.getElem?_eq_getElem hi)).id;omega
 obtain ⟨i,hi,rfl⟩:=List.getElem_of_mem hp
 exact (h.all i _ (List.getElem?_eq_getElem hi)).lvl.1
theorem Ed (l:List ByteArray) (hl:StrsOk l):lC l=some (kC l):=by
 obtain ⟨hl,hs⟩:=hl
 unfold lC kC
 refine (bE (l:=l) (by omega) (fun k x=>cond (ns ia l k x) none (some (.inr false))) (.inl ()) (fun k hk=>?_) (by simp only [cO,bI])).trans ?_
 ·have h62:l.length≤4611686018427387904:=by omega
  simp only [hZ hk,bZ,aQ hk,be,As _ (hs _ (List.getElem_mem hk)),CJ,bU hk h62,ns]
  cases hw:ia l[k]
  ·rfl
  by_cases h0:0<k
  ·simp only [h0,decide_true,Bool.not_true,Bool.not_false,Bool.and_true,Bool.true_and,Bool.false_or,cH,gp h0 hk h62,be,fY (show k - 1<l.length by omega),i9]
   cases Op.bytesLess (l[k-1]'(by omega)).toList l[k].toList <;> rfl
  simp only [h0,decide_false,Bool.and_false,ji,be,Bool.not_true,Bool.false_or,Bool.false_and,bI,Bool.not_false,Bool.true_and,Bool.true_or,Bool.or_false];rfl
 rw [mG]
 have i2:decide ((l.length:Int)≤(8:Int))=decide (l.length≤8):=decide_eq_decide.2 (by omega)
 cases (l.all ia&&kJ i9 l)
 ·simp
 simp [i2]
theorem Gr {s:ByteArray} (h:dQ s=6∨dQ s=8):s.size≤8:=by
 unfold dQ at h
 split at h
 ·omega
 omega
theorem Ee {plan:List Zd} (hv:VPs plan) (hi:VIds plan):kY plan=some 0:=by
 unfold kY
 have hlen:=hv.len
 rw [bQ (by omega),bI]
 refine (bE (l:=plan) (by omega) (fun _ _=>none) (.inl ()) (fun k hk=>?_) (by simp only [cO,bI])).trans ?_
 ·have hm:=List.getElem_mem hk
  have hp:=hv.all _ hm
  have hid:=hi.id _ hm
  have hl:=hi.lvl _ hm
  have hls:=Gr hl
  have hfew:=hp.few
  have hpr:=hp.price
  simp only [hZ hk,bZ,aQ hk,be,bU hk (show plan.length≤4611686018427387904 by omega),CJ]
  rw [bQ (show ¬ plan[k].ID<1 by omega),bQ (show ¬ 1000000<plan[k].ID by omega),sR _ (by omega),qc,Ed _ (xQ hp),hp.ctr,hp.proc]
  have hlv:decide (dQ plan[k].Code<6)=false:=bQ (by omega)
  have tail:∀ {β:Type} (K:Unit⊕(Int⊕(Unit⊕Int))→Option β),Option.bind (aV (S:=Int) (T:=(Unit)⊕(Int⊕(Unit⊕Int))) (fun v18=>cond (decide (v18<(plan[k].Inputs.length:Int))) (Option.bind (gd (decide (0<v18)) (idx plan[k].Inputs v18)) (fun m22=>Option.bind (gd (decide (0<v18)) (idx plan[k].Inputs (IntKind.i64.wrap (v18 - 1)))) (fun m23=>cond ((decide (0<v18))&&(decide (m22.Product≤m23.Product))) (some (.inr (.inr (.inr (.inr 9))))) (Option.bind (idx plan[k].Inputs v18) (fun m25=>Option.bind (fR plan m25.Product) (fun x26=>cond (!x26.2) (some (.inr (.inr (.inr (.inr 6))))) (Option.bind (idx plan[k].Inputs v18) (fun m29=>Option.bind (gd (!(decide (m29.Value<0))) (idx plan[k].Inputs v18)) (fun m30=>cond ((decide (m29.Value<0))||(decide (1000000000000<m30.Value))) (some (.inr (.inr (.inr (.inr 2))))) (some (.inl (IntKind.i64.wrap (v18+1))))))))))))) (some (.inr (.inl ())))) FUEL 0) K=K (.inl ()):=by
   intro β K
   refine (bE (l:=plan[k].Inputs) (by omega) (fun _ _=>none) (.inl ()) (fun j hj=>?_) (by simp only [cO,bI])).trans ?_
   ·have hin:=hp.inp _ (List.getElem_mem hj)
    simp only [hZ hj,bZ,aQ hj,be,bU hj (show plan[k].Inputs.length≤4611686018427387904 by omega),CJ]
    rw [sW hv,be,hin.1,bQ (show ¬ plan[k].Inputs[j].Value<0 by omega),Bool.not_false,cH,be,bQ (show ¬ 1000000000000<plan[k].Inputs[j].Value by omega)]
    by_cases h0:0<j
    ·have hlt:=uv hp.asc h0 hj
     rw [det h0,cH,cH,be,gp h0 hj (by omega),be,bQ (by omega)];rfl
    rw [bQ h0];rfl
   rw [mI];rfl
  by_cases h0:0<k
  ·have hlt:=uv hv.asc h0 hk
   rw [det h0,cH,gp h0 hk (by omega),be,bQ (show ¬ plan[k].ID≤(plan[k - 1]'(by omega)).ID by omega)]
   simp only [Bool.or_self,bI,Bool.and_false,be,hlv,Bool.not_false,cH,Bool.not_true]
   rw [bQ (show ¬ plan[k].Price<1 by omega),bQ (show ¬ 1000000000000<plan[k].Price by omega),bQ (show ¬ 8<(plan[k].Inputs.length:Int) by omega)]
   have hob:(plan[k].Obtained&&decide (0<plan[k].Inputs.length))=false:=by
    cases ho:plan[k].Obtained
    ·rfl
    rw [hp.obt ho];rfl
   rw [hob]
   simp only [Bool.or_self,bI]
   exact (tail _).trans rfl
  rw [bQ h0,ji,be]
  simp only [Bool.or_self,bI,Bool.false_and,be,hlv,Bool.not_false,cH,Bool.not_true]
  rw [bQ (show ¬ plan[k].Price<1 by omega),bQ (show ¬ 1000000000000<plan[k].Price by omega),bQ (show ¬ 8<(plan[k].Inputs.length:Int) by omega)]
  have hob:(plan[k].Obtained&&decide (0<plan[k].Inputs.length))=false:=by
   cases ho:plan[k].Obtained
   ·rfl
   rw [hp.obt ho];rfl
  rw [hob]
  simp only [Bool.or_self,bI]
  exact (tail _).trans rfl
 rw [mI];rfl
theorem awake15:nw=some true:=by kernel_rfl
theorem Ch {p:List Zd} {l:List Zb} {imp:ByteArray} (h1:MPs p) (h2:MAs l) (h3:imp∈C6):jb p l imp=some ((iX p l imp).map ox,0)∧jY p l imp=some ((iX p l imp).map ox,0):=by
 have hv:=h1.vps
 refine ⟨Cd hv h2.vas (Cg hv h1.vids) ?_ ?_,Eb hv h2.vas h2.asc (Ee hv h1.vids) ?_ ?_⟩
 ·rw [FO l h2.ok,h2.valid]
 ·rw [nL,C6_ctry h3]
 ·rw [ref_agr l h2.ok,h2.valid]
 rw [qc,C6_ctry h3]
theorem same15 (x:List Zc) (hx:x.length≤140737488355328) (hp:∀ p∈x,p.Path.length≤140737488355328∧p.Premises.length≤140737488355328):lf x x=some true:=by
 unfold lf
 simp only [bne_self_eq_false,bI]
 refine (bE (l:=x) (by omega) (fun _ _=>none) (.inl ()) (fun k hk=>?_) (by simp only [cO,bI])).trans ?_
 ·obtain ⟨g1,g2⟩:=hp _ (List.getElem_mem hk)
  simp only [hZ hk,bZ,aQ hk,be,bU hk (show x.length≤4611686018427387904 by omega)]
  rw [Za.eqb_iff.2 rfl]
  simp only [Bool.not_true,Bool.not_false,cH,be]
  rw [AE _ _ g1,be,det rfl]
  simp only [Bool.not_true,Bool.not_false,cH,be,Bool.or_self]
  rw [wU _ _ g2,be,det rfl];rfl
 rw [mI];rfl
theorem A5 {plan:List Zd} {l:List Zb} (hv:VPs plan) (hl:VAs l) (ha:AscA l) (imp:ByteArray):(iX plan l imp).length≤64000∧∀ p∈iX plan l imp,p.2.1.length≤1000∧p.2.2.length≤64:=by
 have hg:=sZ plan l imp
 have hm:plan.length*l.length≤64*1000:=Nat.mul_le_mul hv.len hl.len
 have key:∀ (n:Nat) (o:List Goal) (ps:List Prf),(∀ g∈o,g∈cI plan l imp)→(∀ p∈ps,p.2.1.length≤1000∧p.2.2.length≤64)→(jN (fun p:Prf=>p.1) (eD plan l imp) n o ps).length≤ps.length+o.length∧∀ p∈jN (fun p:Prf=>p.1) (eD plan l imp) n o ps,p.2.1.length≤1000∧p.2.2.length≤64:=by
  intro n
  induction n with
  | zero=>intro o ps _ h;exact ⟨by rw [jN];omega,by rw [jN];exact h⟩
  | succ n ih =>
   intro o ps ho h
   rw [jN]
   have hs:=pj (eD plan l imp (aZ (ps.map fun p:Prf=>p.1))) o
   cases (o.filterMap (eD plan l imp (aZ (ps.map fun p:Prf=>p.1)))).isEmpty
   ·obtain ⟨i1,i2⟩:=ih (o.filter fun g=>(eD plan l imp (aZ (ps.map fun p:Prf=>p.1)) g).isNone) (ps++o.filterMap (eD plan l imp (aZ (ps.map fun p:Prf=>p.1)))) (fun g hg=>ho g (List.mem_filter.1 hg).1) (fun p hp=>by
     rcases List.mem_append.1 hp with hp | hp
     ·exact h p hp
     obtain ⟨g,k1,k2⟩:=List.mem_filterMap.1 hp
     have hr:=xP hl (ho g k1)
     unfold eD at k2
     cases hw:ka (mh plan l imp g.1 (aZ (ps.map fun p:Prf=>p.1))) g.2 with
     | none=>rw [hw] at k2;cases k2
     | some w =>
      rw [hw,Option.map_some] at k2
      injection k2 with k2
      subst k2
      exact ⟨by have:=sn _ _ w hw;dsimp only;omega,Gk hv imp g.1 _ (pb (ho g k1)).2⟩)
    exact ⟨by rw [List.length_append] at i1;simp only [bI];omega,i2⟩
   ·exact ⟨by simp only [bZ];omega,h⟩
 obtain ⟨k1,k2⟩:=key (cI plan l imp).length (cI plan l imp) [] (fun g h=>h) (fun p hp=>by cases hp)
 exact ⟨by unfold iX;simp only [List.length_nil] at k1;omega,k2⟩
theorem A6 (l:List Zc) (c:Za) (hl:l.length≤140737488355328):iV l c=some (aZ (l.map (·.Claim)) c):=by
 unfold iV bN
 have e:bu l (fun y=>kv y c)=some (match cE (fun k (p:Zc)=>cond (Za.eqb p.Claim c) (some (Sum.inr (k:Int):Unit⊕Int)) none) l 0 with | some (.inr k)=>k | _ => -1):=by
  unfold bu
  refine (bE (l:=l) (by omega) (fun k (p:Zc)=>cond (Za.eqb p.Claim c) (some (.inr (k:Int))) none) (.inl ()) (fun k hk=>?_) (by simp only [cO,bI])).trans ?_
  ·simp only [hZ hk,bZ,aQ hk,be,bU hk (show l.length≤4611686018427387904 by omega)]
   unfold kv
   rw [be];cases (Za.eqb l[k].Claim c) <;> rfl
  cases cE (fun k (p:Zc)=>cond (Za.eqb p.Claim c) (some (Sum.inr (k:Int):Unit⊕Int)) none) l 0 with
  | none=>rfl
  | some t=>cases t <;> rfl
 rw [e,be,be]
 rcases oo (fun p:Zc=>Za.eqb p.Claim c) (fun k=>(Sum.inr (k:Int):Unit⊕Int)) l 0 with ⟨h1,h2⟩ | ⟨j,hj,h1,h2⟩
 ·rw [h1]
  have:aZ (l.map (·.Claim)) c=false:=by
   rw [lJ,List.mem_map]
   rintro ⟨p,hp,rfl⟩
   exact List.find?_eq_none.1 h2 p hp (Za.eqb_iff.2 rfl)
  rw [this];rfl
 rw [h1]
 have:aZ (l.map (·.Claim)) c=true:=by
  rw [eK,List.mem_map]
  have:=List.find?_some h2
  exact ⟨l[j],List.getElem_mem hj,Za.eqb_iff.1 this⟩
 rw [this]
 show some (decide (0≤((0+j:Nat):Int)))=_
 rw [det (by omega)]



structure POk (p:Zd):Prop where
 code:p.Code.size≤140737488355328
 proc:StrsOk p.Processes
 len:p.Inputs.length≤140737488355328
structure PSOk (l:List Zd):Prop where
 len:l.length≤140737488355328
 all:∀ p∈l,POk p

def uIn (id pid:Int) (acc:List Int) (x:Zg):List Int:=cond (x.Product == id) (acc++[pid]) acc
def usersS (plan:List Zd) (id:Int):List Int:=plan.foldl (fun acc p=>p.Inputs.foldl (uIn id p.ID) acc) []
def hitB (plan:List Zd) (id:Int) (r:List Bool) (m:Nat) (u:List Int):Bool:=match plan[m]? with
 | none=>false
 | some p=>((p.ID == id)||r.getD m false)&&u.any fun x=>x == p.ID
def iY (r:List Bool):Nat:=(r.filter fun b => !b).length
theorem wq:∀ (r:List Bool) (i:Nat),r[i]?=some false→iY (r.set i true)<iY r
 | b::r,0,h=>by simp at h;subst h;simp [iY]
 | b::r,i+1,h=>by
  have:=wq r i (by simpa using h)
  unfold iY at this ⊢
  cases b <;> simp [List.filter_cons] <;> omega
structure PassI (plan:List Zd) (id:Int) (r:List Bool) (k:Nat) (r':List Bool) (ag:Bool):Prop where
 len:r'.length=plan.length
 le:k≤plan.length
 no:ag=false→r'=r∧∀ i,i<k→∀ p,plan[i]?=some p→r.getD i false=true∨∀ m,hitB plan id r m (usersS plan p.ID)=false
 yes:ag=true→iY r'<iY r
theorem VIds.sub {l m:List Zd} (h:VIds l) (hs:∀ p∈m,p∈l):VIds m:=⟨fun p hp=>h.id p (hs p hp),fun p hp=>h.lvl p (hs p hp)⟩
theorem Ci (b:Bool):(b != b)=false:=by cases b <;> rfl

end SX
end Go.Proofs.YtgmbmepakpcpaaaGreatDoor
