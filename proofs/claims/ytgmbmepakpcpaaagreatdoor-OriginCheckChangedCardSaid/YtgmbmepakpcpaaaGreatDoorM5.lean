/- A part of the proof: texts of the walk and of the plain laws, merged. No condition. -/
import Derived.Test.YtgmbmepakpcpaaaGreatDoorM4
set_option linter.unusedVariables false
set_option linter.unusedSimpArgs false
set_option maxHeartbeats 4000000
set_option maxRecDepth 100000
namespace Go.Proofs.YtgmbmepakpcpaaaGreatDoor
namespace SX
open Go
def k0 (W:World):Kr:=⟨W,fun b=>b<W.heap.size⟩
theorem rP {t:Nat} {z:Value} {s b:Nat} (h:gb t=some (z,s,b)):Tryz.prog.cellsOf t=s∧Tryz.prog.bytesOf t=b:=by
 obtain ⟨i,h1,h2,h3,h4⟩:=qI h
 constructor
 ·simp [Program.cellsOf,h1,h3]
 simp [Program.bytesOf,h1,h4]
def Light {H:Type} (t:Nat) (d:DataW H):Prop:=∀ n∈d.weights Tryz.prog t,n≤reachBytes
theorem FH {H:Type} (d:DataW H):1≤Rows.uptoBulk d:=by
 cases d with
 | lit l=>cases l <;> simp [Rows.uptoBulk]
 | nil=>simp [Rows.uptoBulk]
 | ptr d=>simp [Rows.uptoBulk]
 | slice elems spare=>simp [Rows.uptoBulk]
 | agg parts=>simp [Rows.uptoBulk]
 | iface t d=>simp [Rows.uptoBulk]
 | map entries=>simp [Rows.uptoBulk]
 | held h=>simp [Rows.uptoBulk]
theorem DD {H:Type} {d:DataW H} {l:List (DataW H)} (h:d∈l):Rows.uptoBulk d≤Rows.uptoBulkAll l:=by
 induction l with
 | nil=>cases h
 | cons x r ih =>
  simp only [Rows.uptoBulkAll]
  cases List.mem_cons.1 h with
  | inl e=>subst e;omega
  | inr e=>have:=ih e;omega
theorem FI {H:Type} (l:List (DataW H)):l.length≤Rows.uptoBulkAll l:=by
 induction l with
 | nil=>simp [Rows.uptoBulkAll]
 | cons x r ih=>have:=FH x;simp only [Rows.uptoBulkAll,List.length_cons];omega
def Opens {H:Type} (eh:TypeId×Value→H) {α:Type} (n:Nat) (t:Nat) (e:α→List PV) (B:α→Prop):Prop :=
 ∀ (W:World) (fuel:Nat) (cs:List Value) (x:DataW H×List MemPlace),DataW.trod eh Tryz.prog W 0 (fun _=>true) true fuel t cs=some x→Light t x.1→Rows.uptoBulk x.1≤n→∃ m,Rps (k0 W) (e m) cs∧One cs∧B m
section
variable {H:Type} {eh:TypeId×Value→H} {nb:Nat}
theorem one1 {v:Value} (h:v.oneCell'=true):One [v]:=fun u hu=>by rw [List.mem_singleton.1 hu];exact h
theorem DE {t:Nat} {k:IntKind} (h:eV t=some (.int k)):Opens eh nb t (fun x:Int=>[.v (.int k x)]) (fun _=>True):=fun W fuel cs x hx _ _=>by
 obtain ⟨n,rfl,_,_⟩:=DataW.trod_int (bL h) hx
 exact ⟨n,.cons (.v rfl) .nil,one1 rfl,trivial⟩
theorem qt {e:Nat}:∀ {l:List (DataW H)} {d:DataW H} {n:Nat},d∈l→n∈d.weights Tryz.prog e→n∈DataW.weightsAll Tryz.prog e l
 | d'::l,d,n,hd,hn=>by
  simp only [DataW.weightsAll,List.mem_append]
  rcases List.mem_cons.1 hd with rfl | hd
  ·exact .inl hn
  exact .inr (qt hd hn)
theorem CD {α β:Type} {R:α→β→Prop}:∀ (l:List β),(∀ b∈l,∃ a,R a b)→∃ la:List α,la.length=l.length∧∀ (i:Nat) (b:β),l[i]?=some b→∃ a,la[i]?=some a∧R a b
 | [],_=>⟨[],rfl,fun i b h=>by simp at h⟩
 | b::l,h=>by
  obtain ⟨a,ha⟩:=h b (by simp)
  obtain ⟨la,h1,h2⟩:=CD l fun b hb=>h b (by simp [hb])
  refine ⟨a::la,by simp [h1],fun i b' hb=>?_⟩
  cases i with
  | zero=>simp only [List.getElem?_cons_zero,eO] at hb;subst hb;exact ⟨a,rfl,ha⟩
  | succ i=>simp only [List.getElem?_cons_succ] at hb ⊢;exact h2 i b' hb
def OpensN {H:Type} (eh:TypeId×Value→H) {α:Type} (N n:Nat) (t:Nat) (e:α→List PV) (B:α→Prop):Prop :=
 ∀ (W:World) (fuel:Nat) (cs:List Value) (x:DataW H×List MemPlace),fuel<N→DataW.trod eh Tryz.prog W 0 (fun _=>true) true fuel t cs=some x→Light t x.1→Rows.uptoBulk x.1≤n→∃ m,Rps (k0 W) (e m) cs∧One cs∧B m
theorem yG {α:Type} {N t E sz by':Nat} {z:Value} {e:α→List PV} {B:α→Prop} (hu:eV t=some (.slice E)) (hi:gb E=some (z,sz,by')) (h0:Nat.blt 0 sz=true) (hb0:Nat.blt 0 by'=true) (hE:OpensN eh N nb E e B):OpensN eh (N+1) nb t (eL e) (fun l=>l.length*by'≤140737488355328∧l.length≤nb∧∀ x∈l,B x):=fun W fuel cs x hfu hx hw hbk=>by
 obtain ⟨hcz,hby⟩:=rP hi
 have hsz:0<sz:=by have:=h0;simp [Nat.blt] at this;omega
 have hbp:0<by':=by have:=hb0;simp [Nat.blt] at this;omega
 rcases DataW.trod_slice (bL hu) hx with ⟨rfl,_⟩ | ⟨a,len,cap,elems,rest,n,rfl,rfl,rfl,_,hl,hm,hlen,hel,_,_⟩
 ·exact ⟨[],.cons (.slc (sz:=sz) (css:=[]) Sl.nil (Nat.zero_le _) (fun _ h=>by cases h) .nil) .nil,one1 rfl,by simp,Nat.zero_le _,fun _ h=>by cases h⟩
 rw [hcz] at hel
 have hwl:(elems.length+rest.length)*by'≤reachBytes:=by
  have:=hw ((elems.length+rest.length)*by') (by simp only [DataW.weights,bL hu,hby,List.length_map];exact List.mem_cons_self)
  exact this
 have hn:len≤140737488355328:=by
  unfold reachBytes at hwl
  have:elems.length*1≤(elems.length+rest.length)*by':=Nat.mul_le_mul (by omega) (by omega)
  omega
 have hcells:∀ i∈List.range len,∃ p:α×List Value,W.cells? 0 (a.add (i*sz)) sz=some p.2∧Rps (k0 W) (e p.1) p.2∧One p.2∧B p.1:=fun i hi'=>by
  have hi':i<len:=List.mem_range.1 hi'
  have h1:=hel i hi'
  have hlt:i<elems.length:=by omega
  rw [List.getElem?_eq_getElem hlt] at h1
  obtain ⟨cs,h2,h3⟩:=Option.bind_eq_some_iff.1 h1
  obtain ⟨m,k1,k2,k3⟩:=hE W n cs _ (by omega) h3 (fun q hq=>hw q (by
   simp only [DataW.weights,bL hu]
   exact List.mem_cons_of_mem _ (List.mem_append.2 (.inl (qt (List.mem_map.2 ⟨_,List.getElem_mem hlt,rfl⟩) hq))))) (by
   have h9:=DD (l:=elems.map (·.1)) (List.mem_map.2 ⟨_,List.getElem_mem hlt,rfl⟩)
   simp only [Rows.uptoBulk] at hbk
   omega)
  exact ⟨(m,cs),h2,k1,k2,k3⟩
 obtain ⟨ps,g1,g2⟩:=CD (R:=fun (p:α×List Value) i=>W.cells? 0 (a.add (i*sz)) sz=some p.2∧Rps (k0 W) (e p.1) p.2∧One p.2∧B p.1) (List.range len) hcells
 rw [List.length_range] at g1
 have g3:∀ (i:Nat) (p:α×List Value),ps[i]?=some p→W.cells? 0 (a.add (i*sz)) sz=some p.2∧Rps (k0 W) (e p.1) p.2∧One p.2∧B p.1:=fun i p hp=>by
  have hlt:=(List.getElem?_eq_some_iff.1 hp).1
  obtain ⟨p',h1,h2⟩:=g2 i i (by rw [List.getElem?_range (by omega)])
  rw [hp] at h1;injection h1 with h1;subst h1;exact h2
 have hps:(ps.map (·.1)).length=len:=by simp [g1]
 refine ⟨ps.map (·.1),?_,one1 rfl,?_,?_,?_⟩
 rotate_left
 ·rw [hps]
  have h9:len*by'≤(elems.length+rest.length)*by':=Nat.mul_le_mul_right _ (by omega)
  unfold reachBytes at hwl
  omega
 ·rw [hps]
  have h9:=FI (elems.map (·.1))
  rw [List.length_map] at h9
  simp only [Rows.uptoBulk] at hbk
  omega
 ·intro x hx
  obtain ⟨p,hp,rfl⟩:=List.mem_map.1 hx
  obtain ⟨i,hi',rfl⟩:=List.getElem_of_mem hp
  exact (g3 i _ (List.getElem?_eq_getElem hi')).2.2.2
 unfold eL;rw [hps]
 refine .cons (.slc (sz:=sz) (css:=ps.map (·.2)) ⟨by simp [g1],hl,?_,?_⟩ hn ?_ ?_) .nil
 ·intro c hc
  obtain ⟨p,hp,rfl⟩:=List.mem_map.1 hc
  obtain ⟨i,hi',rfl⟩:=List.getElem_of_mem hp
  exact (World.cells?_some (g3 i _ (List.getElem?_eq_getElem hi')).1).2.1
 ·intro hpos
  have hp0:0<ps.length:=by omega
  have hc0:=(World.cells?_some (g3 0 _ (List.getElem?_eq_getElem hp0)).1)
  have hread:=hc0.2.2 0 hsz
  have hspot:a.spot=none:=by
   have hlt:0<(ps[0]).2.length:=by rw [hc0.2.1];exact hsz
   rw [List.getElem?_eq_getElem hlt] at hread
   unfold World.cell? at hread
   cases hs:a.spot with
   | none=>rfl
   | some q =>
    have hsp:((a.add (0*sz)).add 0).spot.isSome=true:=by simp [Addr.add,hs]
    split at hread
    ·rw [if_pos hsp] at hread;cases hread
    cases hread
  obtain ⟨ab,ao,asp⟩:=a
  simp only at hspot;subst hspot
  refine ⟨ab,ao,rfl,fun j c hj=>?_⟩
  rw [List.getElem?_map] at hj
  cases hpj:ps[j]? with
  | none=>rw [hpj] at hj;cases hj
  | some p =>
   rw [hpj] at hj;simp only [Option.map_some,eO] at hj;subst hj
   have hcj:=World.cells?_some (g3 j p hpj).1
   refine ⟨?_,fun i u hu'=>?_⟩
   ·have h1:=hcj.2.2 0 hsz
    have hlt:0<p.2.length:=by rw [hcj.2.1];exact hsz
    rw [List.getElem?_eq_getElem hlt,ie,ie] at h1
    unfold World.cell? at h1
    split at h1
    ·rename_i heq
     have:=oE heq
     exact this
    cases h1
   have hlt:i<sz:=by have:=(List.getElem?_eq_some_iff.1 hu').1;omega
   have h1:=hcj.2.2 i hlt
   rw [ie,ie] at h1
   rw [← hu'];exact h1
 ·intro c hc
  obtain ⟨p,hp,rfl⟩:=List.mem_map.1 hc
  obtain ⟨i,hi',rfl⟩:=List.getElem_of_mem hp
  exact (g3 i _ (List.getElem?_eq_getElem hi')).2.2.1
 have:∀ (l:List (α×List Value)),(∀ p∈l,Rps (k0 W) (e p.1) p.2)→Rpss (k0 W) ((l.map (·.1)).map e) (l.map (·.2)):=fun l=>by
  induction l with
  | nil=>exact fun _=>.nil
  | cons p l ih=>exact fun h=>.cons (h p (by simp)) (ih fun q hq=>h q (by simp [hq]))
 refine this ps fun p hp=>?_
 obtain ⟨i,hi',rfl⟩:=List.getElem_of_mem hp
 exact (g3 i _ (List.getElem?_eq_getElem hi')).2.1
theorem Aj {α:Type} {t E sz by':Nat} {z:Value} {e:α→List PV} {B:α→Prop} (hu:eV t=some (.slice E)) (hi:gb E=some (z,sz,by')) (h0:Nat.blt 0 sz=true) (hb0:Nat.blt 0 by'=true) (hE:Opens eh nb E e B):Opens eh nb t (eL e) (fun l=>l.length*by'≤140737488355328∧l.length≤nb∧∀ x∈l,B x):=fun W fuel cs x hx hw =>
 yG (N:=fuel) hu hi h0 hb0 (fun W' f' cs' x' _=>hE W' f' cs' x') W fuel cs x (Nat.lt_succ_self _) hx hw
end
end SX
end Go.Proofs.YtgmbmepakpcpaaaGreatDoor
set_option maxRecDepth 100000
namespace Go.Proofs.YtgmbmepakpcpaaaGreatDoor
open Go Go.ChangeShapes Go.WideShapes Go.RowKit
namespace SX
theorem own_ok:ownKnob Tryz.prog.godebug=none:=by kernel_rfl
theorem BA:laidOutB Tryz.prog=true:=by kernel_rfl
def xu:List (String×DataW Unit):=[("unicode/utf8.acceptRanges",Rows.laid_unicode_utf8_acceptRanges),("customs/nomenclature.lengths",Rows.laid_customs_nomenclature_lengths),("unicode/utf8.first",Rows.laid_unicode_utf8_first)]
mutual
def BB:DataW Unit→List Value
 | .lit (.int k n)=>[.int k n]
 | .agg ds=>CE ds
 | _=>[]
def CE:List (DataW Unit)→List Value
 | []=>[]
 | d::r=>BB d++CE r
end
def c_acc:Array Value:=(BB Rows.laid_unicode_utf8_acceptRanges).toArray
def Ak:Array Value:=#[.int .i64 2,.int .i64 4,.int .i64 6,.int .i64 8]
def CF:Array Value:=(BB Rows.laid_unicode_utf8_first).toArray
def FJ (h:Array Obj) (g:Nat) (cs:Array Value):Array Obj:=h.modify g fun | .cells _ t frozen=>.cells cs t frozen | o=>o
noncomputable def laidWorld (os:Os):World :=
 { World.holding Tryz.prog os ⟨#[],#[],[]⟩ with heap:=FJ (FJ (FJ (World.holding Tryz.prog os ⟨#[],#[],[]⟩).heap 4 c_acc) 0 Ak) 3 CF }
theorem vQ:(xu.filter fun x=>x.2.handleName?.isSome)=[]:=by kernel_rfl
def FK (w:World):MemPlace→Bool
 | .cell b off=>match w.heap[b]? with
  | some (.cells c _ (0,0))=>match c[off]? with | some (.iface _ _)=>false | _=>true
  | _=>false
 | _=>true
theorem BC {w:World} {ps:List MemPlace} (h:ps.all (FK w)=true):∀ b off,MemPlace.cell b off∈ps→(∃ c t,w.heap[b]?=some (.cells c t (0,0)))∧∀ u v,w.cell? ⟨b,off,none⟩=some (.iface u v)→Value.okWide Tryz.prog w .any 0 u v:=fun b off hm=>by
 have:=List.all_eq_true.1 h _ hm
 unfold FK at this
 split at this
 ·rename_i b' off' e
  injection e with e1 e2;subst e1;subst e2
  split at this
  ·rename_i c t heq
   refine ⟨⟨c,t,heq⟩,fun u v hc=>?_⟩
   simp only [World.cell?,heq] at hc
   split at this
   ·cases this
   rename_i hno;exact absurd hc (by simpa using hno u v)
  cases this
 rename_i hno;exact absurd rfl (hno b off)
theorem wO (os:Os) (args:Array Value):laidMetH Tryz.prog xu ((laidWorld os).forCall (fun _ _=>0) ⟨#[],args,[]⟩).memory:=by
 unfold laidMetH
 rw [vQ]
 refine ⟨_,⟨4,275,c_acc,8,[],_,by kernel_rfl,by kernel_rfl,by kernel_rfl,by kernel_rfl,⟨0,213,Ak,8,[],_,by kernel_rfl,by kernel_rfl,by kernel_rfl,by kernel_rfl,⟨3,272,CF,8,[],_,by kernel_rfl,by kernel_rfl,by kernel_rfl,by kernel_rfl,rfl,rfl⟩,rfl⟩,rfl⟩,?_,?_⟩
 ·exact of_decide_eq_true (by kernel_rfl)
 exact BC (by kernel_rfl)
theorem nB {H:Type} {eh:TypeId×Value→H} {P:Program} {w:World} {base:Nat} {sp:Nat→Bool} {held:Bool} {fuel:Nat} {t:TypeId} {k:IntKind} {c:Value} {y:DataW H×List MemPlace} (ht:P.underlying t=some (.int k)) (h:DataW.trod eh P w base sp held fuel t [c]=some y):∃ n,c=.int k n∧y=(.lit (.int k n),[]):=by
 obtain ⟨n,h1,h2,_⟩:=DataW.trod_int ht h
 injection h1 with h1 _
 exact ⟨n,h1,h2⟩
theorem Al {W:World} (h:laidMetH Tryz.prog xu W):GOK (k0 W):=by
 unfold laidMetH at h
 rw [vQ] at h
 obtain ⟨ps,⟨_,_,_,_,_,_,_,_,_,_,⟨g,t,cs,fuel,p,q,hg,ht,hvar,hd,_,_⟩,_⟩,_⟩:=h
 obtain rfl:=Option.some.inj ((show Tryz.prog.globalNamed "customs/nomenclature.lengths" = some 0 by kernel_rfl).symm.trans hg)
 obtain rfl:=Option.some.inj ((show (Tryz.prog.globals[0]?).map (·.type)=some 213 by kernel_rfl).symm.trans ht)
 have hcs:cs=Ak:=by
  obtain ⟨l⟩:=cs
  cases fuel with
  | zero=>simp [DataW.trod] at hd
  | succ fuel =>
   have hc1:=(rP (t:=213) rfl).1
   have hc2:=(rP (t:=3) rfl).1
   have hu1:Tryz.prog.underlying 213=some (.array 4 3):=bL rfl
   simp only [DataW.trod,hu1,hc1,hc2] at hd
   split at hd
   ·rename_i hl
    obtain ⟨c0,c1,c2,c3,rfl⟩:∃ c0 c1 c2 c3,l=[c0,c1,c2,c3]:=by
     match l,hl with
     | [a,b,c,d],_=>exact ⟨a,b,c,d,rfl⟩
    have e:List.range 4=[0,1,2,3]:=rfl
    rw [e] at hd
    simp only [Option.map_eq_some_iff,List.mapM_cons,List.mapM_nil,Option.bind_eq_bind,Option.bind_eq_some_iff,Option.pure_def,eO] at hd
    obtain ⟨xs,⟨y0,h0,_,⟨y1,h1,_,⟨y2,h2,_,⟨y3,h3,_,rfl,rfl⟩,rfl⟩,rfl⟩,rfl⟩,hx⟩:=hd
    have hui:Tryz.prog.underlying 3=some (.int .i64):=bL rfl
    obtain ⟨n0,rfl,rfl⟩:=nB hui h0
    obtain ⟨n1,rfl,rfl⟩:=nB hui h1
    obtain ⟨n2,rfl,rfl⟩:=nB hui h2
    obtain ⟨n3,rfl,rfl⟩:=nB hui h3
    simp [Rows.laid_customs_nomenclature_lengths] at hx
    obtain ⟨⟨rfl,rfl,rfl,rfl⟩,_⟩:=hx
    rfl
   cases hd
 subst hcs
 have hcell:∀ j u,Ak[j]?=some u→W.cell? ⟨0,j,none⟩=some u:=fun j u hu=>by
  have:=World.var?_cell hg hvar j
  rw [this];exact hu
 refine ⟨?_,fun j u hu=>?_⟩
 ·have h0:=hcell 0 _ rfl
  unfold World.cell? at h0
  split at h0
  ·rename_i heq;exact oE heq
  cases h0
 rw [Nat.zero_add];exact hcell j u (by simpa [Ak] using hu)
end SX
end Go.Proofs.YtgmbmepakpcpaaaGreatDoor
set_option maxRecDepth 100000
namespace Go.Proofs.YtgmbmepakpcpaaaGreatDoor
open Go Go.ChangeShapes Go.WideShapes Go.RowKit
namespace SX
theorem inv0 (W:World):Zp ⟨k0 W,[]⟩ [] (k0 W):=⟨.refl _ _,fun _ h=>h,(fun _ h=>by cases h),(fun _ h=>by cases h),.nil⟩
theorem FL {W:World} {ρ:List Res} {κ:Kr} (h:Zp ⟨k0 W,[]⟩ ρ κ):Below W.heap.size W κ.w:=⟨h.le.os,h.le.tape,h.le.output,h.le.kle.size,fun k hk=>h.le.same k hk (by simp)⟩
section
variable {H:Type} {eh:TypeId×Value→H}
theorem wP {W W':World} (hb:Below W.heap.size W W') {ts:List TypeId} (hr:∀ t∈ts,Tryz.prog.readableRec t=true∧t<Tryz.prog.types.size):∀ {vs:List Value} {ds:List (DataW H)} {ps:List MemPlace},DataW.TrodAll eh Tryz.prog W 0 (fun _=>true) true ts vs ds ps→(∀ p∈ps,p.block<W.heap.size)→DataW.TrodAll eh Tryz.prog W' 0 (fun b=>decide (b<W.heap.size)) true ts vs ds ps:=by
 induction ts with
 | nil=>intro vs ds ps h _;cases vs <;> cases ds <;> first | exact h | cases h
 | cons t ts ih =>
  intro vs ds ps h hlt
  cases vs with
  | nil=>cases h
  | cons v vs =>
   cases ds with
   | nil=>cases h
   | cons d ds =>
    obtain ⟨p,q,h1,h2,e⟩:=h
    have ht:=hr t (by simp)
    exact ⟨p,q,Below.trod BA ht.1 ht.2 h1 hb (fun x hx=>hlt x (by rw [e];simp [hx])),ih (fun u hu=>hr u (by simp [hu])) h2 (fun x hx=>hlt x (by rw [e];simp [hx])),e⟩
theorem readB {ts:List TypeId} (h:(ts.all fun t=>Tryz.prog.readableRec t&&Nat.blt t Tryz.prog.types.size)=true):∀ t∈ts,Tryz.prog.readableRec t=true∧t<Tryz.prog.types.size:=fun t ht=>by
 have:=List.all_eq_true.1 h t ht
 rw [Bool.and_eq_true] at this
 exact ⟨this.1,by have h2:=this.2;exact Nat.le_of_ble_eq_true h2⟩
theorem FM {f tb:Nat} {fn:Func} {s:ChangeSpec} {W:World} {args:Array Value} {ds gs:List (DataW H)} {before:List MemPlace} {pargs:List PV}
    (hrd:∀ t∈fn.params.toList,Tryz.prog.readableRec t=true∧t<Tryz.prog.types.size) (hres:fn.resultTypes=#[tb]) (hub:Tryz.prog.underlying tb=some .bool) (hvars:s.vars=[])
    (hspec:s.fn H ds={ results:=[.lit (.bool true)],args:=ds }) (hW:DataW.Whole eh Tryz.prog fn.params.toList s.vars false W args.toList ds gs before) (hG:GOK (k0 W)) (hargs:Rps (k0 W) pargs args.toList) (hPF:PF f pargs (.v (.bool true))) :
    Calls Tryz.prog f args W fun e W'=>∃ v,e=.returned v∧s.post eh Tryz.prog fn false true false false W args v W':=by
  have hc:=(hPF (k0 W) args.toList hG hargs).2 (inv0 W)
  have e:args.toList.toArray=args:=by simp
  rw [e] at hc
  refine Calls.mono hc fun en W' ⟨v,ρ',κ',h1,h2,h3,h4,h5⟩=>⟨v,h1,?_⟩
  subst h2
  have hv:=h5.val
  subst hv
  have hb:=FL h3
  have hW':=hW
  obtain ⟨p,q,hA,hV,rfl,hfz,hnd⟩:=hW
  rw [hvars] at hV
  obtain ⟨rfl,rfl⟩:gs=[]∧q=[]:=by
    cases gs with
    | nil=>exact ⟨rfl,hV⟩
    | cons g r=>exact absurd hV (by intro h;cases h)
  refine ⟨ds,[],_,[],p,[],hW',?_,?_,?_,hb.frame _,fun h=>by cases h⟩
  · rw [List.append_nil,hspec,hres];exact trodAll_mk1 (shut_bool hub true)
  · rw [List.append_nil,hspec];exact wP hb hrd hA (DataW.TrodAll.lt hA)
  rw [hvars,List.append_nil,hspec];rfl
theorem trodAll_cons {W:World} {t:TypeId} {ts:List TypeId} {vs:List Value} {ds:List (DataW H)} {ps:List MemPlace} (h:DataW.TrodAll eh Tryz.prog W 0 (fun _=>true) true (t::ts) vs ds ps):∃ v vs' d ds' p q,vs=v::vs'∧ds=d::ds'∧DataW.Trod eh Tryz.prog W 0 (fun _=>true) true t v d p∧DataW.TrodAll eh Tryz.prog W 0 (fun _=>true) true ts vs' ds' q:=by
 cases vs with
 | nil=>cases h
 | cons v vs =>
  cases ds with
  | nil=>cases h
  | cons d ds=>obtain ⟨p,q,h1,h2,_⟩:=h;exact ⟨v,vs,d,ds,p,q,rfl,rfl,h1,h2⟩
theorem trodAll_nil {W:World} {vs:List Value} {ds:List (DataW H)} {ps:List MemPlace} (h:DataW.TrodAll eh Tryz.prog W 0 (fun _=>true) true [] vs ds ps):vs=[]∧ds=[]:=by
 cases vs <;> cases ds <;> first | exact ⟨rfl,rfl⟩ | cases h
theorem Am {l:Array TypeId} (h:(l.toList.all fun t => !Tryz.prog.wantsStandIn t)=true) {j:Nat} {t:TypeId} (ht:l[j]?=some t):Tryz.prog.wantsStandIn t=false:=by
 have:=List.all_eq_true.1 h t (by have:=Array.mem_of_getElem? ht;simpa using this)
 simpa using this
theorem light_head {t:Nat} {ts:List Nat} {d:DataW H} {ds:List (DataW H)} (h:(DataW.weightsEach Tryz.prog (t::ts) (d::ds)).all (· ≤ reachBytes)=true):Light t d∧(DataW.weightsEach Tryz.prog ts ds).all (· ≤ reachBytes)=true:=by
 simp only [DataW.weightsEach,List.all_append,Bool.and_eq_true] at h
 exact ⟨fun n hn=>by simpa using List.all_eq_true.1 h.1 n hn,h.2⟩
def vR:TypeDesc→Bool
 | .int _ | .bool | .string | .slice _=>true
 | _=>false
theorem not_agg {W:World} {r:Reach} {base t:Nat} {v:Value} {D:TypeDesc} (hu:eV t=some D) (hD:vR D=true) (h:Value.okWide Tryz.prog W r base t v):∀ cs,v.cells.toList=[cs]→v=cs:=fun cs he=>by
 cases v with
 | agg arr =>
  exfalso
  unfold Value.okWide at h
  rw [bL hu] at h
  cases D <;> first | (revert hD;simp [vR];done) | (simp only at h;unfold Cell.okWide at h;rw [bL hu] at h;simp only at h;unfold Cell.ok at h;rw [bL hu] at h;simp at h)
 | _=>simpa [Value.cells] using he
theorem mH {nb:Nat} {W:World} {r:Reach} {base t:Nat} {v:Value} {D:TypeDesc} {α:Type} {e:α→List PV} {B:α→Prop} {d:DataW H} {ps:List MemPlace} (hu:eV t=some D) (hD:vR D=true) (hO:Opens eh nb t e B) (h1:∀ m,∃ p,e m=[p]) (h:Value.okWide Tryz.prog W r base t v) (hd:DataW.Trod eh Tryz.prog W 0 (fun _=>true) true t v d ps) (hl:Light t d) (hn:Rows.uptoBulk d≤nb):∃ m,Rps (k0 W) (e m) [v]∧B m:=by
 obtain ⟨fuel,hf⟩:=hd
 obtain ⟨m,h2,_,h9⟩:=hO W fuel _ _ hf hl hn
 refine ⟨m,?_,h9⟩
 obtain ⟨p,hp⟩:=h1 m
 rw [hp] at h2
 generalize hc:v.cells.toList=cs at h2
 obtain ⟨w,ws,rfl,h3,h4⟩:=h2.cons_inv
 rw [h4.nil_inv] at hc
 rw [not_agg hu hD h w hc,hp]
 exact .cons h3 .nil
end
theorem CG {κ:Kr} {ps:List PV} {vs:List Value} {k:Nat} {s:ByteArray} (h:Rps κ ps vs) (hk:ps[k]?=some (.v (.string s))):s.size≤140737488355328:=by
 obtain ⟨v,_,h2⟩:=h.get hk
 exact Nat.le_of_ble_eq_true h2.ok
theorem CH {κ:Kr} {ps:List PV} {vs:List Value} {k mm:Nat} {xs:List (List PV)} (h:Rps κ ps vs) (hk:ps[k]?=some (.slc mm xs)):xs.length≤140737488355328:=by
 obtain ⟨v,_,h2⟩:=h.get hk
 cases h2 with
 | slc hs hb _ hss=>rw [hss.len,hs.len];exact hb
theorem An {κ:Kr} {ps:List PV} {vs:List Value} {k mm:Nat} {xs:List (List PV)} {x:List PV} (h:Rps κ ps vs) (hk:ps[k]?=some (.slc mm xs)) (hx:x∈xs):∃ ds,Rps κ x ds:=by
 obtain ⟨v,_,h2⟩:=h.get hk
 cases h2 with
 | slc hs hb _ hss =>
  obtain ⟨i,hi,rfl⟩:=List.getElem_of_mem hx
  obtain ⟨ds,_,h3⟩:=hss.get (List.getElem?_eq_getElem hi)
  exact ⟨ds,h3⟩
end SX
end Go.Proofs.YtgmbmepakpcpaaaGreatDoor
namespace Go.Proofs.YtgmbmepakpcpaaaGreatDoor
namespace SX
open Go
theorem strs_of {κ:Kr} {ps:List PV} {vs:List Value} {k:Nat} {l:List ByteArray} (h:Rps κ ps vs) (hk:ps[k]?=some (pL eS l)):StrsOk l:=by
 refine ⟨by have:=CH h hk;simpa using this,fun s hs=>?_⟩
 obtain ⟨ds,hd⟩:=An h hk (List.mem_map_of_mem (f:=eS) hs)
 exact CG (k:=0) hd rfl
mutual
theorem rok_of {κ:Kr}:∀ (r:Zd) (ds:List Value),Rps κ (Zd.enc r) ds→ROk r
 | ⟨k,d,e,t,m,n,l⟩,ds,h=>by
  rw [Zd.enc_eq] at h
  have hl:l.length≤140737488355328:=by have:=CH (k:=6) h rfl;simpa using this
  exact ⟨_,strs_of (k:=2) h rfl,CG (k:=5) h rfl,hl,CI l (fun a ha=>An (k:=6) h rfl (List.mem_map_of_mem (f:=Zd.enc) ha))⟩
theorem CI {κ:Kr}:∀ (l:List Zd),(∀ a∈l,∃ ds,Rps κ (Zd.enc a) ds)→∀ a∈l,ROk a
 | [],_,_,h=>by cases h
 | b::l,h,a,ha=>by
  rcases List.mem_cons.1 ha with e | ha
  ·obtain ⟨ds,hd⟩:=h b (by simp)
   rw [e];exact rok_of b ds hd
  exact CI l (fun a ha=>h a (by simp [ha])) a ha
end
def iv (s p:ByteArray):Bool:=decide (p.size≤s.size)&&decide (s.extract 0 p.size=p)
theorem Ao (s p:ByteArray):Option.bind (gd (decide ((p.size:Int)≤(s.size:Int))) (kg s 0 (p.size:Int))) (fun s1=>some ((decide ((p.size:Int)≤(s.size:Int)))&&(decide (s1=p))))=some (iv s p):=by
 unfold iv
 by_cases h:p.size≤s.size
 ·rw [det h,show decide ((p.size:Int)≤(s.size:Int))=true from det (by omega),co]
  unfold kg;rw [if_pos (by omega)];rfl
 rw [bF h,show decide ((p.size:Int)≤(s.size:Int))=false from bF (by omega)];rfl
theorem tn (s p:ByteArray):dF s p=some (iv s p):=by
 unfold dF fX;rw [Ao];rfl
theorem Ap (s p:ByteArray):hZ s p=some (iv s p):=by unfold hZ;exact Ao s p
def jC (l:List Zi) (code:ByteArray) (k:Nat) (x:Zi) (b:Option Nat):Option Nat :=
 cond (iv code x.Prefix&&(match b with | none=>true | some j=>decide ((l.getD j x).Prefix.size<x.Prefix.size))) (some k) b
def noE {α:Type} (e:Empty):α:=nomatch e
def sm (l:List Zi) (code:ByteArray):Option Nat:=wE (fun b=>b) noE (run (fun k x b=>(.inl (jC l code k x b):Option Nat⊕Empty)) l 0 none)
def us:Option Nat→Int
 | none => -1
 | some j=>(j:Int)
theorem sn (b:Option Nat):decide (us b<0)=b.isNone:=by
 cases b with
 | none=>rfl
 | some j=>exact bF (by simp only [us];omega)
def inB (n:Nat) (b:Option Nat):Prop:=∀ j,b=some j→j<n
theorem yH {l:List Zi} {code:ByteArray} {k:Nat} {x:Zi} {b:Option Nat} (h:inB k b):inB (k+1) (jC l code k x b):=by
 intro j hj
 unfold jC at hj
 split at hj
 all_goals (cases hc:(iv code x.Prefix&&_) <;> rw [hc] at hj <;> simp only [bS,bB] at hj)
 all_goals first | (injection hj with hj;omega) | (have:=h j hj;omega) | (cases hj)
theorem FN (l:List Zi) (code:ByteArray):inB l.length (sm l code):=by
 have key:∀ (m:List Zi) (i:Nat) (b:Option Nat),inB i b→inB (i+m.length) (wE (fun b=>b) noE (run (fun k x b=>(.inl (jC l code k x b):Option Nat⊕Empty)) m i b)):=by
  intro m
  induction m with
  | nil=>intro i b h;exact h
  | cons x m ih =>
   intro i b h
   rw [jn,List.length_cons,show i+(m.length+1)=(i+1)+m.length by omega]
   exact ih _ _ (yH h)
 have:=key l 0 none (fun j h=>by cases h)
 rwa [Nat.zero_add] at this
theorem DF (l:List Zi) (code:ByteArray) (hl:l.length≤140737488355328) {β:Type} (K:Int→Option β):Option.bind (aU (S:=Int×Int) (T:=(Int)) (fun (v3,v4)=>cond (decide (v4<(l.length:Int))) (Option.bind (Option.bind (idx l v4) (fun m11=>Option.bind (dF code m11.Prefix) (fun x13=>Option.bind (gd (x13&&(!(decide (v3<0)))) (idx l v3)) (fun m14=>cond (x13&&((decide (v3<0))||(decide ((m14.Prefix.size:Int)<(m11.Prefix.size:Int))))) (some v4) (some v3))))) (fun v9=>some (.inl (v9,(IntKind.i64.wrap (v4+1)))))) (some (.inr v3))) FUEL ((-1),0)) K=K (us (sm l code)):=by
 have h62:l.length≤4611686018427387904:=by omega
 refine (kj (l:=l) h62 (fun i (b:Option Nat)=>(us b,i)) (fun k x b=>(.inl (jC l code k x b):Option Nat⊕Empty)) us noE (fun k b=>inB k b) none (fun j h=>by cases h) (fun k hk b hb=>⟨?_,fun b' h=>by injection h with h;rw [← h];exact yH hb⟩) (fun b hb=>by simp only [cT,bB])).trans ?_
 ·simp only [ic hk,bS,aQ hk,bc,tn,bP hk h62,z1,sn]
  unfold jC
  cases hp:iv code l[k].Prefix
  ·rfl
  cases b with
  | none=>rfl
  | some j =>
   have hj:=hb j rfl
   simp only [Option.isNone_some,Bool.not_false,Bool.and_true,co,us,aQ (show j<l.length by omega),bc,Bool.true_and,Bool.false_or,fh (show j<l.length by omega)]
   have e:decide (((l[j]'(by omega)).Prefix.size:Int)<(l[k].Prefix.size:Int))=decide ((l[j]'(by omega)).Prefix.size<l[k].Prefix.size):=decide_eq_decide.2 (by omega)
   rw [e]
   cases decide ((l[j]'(by omega)).Prefix.size<l[k].Prefix.size) <;> rfl
 unfold sm
 congr 1
 cases run (fun k x b=>(.inl (jC l code k x b):Option Nat⊕Empty)) l 0 none with
 | inl b=>rfl
 | inr e=>nomatch e
theorem FO (l:List Zi) (code:ByteArray) (hl:l.length≤140737488355328) {β:Type} (K:Int→Option β):Option.bind (aU (S:=Int×Int) (T:=(Int)) (fun (v3,v4)=>cond (decide (v4<(l.length:Int))) (Option.bind (Option.bind (idx l v4) (fun m11=>Option.bind (hZ code m11.Prefix) (fun x12=>Option.bind (gd (x12&&(!(decide (v3<0)))) (idx l v4)) (fun m13=>Option.bind (gd (x12&&(!(decide (v3<0)))) (idx l v3)) (fun m14=>cond (x12&&((decide (v3<0))||(decide ((m14.Prefix.size:Int)<(m13.Prefix.size:Int))))) (some v4) (some v3)))))) (fun v9=>some (.inl (v9,(IntKind.i64.wrap (v4+1)))))) (some (.inr v3))) FUEL ((-1),0)) K=K (us (sm l code)):=by
 have h62:l.length≤4611686018427387904:=by omega
 refine (kj (l:=l) h62 (fun i (b:Option Nat)=>(us b,i)) (fun k x b=>(.inl (jC l code k x b):Option Nat⊕Empty)) us noE (fun k b=>inB k b) none (fun j h=>by cases h) (fun k hk b hb=>⟨?_,fun b' h=>by injection h with h;rw [← h];exact yH hb⟩) (fun b hb=>by simp only [cT,bB])).trans ?_
 ·simp only [ic hk,bS,aQ hk,bc,Ap,bP hk h62,z1,sn]
  unfold jC
  cases hp:iv code l[k].Prefix
  ·rfl
  cases b with
  | none=>rfl
  | some j =>
   have hj:=hb j rfl
   simp only [Option.isNone_some,Bool.not_false,Bool.and_true,co,us,aQ (show j<l.length by omega),bc,Bool.true_and,Bool.false_or,fh (show j<l.length by omega)]
   have e:decide (((l[j]'(by omega)).Prefix.size:Int)<(l[k].Prefix.size:Int))=decide ((l[j]'(by omega)).Prefix.size<l[k].Prefix.size):=decide_eq_decide.2 (by omega)
   rw [e]
   cases decide ((l[j]'(by omega)).Prefix.size<l[k].Prefix.size) <;> rfl
 unfold sm
 congr 1
 cases run (fun k x b=>(.inl (jC l code k x b):Option Nat⊕Empty)) l 0 none with
 | inl b=>rfl
 | inr e=>nomatch e
def ia {α:Type} (z:α):Option α→α×Bool
 | some r=>(r,true)
 | none=>(z,false)
def rm:Zd:=⟨0,0,[],0,0,ByteArray.empty,[]⟩
def dw (a:Zb) (code:ByteArray):Option Zd:=(sm a.Rules code).bind fun j=>(a.Rules[j]?).map (·.Rule)
theorem oY (a:Zb) (code:ByteArray):(sm a.Rules code=none∧dw a code=none)∨∃ j,∃ h:j<a.Rules.length,sm a.Rules code=some j∧dw a code=some a.Rules[j].Rule:=by
 cases hb:sm a.Rules code with
 | none=>left;exact ⟨rfl,by unfold dw;rw [hb];rfl⟩
 | some j =>
  have hj:=FN a.Rules code j hb
  right;exact ⟨j,hj,rfl,by unfold dw;rw [hb,bc,List.getElem?_eq_getElem hj];rfl⟩
theorem oZ (a:Zb) (code:ByteArray) (hl:a.Rules.length≤140737488355328):e9 a code=some (ia rm (dw a code)):=by
 unfold e9
 rw [FO _ _ hl]
 rcases oY a code with ⟨h1,h2⟩ | ⟨j,hj,h1,h2⟩
 ·rw [h1,h2];rfl
 rw [h1,h2,sn];simp only [Option.isNone_some,bB,us,aQ hj,bc];rfl
theorem jZ {r:Zd} (h:dH r=true):r.Args.length≤6∧(∀ a∈r.Args,dH a=true)∧r.Except.length≤6:=by
 rw [gW,Bool.and_eq_true] at h
 obtain ⟨h1,h2⟩:=h
 unfold ky at h1
 simp only [Bool.and_eq_true,Bool.or_eq_true] at h1
 obtain ⟨⟨⟨p1,p2⟩,p3⟩,p4⟩:=h1
 have hE:r.Except.length≤6:=by
  rcases p1 with p1 | ⟨⟨_,p1⟩,_⟩
  ·have hk:=eq_of_beq p1
   rw [hk] at h2
   simp only [jY,hk] at h2
   have h3:lp r.Except=true:=by
    cases hc:lp r.Except
    ·rw [hc] at h2;simp at h2
    rfl
   unfold lp at h3
   simp only [Bool.and_eq_true,decide_eq_true_eq] at h3
   exact h3.1
  have:=List.isEmpty_iff.1 p1;rw [this];simp
 cases h56:(r.Kind == 5||r.Kind == 6)
 ·rw [Bool.or_eq_false_iff] at h56
  rcases p4 with (p4 | p4) | p4
  ·rw [h56.1] at p4;cases p4
  ·rw [h56.2] at p4;cases p4
  have:=List.isEmpty_iff.1 p4;rw [this];exact ⟨by simp,by simp,hE⟩
 rw [h56] at h2
 simp only [bS,Bool.and_eq_true,decide_eq_true_eq,List.all_eq_true] at h2
 exact ⟨h2.1.2,fun a ha=>(h2.2 a ha).2,hE⟩
theorem clone_F (n:Nat):∀ (r:Zd),dH r=true→tm r≤n→fA n r=some r:=by
 induction n with
 | zero=>intro r _ hd;rw [kx] at hd;omega
 | succ n ih =>
  intro r hr hd
  obtain ⟨h1,h2,h3⟩:=jZ hr
  show em (fA n) r=_
  unfold em bU
  rw [jM (by omega) (by omega),bc,Bu (by omega) (by omega),bc]
  refine (cE (l:=r.Args) (by omega) (fun i (a:List Zd)=>(a,i)) (fun a x=>a++[x]) (fun a=>a) (fun k a=>a.length=k) [] rfl (fun k hk a ha=>⟨?_,by simp [ha]⟩) (fun a ha=>by simp only [cT,bB])).1.trans ?_
  ·simp only [ic hk,bS,aQ hk,bc,bP hk (show r.Args.length≤4611686018427387904 by omega)]
   rw [ih _ (h2 _ (List.getElem_mem hk)) (by have:=iJ (List.getElem_mem hk);omega),bc,cI (by simp;omega) (by simp;omega)];rfl
  have:∀ (m acc:List Zd),m.foldl (fun a x=>a++[x]) acc=acc++m:=by
   intro m
   induction m with
   | nil=>intro acc;simp
   | cons x m ih=>intro acc;rw [List.foldl_cons,ih];simp
  rw [this,List.nil_append];cases r;rfl
theorem BD (r:Zd) (h:dH r=true) (hd:tm r≤1000):iR r=some r:=clone_F FUEL r h (by have hf:FUEL=1267650600228229401496703205376:=rfl;omega)
structure VA (a:Zb):Prop where
 ok:AOk a
 rules:∀ x∈a.Rules,ml x.Rule=0
 len:a.Rules.length≤12∧a.Parties.length≤12
theorem qu (a:Zb) (code:ByteArray) (ha:VA a):dG a code=some (ia rm (dw a code)):=by
 unfold dG
 rw [DF _ _ ha.ok.len]
 rcases oY a code with ⟨h1,h2⟩ | ⟨j,hj,h1,h2⟩
 ·rw [h1,h2];rfl
 have hm:=List.getElem_mem hj
 have hr:=ha.ok.rules _ hm
 have hv:=ha.rules _ hm
 rw [h1,h2,sn]
 simp only [Option.isNone_some,Bool.not_false,co,us,aQ hj,bc,oe _ hr.rule hr.deep,hv,bne_self_eq_false,Bool.or_self,bB,BD _ ((lq _).1 hv).2 hr.deep]
 rfl
theorem MA.va {i:Nat} {a:Zb} (h:MA i a):VA a:=⟨h.aok,fun x hx=>(lq _).2 ⟨by have:=(h.good x hx).size;simp only [oh] at this;omega,(h.good x hx).valid⟩,by have:=P5_len h.pre;omega,by have:=h.par.length_le;have h6:C6.length=6:=rfl;omega⟩
theorem qv {α T:Type} (p:α→Bool) (f:Nat→T):∀ (l:List α) (i:Nat),(cA (fun k x=>cond (p x) (some (f k)) none) l i=none∧l.find? p=none)∨∃ j,∃ h:j<l.length,cA (fun k x=>cond (p x) (some (f k)) none) l i=some (f (i+j))∧l.find? p=some l[j]
 | [],_=>.inl ⟨rfl,rfl⟩
 | x::xs,i=>by
  rw [cA,List.find?_cons]
  cases hp:p x
  ·rcases qv p f xs (i+1) with ⟨h1,h2⟩ | ⟨j,hj,h1,h2⟩
   ·exact .inl ⟨h1,h2⟩
   exact .inr ⟨j+1,by simpa using hj,by rw [show i+(j+1)=i+1+j by omega];exact h1,h2⟩
  exact .inr ⟨0,by simp,rfl,rfl⟩
def lZ (l:List ByteArray) (s:ByteArray):Bool:=l.any fun x=>decide (x=s)
theorem FP (l:List ByteArray) (s:ByteArray):lZ l s=true↔s∈l:=by
 unfold lZ;simp
theorem so (l:List ByteArray) (s:ByteArray) (hl:l.length≤140737488355328):bK l s=some (lZ l s):=by
 unfold bK
 have e:dq l s=some (match cA (fun k x=>cond (decide (x=s)) (some (Sum.inr (k:Int):Unit⊕Int)) none) l 0 with | some (.inr k)=>k | _ => -1):=by
  unfold dq
  refine (bD (l:=l) (by omega) (fun k x=>cond (decide (x=s)) (some (.inr (k:Int))) none) (.inl ()) (fun k hk=>?_) (by simp only [cT,bB])).trans ?_
  ·simp only [ic hk,bS,aQ hk,bc,bP hk (show l.length≤4611686018427387904 by omega)]
   have e:decide (s=l[k])=decide (l[k]=s):=decide_eq_decide.2 eq_comm
   rw [e];cases decide (l[k]=s) <;> rfl
  cases cA (fun k x=>cond (decide (x=s)) (some (Sum.inr (k:Int):Unit⊕Int)) none) l 0 with
  | none=>rfl
  | some t=>cases t <;> rfl
 rw [e,bc]
 rcases qv (fun x=>decide (x=s)) (fun k=>(Sum.inr (k:Int):Unit⊕Int)) l 0 with ⟨h1,h2⟩ | ⟨j,hj,h1,h2⟩
 ·rw [h1]
  have:lZ l s=false:=by unfold lZ;rw [List.any_eq_false];exact fun x hx=>by have:=List.find?_eq_none.1 h2 x hx;simpa using this
  rw [this];rfl
 rw [h1]
 have:lZ l s=true:=by
  have:=List.find?_some h2
  rw [FP];rw [← of_decide_eq_true this];exact List.getElem_mem hj
 rw [this]
 show some (decide (0≤((0+j:Nat):Int)))=_
 rw [det (by omega)]
theorem qP (l:List ByteArray) (s:ByteArray) (hl:l.length≤140737488355328):iA l s=some (lZ l s):=by
 unfold iA
 refine (bD (l:=l) (by omega) (fun _ x=>cond (decide (x=s)) (some (.inr true)) none) (.inl ()) (fun k hk=>?_) (by simp only [cT,bB])).trans ?_
 ·simp only [ic hk,bS,aQ hk,bc,bP hk (show l.length≤4611686018427387904 by omega)]
  cases decide (l[k]=s) <;> rfl
 rw [qM (fun x=>decide (x=s))]
 unfold lZ;cases (l.any fun x=>decide (x=s)) <;> rfl
def j0 (l:List Zb) (id:Int):Option Zb:=l.find? fun a=>a.ID == id
def DG:Zb:=⟨0,0,[],[]⟩
theorem qQ (l:List Zb) (id:Int) (hl:l.length≤140737488355328):dV l id=some (ia DG (j0 l id)):=by
 unfold dV j0
 refine (bD (l:=l) (by omega) (fun _ x=>cond (x.ID == id) (some (.inr (x,true))) none) (.inl ()) (fun k hk=>?_) (by simp only [cT,bB])).trans ?_
 ·simp only [ic hk,bS,aQ hk,bc,bP hk (show l.length≤4611686018427387904 by omega)]
  cases (l[k].ID == id) <;> rfl
 rw [iP (fun x:Zb=>x.ID == id) (fun x=>(Sum.inr (x,true):Unit⊕(Zb×Bool)))]
 cases l.find? (fun x:Zb=>x.ID == id) <;> rfl
theorem rQ (l:List Zb) (id:Int) (hl:l.length≤140737488355328):eF l id=some (ia DG (j0 l id)):=by
 unfold eF j0
 have e:bE l (fun y3=>gx y3 id)=some (match cA (fun k (x:Zb)=>cond (x.ID == id) (some (Sum.inr (k:Int):Unit⊕Int)) none) l 0 with | some (.inr k)=>k | _ => -1):=by
  unfold bE gx
  refine (bD (l:=l) (by omega) (fun k x=>cond (x.ID == id) (some (.inr (k:Int))) none) (.inl ()) (fun k hk=>?_) (by simp only [cT,bB])).trans ?_
  ·simp only [ic hk,bS,aQ hk,bc,bP hk (show l.length≤4611686018427387904 by omega)]
   cases (l[k].ID == id) <;> rfl
  cases cA (fun k (x:Zb)=>cond (x.ID == id) (some (Sum.inr (k:Int):Unit⊕Int)) none) l 0 with
  | none=>rfl
  | some t=>cases t <;> rfl
 rw [e,bc]
 rcases qv (fun x:Zb=>x.ID == id) (fun k=>(Sum.inr (k:Int):Unit⊕Int)) l 0 with ⟨h1,h2⟩ | ⟨j,hj,h1,h2⟩
 ·rw [h1,h2];rfl
 rw [h1,h2]
 show cond (decide (((0+j:Nat):Int)<0)) _ (Option.bind (idx l ((0+j:Nat):Int)) _)=_
 rw [bF (by omega),Nat.zero_add,aQ hj];rfl
def wQ {α:Type} (R:α→α→Bool):List α→List α→Bool
 | [],_=>true
 | _::_,[]=>true
 | x::a,y::b=>R x y&&wQ R a b
def kH {α:Type} (R:α→α→Bool) (a b:List α):Bool:=a.length == b.length&&wQ R a b
theorem xx {α T:Type} (R:α→α→Bool) (t:T) (B:List α):∀ (a b:List α) (i:Nat),B.drop i=b→a.length=b.length→cA (fun k x=>cond (R x (B.getD k x)) none (some t)) a i=cond (wQ R a b) none (some t)
 | [],b,_,_,_=>by cases b <;> rfl
 | x::a,[],_,_,h=>by simp at h
 | x::a,y::b,i,hd,h=>by
  have hi:i<B.length:=by
   rcases Nat.lt_or_ge i B.length with h | h
   ·exact h
   rw [List.drop_of_length_le h] at hd;cases hd
  rw [List.drop_eq_getElem_cons hi] at hd
  injection hd with h1 h2
  rw [cA,wQ,fh hi,h1,xx R t B a b (i+1) h2 (by simpa using h)]
  cases R x y <;> rfl
theorem vS {α:Type} {R:α→α→Bool}:∀ {a b:List α},(∀ x∈a,∀ y∈b,R x y=true↔x=y)→(kH R a b=true↔a=b)
 | [],[],_=>by simp [kH,wQ]
 | [],y::b,_=>by simp [kH]
 | x::a,[],_=>by simp [kH]
 | x::a,y::b,h=>by
  have ih:=vS (R:=R) (a:=a) (b:=b) fun u hu v hv=>h u (by simp [hu]) v (by simp [hv])
  have h0:=h x (by simp) y (by simp)
  unfold kH at ih ⊢
  rw [wQ]
  simp only [List.length_cons,Bool.and_eq_true,beq_iff_eq,Nat.add_right_cancel_iff,List.cons.injEq] at ih ⊢
  constructor
  ·rintro ⟨h1,h2,h3⟩;exact ⟨h0.1 h2,ih.1 ⟨h1,h3⟩⟩
  rintro ⟨h1,h2⟩;exact ⟨(ih.2 h2).1,h0.2 h1,(ih.2 h2).2⟩
theorem qR {α:Type} (a b:List α):((a.length:Int) != (b.length:Int)) = !(a.length == b.length):=by
 by_cases h:a.length=b.length
 ·rw [h];simp
 have h2:¬ (a.length:Int)=(b.length:Int):=by omega
 have e1:(a.length == b.length)=false:=by simpa using h
 have e2:((a.length:Int) == (b.length:Int))=false:=by simpa using h2
 rw [e1,bne,e2]
theorem qS {α:Type} {a b:List α} (ha:a.length≤140737488355328) (R:α→α→Bool) {body:Int→Option (Int⊕(Unit⊕Bool))} {k:Unit⊕Bool→Option Bool} (hk:k (.inl ())=some true∧k (.inr false)=some false) (hab:a.length=b.length)
    (hstep:∀ (k:Nat) (hk:k<a.length) (hk2:k<b.length),body (k:Int)=some (wF k (cond (R a[k] b[k]) none (some (.inr false))))) (hend:body (a.length:Int)=some (.inr (.inl ()))):Option.bind (aU body FUEL 0) k=some (wQ R a b):=by
  refine (bD (l:=a) (by omega) (fun i x=>cond (R x (b.getD i x)) none (some (.inr false))) (.inl ()) (fun i hi=>?_) hend).trans ?_
  · rw [hstep i hi (by omega),fh (show i<b.length by omega)]
  rw [xx R (Sum.inr false:Unit⊕Bool) b a b 0 rfl hab]
  cases wQ R a b
  · exact hk.2
  exact hk.1
theorem qw (a b:List ByteArray) (ha:a.length≤140737488355328):gy a b=some (decide (a=b)):=by
 have hiff:kH (fun x y=>decide (x=y)) a b=decide (a=b):=by
  have:=vS (R:=fun x y:ByteArray=>decide (x=y)) (a:=a) (b:=b) (fun x _ y _=>by simp)
  cases h:kH (fun x y=>decide (x=y)) a b
  ·rw [h] at this;exact (bF fun e=>by have:=this.2 e;cases this).symm
  exact (det (this.1 h)).symm
 rw [← hiff]
 unfold gy kH
 rw [qR]
 cases h:(a.length == b.length)
 ·rfl
 simp only [Bool.not_true,bB,Bool.true_and]
 refine qS ha _ ⟨rfl,rfl⟩ (eq_of_beq h) (fun k hk hk2=>?_) (by simp only [cT,bB])
 simp only [ic hk,bS,aQ hk,aQ hk2,bc,bP hk (show a.length≤4611686018427387904 by omega)]
 cases decide (a[k]=b[k]) <;> rfl
theorem ut (a b:List ByteArray) (ha:a.length≤140737488355328):eo a b=some (decide (a=b)):=by
 rw [← qw a b ha];rfl
theorem rn (a b:List Za) (ha:a.length≤140737488355328):fH a b=some (decide (a=b)):=by
 have hiff:kH Za.eqb a b=decide (a=b):=by
  have:=vS (R:=Za.eqb) (a:=a) (b:=b) (fun x _ y _=>Za.eqb_iff)
  cases h:kH Za.eqb a b
  ·rw [h] at this;exact (bF fun e=>by have:=this.2 e;cases this).symm
  exact (det (this.1 h)).symm
 rw [← hiff]
 unfold fH kH
 rw [qR]
 cases h:(a.length == b.length)
 ·rfl
 simp only [Bool.not_true,bB,Bool.true_and]
 refine qS ha _ ⟨rfl,rfl⟩ (eq_of_beq h) (fun k hk hk2=>?_) (by simp only [cT,bB])
 simp only [ic hk,bS,aQ hk,aQ hk2,bc,bP hk (show a.length≤4611686018427387904 by omega)]
 cases Za.eqb a[k] b[k] <;> rfl
mutual
def ib:Zd→Zd→Bool
 | ⟨k,d,e,t,m,n,l⟩,⟨k',d',e',t',m',n',l'⟩=>k == k'&&d == d'&&t == t'&&m == m'&&decide (n=n')&&decide (e=e')&&jH l l'
def jH:List Zd→List Zd→Bool
 | [],[]=>true
 | [],_::_=>false
 | _::_,[]=>false
 | a::l,b::m=>ib a b&&jH l m
end
mutual
theorem BE:∀ a b:Zd,ib a b=true↔a=b
 | ⟨k,d,e,t,m,n,l⟩,⟨k',d',e',t',m',n',l'⟩=>by
  rw [ib]
  simp only [Bool.and_eq_true,beq_iff_eq,decide_eq_true_eq,tT l l',Zd.mk.injEq]
  constructor
  ·rintro ⟨⟨⟨⟨⟨⟨h1,h2⟩,h3⟩,h4⟩,h5⟩,h6⟩,h7⟩;exact ⟨h1,h2,h6,h3,h4,h5,h7⟩
  rintro ⟨h1,h2,h6,h3,h4,h5,h7⟩;exact ⟨⟨⟨⟨⟨⟨h1,h2⟩,h3⟩,h4⟩,h5⟩,h6⟩,h7⟩
theorem tT:∀ a b:List Zd,jH a b=true↔a=b
 | [],[]=>by simp [jH]
 | [],_::_=>by simp [jH]
 | _::_,[]=>by simp [jH]
 | a::l,b::m=>by rw [jH,Bool.and_eq_true,BE a b,tT l m,List.cons.injEq]
end
theorem tU:∀ a b:List Zd,jH a b=kH ib a b
 | [],[]=>by simp [jH,kH,wQ]
 | [],_::_=>by simp [jH,kH]
 | _::_,[]=>by simp [jH,kH]
 | a::l,b::m=>by
  rw [jH,tU l m]
  unfold kH
  rw [wQ,List.length_cons,List.length_cons]
  have:(l.length+1 == m.length+1)=(l.length == m.length):=by
   cases h:(l.length == m.length)
   ·have:=(beq_eq_false_iff_ne).1 h;exact beq_eq_false_iff_ne.2 (by omega)
   have:=eq_of_beq h;rw [this];simp
  rw [this]
  cases ib a b <;> cases (l.length == m.length) <;> rfl
theorem vU (a b:Zd):ib a b=(a.Kind == b.Kind&&a.Digits == b.Digits&&a.Tolerance == b.Tolerance&&a.Limit == b.Limit&&decide (a.Name=b.Name)&&decide (a.Except=b.Except)&&kH ib a.Args b.Args):=by
 cases a;cases b;rw [ib,tU]
theorem BF (n:Nat):∀ (a b:Zd),ROk a→tm a≤n→i6 n a b=some (ib a b):=by
 induction n with
 | zero=>intro a b _ hd;rw [kx] at hd;omega
 | succ n ih =>
  intro a b ha hd
  show gS (i6 n) a b=_
  unfold gS
  rw [qw _ _ ha.ex.1,vU,qR]
  simp only [bne]
  have hl:=ha.len
  cases (a.Kind == b.Kind)
  ·rfl
  cases (a.Digits == b.Digits)
  ·rfl
  cases (a.Tolerance == b.Tolerance)
  ·rfl
  cases (a.Limit == b.Limit)
  ·rfl
  cases decide (a.Name=b.Name)
  ·rfl
  simp only [Bool.not_true,Bool.or_self,Bool.not_false,co,bc,Bool.false_or,Bool.and_self,Bool.true_and]
  cases decide (a.Except=b.Except)
  ·rfl
  unfold kH
  cases h:(a.Args.length == b.Args.length)
  ·rfl
  simp only [Bool.not_true,Bool.or_self,bB,Bool.true_and]
  refine qS hl _ ⟨rfl,rfl⟩ (eq_of_beq h) (fun k hk hk2=>?_) (by simp only [cT,bB])
  simp only [ic hk,bS,aQ hk,aQ hk2,bc,bP hk (show a.Args.length≤4611686018427387904 by omega)]
  rw [ih _ _ (ha.arg (List.getElem_mem hk)) (by have:=iJ (List.getElem_mem hk);omega),bc]
  cases ib a.Args[k] b.Args[k] <;> rfl
theorem Aq (n:Nat):∀ (a b:Zd),ROk a→tm a≤n→ey n a b=some (ib a b):=by
 induction n with
 | zero=>intro a b _ hd;rw [kx] at hd;omega
 | succ n ih =>
  intro a b ha hd
  have hl:=ha.len
  have hA:bt a.Args b.Args (fun y4 y5=>ey n y4 y5)=some (kH ib a.Args b.Args):=by
   unfold bt kH
   rw [qR]
   cases h:(a.Args.length == b.Args.length)
   ·rfl
   simp only [Bool.not_true,bB,Bool.true_and]
   refine qS hl _ ⟨rfl,rfl⟩ (eq_of_beq h) (fun k hk hk2=>?_) (by simp only [cT,bB])
   simp only [ic hk,bS,aQ hk,aQ hk2,bc,bP hk (show a.Args.length≤4611686018427387904 by omega)]
   rw [ih _ _ (ha.arg (List.getElem_mem hk)) (by have:=iJ (List.getElem_mem hk);omega),bc]
   cases ib a.Args[k] b.Args[k] <;> rfl
  show eu (ey n) a b=_
  unfold eu
  rw [ut _ _ ha.ex.1,vU,hA]
  cases (a.Kind == b.Kind&&a.Digits == b.Digits&&a.Tolerance == b.Tolerance&&a.Limit == b.Limit&&decide (a.Name=b.Name))
  ·rfl
  cases decide (a.Except=b.Except)
  ·rfl
  cases kH ib a.Args b.Args <;> rfl
def Ar (x y:Zi):Bool:=decide (x.Prefix=y.Prefix)&&ib x.Rule y.Rule
theorem wR (a b:List Zi) (ha:a.length≤140737488355328) (hr:∀ x∈a,RFOk x):ip a b=some (kH Ar a b):=by
 unfold ip kH
 rw [qR]
 cases h:(a.length == b.length)
 ·rfl
 simp only [Bool.not_true,bB,Bool.true_and]
 refine qS ha _ ⟨rfl,rfl⟩ (eq_of_beq h) (fun k hk hk2=>?_) (by simp only [cT,bB])
 have hx:=hr _ (List.getElem_mem hk)
 simp only [ic hk,bS,aQ hk,aQ hk2,bc,bP hk (show a.length≤4611686018427387904 by omega),Ar]
 cases decide (a[k].Prefix=b[k].Prefix)
 ·rfl
 have e:na a[k].Rule b[k].Rule=some (ib a[k].Rule b[k].Rule):=BF FUEL _ _ hx.rule (by have hf:FUEL=1267650600228229401496703205376:=rfl;have:=hx.deep;omega)
 simp only [Bool.not_true,Bool.not_false,co,bc,e,Bool.false_or,Bool.true_and]
 cases ib a[k].Rule b[k].Rule <;> rfl
theorem vV (a b:List Zi) (ha:a.length≤140737488355328) (hr:∀ x∈a,RFOk x) (hv:∀ x∈a,ml x.Rule=0):eN a b=some (kH Ar a b):=by
 unfold eN bq kH
 rw [qR]
 cases h:(a.length == b.length)
 ·rfl
 simp only [Bool.not_true,bB,Bool.true_and]
 rw [qS ha Ar ⟨rfl,rfl⟩ (eq_of_beq h) (fun k hk hk2=>?_) (by simp only [cT,bB])]
 ·rfl
 have hx:=hr _ (List.getElem_mem hk)
 have hxv:=hv _ (List.getElem_mem hk)
 simp only [ic hk,bS,aQ hk,aQ hk2,bc,bP hk (show a.length≤4611686018427387904 by omega),Ar]
 unfold fi
 cases decide (a[k].Prefix=b[k].Prefix)
 ·rfl
 have e:iS a[k].Rule b[k].Rule=some (ib a[k].Rule b[k].Rule):=Aq FUEL _ _ hx.rule (by have hf:FUEL=1267650600228229401496703205376:=rfl;have:=hx.deep;omega)
 simp only [co,oe _ hx.rule hx.deep,hxv,bc,beq_self_eq_true,Bool.and_self,e,Bool.true_and]
 cases ib a[k].Rule b[k].Rule <;> rfl
def Digs (l:List Int):Prop:=∀ x∈l,48≤x∧x≤57
theorem code_Y {p:Zj} (hp:SOK p) (n:Nat) (hn:n=6∨n=8):Y (gO p (n:Int)) (fun r=>(∃ l:List Int,r.1=strOfNums l∧l.length=n∧Digs l)∧SOK r.2):=by
 unfold gO
 refine (eT hp 2 (by omega) (by omega)).bind fun a ⟨a1,a2,a3⟩=>?_
 rw [cP (by omega) (by omega),ya (by omega)]
 refine Y.bind (P:=fun t:List Int×List Int×Int=>t.1.length=n∧Digs t.1∧SOK ⟨t.2.1,t.2.2⟩) ?_ fun t ⟨t1,t2,t3⟩=>?_
 ·refine Y.loop (fun s:List Int×List Int×Int=>(s.1.length % 2=0∧s.1.length≤n)∧Digs s.1∧SOK ⟨s.2.1,s.2.2⟩) (fun s=>n - s.1.length) ⟨⟨by simp,by simp;omega⟩,fun x hx=>by simp at hx;omega,a3⟩ (by dsimp only;omega) fun s hs=>?_
  obtain ⟨l,m,i⟩:=s
  obtain ⟨⟨s0,s1⟩,s2,s3⟩:=hs
  dsimp only at s0 s1 s2 s3 ⊢
  refine Y.cond (fun hc=>?_) (fun hc=>Y.ret ⟨by have:=of_decide_eq_false hc;dsimp only;omega,s2,s3⟩)
  have hc:=of_decide_eq_true hc
  refine (eT s3 3 (by omega) (by omega)).bind fun x ⟨x1,x2,x3⟩=>?_
  rw [cI (by simp;omega) (by simp;omega),bc,cP (by omega) (by omega),ya (by omega)]
  refine Y.ret ⟨⟨⟨by simp;omega,by simp;omega⟩,fun z hz=>?_,x3⟩,by simp;omega⟩
  rcases List.mem_append.1 hz with hz | hz
  ·exact s2 z hz
  simp only [List.mem_cons,List.not_mem_nil,or_false] at hz;omega
 obtain ⟨l,m,i⟩:=t
 exact Y.ret ⟨⟨l,rfl,t1,t2⟩,t3⟩
theorem FQ {l:List Int} {n:Nat} (hn:n=6∨n=8) (h1:l.length=n) (h2:Digs l):d9 (strOfNums l)=(n:Int)∧(strOfNums l).size=n:=by
 have hs:(strOfNums l).size=n:=by
  unfold strOfNums
  show (Array.mk _).size=n
  simp [h1]
 have hd:ln (strOfNums l)=true:=by
  unfold ln bl strOfNums
  rw [List.all_eq_true]
  intro c hc
  simp only [List.mem_map] at hc
  obtain ⟨x,hx,rfl⟩:=hc
  have:=h2 x hx
  have h3:(UInt8.ofNat x.toNat).toNat=x.toNat:=by
   rw [UInt8.toNat_ofNat'];omega
  simp only [kr,h3,decide_eq_true_eq]
  omega
 refine ⟨?_,hs⟩
 unfold d9
 rw [if_pos ⟨by omega,hd⟩,hs]
def W5:List ByteArray:=[(⟨#[97,110,100]⟩:ByteArray),(⟨#[99,117,116]⟩:ByteArray),(⟨#[111,114]⟩:ByteArray),(⟨#[115,101,119]⟩:ByteArray),(⟨#[115,112,105,110]⟩:ByteArray)]
theorem W5_ok:W5.all hQ=true∧kG jb W5=true∧(W5.all fun s=>decide (s.size≤100))=true:=⟨by kernel_rfl,by kernel_rfl,by kernel_rfl⟩
theorem As {p:Zj} (hp:SOK p):Y (eM p) (fun r=>r.1.Sublist W5∧SOK r.2):=by
 unfold eM
 refine (eT hp 32 (by omega) (by omega)).bind fun a ⟨a1,a2,a3⟩=>?_
 refine Y.bind (P:=fun l:List ByteArray=>l.Sublist W5) ?_ fun l hl=>Y.ret ⟨hl,a3⟩
 refine Y.loop (fun s=>∃ v:Nat,s.2=(v:Int)∧v≤5∧s.1.Sublist (W5.take v)) (fun s=>(5 - s.2).toNat) ⟨0,rfl,by omega,List.Sublist.refl _⟩ (by dsimp only;omega) fun s hs=>?_
 obtain ⟨l,i⟩:=s
 obtain ⟨v,rfl,h1,h2⟩:=hs
 dsimp only at h2 ⊢
 have hlen:l.length≤5:=by have:=h2.length_le;have h6:W5.length=5:=rfl;rw [List.length_take] at this;omega
 refine Y.cond (fun hc=>?_) (fun hc=>Y.ret (h2.trans (List.take_sublist _ _)))
 have hv:v<5:=by have:=of_decide_eq_true hc;omega
 have hs:=oW h2 (show v<W5.length from hv)
 refine Y.bind (P:=fun m:List ByteArray=>m.Sublist (W5.take (v+1))) (Y.eq (oX v) (Y.cond (fun _=>?_) fun _=>Y.ret hs.2)) fun m hm=>Y.ret ⟨⟨v+1,?_,by omega,hm⟩,?_⟩
 ·refine Y.idx (xs:=W5) rfl (show v<W5.length from hv) ?_
  rw [cI (by simp;omega) (by simp;omega)];exact Y.ret hs.1
 ·show IntKind.i64.wrap ((v:Int)+1)=_;rw [cP (by omega) (by omega)];omega
 show (5 - IntKind.i64.wrap ((v:Int)+1)).toNat<(5 - (v:Int)).toNat;rw [cP (by omega) (by omega)];omega
theorem codeN {x:Int} (h1:0≤x) (h2:x<2):∃ n:Nat,(n=6∨n=8)∧IntKind.i64.wrap (6+IntKind.i64.wrap (2*x))=(n:Int):=by
 rw [cP (r:=2*x) (by omega) (by omega),cP (by omega) (by omega)]
 exact ⟨(6+2*x).toNat,by omega,by omega⟩
structure MProd (n:Nat) (i:Nat) (p:Zc):Prop where
 id:p.ID=3*((i:Int)+1)
 lvl:(d9 p.Code=6∨d9 p.Code=8)∧6≤p.Code.size∧p.Code.size≤8
 ctr:p.Country∈C6
 price:1≤p.Price∧p.Price≤200
 proc:p.Processes.Sublist W5
 few:p.Inputs.length≤4
 asc:p.Inputs.Pairwise fun a b=>a.Product<b.Product
 inp:∀ x∈p.Inputs,(∃ k:Nat,k<n∧x.Product=3*((k:Int)+1))∧0≤x.Value∧x.Value<100
 obt:p.Obtained=true→p.Inputs=[]
structure MPs (l:List Zc):Prop where
 len:1≤l.length∧l.length≤10
 all:∀ (i:Nat) (p:Zc),l[i]?=some p→MProd l.length i p
theorem plan_Y (p0:List Int):Y (nY p0) MPs:=by
 unfold nY
 refine (cut_Y p0 300 (by omega) (by omega)).bind fun x1 hx1=>?_
 refine (eT hx1 10 (by omega) (by omega)).bind fun x3 ⟨a1,a2,a3⟩=>?_
 rw [cP (r:=1+x3.1) (by omega) (by omega)]
 obtain ⟨n,hn⟩:∃ n:Nat,1+x3.1=(n:Int):=⟨(1+x3.1).toNat,by omega⟩
 rw [hn]
 have hn1:1≤n∧n≤10:=by omega
 refine Y.bind (P:=MPs) ?_ fun l hl=>Y.ret hl
 refine Y.loop (fun s:List Zc×Int×List Int×Int=>(s.2.1=(s.1.length:Int)+1∧s.1.length≤n)∧SOK ⟨s.2.2.1,s.2.2.2⟩∧∀ i p,s.1[i]?=some p→MProd n i p) (fun s=>n - s.1.length) ⟨⟨rfl,by simp⟩,a3,by simp⟩ (by dsimp only;omega) fun s hs=>?_
 obtain ⟨l5,v8,l9,v10⟩:=s
 obtain ⟨⟨h1,h2⟩,h3,h4⟩:=hs
 dsimp only at h1 h2 h3 h4 ⊢
 refine Y.cond (fun hc=>?_) (fun hc=>Y.ret ?_)
 rotate_left
 ·have hc:=of_decide_eq_false hc
  have e:l5.length=n:=by omega
  exact ⟨by omega,by rw [e];exact h4⟩
 have hc:=of_decide_eq_true hc
 refine (eT h3 2 (by omega) (by omega)).bind fun x19 ⟨b1,b2,b3⟩=>?_
 obtain ⟨w,hw,e⟩:=codeN b1 b2
 rw [e]
 refine (code_Y b3 w hw).bind fun x20 ⟨⟨cl,hc1,hc2,hc3⟩,hx20⟩=>?_
 have hcode:=FQ hw hc2 hc3
 refine Y.eq sk ?_
 refine (eT hx20 4 (by omega) (by omega)).bind fun x22 ⟨c1,c2,c3⟩=>?_
 obtain ⟨j,hj⟩:∃ j:Nat,x22.1=(j:Int):=⟨x22.1.toNat,by omega⟩
 refine Y.idx hj (show j<C6.length by have h6:C6.length=6:=rfl;omega) ?_
 refine (eT c3 200 (by omega) (by omega)).bind fun x24 ⟨d1,d2,d3⟩=>?_
 refine (As d3).bind fun x25 ⟨hpr,hx25⟩=>?_
 refine (eT hx25 4 (by omega) (by omega)).bind fun x26 ⟨_,_,h26⟩=>?_
 refine (eT h26 1024 (by omega) (by omega)).bind fun x28 ⟨_,_,h28⟩=>?_
 refine Y.bind (P:=fun t:List Int×Int×List Zh=>SOK ⟨t.1,t.2.1⟩∧t.2.2.length≤4∧(t.2.2.Pairwise fun a b=>a.Product<b.Product)∧(∀ x∈t.2.2,(∃ k:Nat,k<n∧x.Product=3*((k:Int)+1))∧0≤x.Value∧x.Value<100)∧((x26.1 == 1)=true→t.2.2=[])) ?_ fun t ⟨t1,t2,t3,t4,t5⟩=>?_
 ·refine Y.loop (fun s:Int×List Int×Int×List Zh=>∃ v:Nat,s.1=(v:Int)+1∧v≤n∧SOK ⟨s.2.1,s.2.2.1⟩∧s.2.2.2.length≤4∧(s.2.2.2.Pairwise fun a b=>a.Product<b.Product)∧(∀ x∈s.2.2.2,(∃ k:Nat,k<v∧x.Product=3*((k:Int)+1))∧0≤x.Value∧x.Value<100)∧((x26.1 == 1)=true→s.2.2.2=[])) (fun s=>(n+1 - s.1).toNat) ⟨0,rfl,by omega,h28,by simp,List.Pairwise.nil,by simp,fun _=>rfl⟩ (by dsimp only;omega) fun s hs=>?_
  obtain ⟨i,l,k,m⟩:=s
  obtain ⟨v,rfl,s1,s2,s3,s4,s5,s6⟩:=hs
  dsimp only at s2 s3 s4 s5 s6 ⊢
  refine Y.cond (fun hc3=>?_) (fun hc3=>Y.ret ⟨s2,s3,s4,fun x hx=>?_,s6⟩)
  rotate_left
  ·obtain ⟨⟨k,h5,h6⟩,h7⟩:=s5 x hx;exact ⟨⟨k,by omega,h6⟩,h7⟩
  simp only [Bool.and_eq_true,decide_eq_true_eq,Bool.not_eq_true'] at hc3
  obtain ⟨⟨hc4,hc5⟩,hc6⟩:=hc3
  rw [cP (r:=(v:Int)+1 - 1) (by omega) (by omega),cP (r:=(v:Int)+1+1) (by omega) (by omega),cP (r:=3*((v:Int)+1)) (by omega) (by omega)]
  refine Y.bind (P:=fun t:List Int×Int×List Zh=>SOK ⟨t.1,t.2.1⟩∧t.2.2.length≤4∧(t.2.2.Pairwise fun a b=>a.Product<b.Product)∧(∀ x∈t.2.2,(∃ k:Nat,k<v+1∧x.Product=3*((k:Int)+1))∧0≤x.Value∧x.Value<100)) ?_ fun t ⟨t1,t2,t3,t4⟩=>Y.ret ⟨⟨v+1,by dsimp only;omega,by omega,t1,t2,t3,t4,fun h=>by rw [hc6] at h;cases h⟩,by dsimp only;omega⟩
  rw [show (v:Int)+1 - 1=(v:Int) by omega]
  refine Y.eq (oX v) ?_
  refine Y.bind (P:=fun r:Int×Zj=>SOK r.2) (Y.gdp (fun _=>(eT s2 3 (by omega) (by omega)).mono fun r hr=>hr.2.2) fun _=>s2) fun x56 hx56=>?_
  refine Y.cond (fun _=>?_) (fun _=>Y.ret ⟨hx56,s3,s4,fun x hx=>?_⟩)
  rotate_left
  ·obtain ⟨⟨k,h5,h6⟩,h7⟩:=s5 x hx;exact ⟨⟨k,by omega,h6⟩,h7⟩
  refine (eT hx56 100 (by omega) (by omega)).bind fun x58 ⟨e1,e2,e3⟩=>?_
  rw [cI (by simp;omega) (by simp;omega),bc]
  refine Y.ret ⟨e3,by simp;omega,?_,fun x hx=>?_⟩
  ·rw [List.pairwise_append]
   refine ⟨s4,List.pairwise_singleton _ _,fun a ha b hb=>?_⟩
   rw [List.mem_singleton.1 hb]
   obtain ⟨⟨k,h5,h6⟩,_⟩:=s5 a ha
   dsimp only;omega
  rcases List.mem_append.1 hx with hx | hx
  ·obtain ⟨⟨k,h5,h6⟩,h7⟩:=s5 x hx;exact ⟨⟨k,by omega,h6⟩,h7⟩
  rw [List.mem_singleton.1 hx];exact ⟨⟨v,by omega,rfl⟩,e1,e2⟩
 obtain ⟨l37,v38,l42⟩:=t
 dsimp only at t1 t2 t3 t4 t5 ⊢
 rw [cI (by simp;omega) (by simp;omega),bc,cP (r:=v8+1) (by omega) (by omega),cP (r:=1+x24.1) (by omega) (by omega),cP (r:=3*v8) (by omega) (by omega)]
 refine Y.ret ⟨⟨⟨by simp;omega,by simp;omega⟩,t1,fun i p hp=>?_⟩,by simp;omega⟩
 rw [List.getElem?_append] at hp
 split at hp
 ·exact h4 i p hp
 rename_i hi
 have hi0:i - l5.length=0:=by have:=(List.getElem?_eq_some_iff.1 hp).1;simp at this;omega
 rw [hi0] at hp
 simp only [List.getElem?_cons_zero,eO] at hp
 subst hp
 refine ⟨by dsimp only;omega,?_,List.getElem_mem _,⟨by dsimp only;omega,by dsimp only;omega⟩,hpr,t2,t3,t4,t5⟩
 dsimp only;rw [hc1,hcode.1,hcode.2];omega
structure Sorted (l:List Zc):Prop where
 len:l.length≤1000000
 asc:l.Pairwise fun a b=>a.ID<b.ID
 small:∀ p∈l,p.Processes.length≤1000000∧p.Inputs.length≤1000000
def dj (l:List Zc) (id:Int):Option Zc:=l.find? fun p=>p.ID == id
def FS:Zc:=⟨0,ByteArray.empty,ByteArray.empty,0,false,[],[]⟩
theorem xy (l:List Zc) (id:Int) (hl:l.length≤140737488355328):eR l id=some (ia FS (dj l id)):=by
 unfold eR dj
 refine (bD (l:=l) (by omega) (fun _ x=>cond (x.ID == id) (some (.inr (x,true))) none) (.inl ()) (fun k hk=>?_) (by simp only [cT,bB])).trans ?_
 ·simp only [ic hk,bS,aQ hk,bc,bP hk (show l.length≤4611686018427387904 by omega)]
  cases (l[k].ID == id) <;> rfl
 rw [iP (fun x:Zc=>x.ID == id) (fun x=>(Sum.inr (x,true):Unit⊕(Zc×Bool)))]
 cases l.find? (fun x:Zc=>x.ID == id) <;> rfl
theorem half_u (x:Nat) (h:x≤10000000):IntKind.i64.wrap (cu .u64 (IntKind.u64.wrap (IntKind.i64.wrap (x:Int))) 1)=((x / 2:Nat):Int):=by
 rw [cP (r:=(x:Int)) (by omega) (by omega),u64s (by omega) (by omega)]
 have:cu .u64 (x:Int) 1=(x:Int) / 2:=Int.fdiv_eq_ediv_of_nonneg _ (by decide)
 rw [this,cP (by omega) (by omega)];omega
theorem DH (l:List Zc) (id:Int) (h:Sorted l):∃ j:Nat,gu l id=some ((j:Int),(dj l id).isSome)∧(∀ p,dj l id=some p→∃ hj:j<l.length,l[j]=p):=by
 have hl:=h.len
 have cmp:∀ p:Zc,eA p id=some (if p.ID<id then -1 else if id<p.ID then 1 else 0):=fun p=>by unfold eA;rw [Fw];rfl
 unfold gu bJ
 have hloop:Y (aU (S:=Int×Int) (T:=(Int×Int)) (fun (v1,v2)=>cond (decide (v1<v2)) (lb ((IntKind.i64.wrap (cu .u64 (IntKind.u64.wrap (IntKind.i64.wrap (v1+v2))) 1))) (fun w8=>Option.bind (idx l w8) (fun m9=>Option.bind (eA m9 id) (fun x10=>cond (decide (x10<0)) (some (.inl ((IntKind.i64.wrap (w8+1)),v2))) (some (.inl (v1,w8))))))) (some (.inr (id,v1)))) FUEL (0,(l.length:Int))) (fun t=>t.1=id∧∃ j:Nat,t.2=(j:Int)∧j≤l.length∧(∀ (k:Nat) (p:Zc),l[k]?=some p→k<j→p.ID<id)∧(∀ (k:Nat) (p:Zc),l[k]?=some p→j≤k→id≤p.ID)):=by
  refine Y.loop (fun s:Int×Int=>∃ i j:Nat,s.1=(i:Int)∧s.2=(j:Int)∧i≤j∧j≤l.length∧(∀ (k:Nat) (p:Zc),l[k]?=some p→k<i→p.ID<id)∧(∀ (k:Nat) (p:Zc),l[k]?=some p→j≤k→id≤p.ID)) (fun s=>(s.2 - s.1).toNat) ⟨0,l.length,rfl,rfl,by omega,by omega,fun k p _ hk=>absurd hk (Nat.not_lt_zero _),fun k p hp hk=>by have:=(List.getElem?_eq_some_iff.1 hp).1;omega⟩ (by dsimp only;omega) fun s hs=>?_
  obtain ⟨a,b⟩:=s
  obtain ⟨i,j,rfl,rfl,h1,h2,h3,h4⟩:=hs
  dsimp only
  refine Y.cond (fun hc=>?_) (fun hc=>Y.ret ⟨rfl,i,rfl,by omega,h3,fun k p hp hk=>h4 k p hp (by have:=of_decide_eq_false hc;omega)⟩)
  have hc:i<j:=by have:=of_decide_eq_true hc;omega
  unfold lb
  rw [show (i:Int)+(j:Int)=((i+j:Nat):Int) by omega,half_u _ (by omega)]
  have hm:(i+j) / 2<l.length:=by omega
  have pw:=List.pairwise_iff_getElem.1 h.asc
  refine Y.idx rfl hm (Y.eq (cmp _) ?_)
  by_cases hlt:l[(i+j) / 2].ID<id
  ·rw [if_pos hlt]
   refine Y.ret ⟨⟨(i+j) / 2+1,j,?_,rfl,by omega,h2,fun k p hp hk=>?_,h4⟩,?_⟩
   ·show IntKind.i64.wrap _=_;rw [cP (by omega) (by omega)];omega
   ·obtain ⟨hk2,rfl⟩:=List.getElem?_eq_some_iff.1 hp
    rcases Nat.lt_or_ge k ((i+j) / 2) with h5 | h5
    ·have:=pw k ((i+j) / 2) hk2 hm h5;omega
    have e:k=(i+j) / 2:=by omega
    subst e;exact hlt
   show ((j:Int) - IntKind.i64.wrap _).toNat<_;rw [cP (by omega) (by omega)];omega
  rw [if_neg hlt]
  have hd:decide ((if id<l[(i+j) / 2].ID then (1:Int) else 0)<0)=false:=by split <;> rfl
  rw [hd]
  refine Y.ret ⟨⟨i,(i+j) / 2,rfl,rfl,by omega,by omega,h3,fun k p hp hk=>?_⟩,by dsimp only;omega⟩
  obtain ⟨hk2,rfl⟩:=List.getElem?_eq_some_iff.1 hp
  rcases Nat.lt_or_ge ((i+j) / 2) k with h5 | h5
  ·have:=pw ((i+j) / 2) k hm hk2 h5;omega
  have e:k=(i+j) / 2:=by omega
  subst e;omega
 obtain ⟨⟨t1,t2⟩,e,rfl,j,hj,h1,h2,h3⟩:=hloop
 dsimp only at hj
 subst hj
 rw [e]
 simp only [bc]
 by_cases hjl:j<l.length
 ·rw [det (show (j:Int)<(l.length:Int) by omega),co,aQ hjl,bc,co,cmp,bc]
  have h4:=h3 j _ (List.getElem?_eq_getElem hjl) (Nat.le_refl _)
  rw [if_neg (by omega)]
  by_cases heq:t1<l[j].ID
  ·have hn:dj l t1=none:=by
    unfold dj;rw [List.find?_eq_none]
    intro p hp
    obtain ⟨k,hk,rfl⟩:=List.getElem_of_mem hp
    have:l[k].ID≠t1:=by
     rcases Nat.lt_or_ge k j with h5 | h5
     ·have:=h2 k _ (List.getElem?_eq_getElem hk) h5;omega
     rcases Nat.lt_or_ge j k with h6 | h6
     ·have:=List.pairwise_iff_getElem.1 h.asc j k hjl hk h6;omega
     have e:k=j:=by omega
     subst e;omega
    simpa using this
   rw [if_pos heq,hn];exact ⟨j,rfl,fun p hp=>by cases hp⟩
  ·have hid:l[j].ID=t1:=by omega
   have hs:dj l t1=some l[j]:=by
    unfold dj
    rw [List.find?_eq_some_iff_getElem]
    refine ⟨by simpa using hid,j,hjl,rfl,fun k hk=>?_⟩
    have:=h2 k _ (List.getElem?_eq_getElem (by omega)) hk
    have:l[k].ID≠t1:=by omega
    simpa using this
   rw [if_neg heq,hs];exact ⟨j,rfl,fun p hp=>by injection hp with hp;exact ⟨hjl,hp⟩⟩
 rw [bF (show ¬ (j:Int)<(l.length:Int) by omega),jm,bc,jm,bc]
 have hn:dj l t1=none:=by
  unfold dj;rw [List.find?_eq_none]
  intro p hp
  obtain ⟨k,hk,rfl⟩:=List.getElem_of_mem hp
  have:=h2 k _ (List.getElem?_eq_getElem hk) (by omega)
  have:l[k].ID≠t1:=by omega
  simpa using this
 rw [hn];exact ⟨j,rfl,fun p hp=>by cases hp⟩
theorem vW (l:List Zc) (id:Int) (h:Sorted l):cW l id=some (ia FS (dj l id)):=by
 unfold cW
 obtain ⟨j,e,hj⟩:=DH l id h
 rw [e,bc]
 cases hf:dj l id with
 | none=>rfl
 | some p =>
  obtain ⟨hjl,rfl⟩:=hj p hf
  have hs:=h.small _ (List.getElem_mem hjl)
  simp only [Option.isSome_some,Bool.not_true,bB,aQ hjl,bc]
  unfold bU cd
  rw [jM (by omega) (by omega),bc,jM (by omega) (by omega),bc];rfl
theorem MPs.sorted {l:List Zc} (h:MPs l):Sorted l:=by
 refine ⟨by have:=h.len;omega,?_,fun p hp=>?_⟩
 ·rw [List.pairwise_iff_getElem]
  intro i j hi hj hij
  have h1:=(h.all i _ (List.getElem?_eq_getElem hi)).id
  have h2:=(h.all j _ (List.getElem?_eq_getElem hj)).id
  omega
 obtain ⟨i,hi,rfl⟩:=List.getElem_of_mem hp
 have hm:=h.all i _ (List.getElem?_eq_getElem hi)
 have h1:=hm.proc.length_le;have h2:=hm.few;have h6:W5.length=5:=rfl
 omega
structure VAs (l:List Zb):Prop where
 len:l.length≤1000
 all:∀ a∈l,VA a
theorem MAs.vas {l:List Zb} (h:MAs l):VAs l:=⟨by have:=h.len;omega,fun a ha=>by obtain ⟨i,hi,rfl⟩:=List.getElem_of_mem ha;exact (h.all i _ (List.getElem?_eq_getElem hi)).va⟩
theorem nh {l:List Zb} (h:VAs l) {id:Int} {a:Zb} (ha:j0 l id=some a):VA a∧a.ID=id∧a∈l:=by
 have hm:=List.mem_of_find?_eq_some ha
 exact ⟨h.all a hm,by have:=List.find?_some ha;simpa using this,hm⟩
def yI (a:Zb) (x y:ByteArray):Bool:=lZ a.Parties x&&lZ a.Parties y
theorem xz (a:Zb) (x y:ByteArray) (ha:VA a):dJ a x y=some (yI a x y):=by
 have:=ha.ok.par.1
 unfold dJ yI
 rw [so _ _ this,so _ _ this,bc]
 cases lZ a.Parties x <;> rfl
def jd (p:List Zc) (l:List Zb) (i:ByteArray) (c:Za):Bool:=match dj p c.Product,j0 l c.Agreement with
 | some q,some a => !decide (q.Country=i)&&yI a q.Country i&&(dw a q.Code).isSome
 | _,_=>false
theorem vX (p:List Zc) (l:List Zb) (i:ByteArray) (c:Za) (hp:Sorted p) (hl:VAs l):cj p l i c=some (jd p l i c):=by
 unfold cj jd
 have:=hl.len
 rw [vW _ _ hp,bc]
 cases dj p c.Product with
 | none=>rfl
 | some q =>
  rw [rQ _ _ (by omega)]
  simp only [ia,Bool.not_true,bB,bc]
  cases ha:j0 l c.Agreement with
  | none=>rfl
  | some a =>
   have hv:=(nh hl ha).1
   rw [xz _ _ _ hv,qu _ _ hv]
   by_cases hq:q.Country=i
   ·simp [hq,gd]
   cases h1:yI a q.Country i
   ·simp [hq,gd,h1]
   cases h2:dw a q.Code <;> simp [hq,gd,ia,h1,h2]
theorem yJ (p:List Zc) (l:List Zb) (i:ByteArray) (c:Za) (hp:p.length≤140737488355328) (hl:VAs l):cY p l i c=some (jd p l i c):=by
 unfold cY jd
 have:=hl.len
 rw [xy _ _ hp,bc,qQ _ _ (by omega),bc]
 cases ha:j0 l c.Agreement with
 | none =>
  rw [oZ _ _ (by simp [ia,DG]),bc]
  cases dj p c.Product with
  | none=>rfl
  | some q=>rfl
 | some a =>
  have hv:=(nh hl ha).1
  rw [show (ia DG (some a)).1=a from rfl,oZ _ _ hv.ok.len,bc,qP _ _ hv.ok.par.1,qP _ _ hv.ok.par.1]
  cases dj p c.Product with
  | none=>rfl
  | some q =>
   unfold yI
   cases hr:dw a q.Code with
   | none=>simp [ia,gd,hr]
   | some r =>
    by_cases hq:q.Country=i
    ·simp [ia,gd,hr,hq]
    cases h1:lZ a.Parties q.Country
    ·simp [ia,gd,hr,hq,h1]
    cases h2:lZ a.Parties i <;> simp [ia,gd,hr,hq,h1,h2]
def o3 (a:Zb) (id:Int) (e i:ByteArray) (b:Zb):Bool := !(b.ID == id)&&yI b e i&&kH Ar a.Rules b.Rules
def eU (l:List Zb) (id:Int) (e i:ByteArray):List Int:=match j0 l id with
 | none=>[]
 | some a=>id::cond (a.Kind == 2) ((l.filter (o3 a id e i)).map (·.ID)) []
theorem qy (P:Zb→Bool):∀ (l:List Zb) (acc:List Int),l.foldl (fun acc b=>cond (P b) (acc++[b.ID]) acc) acc=acc++(l.filter P).map (·.ID)
 | [],acc=>by simp
 | b::l,acc=>by
  rw [List.foldl_cons,qy P l,List.filter_cons]
  cases P b <;> simp
theorem wT (l:List Zb) (id:Int) (e i:ByteArray) (hl:VAs l):eC l id e i=some (eU l id e i):=by
 unfold eC eU
 have hlen:=hl.len
 rw [rQ _ _ (by omega),bc]
 cases ha:j0 l id with
 | none=>rfl
 | some a =>
  have hv:=(nh hl ha).1
  simp only [ia,Bool.not_true,bB,bne]
  cases hk:(a.Kind == 2)
  ·rfl
  simp only [Bool.not_true,bB,bS]
  refine (cE (l:=l) (by omega) (fun i (a:List Int)=>(a,i)) (fun acc b=>cond (o3 a id e i b) (acc++[b.ID]) acc) (fun a=>a) (fun k acc=>acc.length≤k+1) [id] (by simp) (fun k hk acc hacc=>⟨?_,?_⟩) (fun acc _=>by simp only [cT,bB])).1.trans ?_
  ·have hb:=hl.all _ (List.getElem_mem hk)
   simp only [ic hk,bS,aQ hk,bc,bP hk (show l.length≤4611686018427387904 by omega),o3,bne]
   rw [xz _ _ _ hb,vV _ _ hv.ok.len hv.ok.rules hv.rules]
   cases (l[k].ID == id)
   ·cases yI l[k] e i
    ·rfl
    cases kH Ar a.Rules l[k].Rules
    ·rfl
    simp only [Bool.not_false,co,bc,Bool.and_self,bS]
    rw [cI (by simp;omega) (by simp;omega)];rfl
   rfl
  ·cases o3 a id e i l[k] <;> simp <;> omega
  rw [qy];rfl
theorem yK (l:List Zb) (id:Int) (e i:ByteArray) (hl:VAs l):iT l id e i=some (eU l id e i):=by
 unfold iT eU
 have hlen:=hl.len
 rw [qQ _ _ (by omega),bc]
 cases ha:j0 l id with
 | none=>rfl
 | some a =>
  have hv:=(nh hl ha).1
  simp only [ia,Bool.not_true,bB]
  cases hk:(a.Kind == 2)
  ·refine (cE (l:=([]:List Zb)) (by simp) (fun i (a:List Int)=>(a,i)) (fun acc b=>acc) (fun a=>a) (fun k acc=>True) [id] trivial (fun k hk acc hacc=>by simp at hk) (fun acc _=>by simp only [Bool.and_false,bB])).1.trans ?_
   rfl
  simp only [Bool.and_true,bS]
  refine (cE (l:=l) (by omega) (fun i (a:List Int)=>(a,i)) (fun acc b=>cond (o3 a id e i b) (acc++[b.ID]) acc) (fun a=>a) (fun k acc=>acc.length≤k+1) [id] (by simp) (fun k hk acc hacc=>⟨?_,?_⟩) (fun acc _=>by simp only [cT,bB])).1.trans ?_
  ·have hb:=hl.all _ (List.getElem_mem hk)
   simp only [ic hk,bS,aQ hk,bc,bP hk (show l.length≤4611686018427387904 by omega),o3,bne,yI]
   rw [qP _ _ hb.ok.par.1,qP _ _ hb.ok.par.1,wR _ _ hv.ok.len hv.ok.rules]
   cases (l[k].ID == id)
   ·cases lZ l[k].Parties e
    ·rfl
    cases lZ l[k].Parties i
    ·rfl
    cases kH Ar a.Rules l[k].Rules
    ·rfl
    simp only [Bool.not_false,co,bc,Bool.and_self,bS]
    rw [cI (by simp;omega) (by simp;omega)];rfl
   rfl
  ·cases o3 a id e i l[k] <;> simp <;> omega
  rw [qy];rfl
def AscA (l:List Zb):Prop:=l.Pairwise fun a b=>a.ID<b.ID
theorem DI {l:List Zb} (h:AscA l) {a:Zb} (ha:a∈l):j0 l a.ID=some a:=by
 obtain ⟨i,hi,rfl⟩:=List.getElem_of_mem ha
 unfold j0
 rw [List.find?_eq_some_iff_getElem]
 refine ⟨by simp,i,hi,rfl,fun k hk=>?_⟩
 have:=List.pairwise_iff_getElem.1 h k i (by omega) hi hk
 have:l[k].ID≠l[i].ID:=by omega
 simpa using this
theorem MAs.asc {l:List Zb} (h:MAs l):AscA l:=by
 unfold AscA;rw [List.pairwise_iff_getElem]
 intro i j hi hj hij
 have h1:=(h.all i _ (List.getElem?_eq_getElem hi)).id
 have h2:=(h.all j _ (List.getElem?_eq_getElem hj)).id
 omega
theorem sq (l:List Zb) (id:Int) (e i:ByteArray):(eU l id e i).length≤l.length+1:=by
 unfold eU
 cases j0 l id with
 | none=>simp
 | some a=>cases h:(a.Kind == 2) <;> simp [h];exact List.length_filter_le _ _
theorem BG (x:Int):Y (jo x) (fun s=>s∈C6):=by
 unfold jo
 refine (iZ x 8 (by omega) (by omega)).bind fun r ⟨h1,h2⟩=>?_
 obtain ⟨j,hj⟩:∃ j:Nat,r=(j:Int):=⟨r.toNat,by omega⟩
 refine Y.idx hj (show j<8 by omega) (Y.ret ?_)
 have hj8:j<8:=by omega
 match j,hj8 with
 | 0,_=>exact .tail _ (.head _)
 | 1,_=>exact .tail _ (.head _)
 | 2,_=>exact .tail _ (.head _)
 | 3,_=>exact .head _
 | 4,_=>exact .tail _ (.tail _ (.head _))
 | 5,_=>exact .tail _ (.tail _ (.tail _ (.head _)))
 | 6,_=>exact .tail _ (.tail _ (.tail _ (.tail _ (.head _))))
 | 7,_=>exact .tail _ (.tail _ (.tail _ (.tail _ (.tail _ (.head _)))))
end SX
end Go.Proofs.YtgmbmepakpcpaaaGreatDoor
set_option maxRecDepth 100000
set_option linter.unusedSectionVars false
namespace Go.Proofs.YtgmbmepakpcpaaaGreatDoor
namespace SX
open Go
section
variable {α:Type} [DecidableEq α]
def dd:List α→List α
 | []=>[]
 | [x]=>[x]
 | x::y::l=>cond (decide (x=y)) (dd (y::l)) (x::dd (y::l))
theorem yL (x y:α):∀ l:List α,dd (l++[x,y])=cond (decide (x=y)) (dd (l++[x])) (dd (l++[x])++[y])
 | []=>by
  show dd [x,y]=_
  rw [dd]
  cases h:decide (x=y)
  ·rfl
  ·have:=of_decide_eq_true h;subst this;rfl
 | [a]=>by
  have ih:=yL x y []
  simp only [List.nil_append] at ih
  simp only [List.cons_append,List.nil_append]
  rw [show dd [a,x,y]=cond (decide (a=x)) (dd [x,y]) (a::dd [x,y]) from rfl,ih,show dd [a,x]=cond (decide (a=x)) (dd [x]) (a::dd [x]) from rfl]
  cases decide (x=y) <;> cases decide (a=x) <;> rfl
 | a::b::l=>by
  show dd (a::b::(l++[x,y]))=_
  have ih:=yL x y (b::l)
  simp only [List.cons_append] at ih
  rw [dd,ih]
  show _=cond _ (dd (a::b::(l++[x]))) (dd (a::b::(l++[x]))++[y])
  rw [dd]
  cases decide (x=y) <;> cases decide (a=b) <;> rfl
theorem BH:∀ {l:List α} {z:α},z∈dd l↔z∈l
 | [],z=>Iff.rfl
 | [x],z=>Iff.rfl
 | x::y::l,z=>by
  rw [dd]
  have ih:=BH (l:=y::l) (z:=z)
  cases h:decide (x=y)
  ·rw [bB,List.mem_cons,ih];simp
  have:=of_decide_eq_true h;subst this
  rw [bS,ih];simp
theorem FT:∀ l:List α,(dd l).length≤l.length
 | []=>Nat.le_refl _
 | [x]=>Nat.le_refl _
 | x::y::l=>by
  rw [dd]
  have ih:=FT (y::l)
  cases decide (x=y)
  ·simp only [bB,List.length_cons] at ih ⊢;omega
  simp only [bS,List.length_cons] at ih ⊢;omega
theorem yM:∀ {l:List α},(∀ i,(h:i+1<l.length)→l[i]≠l[i+1])→dd l=l
 | [],_=>rfl
 | [x],_=>rfl
 | x::y::l,h=>by
  have h0:=h 0 (by simp)
  simp only [List.getElem_cons_zero,List.getElem_cons_succ,Nat.zero_add] at h0
  rw [dd,bF h0,bB,yM (l:=y::l) fun i hi=>by have:=h (i+1) (by simpa using hi);simpa using this]
variable {lt:α→α→Bool}
def Strict (lt:α→α→Bool) (l:List α):Prop:=l.Pairwise fun a b=>lt a b=true
theorem xA (htot:∀ x y,lt x y=false→lt y x=false→x=y) (htr:∀ x y z,lt x y=true→lt y z=true→lt x z=true):∀ {l:List α},l.Pairwise (fun a b=>lt b a=false)→Strict lt (dd l)
 | [],_=>List.Pairwise.nil
 | [x],_=>List.pairwise_singleton _ _
 | x::y::l,h=>by
  obtain ⟨h1,h2⟩:=List.pairwise_cons.1 h
  have ih:=xA htot htr h2
  rw [dd]
  cases hxy:decide (x=y)
  ·refine List.pairwise_cons.2 ⟨fun z hz=>?_,ih⟩
   have hz:=BH.1 hz
   have hne:x≠y:=of_decide_eq_false hxy
   have hlt:lt x y=true:=by
    cases hl:lt x y
    ·exact absurd (htot x y hl (h1 y (by simp))) hne
    rfl
   rcases List.mem_cons.1 hz with rfl | hz
   ·exact hlt
   cases hyz:lt y z
   ·have:=(List.pairwise_cons.1 h2).1 z hz
    rw [← htot y z hyz this];exact hlt
   exact htr _ _ _ hlt hyz
  exact ih
theorem tV (hir:∀ x,lt x x=false) (htr:∀ x y z,lt x y=true→lt y z=true→lt x z=true):∀ {l m:List α},Strict lt l→Strict lt m→(∀ z,z∈l↔z∈m)→l=m
 | [],[],_,_,_=>rfl
 | [],y::m,_,_,h=>absurd ((h y).2 (by simp)) (by simp)
 | x::l,[],_,_,h=>absurd ((h x).1 (by simp)) (by simp)
 | x::l,y::m,h1,h2,h=>by
  obtain ⟨a1,a2⟩:=List.pairwise_cons.1 h1
  obtain ⟨b1,b2⟩:=List.pairwise_cons.1 h2
  have hxy:x=y:=by
   rcases List.mem_cons.1 ((h x).1 (by simp)) with e | hx
   ·exact e
   rcases List.mem_cons.1 ((h y).2 (by simp)) with e | hy
   ·exact e.symm
   have:=htr _ _ _ (a1 y hy) (b1 x hx);rw [hir] at this;cases this
  subst hxy
  congr 1
  refine tV hir htr a2 b2 fun z=>?_
  constructor
  ·intro hz
   rcases List.mem_cons.1 ((h z).1 (by simp [hz])) with rfl | hz2
   ·have:=a1 z hz;rw [hir] at this;cases this
   exact hz2
  intro hz
  rcases List.mem_cons.1 ((h z).2 (by simp [hz])) with rfl | hz2
  ·have:=b1 z hz;rw [hir] at this;cases this
  exact hz2
def aZ (l:List α) (c:α):Bool:=l.any fun x=>decide (x=c)
theorem gX {l:List α} {c:α}:aZ l c=true↔c∈l:=by unfold aZ;rw [List.any_eq_true];exact ⟨fun ⟨x,h1,h2⟩=>of_decide_eq_true h2 ▸ h1,fun h=>⟨c,h,det rfl⟩⟩
theorem qz {l:List α} {c:α}:aZ l c=false↔c ∉ l:=by rw [← gX];simp
def iw (lt:α→α→Bool) (l:List α) (c:α):List α:=cond (aZ l c) l (l.takeWhile (fun x=>lt x c)++c::l.dropWhile (fun x=>lt x c))
theorem sr (l:List α) (c z:α):z∈iw lt l c↔z=c∨z∈l:=by
 unfold iw
 cases h:aZ l c
 ·rw [bB,List.mem_append,List.mem_cons]
  have:z∈l↔z∈l.takeWhile (fun x=>lt x c)∨z∈l.dropWhile (fun x=>lt x c):=by
   rw [← List.mem_append,List.takeWhile_append_dropWhile]
  rw [this]
  constructor
  ·rintro (h | h | h);exact .inr (.inl h);exact .inl h;exact .inr (.inr h)
  rintro (h | h | h);exact .inr (.inl h);exact .inl h;exact .inr (.inr h)
 have:=gX.1 h
 rw [bS]
 constructor
 ·exact fun h=>.inr h
 rintro (rfl | h);exact this;exact h
theorem qA (htot:∀ x y,lt x y=false→lt y x=false→x=y) (htr:∀ x y z,lt x y=true→lt y z=true→lt x z=true) {l:List α} {c:α} (h:Strict lt l):Strict lt (iw lt l c):=by
 unfold iw
 cases hc:aZ l c
 ·have hc:=qz.1 hc
  rw [bB]
  have hd:∀ z∈l.dropWhile (fun x=>lt x c),lt c z=true:=by
   have key:∀ m:List α,Strict lt m→c ∉ m→∀ z∈m.dropWhile (fun x=>lt x c),lt c z=true:=by
    intro m
    induction m with
    | nil=>intro _ _ z hz;cases hz
    | cons x m ih =>
     intro hm hcm z hz
     obtain ⟨m1,m2⟩:=List.pairwise_cons.1 hm
     rw [List.dropWhile_cons] at hz
     cases hx:lt x c
     ·rw [hx] at hz
      simp only [Bool.false_eq_true,if_false] at hz
      have hcx:lt c x=true:=by
       cases h2:lt c x
       ·exact absurd (htot x c hx h2) (fun e=>hcm (by simp [e]))
       rfl
      rcases List.mem_cons.1 hz with rfl | hz
      ·exact hcx
      exact htr _ _ _ hcx (m1 z hz)
     rw [hx] at hz
     simp only [if_true] at hz
     exact ih m2 (fun h=>hcm (by simp [h])) z hz
   exact key l h hc
  have ht:∀ z∈l.takeWhile (fun x=>lt x c),lt z c=true:=by
   have key:∀ m:List α,∀ z∈m.takeWhile (fun x=>lt x c),lt z c=true:=by
    intro m
    induction m with
    | nil=>intro z hz;cases hz
    | cons x m ih =>
     intro z hz
     rw [List.takeWhile_cons] at hz
     cases hx:lt x c
     ·rw [hx] at hz;cases hz
     rw [hx] at hz
     simp only [if_true] at hz
     rcases List.mem_cons.1 hz with rfl | hz
     ·exact hx
     exact ih z hz
   exact key l
  refine List.pairwise_append.2 ⟨h.sublist (List.takeWhile_sublist _),List.pairwise_cons.2 ⟨hd,h.sublist (List.dropWhile_sublist _)⟩,fun a ha b hb=>?_⟩
  rcases List.mem_cons.1 hb with rfl | hb
  ·exact ht a ha
  exact htr _ _ _ (ht a ha) (hd b hb)
 exact h
theorem kA (l:List α) (c:α):(iw lt l c).length≤l.length+1:=by
 unfold iw
 cases aZ l c
 ·rw [bB,List.length_append,List.length_cons]
  have:=congrArg List.length (List.takeWhile_append_dropWhile (p:=fun x=>lt x c) (l:=l))
  rw [List.length_append] at this;omega
 exact Nat.le_succ _
def sd (lt:α→α→Bool) (l:List α):List α:=dd (lD lt l)
theorem FU (l:List α) (z:α):z∈sd lt l↔z∈l:=by unfold sd;rw [BH,kW.mem_iff]
theorem FV (l:List α):(sd lt l).length≤l.length:=by unfold sd;have:=FT (lD lt l);rw [od] at this;exact this
structure Ord (lt:α→α→Bool):Prop where
 irr:∀ x,lt x x=false
 tr:∀ x y z,lt x y=true→lt y z=true→lt x z=true
 ntr:∀ x y z,lt x y=false→lt y z=false→lt x z=false
 tot:∀ x y,lt x y=false→lt y x=false→x=y
theorem tp (o:Ord lt) (l:List α):Strict lt (sd lt l):=xA o.tot o.tr (mu o.tr o.ntr o.irr l)
theorem su (o:Ord lt):∀ (l acc:List α),Strict lt acc→Strict lt (l.foldl (iw lt) acc)∧(∀ z,z∈l.foldl (iw lt) acc↔z∈acc∨z∈l)∧(l.foldl (iw lt) acc).length≤acc.length+l.length
 | [],acc,h=>⟨h,fun z=>by simp,by simp⟩
 | c::l,acc,h=>by
  obtain ⟨h1,h2,h3⟩:=su o l (iw lt acc c) (qA o.tot o.tr h)
  refine ⟨h1,fun z=>?_,?_⟩
  ·rw [List.foldl_cons,h2,sr,List.mem_cons]
   constructor
   ·rintro ((h | h) | h);exact .inr (.inl h);exact .inl h;exact .inr (.inr h)
   rintro (h | h | h);exact .inl (.inr h);exact .inl (.inl h);exact .inr h
  rw [List.foldl_cons,List.length_cons];have:=kA (lt:=lt) acc c;omega
theorem tW (o:Ord lt) (l:List α):l.foldl (iw lt) []=sd lt l :=
 tV o.irr o.tr (su o l [] List.Pairwise.nil).1 (tp o l) fun z=>by rw [(su o l [] List.Pairwise.nil).2.1,FU];simp
end
theorem BI:Ord jb:=⟨CC,FF,fun x y z h1 h2=>by
 rw [qk] at *;exact bF (List.not_lt.2 (List.le_trans (List.not_lt.1 (of_decide_eq_false h2)) (List.not_lt.1 (of_decide_eq_false h1)))),fun x y h1 h2=>by
 rw [qk] at h1 h2
 exact str_ext.2 (List.le_antisymm (List.not_lt.1 (of_decide_eq_false h2)) (List.not_lt.1 (of_decide_eq_false h1)))⟩
theorem ordC:Ord bu:=⟨tQ,vK,tR,tS⟩
section
variable {α:Type} [DecidableEq α]
theorem CJ {p:List α} {n:Nat} (h0:1≤n) (h:n<p.length):dd (p.take (n+1))=cond (decide (p[n-1]'(by omega)=p[n])) (dd (p.take n)) (dd (p.take n)++[p[n]]):=by
 obtain ⟨m,rfl⟩:∃ m,n=m+1:=⟨n - 1,by omega⟩
 have e1:p.take (m+1)=p.take m++[p[m]'(by omega)]:=by rw [List.take_add_one,List.getElem?_eq_getElem (by omega)];rfl
 have e3:p.take (m+1+1)=p.take (m+1)++[p[m+1]]:=by rw [List.take_add_one,List.getElem?_eq_getElem h];rfl
 have e2:p.take (m+1+1)=p.take m++[p[m]'(by omega),p[m+1]]:=by rw [e3,e1,List.append_assoc];rfl
 rw [e2,yL,e1];rfl
structure CInv (p:List α) (v:Nat) (l:List α) (k i:Nat):Prop where
 i1:1≤i
 le:v+i≤p.length
 len:l.length=p.length
 kk:k=(dd (p.take (v+i))).length
 klt:k+1≤v+i
 pre:l.take k=dd (p.take (v+i))
 suf:∀ j,v+i≤j+1→l[j]?=p[j]?
theorem CInv.step {p l:List α} {v k i:Nat} (c:CInv p v l k i) (h:v+i<p.length) (hv:1≤v):∃ x y,l[v+i]?=some x∧l[v+i - 1]?=some y∧(decide (x=y)=true→CInv p v l k (i+1))∧(decide (x=y)=false→k<l.length∧CInv p v (l.set k x) (k+1) (i+1)):=by
 have hx:=c.suf (v+i) (by omega)
 have hy:=c.suf (v+i - 1) (by omega)
 rw [List.getElem?_eq_getElem h] at hx
 rw [List.getElem?_eq_getElem (show v+i - 1<p.length by omega)] at hy
 have hd:=CJ (p:=p) (n:=v+i) (by omega) h
 refine ⟨_,_,hx,hy,fun e=>?_,fun e=>?_⟩
 ·have e':decide (p[v+i - 1]'(by omega)=p[v+i])=true:=det (of_decide_eq_true e).symm
  rw [e',bS] at hd
  exact ⟨by omega,by omega,c.len,by rw [← Nat.add_assoc,hd];exact c.kk,by have:=c.klt;omega,by rw [← Nat.add_assoc,hd];exact c.pre,fun j hj=>c.suf j (by omega)⟩
 have e':decide (p[v+i - 1]'(by omega)=p[v+i])=false:=bF (fun q=>of_decide_eq_false e q.symm)
 rw [e',bB] at hd
 have hk:k<l.length:=by have:=c.klt;have:=c.len;omega
 refine ⟨hk,by omega,by omega,by rw [List.length_set];exact c.len,by rw [← Nat.add_assoc,hd,List.length_append,← c.kk];rfl,by have:=c.klt;omega,?_,fun j hj=>?_⟩
 ·rw [← Nat.add_assoc,hd,← c.pre]
  rw [List.take_add_one,List.getElem?_set]
  simp only [if_true,hk]
  rw [List.take_set_of_le (Nat.le_refl k)];rfl
 rw [List.getElem?_set,if_neg (by have:=c.klt;omega)];exact c.suf j (by omega)
theorem CInv.start {p:List α} {v:Nat} (hv:1≤v) (h:v<p.length) (he:p[v]=p[v-1]'(by omega)) (hb:∀ j,1≤j→(hj:j<v)→p[j]'(by omega)≠p[j-1]'(by omega)):CInv p v p v 1:=by
 have e1:dd (p.take v)=p.take v:=yM fun i hi=>by
  rw [List.length_take] at hi
  rw [List.getElem_take,List.getElem_take]
  have:=hb (i+1) (by omega) (by omega)
  exact fun e=>this e.symm
 have hd:=CJ (p:=p) (n:=v) hv h
 rw [det he.symm,bS,e1] at hd
 exact ⟨Nat.le_refl _,by omega,rfl,by rw [hd,List.length_take];omega,by omega,by rw [hd],fun j _=>rfl⟩
end
end SX
end Go.Proofs.YtgmbmepakpcpaaaGreatDoor
namespace Go.Proofs.YtgmbmepakpcpaaaGreatDoor
namespace SX
open Go
theorem yN {α:Type} (l:List α) (n:Nat):idx l (n:Int)=l[n]?:=by unfold idx;rw [if_pos (by omega)];simp
theorem tX {α:Type} [DecidableEq α] (E:α→α→Bool) (hE:∀ x y,E x y=decide (x=y)) (z:α) (p:List α) (hp:p.length≤1000000000) :
    cond (decide (((p.length:Nat):Int)<2)) (some p) (Option.bind (aU (S:=Int) (T:=(Unit)⊕(List α)) (fun v2=>cond (decide (v2<((p.length:Nat):Int))) (Option.bind (idx p v2) (fun m7=>Option.bind (idx p (IntKind.i64.wrap (v2 - 1))) (fun m8=>cond (E m7 m8) (Option.bind (sub p v2 (p.length:Int)) (fun _=>Option.bind (aU (S:=(List α)×Int×Int) (T:=((List α)×Int)) (fun (l12,v13,v14)=>cond (decide (v14<((p.length - v2.toNat:Nat):Int))) (Option.bind (Option.bind (lB v14) (fun _=>Option.bind (idx l12 (v2+v14)) (fun m26=>Option.bind (lB (IntKind.i64.wrap (v14 - 1))) (fun _=>Option.bind (idx l12 (v2+(IntKind.i64.wrap (v14 - 1)))) (fun m28=>cond (!(E m26 m28)) (Option.bind (lB v14) (fun _=>Option.bind (idx l12 (v2+v14)) (fun m31=>Option.bind (idx l12 v13) (fun _=>some ((l12.set v13.toNat m31),(IntKind.i64.wrap (v13+1))))))) (some (l12,v13))))))) (fun (l22,v23)=>some (.inl (l22,v23,(IntKind.i64.wrap (v14+1)))))) (some (.inr (l12,v13)))) FUEL (p,v2,1)) (fun (l16,v17)=>Option.bind (sub l16 v17 (l16.length:Int)) (fun _=>Option.bind (sub (List.take v17.toNat l16++List.replicate (p.length - v17.toNat) z) 0 v17) (fun l35=>some (.inr (.inr l35))))))) (some (.inl (IntKind.i64.wrap (v2+1))))))) (some (.inr (.inl ())))) FUEL 1) (fun q=>match q with | .inl _=>some p | .inr e=>some e))=some (dd p):=by
  by_cases h2:p.length<2
  · rw [det (show ((p.length:Nat):Int)<2 by omega)]
    match p,h2 with
    | [],_=>rfl
    | [x],_=>rfl
  rw [bF (by omega),bB]
  have hl:Y (aU (S:=Int) (T:=(Unit)⊕(List α)) (fun v2=>cond (decide (v2<((p.length:Nat):Int))) (Option.bind (idx p v2) (fun m7=>Option.bind (idx p (IntKind.i64.wrap (v2 - 1))) (fun m8=>cond (E m7 m8) (Option.bind (sub p v2 (p.length:Int)) (fun _=>Option.bind (aU (S:=(List α)×Int×Int) (T:=((List α)×Int)) (fun (l12,v13,v14)=>cond (decide (v14<((p.length - v2.toNat:Nat):Int))) (Option.bind (Option.bind (lB v14) (fun _=>Option.bind (idx l12 (v2+v14)) (fun m26=>Option.bind (lB (IntKind.i64.wrap (v14 - 1))) (fun _=>Option.bind (idx l12 (v2+(IntKind.i64.wrap (v14 - 1)))) (fun m28=>cond (!(E m26 m28)) (Option.bind (lB v14) (fun _=>Option.bind (idx l12 (v2+v14)) (fun m31=>Option.bind (idx l12 v13) (fun _=>some ((l12.set v13.toNat m31),(IntKind.i64.wrap (v13+1))))))) (some (l12,v13))))))) (fun (l22,v23)=>some (.inl (l22,v23,(IntKind.i64.wrap (v14+1)))))) (some (.inr (l12,v13)))) FUEL (p,v2,1)) (fun (l16,v17)=>Option.bind (sub l16 v17 (l16.length:Int)) (fun _=>Option.bind (sub (List.take v17.toNat l16++List.replicate (p.length - v17.toNat) z) 0 v17) (fun l35=>some (.inr (.inr l35))))))) (some (.inl (IntKind.i64.wrap (v2+1))))))) (some (.inr (.inl ())))) FUEL 1) (fun t=>match t with | .inl _=>dd p=p | .inr e=>e=dd p):=by
    refine Y.loop (fun s:Int=>∃ v:Nat,s=(v:Int)∧1≤v∧v≤p.length∧∀ j,1≤j→(hj:j<v)→(hp:j<p.length)→p[j]≠p[j-1]'(by omega)) (fun s=>(p.length - s).toNat) ⟨1,rfl,by omega,by omega,fun j h1 h2=>by omega⟩ (by omega) fun s hs=>?_
    obtain ⟨v,rfl,h1,h3,h4⟩:=hs
    refine Y.cond (fun hc=>?_) (fun hc=>Y.ret (yM fun i hi=>?_))
    rotate_left
    · have hc:=of_decide_eq_false hc
      have:=h4 (i+1) (by omega) (by omega) hi
      exact fun e=>this e.symm
    have hv:v<p.length:=by have:=of_decide_eq_true hc;omega
    refine Y.idx rfl hv ?_
    refine Y.idx (n:=v - 1) (by rw [cP (by omega) (by omega)];omega) (by omega) ?_
    rw [hE]
    refine Y.cond (fun he=>?_) (fun he=>Y.ret ⟨⟨v+1,?_,by omega,by omega,fun j g1 g2 g3=>?_⟩,?_⟩)
    · rw [jK (Nat.le_of_lt hv) (Nat.le_refl _),bc]
      have he:=of_decide_eq_true he
      have c0:=CInv.start h1 hv he fun j g1 g2=>h4 j g1 g2 (by omega)
      refine Y.bind (P:=fun t:List α×Int=>∃ k:Nat,t.2=(k:Int)∧k≤p.length∧t.1.length=p.length∧t.1.take k=dd p) ?_ fun t ⟨k,t1,t2,t3,t4⟩=>?_
      · refine Y.loop (fun s:List α×Int×Int=>∃ k i:Nat,s.2.1=(k:Int)∧s.2.2=(i:Int)∧CInv p v s.1 k i) (fun s=>(p.length - v - s.2.2).toNat) ⟨v,1,rfl,rfl,c0⟩ (by dsimp only;omega) fun s hs=>?_
        obtain ⟨l,a,b⟩:=s
        obtain ⟨k,i,rfl,rfl,c⟩:=hs
        dsimp only at c ⊢
        have ci:=c.i1;have cl:=c.le;have ck:=c.klt;have cn:=c.len
        refine Y.cond (fun hc=>?_) (fun hc=>Y.ret ⟨k,rfl,by omega,c.len,?_⟩)
        rotate_left
        · have hc:=of_decide_eq_false hc
          have e:v+i=p.length:=by rw [Int.toNat_natCast] at hc;omega
          have:=c.pre
          rw [e,List.take_length] at this;exact this
        have hlt:v+i<p.length:=by have:=of_decide_eq_true hc;rw [Int.toNat_natCast] at this;omega
        obtain ⟨x,y,hx,hy,s1,s2⟩:=c.step hlt h1
        refine Y.bind (P:=fun t:List α×Int=>∃ k':Nat,t.2=(k':Int)∧CInv p v t.1 k' (i+1)) ?_ fun t ⟨k',t1,t2⟩=>Y.ret ⟨⟨k',i+1,t1,?_,t2⟩,?_⟩
        · refine Y.eq (oX i) ?_
          rw [show (v:Int)+(i:Int)=((v+i:Nat):Int) by omega]
          refine Y.eq (by rw [yN];exact hx) ?_
          rw [cP (r:=(i:Int) - 1) (by omega) (by omega),show (i:Int) - 1=((i - 1:Nat):Int) by omega]
          refine Y.eq (oX (i - 1)) ?_
          rw [show (v:Int)+((i - 1:Nat):Int)=((v+i - 1:Nat):Int) by omega]
          refine Y.eq (by rw [yN];exact hy) ?_
          rw [hE]
          refine Y.cond (fun hne=>?_) (fun hne=>Y.ret ⟨k,rfl,s1 (by simpa using hne)⟩)
          obtain ⟨hk,c2⟩:=s2 (by simpa using hne)
          refine Y.eq (oX i) (Y.eq (by rw [yN];exact hx) (Y.idx rfl hk (Y.ret ⟨k+1,?_,c2⟩)))
          show IntKind.i64.wrap ((k:Int)+1)=_;rw [cP (by omega) (by omega)];omega
        · show IntKind.i64.wrap ((i:Int)+1)=_;rw [cP (by omega) (by omega)];omega
        show ((p.length:Int) - v - IntKind.i64.wrap ((i:Int)+1)).toNat<((p.length:Int) - v - (i:Int)).toNat;rw [cP (by omega) (by omega)];omega
      obtain ⟨l,b⟩:=t
      dsimp only at t1 t3 t4 ⊢
      subst t1
      have e1:sub l (k:Int) (l.length:Int)=some ((l.take l.length).drop k):=jK (by omega) (Nat.le_refl _)
      rw [e1,bc,Int.toNat_natCast]
      have e2:sub (List.take k l++List.replicate (p.length - k) z) 0 (k:Int)=some (((List.take k l++List.replicate (p.length - k) z).take k).drop 0):=jK (a:=0) (by omega) (by simp;omega)
      rw [e2,bc]
      refine Y.ret ?_
      show ((List.take k l++List.replicate (p.length - k) z).take k).drop 0=dd p
      rw [List.drop_zero,List.take_append_of_le_length (by rw [List.length_take];omega),List.take_take,Nat.min_self,t4]
    · show IntKind.i64.wrap ((v:Int)+1)=_;rw [cP (by omega) (by omega)];omega
    · rcases Nat.lt_or_ge j v with h | h
      · exact h4 j g1 h g3
      have e:j=v:=by omega
      subst e;exact of_decide_eq_false he
    show ((p.length:Int) - IntKind.i64.wrap ((v:Int)+1)).toNat<((p.length:Int) - (v:Int)).toNat;rw [cP (by omega) (by omega)];omega
  obtain ⟨t,e,ht⟩:=hl
  rw [e]
  cases t with
  | inl u=>dsimp only at ht;rw [bc,ht]
  | inr u=>dsimp only at ht;rw [bc,ht]
theorem FW (p:List ByteArray) (hp:p.length≤1000000000):dU p=some (dd p):=by
 refine Eq.trans ?_ (tX (fun x y=>decide (x=y)) (fun _ _=>rfl) ByteArray.empty p hp)
 kernel_rfl
theorem CK (x y:Za):Za.eqb x y=decide (x=y):=by
 cases h:Za.eqb x y
 ·exact (bF fun e=>by rw [Za.eqb_iff.2 e] at h;cases h).symm
 exact (det (Za.eqb_iff.1 h)).symm
theorem FX (p:List Za) (hp:p.length≤1000000000):bA p=some (dd p):=by
 refine Eq.trans ?_ (tX Za.eqb CK ⟨0,0⟩ p hp)
 kernel_rfl
theorem mI (l:List Za) (c:Za) (hl:l.length≤140737488355328):cL l c=some (aZ l c):=by
 unfold cL
 refine (bD (l:=l) (by omega) (fun _ x=>cond (Za.eqb x c) (some (.inr true)) none) (.inl ()) (fun k hk=>?_) (by simp only [cT,bB])).trans ?_
 ·simp only [ic hk,bS,aQ hk,bc,bP hk (show l.length≤4611686018427387904 by omega)]
  cases Za.eqb l[k] c <;> rfl
 rw [qM (fun x=>Za.eqb x c)]
 have:(l.any fun x=>Za.eqb x c)=aZ l c:=by unfold aZ;congr 1;funext x;exact CK x c
 rw [this];cases aZ l c <;> rfl
theorem o4 {α:Type} (P:α→Bool):∀ (l:List α) (k:Nat),k≤l.length→(∀ j x,l[j]?=some x→j<k→P x=true)→(∀ x,l[k]?=some x→P x=false)→l.takeWhile P=l.take k∧l.dropWhile P=l.drop k
 | [],k,h,_,_=>by simp at h;subst h;exact ⟨rfl,rfl⟩
 | x::l,0,_,_,h=>by rw [List.takeWhile_cons,List.dropWhile_cons,h x rfl];exact ⟨rfl,rfl⟩
 | x::l,k+1,h,h1,h2=>by
  obtain ⟨e1,e2⟩:=o4 P l k (by simpa using h) (fun j y hy hj=>h1 (j+1) y (by simpa using hy) (by omega)) (fun y hy=>h2 y (by simpa using hy))
  rw [List.takeWhile_cons,List.dropWhile_cons,h1 0 x rfl (by omega)]
  simp only [if_true,List.take_succ_cons,List.drop_succ_cons]
  rw [e1,e2];exact ⟨rfl,rfl⟩
theorem qT (l:List Za) (c:Za) (hl:l.length≤1000000000):ez l c=some (iw bu l c):=by
 unfold ez iw
 rw [mI _ _ (by omega),bc]
 cases aZ l c
 rotate_left
 ·rfl
 simp only [bB]
 have hw:Y (aU (S:=Int) (T:=(Int)) (fun v4=>Option.bind (gd (decide (v4<(l.length:Int))) (idx l v4)) (fun m8=>Option.bind (gd (decide (v4<(l.length:Int))) (lc m8 c)) (fun x9=>cond ((decide (v4<(l.length:Int)))&&x9) (some (.inl (IntKind.i64.wrap (v4+1)))) (some (.inr v4))))) FUEL 0) (fun t=>∃ k:Nat,t=(k:Int)∧k≤l.length∧l.takeWhile (fun x=>bu x c)=l.take k∧l.dropWhile (fun x=>bu x c)=l.drop k):=by
  refine Y.loop (fun s:Int=>∃ k:Nat,s=(k:Int)∧k≤l.length∧∀ j x,l[j]?=some x→j<k→bu x c=true) (fun s=>(l.length - s).toNat) ⟨0,rfl,by omega,fun j x _ h=>absurd h (Nat.not_lt_zero _)⟩ (by omega) fun s hs=>?_
  obtain ⟨k,rfl,h1,h2⟩:=hs
  rcases Nat.lt_or_ge k l.length with hk | hk
  ·rw [ic hk,co,aQ hk,bc,co]
   have e:lc l[k] c=some (bu l[k] c):=by unfold lc bu;rfl
   rw [e,bc]
   cases hlt:bu l[k] c
   ·exact Y.ret ⟨k,rfl,h1,o4 _ l k h1 h2 fun x hx=>by rw [List.getElem?_eq_getElem hk] at hx;injection hx with hx;rw [← hx];exact hlt⟩
   refine Y.ret ⟨⟨k+1,?_,by omega,fun j x hx hj=>?_⟩,?_⟩
   ·show IntKind.i64.wrap ((k:Int)+1)=_;rw [cP (by omega) (by omega)];omega
   ·rcases Nat.lt_or_ge j k with h | h
    ·exact h2 j x hx h
    have e:j=k:=by omega
    subst e;rw [List.getElem?_eq_getElem hk] at hx;injection hx with hx;rw [← hx];exact hlt
   show ((l.length:Int) - IntKind.i64.wrap ((k:Int)+1)).toNat<((l.length:Int) - (k:Int)).toNat;rw [cP (by omega) (by omega)];omega
  have e:k=l.length:=by omega
  subst e
  rw [cT,jm,bc,jm,bc]
  exact Y.ret ⟨l.length,rfl,h1,o4 _ l _ h1 h2 fun x hx=>by have:=(List.getElem?_eq_some_iff.1 hx).1;omega⟩
 obtain ⟨t,e,k,rfl,h1,h2,h3⟩:=hw
 rw [e,bc]
 have s1:sub l 0 (k:Int)=some ((l.take k).drop 0):=jK (a:=0) (by omega) h1
 have s2:sub l (k:Int) (l.length:Int)=some ((l.take l.length).drop k):=jK h1 (Nat.le_refl _)
 rw [s1,bc,s2,bc,List.drop_zero,List.take_length,jM (by rw [List.length_take];omega) (by omega),bc,cI (by simp;omega) (by simp;omega),bc,cI (by simp;omega) (by simp;omega),bc,h2,h3,List.append_assoc];rfl
theorem xB (l:List ByteArray) (c:ByteArray) (hl:l.length≤1000000000) (hs:Strict jb l):kZ l c=some (iw jb l c):=by
 unfold kZ iw
 have hw:Y (aU (S:=Int) (T:=(ByteArray×Int)) (fun v1=>Option.bind (gd (decide (v1<(l.length:Int))) (idx l v1)) (fun m6=>cond ((decide (v1<(l.length:Int)))&&(Op.bytesLess m6.toList c.toList)) (some (.inl (IntKind.i64.wrap (v1+1)))) (some (.inr (c,v1))))) FUEL 0) (fun t=>t.1=c∧∃ k:Nat,t.2=(k:Int)∧k≤l.length∧(∀ j x,l[j]?=some x→j<k→jb x c=true)∧(∀ x,l[k]?=some x→jb x c=false)):=by
  refine Y.loop (fun s:Int=>∃ k:Nat,s=(k:Int)∧k≤l.length∧∀ j x,l[j]?=some x→j<k→jb x c=true) (fun s=>(l.length - s).toNat) ⟨0,rfl,by omega,fun j x _ h=>absurd h (Nat.not_lt_zero _)⟩ (by omega) fun s hs=>?_
  obtain ⟨k,rfl,h1,h2⟩:=hs
  rcases Nat.lt_or_ge k l.length with hk | hk
  ·rw [ic hk,co,aQ hk,bc]
   cases hlt:jb l[k] c
   ·have hlt':Op.bytesLess l[k].toList c.toList=false:=hlt
    rw [hlt']
    exact Y.ret ⟨rfl,k,rfl,h1,h2,fun x hx=>by rw [List.getElem?_eq_getElem hk] at hx;injection hx with hx;rw [← hx];exact hlt⟩
   have hlt':Op.bytesLess l[k].toList c.toList=true:=hlt
   rw [hlt']
   refine Y.ret ⟨⟨k+1,?_,by omega,fun j x hx hj=>?_⟩,?_⟩
   ·show IntKind.i64.wrap ((k:Int)+1)=_;rw [cP (by omega) (by omega)];omega
   ·rcases Nat.lt_or_ge j k with h | h
    ·exact h2 j x hx h
    have e:j=k:=by omega
    subst e;rw [List.getElem?_eq_getElem hk] at hx;injection hx with hx;rw [← hx];exact hlt
   show ((l.length:Int) - IntKind.i64.wrap ((k:Int)+1)).toNat<((l.length:Int) - (k:Int)).toNat;rw [cP (by omega) (by omega)];omega
  have e:k=l.length:=by omega
  subst e
  rw [cT,jm,bc]
  exact Y.ret ⟨rfl,l.length,rfl,h1,h2,fun x hx=>by have:=(List.getElem?_eq_some_iff.1 hx).1;omega⟩
 obtain ⟨⟨t1,t2⟩,e,rfl,k,hk,h1,h2,h3⟩:=hw
 dsimp only at hk
 subst hk
 obtain ⟨w1,w2⟩:=o4 (fun x=>jb x t1) l k h1 h2 h3
 rw [e,bc]
 dsimp only
 have key:t1∈l↔l[k]?=some t1:=by
  constructor
  ·intro hm
   obtain ⟨j,hj,hjt⟩:=List.getElem_of_mem hm
   have hjk:k≤j:=by
    rcases Nat.lt_or_ge j k with h | h
    ·have:=h2 j l[j] (List.getElem?_eq_getElem hj) h;rw [hjt,CC] at this;cases this
    exact h
   rcases Nat.lt_or_ge k j with h | h
   ·have hkl:k<l.length:=by omega
    have g1:=h3 l[k] (List.getElem?_eq_getElem hkl)
    have g2:=(List.pairwise_iff_getElem.1 hs) k j hkl hj h
    rw [hjt,g1] at g2;cases g2
   have e:j=k:=by omega
   subst e;rw [List.getElem?_eq_getElem hj,hjt]
  exact fun h=>List.mem_of_getElem? h
 rcases Nat.lt_or_ge k l.length with hkl | hkl
 ·rw [ic hkl,co,aQ hkl,bc,Bool.true_and]
  by_cases hm:l[k]=t1
  ·rw [det hm,gX.2 (key.2 (by rw [List.getElem?_eq_getElem hkl,hm]))];rfl
  rw [bF hm,qz.2 (fun h=>hm (by have:=key.1 h;rw [List.getElem?_eq_getElem hkl] at this;injection this))]
  simp only [bB]
  have s1:sub l 0 (k:Int)=some ((l.take k).drop 0):=jK (a:=0) (by omega) h1
  have s2:sub l (k:Int) (l.length:Int)=some ((l.take l.length).drop k):=jK h1 (Nat.le_refl _)
  rw [s1,bc,s2,bc,List.drop_zero,List.take_length,jM (by rw [List.length_take];omega) (by omega),bc,cI (by simp;omega) (by simp;omega),bc,cI (by simp;omega) (by simp;omega),bc,w1,w2,List.append_assoc];rfl
 have e:k=l.length:=by omega
 subst e
 rw [cT,jm,bc,Bool.false_and,qz.2 (fun h=>by have:=key.1 h;rw [List.getElem?_eq_none (Nat.le_refl _)] at this;cases this)]
 simp only [bB]
 have s1:sub l 0 ((l.length:Nat):Int)=some ((l.take l.length).drop 0):=jK (a:=0) (by omega) h1
 have s2:sub l ((l.length:Nat):Int) (l.length:Int)=some ((l.take l.length).drop l.length):=jK h1 (Nat.le_refl _)
 rw [s1,bc,s2,bc,List.drop_zero,List.take_length,jM (by omega) (by omega),bc,cI (by simp;omega) (by simp;omega),bc,cI (by simp;omega) (by simp;omega),bc,w1,w2,List.append_assoc,List.take_length];rfl
def nM (a b:List ByteArray):List ByteArray:=sd jb (a++b)
theorem concat2 (a b:List ByteArray) (h:a.length+b.length≤1000000):dh [a,b]=some (a++b):=by
 unfold dh eH
 refine (kj (l:=[a,b]) (by simp) (fun i (s:Nat)=>((s:Int),i)) (fun _ x s=>(.inl (s+x.length):Nat⊕Empty)) (fun (s:Nat)=>(s:Int)) noE (fun k s=>s≤1000000∧s=([a,b].take k).flatten.length) 0 ⟨by omega,rfl⟩ (fun k hk s hs=>⟨?_,fun s' h'=>?_⟩) (fun s _=>by simp only [cT,bB])).trans ?_
 ·have hb:s+([a,b][k]).length≤1000000:=by
   obtain ⟨_,e⟩:=hs
   match k,hk with
   | 0,_=>simp at e;subst e;simp;omega
   | 1,_=>simp at e;subst e;simp;omega
  simp only [ic hk,bS,aQ hk,bc,bP hk (show [a,b].length≤4611686018427387904 by simp),z1]
  rw [cP (by omega) (by omega),bF (by omega)]
  simp only [bB,Int.natCast_add]
 ·injection h' with h'
  obtain ⟨h1,h2⟩:=hs
  subst h'
  match k,hk with
  | 0,_=>simp at h2 ⊢;subst h2;simp;omega
  | 1,_=>simp at h2 ⊢;subst h2;omega
 show Option.bind (Option.bind (Du 16 ((0+a.length+b.length:Nat):Int)) _) _=_
 rw [Bu (by omega) (by omega),bc,bc]
 refine (cE (l:=[a,b]) (by simp) (fun i (s:List ByteArray)=>(s,i)) (fun s x=>s++x) (fun s=>s) (fun k s=>s=([a,b].take k).flatten) [] rfl (fun k hk s hs=>⟨?_,?_⟩) (fun s _=>by simp only [cT,bB])).1.trans ?_
 ·have hb:s.length+([a,b][k]).length≤1000000:=by
   match k,hk with
   | 0,_=>simp at hs;subst hs;simp;omega
   | 1,_=>simp at hs;subst hs;simp;omega
  simp only [ic hk,bS,aQ hk,bc,bP hk (show [a,b].length≤4611686018427387904 by simp)]
  rw [cI (by omega) (by omega)];rfl
 ·match k,hk with
  | 0,_=>simp at hs;subst hs;simp
  | 1,_=>simp at hs;subst hs;simp
 simp
theorem BJ (a b:List ByteArray) (h:a.length+b.length≤1000000):jX a b=some (nM a b):=by
 unfold jX
 rw [concat2 a b h,bc]
 show Option.bind (some (lD jb (a++b))) _=_
 rw [bc,FW _ (by rw [od];simp;omega)];rfl
theorem DJ (a b:List ByteArray) (h:a.length+b.length≤1000000):jS a b=some (nM a b):=by
 unfold jS
 have ha:=su BI a [] List.Pairwise.nil
 refine (cE (l:=a) (by omega) (fun i (s:List ByteArray)=>(s,i)) (iw jb) (fun s=>(b,s)) (fun k s=>Strict jb s∧s.length≤k) [] ⟨List.Pairwise.nil,by simp⟩ (fun k hk s hs=>⟨?_,qA BI.tot BI.tr hs.1,by have:=kA (lt:=jb) s a[k];omega⟩) (fun s _=>by simp only [cT,bB])).1.trans ?_
 ·simp only [ic hk,bS,aQ hk,bc,bP hk (show a.length≤4611686018427387904 by omega)]
  rw [xB _ _ (by omega) hs.1];rfl
 dsimp only
 refine (cE (l:=b) (by omega) (fun i (s:List ByteArray)=>(s,i)) (iw jb) (fun s=>s) (fun k s=>Strict jb s∧s.length≤a.length+k) (a.foldl (iw jb) []) ⟨ha.1,by have:=ha.2.2;simpa using this⟩ (fun k hk s hs=>⟨?_,qA BI.tot BI.tr hs.1,by have:=kA (lt:=jb) s b[k];omega⟩) (fun s _=>by simp only [cT,bB])).1.trans ?_
 ·simp only [ic hk,bS,aQ hk,bc,bP hk (show b.length≤4611686018427387904 by omega)]
  rw [xB _ _ (by omega) hs.1];rfl
 unfold nM
 rw [← tW BI,List.foldl_append]
def U64 (a:Int):Prop:=0≤a∧a<18446744073709551616
theorem wu (a:Int):IntKind.u64.wrap a=a % 18446744073709551616:=rfl
theorem fE {a:Int} (h:U64 a):IntKind.u64.wrap a=a:=by rw [wu];unfold U64 at h;omega
theorem bv64 {a:Int} (h:U64 a):(BitVec.ofInt 64 a).toNat=a.toNat:=by
 rw [BitVec.toNat_ofInt];unfold U64 at h;omega
theorem CL {a b:Int} (ha:U64 a) (hb:U64 b):dD .u64 a b=((a.toNat &&& b.toNat:Nat):Int):=by
 have hlt:a.toNat &&& b.toNat<18446744073709551616:=Nat.lt_of_le_of_lt Nat.and_le_left (by unfold U64 at ha;omega)
 have e:dD .u64 a b=IntKind.u64.wrap (((BitVec.ofInt 64 a &&& BitVec.ofInt 64 b).toNat:Nat):Int):=rfl
 rw [e,BitVec.toNat_and,bv64 ha,bv64 hb,fE]
 exact ⟨by omega,by omega⟩
theorem FY {a b:Int} (ha:U64 a) (hb:U64 b):ou .u64 a b=((a.toNat ||| b.toNat:Nat):Int):=by
 have hlt:a.toNat ||| b.toNat<2 ^ 64:=Nat.or_lt_two_pow (by unfold U64 at ha;omega) (by unfold U64 at hb;omega)
 have e:ou .u64 a b=IntKind.u64.wrap (((BitVec.ofInt 64 a ||| BitVec.ofInt 64 b).toNat:Nat):Int):=rfl
 rw [e,BitVec.toNat_or,bv64 ha,bv64 hb,fE]
 exact ⟨by omega,by omega⟩
theorem qB {a:Int} (h:U64 a):dD .u64 a 4294967295=a % 4294967296:=by
 rw [CL h ⟨by omega,by omega⟩]
 have:a.toNat &&& (4294967295:Int).toNat=a.toNat % 4294967296:=Nat.and_two_pow_sub_one_eq_mod (n:=32) a.toNat
 rw [this];unfold U64 at h;omega
theorem vY {a:Int} (h:U64 a):dD .u64 a 1=a % 2:=by
 rw [CL h ⟨by omega,by omega⟩]
 have:a.toNat &&& (1:Int).toNat=a.toNat % 2:=Nat.and_two_pow_sub_one_eq_mod (n:=1) a.toNat
 rw [this];unfold U64 at h;omega
theorem CM {a:Int}:cu .u64 a 32=a / 4294967296:=Int.fdiv_eq_ediv_of_nonneg a (show (0:Int)≤4294967296 by omega)
theorem mul64 {a b:Int} (ha:U64 a) (hb:U64 b):∃ h l,im a b=some (h,l)∧U64 h∧U64 l∧h*18446744073709551616+l=a*b:=by
 unfold im lb
 rw [qB ha,qB hb]
 simp only [CM]
 unfold U64 at ha hb
 have ea:a=4294967296*(a / 4294967296)+a % 4294967296:=by omega
 have eb:b=4294967296*(b / 4294967296)+b % 4294967296:=by omega
 have h1:0≤a / 4294967296∧a / 4294967296<4294967296:=by omega
 have h2:0≤a % 4294967296∧a % 4294967296<4294967296:=by omega
 have h3:0≤b / 4294967296∧b / 4294967296<4294967296:=by omega
 have h4:0≤b % 4294967296∧b % 4294967296<4294967296:=by omega
 generalize a / 4294967296=x1 at *
 generalize a % 4294967296=x0 at *
 generalize b / 4294967296=y1 at *
 generalize b % 4294967296=y0 at *
 subst ea eb
 have p00:0≤x0*y0∧x0*y0≤4294967295*4294967295:=⟨Int.mul_nonneg h2.1 h4.1,Int.mul_le_mul (by omega) (by omega) h4.1 (by omega)⟩
 have p01:0≤x0*y1∧x0*y1≤4294967295*4294967295:=⟨Int.mul_nonneg h2.1 h3.1,Int.mul_le_mul (by omega) (by omega) h3.1 (by omega)⟩
 have p10:0≤x1*y0∧x1*y0≤4294967295*4294967295:=⟨Int.mul_nonneg h1.1 h4.1,Int.mul_le_mul (by omega) (by omega) h4.1 (by omega)⟩
 have p11:0≤x1*y1∧x1*y1≤4294967295*4294967295:=⟨Int.mul_nonneg h1.1 h3.1,Int.mul_le_mul (by omega) (by omega) h3.1 (by omega)⟩
 have e:(4294967296*x1+x0)*(4294967296*y1+y0)=18446744073709551616*(x1*y1)+4294967296*(x1*y0)+4294967296*(x0*y1)+x0*y0:=by
  rw [Int.add_mul,Int.mul_add,Int.mul_add]
  have t1:4294967296*x1*(4294967296*y1)=18446744073709551616*(x1*y1):=by
   rw [Int.mul_assoc,← Int.mul_assoc x1,Int.mul_comm x1 4294967296,Int.mul_assoc 4294967296 x1,← Int.mul_assoc];rfl
  have t2:4294967296*x1*y0=4294967296*(x1*y0):=Int.mul_assoc _ _ _
  have t3:x0*(4294967296*y1)=4294967296*(x0*y1):=by rw [← Int.mul_assoc,Int.mul_comm x0,Int.mul_assoc]
  rw [t1,t2,t3];omega
 rw [e]
 generalize x0*y0=p at *
 generalize x0*y1=q at *
 generalize x1*y0=r at *
 generalize x1*y1=s at *
 refine ⟨_,_,rfl,?_,?_,?_⟩
 all_goals simp only [wu,U64]
 all_goals first | omega | (rw [qB (by unfold U64;omega)];omega)
def rv (w:Zm):Int:=w.Hi*18446744073709551616+w.Lo
def RW (w:Zm):Prop:=U64 w.Hi∧U64 w.Lo
theorem uF {p q:Zm} (hp:RW p) (hq:RW q):∃ w b,gT p q=some (w,b)∧RW w∧(rv p+rv q<340282366920938463463374607431768211456→rv w=rv p+rv q):=by
 obtain ⟨ph,pl⟩:=p;obtain ⟨qh,ql⟩:=q
 obtain ⟨⟨a1,a2⟩,⟨a3,a4⟩⟩:=hp
 obtain ⟨⟨b1,b2⟩,⟨b3,b4⟩⟩:=hq
 simp only at a1 a2 a3 a4 b1 b2 b3 b4
 unfold gT lb
 dsimp only
 by_cases h:IntKind.u64.wrap (pl+ql)<pl
 ·rw [det h]
  simp only [bS,bc]
  refine ⟨_,_,rfl,?_,?_⟩
  ·simp only [RW,U64,wu];omega
  rw [wu] at h;simp only [rv,wu];omega
 rw [bF h]
 simp only [bB,bc]
 refine ⟨_,_,rfl,?_,?_⟩
 ·simp only [RW,U64,wu];omega
 rw [wu] at h;simp only [rv,wu];omega
theorem o5 {a n:Int} (h:n.toNat≤64):cu .u64 a n=a / 2 ^ n.toNat:=by
 have e:cu .u64 a n=a.fdiv (2 ^ min n.toNat 64):=rfl
 rw [e,Nat.min_eq_left h]
 exact Int.fdiv_eq_ediv_of_nonneg a (Int.le_of_lt (Int.pow_pos (by omega)))
theorem xC (b:Int) (k:Nat):b / 2 ^ k=2*(b / 2 ^ (k+1))+b / 2 ^ k % 2:=by
 have:b / 2 ^ (k+1)=b / 2 ^ k / 2:=by rw [Int.pow_succ,Int.ediv_ediv_of_nonneg (Int.le_of_lt (Int.pow_pos (by omega)))]
 rw [this];omega
theorem CN {a b:Int} (ha:U64 a) (hb:U64 b):∃ w,jT a b=some w∧RW w∧rv w=a*b:=by
 unfold jT
 obtain ⟨t,h5,h6⟩:=mL (body:=fun (v3,v4,v5)=>cond (decide (0≤v3)) (Option.bind (Option.bind (gT (⟨v4,v5⟩:Zm) (⟨v4,v5⟩:Zm)) (fun x14=>Option.bind (lB v3) (fun u15=>cond ((dD .u64 (cu .u64 b v3) 1) == 1) (Option.bind (gT x14.1 (⟨0,a⟩:Zm)) (fun x17=>some (x17.1.Hi,x17.1.Lo))) (some (x14.1.Hi,x14.1.Lo))))) (fun (v11,v12)=>some (.inl ((IntKind.i64.wrap (v3 - 1)),v11,v12)))) (some (.inr (v4,v5))))
  (fun s:Int×Int×Int => -1≤s.1∧s.1≤63∧RW ⟨s.2.1,s.2.2⟩∧rv ⟨s.2.1,s.2.2⟩=a*(b / 2 ^ (s.1+1).toNat)) (fun s=>(s.1+1).toNat) (fun t:Int×Int=>RW ⟨t.1,t.2⟩∧rv ⟨t.1,t.2⟩=a*b)
  (fun s hs=>by
   obtain ⟨v,x,y⟩:=s
   obtain ⟨a1,a2,a3,a4⟩:=hs
   dsimp only at a1 a2 a3 a4 ⊢
   by_cases h0:0≤v
   ·left
    obtain ⟨k,rfl⟩:∃ k:Nat,v=(k:Int):=⟨v.toNat,by omega⟩
    have ek:((k:Int)+1).toNat=k+1:=by omega
    rw [ek] at a4
    have hs:=xC b k
    have hbk:0≤b / 2 ^ k:=Int.ediv_nonneg hb.1 (Int.le_of_lt (Int.pow_pos (by omega)))
    have hbk2:b / 2 ^ k≤b:=Int.ediv_le_self _ hb.1
    have hm:a*(b / 2 ^ k)=2*(a*(b / 2 ^ (k+1)))+a*(b / 2 ^ k % 2):=by
     have:=congrArg (a * ·) hs
     simp only [Int.mul_add] at this
     rw [this,← Int.mul_assoc,Int.mul_comm a 2,Int.mul_assoc]
    have hle:a*(b / 2 ^ k)≤18446744073709551615*18446744073709551615:=Int.mul_le_mul (by unfold U64 at ha;omega) (by unfold U64 at hb;omega) hbk (by omega)
    have hnn:0≤a*(b / 2 ^ k % 2):=Int.mul_nonneg ha.1 (by omega)
    rw [det h0]
    simp only [bS]
    obtain ⟨w,o,c1,c2,c3⟩:=uF a3 a3
    have c3:=c3 (by omega)
    rw [pj c1]
    have hg:lB (k:Int)=some ():=by unfold lB;rw [if_pos h0]
    rw [pj hg,o5 (by omega),Int.toNat_natCast,vY ⟨hbk,by unfold U64 at hb;omega⟩,cP (by omega) (by omega)]
    rcases (by omega:b / 2 ^ k % 2=0∨b / 2 ^ k % 2=1) with e | e
    ·rw [e] at hm ⊢
     refine ⟨_,rfl,⟨by dsimp only;omega,by dsimp only;omega,c2,?_⟩,by dsimp only;omega⟩
     have:((k:Int) - 1+1).toNat=k:=by omega
     dsimp only;rw [this,hm];show rv w=_;omega
    rw [e] at hm ⊢
    obtain ⟨w2,o2,d1,d2,d3⟩:=uF (p:=w) (q:=⟨0,a⟩) c2 ⟨⟨by simp,by simp⟩,ha⟩
    have e0:rv ⟨0,a⟩=a:=by simp [rv]
    rw [e0] at d3
    have d3:=d3 (by omega)
    simp only [beq_self_eq_true,bS]
    rw [pj d1]
    refine ⟨_,rfl,⟨by dsimp only;omega,by dsimp only;omega,d2,?_⟩,by dsimp only;omega⟩
    have:((k:Int) - 1+1).toNat=k:=by omega
    dsimp only;rw [this,hm];show rv w2=_;omega
   right
   rw [bF h0]
   have:v = -1:=by omega
   subst this
   refine ⟨_,rfl,a3,?_⟩
   rw [a4];simp)
  FUEL (63,0,0) ⟨by simp,by simp,⟨⟨by simp,by simp⟩,⟨by simp,by simp⟩⟩,by
   have:b / 18446744073709551616=0:=Int.ediv_eq_zero_of_lt hb.1 hb.2
   simp [rv,this]⟩ (ki (by simp))
 obtain ⟨t1,t2⟩:=t
 rw [pj h5]
 exact ⟨_,rfl,h6.1,h6.2⟩
theorem iand63:∀ {n:Nat},n<128→dD .i64 (n:Int) 63=((n % 64:Nat):Int):=by decide
theorem FZ {a:Int} (h:U64 a):fy .u64 a 1=(2*a) % 18446744073709551616:=by
 have e:fy .u64 a 1=IntKind.u64.wrap (a*2):=rfl
 rw [e,wu,Int.mul_comm]
theorem CO {a b:Int} (ha:U64 a) (h2:a % 2=0) (hb:b=0∨b=1):ou .u64 a b=a+b:=by
 rw [FY ha (by rcases hb with rfl | rfl <;> exact ⟨by omega,by omega⟩)]
 unfold U64 at ha
 rcases hb with rfl | rfl
 ·simp;omega
 have:a.toNat ||| (1:Int).toNat=a.toNat+1:=by
  have e:a.toNat=2 ^ 1*(a.toNat / 2):=by omega
  have:=Nat.two_pow_add_eq_or_of_lt (i:=1) (b:=1) (by omega) (a.toNat / 2)
  rw [← e] at this
  exact this.symm
 rw [this];omega
theorem bit_lo {h l:Int} (hl:U64 l) {k:Nat} (hk:k<64):(h*18446744073709551616+l) / 2 ^ k % 2=l / 2 ^ k % 2:=by
 have e:(18446744073709551616:Int)=2 ^ k*(2*2 ^ (63 - k)):=by
  have:(2:Int) ^ k*(2*2 ^ (63 - k))=2 ^ (k+(1+(63 - k))):=by rw [Int.pow_add,Int.pow_add];rfl
  rw [this,show k+(1+(63 - k))=64 by omega];rfl
 have hp:(2:Int) ^ k≠0:=Int.ne_of_gt (Int.pow_pos (by omega))
 rw [e,show h*(2 ^ k*(2*2 ^ (63 - k)))+l=l+2 ^ k*(2*(h*2 ^ (63 - k))) by rw [Int.add_comm,Int.mul_left_comm h,Int.mul_left_comm h 2],Int.add_mul_ediv_left _ _ hp,Int.add_mul_emod_self_left]
theorem bit_hi {h l:Int} (hl:U64 l) {k:Nat} (hk:64≤k):(h*18446744073709551616+l) / 2 ^ k=h / 2 ^ (k - 64):=by
 have e:(2:Int) ^ k=18446744073709551616*2 ^ (k - 64):=by
  have:(18446744073709551616:Int)*2 ^ (k - 64)=2 ^ (64+(k - 64)):=by rw [Int.pow_add];rfl
  rw [this,show 64+(k - 64)=k by omega]
 rw [e,← Int.ediv_ediv_of_nonneg (by omega)]
 congr 1
 unfold U64 at hl;omega
theorem BK {p:Zm} {d:Int} (hp:RW p) (hd:U64 d) (h1:1≤d):∃ q r,kp p d=some (q,r)∧RW q∧rv q=rv p / d∧r=rv p % d:=by
 have hN:0≤rv p∧rv p<340282366920938463463374607431768211456:=by obtain ⟨⟨a,b⟩,⟨c,e⟩⟩:=hp;unfold rv;omega
 unfold kp
 obtain ⟨t,h5,h6⟩:=mL (body:=fun (v4,v5,v6,v7)=>cond (decide (0≤v5)) (Option.bind (Option.bind (lB (dD .i64 v5 63)) (fun u18=>lb ((dD .u64 (cu .u64 p.Lo (dD .i64 v5 63)) 1)) (fun w19=>Option.bind (cond (decide (63<v5)) (Option.bind (lB (IntKind.i64.wrap (v5 - 64))) (fun u23=>lb ((dD .u64 (cu .u64 p.Hi (IntKind.i64.wrap (v5 - 64))) 1)) (fun w24=>some w24))) (some w19)) (fun v20=>Option.bind (gT (⟨v6,v7⟩:Zm) (⟨v6,v7⟩:Zm)) (fun x25=>cond (((cu .u64 v4 63) == 1)||(decide (d≤(ou .u64 (fy .u64 v4 1) v20)))) (lb ((IntKind.u64.wrap ((ou .u64 (fy .u64 v4 1) v20) - d))) (fun w27=>some (w27,x25.1.Hi,(ou .u64 x25.1.Lo 1)))) (some ((ou .u64 (fy .u64 v4 1) v20),x25.1.Hi,x25.1.Lo))))))) (fun (v14,v15,v16)=>some (.inl (v14,(IntKind.i64.wrap (v5 - 1)),v15,v16)))) (some (.inr (v4,v6,v7))))
  (fun s:Int×Int×Int×Int => -1≤s.2.1∧s.2.1≤127∧RW ⟨s.2.2.1,s.2.2.2⟩∧0≤s.1∧s.1<d∧rv p / 2 ^ (s.2.1+1).toNat=rv ⟨s.2.2.1,s.2.2.2⟩ * d+s.1) (fun s=>(s.2.1+1).toNat) (fun t:Int×Int×Int=>RW ⟨t.2.1,t.2.2⟩∧0≤t.1∧t.1<d∧rv p=rv ⟨t.2.1,t.2.2⟩ * d+t.1)
  (fun s hs=>by
   obtain ⟨v4,v5,x,y⟩:=s
   obtain ⟨a1,a2,a3,a4,a5,a6⟩:=hs
   dsimp only at a1 a2 a3 a4 a5 a6 ⊢
   by_cases h0:0≤v5
   ·left
    obtain ⟨k,rfl⟩:∃ k:Nat,v5=(k:Int):=⟨v5.toNat,by omega⟩
    have ek:((k:Int)+1).toNat=k+1:=by omega
    rw [ek] at a6
    have hs:=xC (rv p) k
    generalize hbit:rv p / 2 ^ k % 2=bit at hs
    have hb01:bit=0∨bit=1:=by omega
    rw [det h0,iand63 (by omega)]
    simp only [bS]
    have hg:lB ((k % 64:Nat):Int)=some ():=by unfold lB;rw [if_pos (by omega)]
    rw [pj hg]
    unfold lb
    have hv:(cond (decide (63<(k:Int))) (Option.bind (lB (IntKind.i64.wrap ((k:Int) - 64))) (fun _=>some (dD .u64 (cu .u64 p.Hi (IntKind.i64.wrap ((k:Int) - 64))) 1))) (some (dD .u64 (cu .u64 p.Lo ((k % 64:Nat):Int)) 1)))=some bit:=by
     by_cases hk:63<(k:Int)
     ·rw [det hk,cP (by omega) (by omega)]
      have hg2:lB ((k:Int) - 64)=some ():=by unfold lB;rw [if_pos (by omega)]
      simp only [bS]
      rw [pj hg2,o5 (by omega),show ((k:Int) - 64).toNat=k - 64 by omega,vY ⟨Int.ediv_nonneg hp.1.1 (Int.le_of_lt (Int.pow_pos (by omega))),Int.lt_of_le_of_lt (Int.ediv_le_self _ hp.1.1) hp.1.2⟩,← hbit]
      unfold rv;rw [bit_hi hp.2 (by omega)]
     rw [bF hk]
     simp only [bB]
     rw [o5 (by omega),Int.toNat_natCast,Nat.mod_eq_of_lt (by omega),vY ⟨Int.ediv_nonneg hp.2.1 (Int.le_of_lt (Int.pow_pos (by omega))),Int.lt_of_le_of_lt (Int.ediv_le_self _ hp.2.1) hp.2.2⟩,← hbit]
     unfold rv;rw [bit_lo hp.2 (by omega)]
    dsimp only
    rw [pj hv]
    obtain ⟨w,o,c1,c2,c3⟩:=uF a3 a3
    have hq0:0≤rv ⟨x,y⟩:=by obtain ⟨⟨b1,b2⟩,⟨b3,b4⟩⟩:=a3;unfold rv;dsimp only at *;omega
    have hqd:rv ⟨x,y⟩≤rv ⟨x,y⟩ * d:=by have:=Int.mul_le_mul_of_nonneg_left h1 hq0;omega
    have hle:rv p / 2 ^ k≤rv p:=Int.ediv_le_self _ hN.1
    have c3:=c3 (by omega)
    rw [pj c1]
    have hu4:U64 v4:=⟨a4,by unfold U64 at hd;omega⟩
    have hsh:cu .u64 v4 63=v4 / 9223372036854775808:=o5 (by omega)
    have hlow:ou .u64 (fy .u64 v4 1) bit=(2*v4) % 18446744073709551616+bit:=by rw [FZ hu4];exact CO ⟨by omega,by omega⟩ (by omega) hb01
    rw [hlow,hsh,cP (by omega) (by omega)]
    have ekk:((k:Int) - 1+1).toNat=k:=by omega
    unfold U64 at hd hu4
    by_cases hT:d≤2*v4+bit
    ·have hc:((v4 / 9223372036854775808 == 1)||decide (d≤(2*v4) % 18446744073709551616+bit))=true:=by
      simp only [Bool.or_eq_true,beq_iff_eq,decide_eq_true_eq];omega
     rw [hc]
     simp only [bS]
     obtain ⟨⟨e1,e2⟩,⟨e3,e4⟩⟩:=c2
     have hev:w.Lo % 2=0:=by unfold rv at c3;dsimp only at c3;omega
     rw [CO ⟨e3,e4⟩ hev (.inr rfl),wu]
     refine ⟨_,rfl,⟨by dsimp only;omega,by dsimp only;omega,⟨⟨e1,e2⟩,⟨by dsimp only;omega,by dsimp only;omega⟩⟩,by dsimp only;omega,by dsimp only;omega,?_⟩,by dsimp only;omega⟩
     dsimp only
     rw [ekk,hs,a6]
     have e5:rv ⟨w.Hi,w.Lo+1⟩=2*rv ⟨x,y⟩+1:=by unfold rv at c3 ⊢;dsimp only at c3 ⊢;omega
     rw [e5,Int.add_mul,Int.mul_assoc];omega
    ·have hc:((v4 / 9223372036854775808 == 1)||decide (d≤(2*v4) % 18446744073709551616+bit))=false:=by
      simp only [Bool.or_eq_false_iff,beq_eq_false_iff_ne,decide_eq_false_iff_not];omega
     rw [hc]
     simp only [bB]
     refine ⟨_,rfl,⟨by dsimp only;omega,by dsimp only;omega,c2,by dsimp only;omega,by dsimp only;omega,?_⟩,by dsimp only;omega⟩
     dsimp only
     rw [ekk,hs,a6,show rv ⟨w.Hi,w.Lo⟩=2*rv ⟨x,y⟩ by show rv w=_;omega,Int.mul_assoc];omega
   right
   rw [bF h0]
   have:v5 = -1:=by omega
   subst this
   refine ⟨_,rfl,a3,a4,a5,?_⟩
   rw [← a6];simp)
  FUEL (0,127,0,0) ⟨by simp,by simp,⟨⟨by simp,by simp⟩,⟨by simp,by simp⟩⟩,by simp,by simp;omega,by
   have:rv p / 340282366920938463463374607431768211456=0:=Int.ediv_eq_zero_of_lt hN.1 hN.2
   simp [rv] at this ⊢;exact this⟩ (ki (by simp))
 obtain ⟨t1,t2,t3⟩:=t
 rw [pj h5]
 obtain ⟨g1,g2,g3,g4⟩:=h6
 dsimp only at g1 g2 g3 g4
 have gd:rv p / d=rv ⟨t2,t3⟩:=by
  rw [g4,Int.add_comm,Int.add_mul_ediv_right _ _ (by omega),Int.ediv_eq_zero_of_lt g2 g3,Int.zero_add]
 refine ⟨_,_,rfl,g1,gd.symm,?_⟩
 have:=Int.emod_add_mul_ediv (rv p) d
 rw [gd,Int.mul_comm] at this
 omega
structure KnInv (u u1 y1 y0 q rh:Int):Prop where
 eq:u=q*y1+rh
 r0:0≤rh
 r1:rh<4294967296
 q0:0≤q
 q1:q≤4294967297
 up:u*4294967296+u1<q*(y1*4294967296+y0)+(y1*4294967296+y0)
section
variable {u u1 y1 y0 q rh:Int} (hu:0≤u) (huy:u<y1*4294967296+y0) (h1:0≤u1) (h1':u1<4294967296) (hy:2147483648≤y1) (hy':y1<4294967296) (hz:0≤y0) (hz':y0<4294967296)
include hu huy h1 h1' hy hy' hz hz'
theorem sv:KnInv u u1 y1 y0 (u / y1) (u % y1):=by
 have hq0:0≤u / y1:=Int.ediv_nonneg hu (by omega)
 have hr0:=Int.emod_nonneg u (show y1≠0 by omega)
 have hr1:=Int.emod_lt_of_pos u (show 0<y1 by omega)
 have he:=Int.emod_add_mul_ediv u y1
 rw [Int.mul_comm] at he
 have hz2:0≤u / y1*y0:=Int.mul_nonneg hq0 hz
 refine ⟨by omega,hr0,by omega,hq0,?_,?_⟩
 ·apply Int.le_of_lt_add_one
  apply Int.ediv_lt_of_lt_mul (by omega)
  omega
 rw [Int.mul_add,← Int.mul_assoc];omega
theorem uG (i:KnInv u u1 y1 y0 q rh) (h:4294967296≤q∨4294967296*rh+u1<q*y0):u*4294967296+u1<q*(y1*4294967296+y0)∧1≤q:=by
 have e:=i.eq
 have hlt:u*4294967296+u1<q*(y1*4294967296+y0):=by
  rcases h with h | h
  ·have:4294967296*(y1*4294967296+y0)≤q*(y1*4294967296+y0):=Int.mul_le_mul_of_nonneg_right h (by omega)
   omega
  rw [Int.mul_add,← Int.mul_assoc];omega
 refine ⟨hlt,?_⟩
 have hq:=i.q0
 by_cases hq0:q=0
 ·subst hq0;rw [Int.zero_mul] at hlt;omega
 omega
theorem CP (i:KnInv u u1 y1 y0 q rh) (h:4294967296≤q∨4294967296*rh+u1<q*y0) (h2:rh+y1<4294967296):KnInv u u1 y1 y0 (q - 1) (rh+y1):=by
 obtain ⟨hlt,hq⟩:=uG hu huy h1 h1' hy hy' hz hz' i h
 have:=i.eq;have:=i.r0;have:=i.q1
 refine ⟨by rw [Int.sub_mul];omega,by omega,h2,by omega,by omega,?_⟩
 rw [Int.sub_mul];omega
theorem CQ (i:KnInv u u1 y1 y0 q rh) (h:4294967296≤q∨4294967296*rh+u1<q*y0) (h2:4294967296≤rh+y1):(q - 1)*(y1*4294967296+y0)≤u*4294967296+u1∧u*4294967296+u1<(q - 1)*(y1*4294967296+y0)+(y1*4294967296+y0):=by
 obtain ⟨hlt,hq⟩:=uG hu huy h1 h1' hy hy' hz hz' i h
 have e:=i.eq;have:=i.r0;have hq1:=i.q1
 refine ⟨?_,by rw [Int.sub_mul];omega⟩
 have hz2:(q - 1)*y0≤4294967296*4294967295:=Int.mul_le_mul (by omega) (by omega) hz (by omega)
 rw [Int.mul_add,← Int.mul_assoc]
 rw [Int.sub_mul q 1 y1]
 omega
omit hu huy h1 h1' hy hy' hz hz' in
theorem At (i:KnInv u u1 y1 y0 q rh) (h:¬ (4294967296≤q∨4294967296*rh+u1<q*y0)):q*(y1*4294967296+y0)≤u*4294967296+u1:=by
 have e:=i.eq
 rw [Int.mul_add,← Int.mul_assoc];omega
end
section
variable {u u1 y1 y0:Int} (hu:0≤u) (huy:u<y1*4294967296+y0) (h1:0≤u1) (h1':u1<4294967296) (hy:2147483648≤y1) (hy':y1<4294967296) (hz:0≤y0) (hz':y0<4294967296)
include hu huy h1 h1' hy hy' hz hz'
omit hu huy hy hy' in
theorem CR {q rh:Int} (i:KnInv u u1 y1 y0 q rh):((decide (4294967296≤q))||(decide ((IntKind.u64.wrap ((IntKind.u64.wrap (4294967296*rh))+u1))<(IntKind.u64.wrap (q*y0)))))=decide (4294967296≤q∨4294967296*rh+u1<q*y0):=by
 have:=i.r0;have:=i.r1;have:=i.q0
 rw [fE (a:=4294967296*rh) ⟨by omega,by omega⟩,fE (a:=4294967296*rh+u1) ⟨by omega,by omega⟩]
 by_cases hq:4294967296≤q
 ·rw [det hq,det (Or.inl hq)];rfl
 have hp:q*y0≤4294967295*4294967295:=Int.mul_le_mul (by omega) (by omega) hz (by omega)
 have hp0:0≤q*y0:=Int.mul_nonneg (by omega) hz
 rw [fE (a:=q*y0) ⟨hp0,by omega⟩,bF hq,Bool.false_or]
 congr 1
 exact propext ⟨.inr,fun h=>h.resolve_left hq⟩
omit hy hy' hz hz' in
theorem yO {q:Int} (h0:0≤q) (h2:q*(y1*4294967296+y0)≤u*4294967296+u1):q<4294967296:=by
 have:q*(y1*4294967296+y0)<4294967296*(y1*4294967296+y0):=by omega
 exact Int.lt_of_mul_lt_mul_right this (by omega)
def KQ (u u1 y1 y0 q:Int):Prop:=0≤q∧q<4294967296∧q*(y1*4294967296+y0)≤u*4294967296+u1∧u*4294967296+u1<q*(y1*4294967296+y0)+(y1*4294967296+y0)
theorem F0:∃ q,aU (S:=Int×Int) (T:=(Int)) (fun (v18,v19)=>cond ((decide (4294967296≤v18))||(decide ((IntKind.u64.wrap ((IntKind.u64.wrap (4294967296*v19))+u1))<(IntKind.u64.wrap (v18*y0))))) (cond (decide (4294967296≤(IntKind.u64.wrap (v19+y1)))) (some (.inr (IntKind.u64.wrap (v18 - 1)))) (some (.inl ((IntKind.u64.wrap (v18 - 1)),(IntKind.u64.wrap (v19+y1)))))) (some (.inr v18))) FUEL (u / y1,u % y1)=some q∧KQ u u1 y1 y0 q:=by
 refine mL (fun s:Int×Int=>KnInv u u1 y1 y0 s.1 s.2) (fun s=>s.1.toNat) (KQ u u1 y1 y0) ?_ FUEL _ (sv hu huy h1 h1' hy hy' hz hz') ?_
 ·rintro ⟨q,rh⟩ i
  dsimp only at i ⊢
  rw [CR h1 h1' hz hz' i]
  have i0:=i.r0;have i1:=i.r1;have i2:=i.q0;have i3:=i.q1
  by_cases h:4294967296≤q∨4294967296*rh+u1<q*y0
  ·rw [det h]
   obtain ⟨_,hq1⟩:=uG hu huy h1 h1' hy hy' hz hz' i h
   rw [fE (a:=rh+y1) ⟨by omega,by omega⟩,fE (a:=q - 1) ⟨by omega,by omega⟩]
   by_cases h2:4294967296≤rh+y1
   ·rw [det h2];right
    obtain ⟨e1,e2⟩:=CQ hu huy h1 h1' hy hy' hz hz' i h h2
    exact ⟨_,rfl,by omega,yO hu huy h1 h1' (by omega) e1,e1,e2⟩
   rw [bF h2];left
   exact ⟨_,rfl,CP hu huy h1 h1' hy hy' hz hz' i h (by omega),by dsimp only;omega⟩
  rw [bF h];right
  have e1:=At i h
  exact ⟨_,rfl,i2,yO hu huy h1 h1' i2 e1,e1,i.up⟩
 have:=(sv hu huy h1 h1' hy hy' hz hz').q1
 exact ki (by dsimp only;omega)
theorem F1:∃ q,aU (S:=Int×Int) (T:=(Int)) (fun (v28,v29)=>cond ((decide (4294967296≤v29))||(decide ((IntKind.u64.wrap ((IntKind.u64.wrap (4294967296*v28))+u1))<(IntKind.u64.wrap (v29*y0))))) (cond (decide (4294967296≤(IntKind.u64.wrap (v28+y1)))) (some (.inr (IntKind.u64.wrap (v29 - 1)))) (some (.inl ((IntKind.u64.wrap (v28+y1)),(IntKind.u64.wrap (v29 - 1)))))) (some (.inr v29))) FUEL (u % y1,u / y1)=some q∧KQ u u1 y1 y0 q:=by
 refine mL (fun s:Int×Int=>KnInv u u1 y1 y0 s.2 s.1) (fun s=>s.2.toNat) (KQ u u1 y1 y0) ?_ FUEL _ (sv hu huy h1 h1' hy hy' hz hz') ?_
 ·rintro ⟨rh,q⟩ i
  dsimp only at i ⊢
  rw [CR h1 h1' hz hz' i]
  have i0:=i.r0;have i1:=i.r1;have i2:=i.q0;have i3:=i.q1
  by_cases h:4294967296≤q∨4294967296*rh+u1<q*y0
  ·rw [det h]
   obtain ⟨_,hq1⟩:=uG hu huy h1 h1' hy hy' hz hz' i h
   rw [fE (a:=rh+y1) ⟨by omega,by omega⟩,fE (a:=q - 1) ⟨by omega,by omega⟩]
   by_cases h2:4294967296≤rh+y1
   ·rw [det h2];right
    obtain ⟨e1,e2⟩:=CQ hu huy h1 h1' hy hy' hz hz' i h h2
    exact ⟨_,rfl,by omega,yO hu huy h1 h1' (by omega) e1,e1,e2⟩
   rw [bF h2];left
   exact ⟨_,rfl,CP hu huy h1 h1' hy hy' hz hz' i h (by omega),by dsimp only;omega⟩
  rw [bF h];right
  have e1:=At i h
  exact ⟨_,rfl,i2,yO hu huy h1 h1' i2 e1,e1,i.up⟩
 have:=(sv hu huy h1 h1' hy hy' hz hz').q1
 exact ki (by dsimp only;omega)
end
theorem DK {a v:Int} {k n:Nat} (h:v=a / 2 ^ k) (hn:1≤n) (l:2 ^ (n - 1)≤v) (g:v<2 ^ n):2 ^ (k+n - 1)≤a∧a<2 ^ (k+n):=by
 have hp:(0:Int)<2 ^ k:=Int.pow_pos (by omega)
 have e1:=Int.ediv_mul_le a (Int.ne_of_gt hp)
 have e2:=Int.lt_ediv_add_one_mul_self a hp
 rw [← h] at e1 e2
 constructor
 ·rw [show k+n - 1=(n - 1)+k by omega,Int.pow_add]
  exact Int.le_trans (Int.mul_le_mul_of_nonneg_right l (Int.le_of_lt hp)) e1
 rw [show k+n=n+k by omega,Int.pow_add]
 exact Int.lt_of_lt_of_le e2 (Int.mul_le_mul_of_nonneg_right (by omega) (Int.le_of_lt hp))
def BL:ByteArray:=⟨#[0,1,2,2,3,3,3,3,4,4,4,4,4,4,4,4,5,5,5,5,5,5,5,5,5,5,5,5,5,5,5,5,6,6,6,6,6,6,6,6,6,6,6,6,6,6,6,6,6,6,6,6,6,6,6,6,6,6,6,6,6,6,6,6,7,7,7,7,7,7,7,7,7,7,7,7,7,7,7,7,7,7,7,7,7,7,7,7,7,7,7,7,7,7,7,7,7,7,7,7,7,7,7,7,7,7,7,7,7,7,7,7,7,7,7,7,7,7,7,7,7,7,7,7,7,7,7,7,8,8,8,8,8,8,8,8,8,8,8,8,8,8,8,8,8,8,8,8,8,8,8,8,8,8,8,8,8,8,8,8,8,8,8,8,8,8,8,8,8,8,8,8,8,8,8,8,8,8,8,8,8,8,8,8,8,8,8,8,8,8,8,8,8,8,8,8,8,8,8,8,8,8,8,8,8,8,8,8,8,8,8,8,8,8,8,8,8,8,8,8,8,8,8,8,8,8,8,8,8,8,8,8,8,8,8,8,8,8,8,8,8,8,8,8,8,8,8,8,8,8,8,8,8,8,8,8]⟩
theorem BM:∀ v:Fin 256,(match idx BL.data.toList (v.val:Int) with | some c=>decide (1≤v.val→1≤c.toNat∧2 ^ (c.toNat - 1)≤v.val)&&decide (v.val<2 ^ c.toNat)&&decide (c.toNat≤8) | none=>false)=true:=by decide
theorem DL {v:Int} (h0:0≤v) (h1:v<256):∃ c,idx BL.data.toList v=some c∧(1≤v→1≤c.toNat∧2 ^ (c.toNat - 1)≤v)∧v<2 ^ c.toNat∧c.toNat≤8:=by
 obtain ⟨k,rfl⟩:∃ k:Nat,v=(k:Int):=⟨v.toNat,by omega⟩
 have:=BM ⟨k,by omega⟩
 split at this
 ·rename_i c hc
  simp only [Bool.and_eq_true,decide_eq_true_eq] at this
  obtain ⟨⟨a,b⟩,d⟩:=this
  refine ⟨c,hc,fun h=>⟨(a (by omega)).1,?_⟩,?_,d⟩
  ·have:=(a (by omega)).2;exact_mod_cast this
  exact_mod_cast b
 cases this
theorem len64 {a:Int} (ha:U64 a) (h1:1≤a):∃ n:Nat,gn a=some (n:Int)∧1≤n∧n≤64∧2 ^ (n - 1)≤a∧a<2 ^ n:=by
 have key:∃ (k:Nat) (v:Int),k≤56∧v=a / 2 ^ k∧1≤v∧v<256∧gn a=Option.bind (idx BL.data.toList (IntKind.u8.wrap v)) (fun c13=>lb ((IntKind.i64.wrap ((k:Int)+(IntKind.i64.wrap (c13.toNat:Int))))) (fun w14=>some w14)):=by
  unfold U64 at ha
  have s32:∀ x:Int,cu .u64 x 32=x / 4294967296:=fun x=>o5 (by decide)
  have s16:∀ x:Int,cu .u64 x 16=x / 65536:=fun x=>o5 (by decide)
  have s8:∀ x:Int,cu .u64 x 8=x / 256:=fun x=>o5 (by decide)
  unfold gn
  simp only [s32,s16,s8]
  by_cases c1:4294967296≤a
  ·rw [det c1]
   simp only [bS,bc]
   by_cases c2:65536≤a / 4294967296
   ·rw [det c2]
    simp only [bS,bc]
    by_cases c3:256≤a / 4294967296 / 65536
    ·rw [det c3]
     exact ⟨56,a / 4294967296 / 65536 / 256,by omega,by simp only [Int.reducePow];omega,by omega,by omega,rfl⟩
    rw [bF c3]
    exact ⟨48,a / 4294967296 / 65536,by omega,by simp only [Int.reducePow];omega,by omega,by omega,rfl⟩
   rw [bF c2]
   simp only [bB,bc]
   by_cases c3:256≤a / 4294967296
   ·rw [det c3]
    exact ⟨40,a / 4294967296 / 256,by omega,by simp only [Int.reducePow];omega,by omega,by omega,rfl⟩
   rw [bF c3]
   exact ⟨32,a / 4294967296,by omega,by simp only [Int.reducePow],by omega,by omega,rfl⟩
  rw [bF c1]
  simp only [bB,bc]
  by_cases c2:65536≤a
  ·rw [det c2]
   simp only [bS,bc]
   by_cases c3:256≤a / 65536
   ·rw [det c3]
    exact ⟨24,a / 65536 / 256,by omega,by simp only [Int.reducePow];omega,by omega,by omega,rfl⟩
   rw [bF c3]
   exact ⟨16,a / 65536,by omega,by simp only [Int.reducePow],by omega,by omega,rfl⟩
  rw [bF c2]
  simp only [bB,bc]
  by_cases c3:256≤a
  ·rw [det c3]
   exact ⟨8,a / 256,by omega,by simp only [Int.reducePow],by omega,by omega,rfl⟩
  rw [bF c3]
  exact ⟨0,a,by omega,by simp,by omega,by omega,rfl⟩
 obtain ⟨k,v,k1,k2,k3,k4,k5⟩:=key
 obtain ⟨c,c1,c2,c3,c4⟩:=DL (v:=v) (by omega) k4
 obtain ⟨c5,c6⟩:=c2 k3
 obtain ⟨l1,l2⟩:=DK k2 c5 c6 c3
 rw [k5,ya (by omega),pj c1]
 unfold lb
 rw [cP (r:=(c.toNat:Int)) (by omega) (by omega),cP (by omega) (by omega)]
 exact ⟨k+c.toNat,by simp,by omega,by omega,l1,l2⟩
theorem lz64 {a:Int} (ha:U64 a) (h1:1≤a):∃ s:Nat,dO a=some (s:Int)∧s≤63∧9223372036854775808≤a*2 ^ s∧a*2 ^ s<18446744073709551616:=by
 obtain ⟨n,e1,e2,e3,e4,e5⟩:=len64 ha h1
 unfold dO
 rw [pj e1,cP (by omega) (by omega)]
 refine ⟨64 - n,by congr 1;omega,by omega,?_,?_⟩
 ·have:=Int.mul_le_mul_of_nonneg_right e4 (Int.le_of_lt (show (0:Int)<2 ^ (64 - n) from Int.pow_pos (by decide)))
  rw [← Int.pow_add,show n - 1+(64 - n)=63 by omega] at this
  exact this
 have:=Int.mul_lt_mul_of_pos_right e5 (show (0:Int)<2 ^ (64 - n) from Int.pow_pos (by decide))
 rw [← Int.pow_add,show n+(64 - n)=64 by omega] at this
 exact this
theorem BN {b:Int} (h:0≤b):lB b=some ():=by unfold lB;rw [if_pos h]
theorem BO {a:Int} {s:Nat} (h:s≤64):fy .u64 a (s:Int)=IntKind.u64.wrap (a*2 ^ s):=by
 have e:fy .u64 a (s:Int)=IntKind.u64.wrap (a*2 ^ min (s:Int).toNat 64):=rfl
 rw [e,Int.toNat_natCast,Nat.min_eq_left h]
theorem ior_sh {h b:Int} {s:Nat} (hh:0≤h) (hb:0≤b) (hb2:b<2 ^ s) (h1:U64 (h*2 ^ s)) (h2:U64 b):ou .u64 (h*2 ^ s) b=h*2 ^ s+b:=by
 rw [FY h1 h2]
 obtain ⟨x,rfl⟩:∃ k:Nat,h=(k:Int):=⟨h.toNat,by omega⟩
 obtain ⟨z,rfl⟩:∃ k:Nat,b=(k:Int):=⟨b.toNat,by omega⟩
 have e:((x:Int)*2 ^ s)=((2 ^ s*x:Nat):Int):=by push_cast;exact Int.mul_comm _ _
 have hz:z<2 ^ s:=by exact_mod_cast hb2
 rw [e,Int.toNat_natCast,Int.toNat_natCast,← Nat.two_pow_add_eq_or_of_lt hz]
 rfl
theorem dm_of {n q r y:Int} (e:n=q*y+r) (h0:0≤r) (h1:r<y):n / y=q∧n % y=r:=by
 have gd:n / y=q:=by
  rw [e,Int.add_comm,Int.add_mul_ediv_right _ _ (by omega),Int.ediv_eq_zero_of_lt h0 h1,Int.zero_add]
 refine ⟨gd,?_⟩
 have:=Int.emod_add_mul_ediv n y
 rw [gd,Int.mul_comm] at this
 omega
theorem div64 {hi lo y:Int} (h1:U64 hi) (h2:U64 lo) (h3:U64 y) (h4:hi<y):il hi lo y=some ((hi*18446744073709551616+lo) / y,(hi*18446744073709551616+lo) % y):=by
 have hi0:=h1.1
 have hlo:=h2.1
 have hy1:1≤y:=by omega
 unfold il
 have cy:(y == 0)=false:=by simp;omega
 rw [cy,bF (show ¬ y≤hi by omega)]
 simp only [bB]
 by_cases hz:hi=0
 ·subst hz
  have:((0:Int) == 0)=true:=rfl
  rw [this]
  simp only [bS]
  rw [pj (Fl (show y≠0 by omega)),pj (Fl (show y≠0 by omega)),Int.tdiv_eq_ediv_of_nonneg hlo,Int.tmod_eq_emod_of_nonneg hlo]
  have:lo / y≤lo:=Int.ediv_le_self _ hlo
  rw [fE ⟨Int.ediv_nonneg hlo (by omega),by have:=h2.2;omega⟩]
  simp
 have cz:(hi == 0)=false:=by simp;exact hz
 rw [cz]
 simp only [bB]
 obtain ⟨s,e1,e2,e3,e4⟩:=lz64 h3 hy1
 have hP:(0:Int)<2 ^ s:=Int.pow_pos (by omega)
 have hM:(0:Int)<2 ^ (64 - s):=Int.pow_pos (by omega)
 have hPM:(2:Int) ^ s*2 ^ (64 - s)=18446744073709551616:=by rw [← Int.pow_add,show s+(64 - s)=64 by omega];rfl
 have hhP:hi*2 ^ s<y*2 ^ s:=Int.mul_lt_mul_of_pos_right h4 hP
 have hhP0:0≤hi*2 ^ s:=Int.mul_nonneg hi0 (by omega)
 have hqd0:0≤lo / 2 ^ (64 - s):=Int.ediv_nonneg hlo (by omega)
 have hqd1:lo / 2 ^ (64 - s)<2 ^ s:=by
  apply Int.ediv_lt_of_lt_mul hM
  rw [hPM];exact h2.2
 have hPle:(2:Int) ^ s≤18446744073709551616:=by rw [← hPM];have:=Int.mul_le_mul_of_nonneg_left (show (1:Int)≤2 ^ (64 - s) by omega) (Int.le_of_lt hP);omega
 have f1:IntKind.u64.wrap (s:Int)=(s:Int):=fE ⟨by omega,by omega⟩
 have f2:IntKind.u64.wrap (64 - (s:Int))=((64 - s:Nat):Int):=by rw [fE ⟨by omega,by omega⟩];omega
 have f3:fy .u64 y (s:Int)=y*2 ^ s:=by rw [BO (by omega),fE ⟨by omega,e4⟩]
 have f4:fy .u64 hi (s:Int)=hi*2 ^ s:=by rw [BO (by omega),fE ⟨hhP0,by omega⟩]
 have f5:cu .u64 lo ((64 - s:Nat):Int)=lo / 2 ^ (64 - s):=by rw [o5 (by omega),Int.toNat_natCast]
 have f6:fy .u64 lo (s:Int)=(lo*2 ^ s) % 18446744073709551616:=by rw [BO (by omega),wu]
 have f7:ou .u64 (hi*2 ^ s) (lo / 2 ^ (64 - s))=hi*2 ^ s+lo / 2 ^ (64 - s):=ior_sh hi0 hqd0 hqd1 ⟨hhP0,by omega⟩ ⟨hqd0,by omega⟩
 rw [pj e1]
 simp only [lb,f1,f2,f3,f4,f5,f6,f7,BN (Int.natCast_nonneg s),BN (Int.natCast_nonneg (64 - s)),bc,CM]
 have hN:(hi*18446744073709551616+lo)*2 ^ s=(hi*2 ^ s+lo / 2 ^ (64 - s))*18446744073709551616+(lo*2 ^ s) % 18446744073709551616:=by
  have g1:=Int.emod_add_mul_ediv lo (2 ^ (64 - s))
  have g2:lo*2 ^ s=lo % 2 ^ (64 - s)*2 ^ s+18446744073709551616*(lo / 2 ^ (64 - s)):=by
   have:=congrArg (· * (2:Int) ^ s) g1
   simp only [Int.add_mul] at this
   rw [← this,← hPM]
   rw [Int.mul_assoc,Int.mul_comm (lo / 2 ^ (64 - s)),← Int.mul_assoc,Int.mul_comm (2 ^ (64 - s)),Int.mul_assoc]
  have g3:0≤lo % 2 ^ (64 - s)*2 ^ s:=Int.mul_nonneg (Int.emod_nonneg _ (by omega)) (by omega)
  have g4:lo % 2 ^ (64 - s)*2 ^ s<18446744073709551616:=by
   rw [← hPM,Int.mul_comm (2 ^ s)]
   exact Int.mul_lt_mul_of_pos_right (Int.emod_lt_of_pos _ hM) hP
  rw [Int.add_mul,Int.mul_right_comm hi]
  generalize lo % 2 ^ (64 - s)*2 ^ s=A at *
  generalize lo / 2 ^ (64 - s)=B at *
  generalize lo*2 ^ s=C at *
  generalize hi*2 ^ s=D at *
  omega
 have hu0:0≤hi*2 ^ s+lo / 2 ^ (64 - s):=by omega
 have huy:hi*2 ^ s+lo / 2 ^ (64 - s)<y*2 ^ s:=by
  have:(hi+1)*2 ^ s≤y*2 ^ s:=Int.mul_le_mul_of_nonneg_right (by omega) (by omega)
  rw [Int.add_mul] at this;omega
 have hU0:0≤(lo*2 ^ s) % 18446744073709551616:=by omega
 have hU1:(lo*2 ^ s) % 18446744073709551616<18446744073709551616:=by omega
 have hfin:∀ q R:Int,(hi*18446744073709551616+lo)*2 ^ s=q*(y*2 ^ s)+R→0≤R→R<y*2 ^ s→(hi*18446744073709551616+lo) / y=q∧(hi*18446744073709551616+lo) % y=R / 2 ^ s:=by
  intro q R hq hR0 hR1
  have hr:R=(hi*18446744073709551616+lo - q*y)*2 ^ s:=by rw [Int.sub_mul,Int.mul_assoc q];omega
  have hd:R / 2 ^ s=hi*18446744073709551616+lo - q*y:=by rw [hr];exact Int.mul_ediv_cancel _ (by omega)
  rw [hd]
  generalize hi*18446744073709551616+lo=n at *
  have:0≤n - q*y:=by
   by_cases hc:0≤n - q*y
   ·exact hc
   have:=Int.mul_le_mul_of_nonneg_right (show n - q*y ≤ -1 by omega) (Int.le_of_lt hP);omega
  have:n - q*y<y:=by
   apply Int.lt_of_mul_lt_mul_right (a:=2 ^ s) _ (by omega)
   omega
  exact dm_of (by omega) (by assumption) (by assumption)
 generalize (hi*18446744073709551616+lo)*2 ^ s=NP at *
 generalize hYe:y*2 ^ s=Y at *
 generalize hi*2 ^ s+lo / 2 ^ (64 - s)=u at *
 generalize (lo*2 ^ s) % 18446744073709551616=U at *
 rw [qB (a:=Y) ⟨by omega,e4⟩,qB (a:=U) ⟨hU0,hU1⟩]
 have k1:Y / 4294967296*4294967296+Y % 4294967296=Y:=by omega
 have k2:2147483648≤Y / 4294967296:=by omega
 have k3:Y / 4294967296<4294967296:=by omega
 have k4:0≤Y % 4294967296:=by omega
 have k5:Y % 4294967296<4294967296:=by omega
 have k6:0≤U / 4294967296:=by omega
 have k7:U / 4294967296<4294967296:=by omega
 have k8:0≤U % 4294967296:=by omega
 have k9:U % 4294967296<4294967296:=by omega
 have k10:U=U / 4294967296*4294967296+U % 4294967296:=by omega
 generalize U / 4294967296=u1 at *
 generalize U % 4294967296=u0 at *
 generalize Y / 4294967296=y1 at *
 generalize Y % 4294967296=y0 at *
 have dv:∀ v:Int,0≤v→v<Y→IntKind.u64.wrap (Int.tdiv v y1)=v / y1∧IntKind.u64.wrap (v - IntKind.u64.wrap (v / y1*y1))=v % y1:=by
  intro v v0 v1
  have:=Int.ediv_le_self y1 v0
  have q0:=Int.ediv_nonneg v0 (show 0≤y1 by omega)
  have m0:=Int.emod_nonneg v (show y1≠0 by omega)
  have m1:=Int.emod_lt_of_pos v (show 0<y1 by omega)
  have e:=Int.emod_add_mul_ediv v y1
  rw [Int.mul_comm] at e
  rw [Int.tdiv_eq_ediv_of_nonneg v0,fE (a:=v / y1) ⟨q0,by omega⟩]
  refine ⟨rfl,?_⟩
  have:0≤v / y1*y1:=Int.mul_nonneg q0 (by omega)
  rw [fE (a:=v / y1*y1) ⟨this,by omega⟩,fE ⟨by omega,by omega⟩]
  omega
 have hnz:nz y1=some ():=Fl (by omega)
 obtain ⟨d1,d2⟩:=dv u hu0 huy
 simp only [hnz,d1,d2,bc]
 obtain ⟨q1,l1,l2,l3,l4,l5⟩:=F0 (u:=u) (u1:=u1) (y1:=y1) (y0:=y0) hu0 (by omega) k6 k7 k2 k3 k4 k5
 rw [k1] at l4 l5
 rw [pj l1]
 have w25:IntKind.u64.wrap (IntKind.u64.wrap (IntKind.u64.wrap (u*4294967296)+u1) - IntKind.u64.wrap (q1*Y))=u*4294967296+u1 - q1*Y:=by
  simp only [wu]
  generalize q1*Y=z at *
  omega
 simp only [w25]
 have v0:0≤u*4294967296+u1 - q1*Y:=by omega
 have v1:u*4294967296+u1 - q1*Y<Y:=by omega
 have hv:u*4294967296+u1=q1*Y+(u*4294967296+u1 - q1*Y):=by omega
 generalize u*4294967296+u1 - q1*Y=v at *
 obtain ⟨d3,d4⟩:=dv v v0 v1
 simp only [d3,d4]
 obtain ⟨q0,m1,m2,m3,m4,m5⟩:=F1 (u:=v) (u1:=u0) (y1:=y1) (y0:=y0) v0 (by omega) k8 k9 k2 k3 k4 k5
 rw [k1] at m4 m5
 rw [pj m1]
 have w36:IntKind.u64.wrap (IntKind.u64.wrap (q1*4294967296)+q0)=q1*4294967296+q0:=by simp only [wu];omega
 have w37:IntKind.u64.wrap (IntKind.u64.wrap (IntKind.u64.wrap (v*4294967296)+u0) - IntKind.u64.wrap (q0*Y))=v*4294967296+u0 - q0*Y:=by
  simp only [wu]
  generalize q0*Y=z at *
  omega
 rw [w36,w37,o5 (by omega),Int.toNat_natCast]
 obtain ⟨g1,g2⟩:=hfin (q1*4294967296+q0) (v*4294967296+u0 - q0*Y) (by
  rw [hN,k10,Int.add_mul,Int.mul_right_comm]
  generalize q1*Y=z at *
  generalize q0*Y=z0 at *
  omega) (by omega) (by omega)
 rw [g1,g2]
def xv (w:Zo):Int:=w.Hi*18446744073709551616+w.Lo
def XW (w:Zo):Prop:=U64 w.Hi∧U64 w.Lo
theorem xD {a b:Int} (ha:U64 a) (hb:U64 b):∃ w,jR a b=some w∧XW w∧xv w=a*b:=by
 obtain ⟨h,l,e1,e2,e3,e4⟩:=mul64 ha hb
 unfold jR;rw [pj e1]
 exact ⟨_,rfl,⟨e2,e3⟩,e4⟩
def CS (n c m:Int):Int:=if (m=2∧c≤2*(n % c))∨(m=1∧0<n % c) then n / c+1 else n / c
theorem DM {w:Zo} {c m:Int} (hw:XW w) (hc:U64 c) (h1:1≤c) (hm:m=0∨m=1∨m=2):n8 w c m=some (if CS (xv w) c m<18446744073709551616 then (CS (xv w) c m,0) else (0,3)):=by
 unfold n8
 have hc0:((((c == 0)||(decide (m<0)))||(decide (3<m))):Bool)=false:=by
  rcases hm with rfl | rfl | rfl <;> simp <;> omega
 rw [hc0];simp only [bB]
 have hn0:0≤xv w:=by unfold xv;have:=hw.1.1;have:=hw.2.1;omega
 have hr0:0≤xv w % c:=Int.emod_nonneg _ (by omega)
 have hr1:xv w % c<c:=Int.emod_lt_of_pos _ (by omega)
 have hle:xv w / c≤CS (xv w) c m:=by unfold CS;split <;> omega
 by_cases h:c≤w.Hi
 ·rw [det h]
  have:18446744073709551616≤xv w / c:=by
   apply Int.le_ediv_of_mul_le (by omega)
   have:=Int.mul_le_mul_of_nonneg_left h (show (0:Int)≤18446744073709551616 by omega)
   unfold xv;have:=hw.2.1;omega
  rw [if_neg (by omega)];rfl
 rw [bF h]
 simp only [bB]
 have e:=div64 hw.1 hw.2 hc (by omega)
 rw [show w.Hi*18446744073709551616+w.Lo=xv w from rfl] at e
 rw [pj e]
 have hq:xv w / c<18446744073709551616:=by
  apply Int.ediv_lt_of_lt_mul (by omega)
  have:=Int.mul_le_mul_of_nonneg_right (show w.Hi+1≤c by omega) (show (0:Int)≤18446744073709551616 by omega)
  unfold xv;have:=hw.2.2;rw [Int.mul_comm 18446744073709551616];omega
 have hq0:0≤xv w / c:=Int.ediv_nonneg hn0 (by omega)
 dsimp only
 have er:ko (xv w / c) (xv w % c) c m=some (decide ((m=2∧c≤2*(xv w % c))∨(m=1∧0<xv w % c))):=by
  unfold ko
  rw [fE (a:=c - xv w % c) ⟨by omega,by have:=hc.2;omega⟩]
  rcases hm with rfl | rfl | rfl
  ·simp
  ·simp
  simp;omega
 rw [pj er]
 unfold CS
 by_cases hu:(m=2∧c≤2*(xv w % c))∨(m=1∧0<xv w % c)
 ·rw [det hu,if_pos hu]
  simp only [Bool.not_true,bB]
  by_cases hx:xv w / c=18446744073709551615
  ·rw [hx];rfl
  have:(xv w / c == 18446744073709551615)=false:=by simp;exact hx
  rw [this,if_pos (by omega),fE ⟨by omega,by omega⟩];rfl
 rw [bF hu,if_neg hu,if_pos hq];rfl
theorem ref_div {w:Zm} {c m:Int} (hw:RW w) (hc:U64 c) (h1:1≤c) (hm:m=0∨m=1∨m=2):oa w c m=some (if CS (rv w) c m<18446744073709551616 then (CS (rv w) c m,0) else (0,3)):=by
 unfold oa
 have hc0:((((c == 0)||(decide (m<0)))||(decide (3<m))):Bool)=false:=by
  rcases hm with rfl | rfl | rfl <;> simp <;> omega
 rw [hc0];simp only [bB]
 have hn0:0≤rv w:=by unfold rv;have:=hw.1.1;have:=hw.2.1;omega
 have hn1:rv w<340282366920938463463374607431768211456:=by unfold rv;have:=hw.1.2;have:=hw.2.2;omega
 have hr0:0≤rv w % c:=Int.emod_nonneg _ (by omega)
 have hr1:rv w % c<c:=Int.emod_lt_of_pos _ (by omega)
 obtain ⟨q,r,e1,e2,e3,e4⟩:=BK hw hc h1
 rw [pj e1]
 dsimp only
 have er:(cond (m == 1) (some (decide (0<r))) (cond (m == 2) (some (decide ((IntKind.u64.wrap (c - r))≤r))) (cond (m == 3) (some ((decide ((IntKind.u64.wrap (c - r))<r))||((r == (IntKind.u64.wrap (c - r)))&&((dD .u64 q.Lo 1) == 1)))) (some false))))=some (decide ((m=2∧c≤2*(rv w % c))∨(m=1∧0<rv w % c))):=by
  rw [e4,fE (a:=c - rv w % c) ⟨by omega,by have:=hc.2;omega⟩]
  rcases hm with rfl | rfl | rfl
  ·simp
  ·simp
  simp;omega
 rw [pj er]
 have hq0:0≤rv w / c:=Int.ediv_nonneg hn0 (by omega)
 unfold CS
 have hfin:∀ z:Zm,RW z→(cond (decide (0<z.Hi)) (some ((0:Int),(3:Int))) (some (z.Lo,0)))=some (if rv z<18446744073709551616 then (rv z,0) else (0,3)):=by
  intro z hz
  obtain ⟨⟨a1,a2⟩,⟨a3,a4⟩⟩:=hz
  by_cases h:0<z.Hi
  ·rw [det h,if_neg (by unfold rv;omega)];rfl
  have:rv z=z.Lo:=by unfold rv;omega
  rw [bF h,this,if_pos a4];rfl
 by_cases hu:(m=2∧c≤2*(rv w % c))∨(m=1∧0<rv w % c)
 ·rw [det hu,if_pos hu]
  obtain ⟨z,b,f1,f2,f3⟩:=uF (p:=q) (q:=⟨0,1⟩) e2 ⟨⟨by simp,by simp⟩,⟨by simp,by simp⟩⟩
  have hone:rv ⟨0,1⟩=1:=rfl
  have:rv w / c≤rv w:=Int.ediv_le_self _ hn0
  have hc2:2≤c:=by omega
  have t1:=Int.ediv_mul_le (rv w) (show c≠0 by omega)
  have t2:=Int.mul_le_mul_of_nonneg_left hc2 hq0
  rw [hone,e3] at f3
  have f3:=f3 (by omega)
  simp only [bS]
  rw [pj f1]
  simp only [bc]
  rw [hfin z f2,f3]
 rw [bF hu,if_neg hu]
 simp only [bB,bc]
 rw [hfin q e2,e3]
structure VProd (l:List Zc) (p:Zc):Prop where
 price:1≤p.Price∧p.Price≤1000000000000
 lvl:6≤d9 p.Code
 ctr:ra p.Country=true
 proc:kw p.Processes=true
 few:p.Inputs.length≤8
 asc:p.Inputs.Pairwise fun a b=>a.Product<b.Product
 inp:∀ x∈p.Inputs,(dj l x.Product).isSome=true∧0≤x.Value∧x.Value≤1000000000000
 obt:p.Obtained=true→p.Inputs=[]
structure VPs (l:List Zc):Prop where
 len:l.length≤64
 asc:l.Pairwise fun a b=>a.ID<b.ID
 all:∀ p∈l,VProd l p
theorem kB {l:List ByteArray} (h:kw l=true):l.length≤8∧(∀ s∈l,hQ s=true)∧Strict jb l:=by
 unfold kw at h
 simp only [Bool.and_eq_true,decide_eq_true_eq] at h
 exact ⟨h.1,fun s hs=>List.all_eq_true.1 h.2.1 s hs,(lN _).1 h.2.2⟩
theorem VPs.sorted {l:List Zc} (h:VPs l):Sorted l:=⟨by have:=h.len;omega,h.asc,fun p hp=>by have h1:=(kB (h.all p hp).proc).1;have h2:=(h.all p hp).few;omega⟩
def bO (l:List Zc) (id:Int):Zc:=(dj l id).getD FS
theorem vZ {α:Type} (z:α) (o:Option α):(ia z o).1=o.getD z:=by cases o <;> rfl
theorem tq {l:List Zc} {id:Int} {p:Zc} (h:dj l id=some p):p∈l∧p.ID=id:=⟨List.mem_of_find?_eq_some h,by have:=List.find?_some h;simpa using this⟩
theorem kC {l:List Zc} (h:VPs l) {id:Int} (hs:(dj l id).isSome=true):bO l id∈l∧VProd l (bO l id)∧(bO l id).ID=id:=by
 cases hf:dj l id with
 | none=>rw [hf] at hs;cases hs
 | some p =>
  have:=tq hf
  unfold bO;rw [hf];exact ⟨this.1,h.all p this.1,this.2⟩
abbrev CSet:=Za→Bool
def ga (ps:List Int) (S:CSet) (q:Zc) (v:Int):Zk×Option Za:=match ps.find? (fun id=>S ⟨q.ID,id⟩) with
 | some id=>(⟨q.Code,v,true⟩,some ⟨q.ID,id⟩)
 | none=>(⟨q.Code,v,false⟩,none)
def ee (v part price:Int):Int:=if CS (v*part) price 1≤1000000000000 then CS (v*part) price 1 else 1000000000000
def tY (a:Zb) (q:Zc):Bool:=a.Kind == 3&&lZ a.Parties q.Country
def f8 (plan:List Zc) (a:Zb) (ps:List Int) (S:CSet) (x:Zh):List (Zk×Option Za) :=
 cond ((ga ps S (bO plan x.Product) x.Value).2.isSome || !tY a (bO plan x.Product)||(bO plan x.Product).Inputs.isEmpty) [ga ps S (bO plan x.Product) x.Value]
  ((bO plan x.Product).Inputs.map fun y=>ga ps S (bO plan y.Product) (ee x.Value y.Value (bO plan x.Product).Price))
def fm (plan:List Zc) (a:Zb) (ps:List Int) (S:CSet) (p:Zc):List (Zk×Option Za):=p.Inputs.flatMap (f8 plan a ps S)
def lO (plan:List Zc) (a:Zb) (acc:List ByteArray) (x:Zh):List ByteArray:=cond (tY a (bO plan x.Product)) (nM acc (bO plan x.Product).Processes) acc
def zCase:Zl:=⟨ByteArray.empty,0,false,[],[]⟩
def kL (l:List Zb) (id:Int):Zb:=(j0 l id).getD DG
def oj (plan:List Zc) (l:List Zb) (imp:ByteArray) (c:Za) (S:CSet):Zl :=
 ⟨(bO plan c.Product).Code,(bO plan c.Product).Price,(bO plan c.Product).Obtained,((bO plan c.Product).Inputs.foldl (lO plan (kL l c.Agreement)) (bO plan c.Product).Processes).take 8,
  (fm plan (kL l c.Agreement) (eU l c.Agreement (bO plan c.Product).Country imp) S (bO plan c.Product)).map (·.1)⟩
def ol (plan:List Zc) (l:List Zb) (imp:ByteArray) (c:Za) (S:CSet):List Za :=
 sd bu ((fm plan (kL l c.Agreement) (eU l c.Agreement (bO plan c.Product).Country imp) S (bO plan c.Product)).filterMap (·.2))
def tZ (plan:List Zc) (l:List Zb) (imp:ByteArray) (c:Za) (S:CSet):Zl×List Za:=cond (jd plan l imp c) (oj plan l imp c S,ol plan l imp c S) (zCase,[])
theorem yP {n c:Int} (hn:0≤n) (hc:1≤c):0≤CS n c 1:=by
 unfold CS
 have:=Int.ediv_nonneg hn (show (0:Int)≤c by omega)
 split <;> omega
theorem wa {v part price:Int} (h1:0≤v) (h2:0≤part) (h3:1≤price):0≤ee v part price∧ee v part price≤1000000000000:=by
 unfold ee
 have:=yP (Int.mul_nonneg h1 h2) h3
 split <;> omega
theorem yQ {v part price:Int} (h1:0≤v∧v≤1000000000000) (h2:0≤part∧part≤1000000000000) (h3:1≤price∧price≤1000000000000):fQ v part price=some (ee v part price):=by
 unfold fQ my
 rw [fE (a:=v) ⟨by omega,by omega⟩,fE (a:=part) ⟨by omega,by omega⟩,fE (a:=price) ⟨by omega,by omega⟩]
 obtain ⟨w,e1,e2,e3⟩:=xD (a:=v) (b:=part) ⟨by omega,by omega⟩ ⟨by omega,by omega⟩
 rw [e1,bc,DM e2 ⟨by omega,by omega⟩ h3.1 (.inr (.inl rfl)),e3]
 unfold ee
 have hp:=yP (Int.mul_nonneg h1.1 h2.1) h3.1
 generalize CS (v*part) price 1=r at hp
 by_cases hr:r<18446744073709551616
 ·rw [if_pos hr]
  by_cases hm:r≤1000000000000
  ·rw [if_pos hm]
   simp only [bc,bne_self_eq_false,Bool.false_or]
   rw [bF (by omega),bB,cP (by omega) (by omega)]
  rw [if_neg hm]
  simp only [bc,bne_self_eq_false,Bool.false_or]
  rw [det (by omega)];rfl
 rw [if_neg hr,if_neg (by omega)];rfl
theorem Au {v part price:Int} (h1:0≤v∧v≤1000000000000) (h2:0≤part∧part≤1000000000000) (h3:1≤price∧price≤1000000000000) {β:Type} (k:Int→Option β):Option.bind (kq (IntKind.u64.wrap v) (IntKind.u64.wrap part) (IntKind.u64.wrap price) 1) (fun x79=>Option.bind (cond ((x79.2 == 0)&&(decide (x79.1<1000000000000))) (some (IntKind.i64.wrap x79.1)) (some 1000000000000)) k)=k (ee v part price):=by
 unfold kq
 rw [fE (a:=v) ⟨by omega,by omega⟩,fE (a:=part) ⟨by omega,by omega⟩,fE (a:=price) ⟨by omega,by omega⟩]
 obtain ⟨w,e1,e2,e3⟩:=CN (a:=v) (b:=part) ⟨by omega,by omega⟩ ⟨by omega,by omega⟩
 rw [e1,bc,ref_div e2 ⟨by omega,by omega⟩ h3.1 (.inr (.inl rfl)),e3]
 unfold ee
 have hp:=yP (Int.mul_nonneg h1.1 h2.1) h3.1
 generalize CS (v*part) price 1=r at hp
 by_cases hr:r<18446744073709551616
 ·rw [if_pos hr]
  by_cases hm:r<1000000000000
  ·rw [if_pos (by omega)]
   simp only [bc,beq_self_eq_true,Bool.true_and]
   rw [det (by omega),bS,bc,cP (by omega) (by omega)]
  simp only [bc,beq_self_eq_true,Bool.true_and]
  rw [bF (by omega),bB,bc]
  congr 1
  split <;> omega
 rw [if_neg hr,if_neg (by omega)];rfl
def AX:Zk×Option Za→Ze
 | (i,some c)=>.proved_ ⟨i,c⟩
 | (i,none)=>.plain_ ⟨i⟩
theorem xE {K V:Type} [DecidableEq K] (m:List (K×V)) (k c:K) (v:V):kh (pT m k v) c=if k=c then some v else kh m c:=by
 induction m with
 | nil=>simp only [pT,kh]
 | cons p m ih =>
  obtain ⟨a,w⟩:=p
  simp only [pT]
  by_cases h:a=k
  ·subst h
   simp only [if_true,kh]
   split <;> rfl
  rw [if_neg h]
  simp only [kh,ih]
  by_cases h2:a=c
  ·subst h2;simp [show ¬ k=a from fun e=>h e.symm]
  simp [h2]
theorem F2 (set:List Za) (c:Za):(kh (set.foldl (fun m x=>pT m x true) []) c).getD false=aZ set c:=by
 have key:∀ (l:List Za) (m:List (Za×Bool)),(kh (l.foldl (fun m x=>pT m x true) m) c).getD false=(aZ l c||(kh m c).getD false):=by
  intro l
  induction l with
  | nil=>intro m;rfl
  | cons x l ih =>
   intro m
   rw [List.foldl_cons,ih,xE]
   show _=((decide (x=c)||aZ l c)||_)
   by_cases h:x=c
   ·rw [if_pos h,det h];cases aZ l c <;> rfl
   rw [if_neg h,bF h,Bool.false_or]
 rw [key];show (aZ set c||false)=_;rw [Bool.or_false]
theorem xF (ps:List Int) (m:List (Za×Bool)) (S:CSet) (hm:∀ c,(kh m c).getD false=S c) (hps:ps.length≤140737488355328) (q:Zc) (v:Int):cX ⟨ps,m⟩ q v=some (AX (ga ps S q v)):=by
 unfold cX ga
 refine (bD (l:=ps) (by omega) (fun _ id=>cond (S ⟨q.ID,id⟩) (some (.inr (Ze.proved_ ⟨⟨q.Code,v,true⟩,⟨q.ID,id⟩⟩))) none) (.inl ()) (fun k hk=>?_) (by simp only [cT,bB])).trans ?_
 ·simp only [ic hk,bS,aQ hk,bc,bP hk (show ps.length≤4611686018427387904 by omega),hm]
  cases S ⟨q.ID,ps[k]⟩ <;> rfl
 rw [iP (fun id:Int=>S ⟨q.ID,id⟩) (fun id=>(Sum.inr (Ze.proved_ ⟨⟨q.Code,v,true⟩,⟨q.ID,id⟩⟩):Unit⊕Ze))]
 cases ps.find? (fun id:Int=>S ⟨q.ID,id⟩) <;> rfl
def BP:Za:=⟨0,0⟩
theorem F3 (ps:List Int) (set:List Za) (hps:ps.length≤140737488355328) (hset:set.length≤140737488355328) (q:Zc) (v:Int):iB ps q.ID set=some (ia BP (ga ps (aZ set) q v).2)∧(ga ps (aZ set) q v).1=⟨q.Code,v,(ga ps (aZ set) q v).2.isSome⟩:=by
 constructor
 ·unfold iB ga
  refine (bD (l:=ps) (by omega) (fun _ id=>cond (aZ set ⟨q.ID,id⟩) (some (.inr ((⟨q.ID,id⟩:Za),true))) none) (.inl ()) (fun k hk=>?_) (by simp only [cT,bB])).trans ?_
  ·simp only [ic hk,bS,aQ hk,bc,bP hk (show ps.length≤4611686018427387904 by omega),mI _ _ hset]
   cases aZ set ⟨q.ID,ps[k]⟩ <;> rfl
  rw [iP (fun id:Int=>aZ set ⟨q.ID,id⟩) (fun id=>(Sum.inr ((⟨q.ID,id⟩:Za),true):Unit⊕(Za×Bool)))]
  cases ps.find? (fun id:Int=>aZ set ⟨q.ID,id⟩) <;> rfl
 unfold ga
 cases ps.find? (fun id:Int=>aZ set ⟨q.ID,id⟩) <;> rfl
theorem qC {plan:List Zc} (hv:VPs plan) (a:Zb) (ps:List Int) (S:CSet) (x:Zh) (hx:(dj plan x.Product).isSome=true):(f8 plan a ps S x).length≤8:=by
 unfold f8
 generalize ((ga ps S (bO plan x.Product) x.Value).2.isSome || !tY a (bO plan x.Product)||(bO plan x.Product).Inputs.isEmpty)=b
 cases b
 ·rw [bB,List.length_map];exact (kC hv hx).2.1.few
 simp
theorem F4 {w:List ByteArray} (h:kw w=true):w.length≤8:=(kB h).1
theorem BQ (a b:List ByteArray):(nM a b).length≤a.length+b.length:=by unfold nM;have:=FV (lt:=jb) (a++b);rwa [List.length_append] at this
theorem xG {plan:List Zc} (hv:VPs plan) (a:Zb) (acc:List ByteArray) (x:Zh) (hx:(dj plan x.Product).isSome=true):(lO plan a acc x).length≤acc.length+8:=by
 unfold lO
 cases tY a (bO plan x.Product)
 ·rw [bB];omega
 rw [bS]
 have h1:=BQ acc (bO plan x.Product).Processes
 have h2:=F4 (kC hv hx).2.1.proc
 omega
theorem sw {plan:List Zc} (hv:VPs plan) (id:Int):cW plan id=some (bO plan id,(dj plan id).isSome):=by
 rw [vW _ _ hv.sorted];unfold bO;cases dj plan id <;> rfl
theorem qU {plan:List Zc} (hv:VPs plan) (id:Int):eR plan id=some (bO plan id,(dj plan id).isSome):=by
 rw [xy _ _ (by have:=hv.len;omega)];unfold bO;cases dj plan id <;> rfl
theorem yR (t:Zk×Option Za):(AX t).is_proved_=t.2.isSome:=by obtain ⟨i,c⟩:=t;cases c <;> rfl
theorem DN {plan:List Zc} (hv:VPs plan) (a:Zb) (ha:a.Parties.length≤140737488355328) {p:Zc} (hp:VProd plan p) (ps:List Int) (hps:ps.length≤140737488355328) (m:List (Za×Bool)) (S:CSet) (hm:∀ c,(kh m c).getD false=S c) :
    fj plan a p ⟨ps,m⟩=some ((fm plan a ps S p).map AX,(p.Inputs.foldl (lO plan a) p.Processes).take 8):=by
  unfold fj bU
  have hpr:=F4 hp.proc
  have hfew:=hp.few
  rw [jM (by omega) (by omega),bc]
  refine (cE (l:=p.Inputs) (by omega) (fun i (s:List Ze×List ByteArray)=>(s.1,s.2,i)) (fun s x=>(s.1++(f8 plan a ps S x).map AX,lO plan a s.2 x)) (fun s=>s) (fun k s=>s.1.length≤8*k∧s.2.length≤8+8*k) ([],p.Processes) ⟨by simp,by simpa using hpr⟩ (fun k hk s hs=>?_) (fun s _=>by simp only [cT,bB])).1.trans ?_
  · obtain ⟨l9,l12⟩:=s
    obtain ⟨h1,h2⟩:=hs
    dsimp only at h1 h2 ⊢
    obtain ⟨hin,hv0,hv1⟩:=hp.inp _ (List.getElem_mem hk)
    obtain ⟨hq1,hq2,hq3⟩:=kC hv hin
    have hql:=hq2.few
    refine ⟨?_,by have:=qC hv a ps S p.Inputs[k] hin;simp;omega,by have:=xG hv a l12 p.Inputs[k] hin;omega⟩
    simp only [ic hk,bS,aQ hk,bc,bP hk (show p.Inputs.length≤4611686018427387904 by omega),sw hv]
    generalize hx:p.Inputs[k]=x at *
    rw [so _ _ ha,xF ps m S hm hps]
    unfold f8 lO tY
    have e1:Option.bind (gd (a.Kind == 3) (some (lZ a.Parties (bO plan x.Product).Country))) (fun x33=>some ((a.Kind == 3)&&x33))=some ((a.Kind == 3)&&lZ a.Parties (bO plan x.Product).Country):=by cases (a.Kind == 3) <;> rfl
    have e2:∀ {β:Type} (K:Bool→Option β),(∀ b c,((a.Kind == 3)&&b)=((a.Kind == 3)&&c)→K b=K c)→Option.bind (gd (a.Kind == 3) (some (lZ a.Parties (bO plan x.Product).Country))) K=K (lZ a.Parties (bO plan x.Product).Country):=by
      intro β K hK
      cases hk3:(a.Kind == 3)
      · show K default=_;exact hK _ _ (by rw [hk3];rfl)
      rfl
    rw [e2 _ (fun b c hbc=>by simp only [hbc])]
    generalize hF:((a.Kind == 3)&&lZ a.Parties (bO plan x.Product).Country)=F
    have e3:(cond F (Option.bind (jX l12 (bO plan x.Product).Processes) (fun x38=>some x38)) (some l12))=some (cond F (nM l12 (bO plan x.Product).Processes) l12):=by
      cases F
      · rfl
      rw [bS,BJ _ _ (by have:=F4 hq2.proc;omega)];rfl
    simp only [e3,bc,yR,len0]
    cases hc:((ga ps S (bO plan x.Product) x.Value).2.isSome || !F||(bO plan x.Product).Inputs.isEmpty)
    · simp only [bB]
      refine (congrArg (fun o=>Option.bind o _) (cE (l:=(bO plan x.Product).Inputs) (by omega) (fun i (s:List Ze)=>(s,i)) (fun s y=>s++[AX (ga ps S (bO plan y.Product) (ee x.Value y.Value (bO plan x.Product).Price))]) (fun s=>s) (fun j s=>s.length≤8*k+j) l9 h1 (fun j hj s hs=>⟨?_,by simp;omega⟩) (fun s _=>by simp only [cT,bB])).1).trans ?_
      rotate_left
      · simp only [bc]
        have hfl:∀ (ys:List Zh) (acc:List Ze),ys.foldl (fun s y=>s++[AX (ga ps S (bO plan y.Product) (ee x.Value y.Value (bO plan x.Product).Price))]) acc=acc++(ys.map fun y=>ga ps S (bO plan y.Product) (ee x.Value y.Value (bO plan x.Product).Price)).map AX:=by
          intro ys
          induction ys with
          | nil=>intro acc;simp
          | cons y ys ih=>intro acc;rw [List.foldl_cons,ih];simp
        rw [hfl]
      obtain ⟨hy1,hy2,hy3⟩:=hq2.inp _ (List.getElem_mem hj)
      simp only [ic hj,bS,aQ hj,bc,bP hj (show (bO plan x.Product).Inputs.length≤4611686018427387904 by omega),sw hv]
      rw [yQ ⟨hv0,hv1⟩ ⟨hy2,hy3⟩ hq2.price,bc,xF ps m S hm hps,bc,cI (by simp;omega) (by simp;omega)];rfl
    simp only [bS]
    rw [cI (by simp;omega) (by simp;omega)];rfl
  dsimp only
  have hfold:∀ (xs:List Zh) (s:List Ze×List ByteArray),xs.foldl (fun s x=>(s.1++(f8 plan a ps S x).map AX,lO plan a s.2 x)) s=(s.1++(xs.flatMap (f8 plan a ps S)).map AX,xs.foldl (lO plan a) s.2):=by
    intro xs
    induction xs with
    | nil=>intro s;simp
    | cons x xs ih=>intro s;rw [List.foldl_cons,ih,List.flatMap_cons];simp
  rw [hfold]
  dsimp only
  rw [Cv _ _ (by omega),bc];rfl
theorem om {p:List Zc} {l:List Zb} {i:ByteArray} {c:Za} (h:jd p l i c=true):∃ q a r,dj p c.Product=some q∧j0 l c.Agreement=some a∧dw a q.Code=some r∧q.Country≠i∧yI a q.Country i=true:=by
 unfold jd at h
 split at h
 ·rename_i q a e1 e2
  simp only [Bool.and_eq_true,Bool.not_eq_true',decide_eq_false_iff_not] at h
  obtain ⟨⟨h1,h2⟩,h3⟩:=h
  obtain ⟨r,hr⟩:=Option.isSome_iff_exists.1 h3
  exact ⟨q,a,r,e1,e2,hr,h1,h2⟩
 cases h
theorem o6 {plan:List Zc} (hv:VPs plan) (a:Zb) (ps:List Int) (S:CSet) {p:Zc} (hp:VProd plan p):(fm plan a ps S p).length≤64:=by
 unfold fm
 have key:∀ xs:List Zh,(∀ x∈xs,(dj plan x.Product).isSome=true)→(xs.flatMap (f8 plan a ps S)).length≤8*xs.length:=by
  intro xs
  induction xs with
  | nil=>intro _;simp
  | cons x xs ih =>
   intro h
   rw [List.flatMap_cons,List.length_append,List.length_cons]
   have h1:=qC hv a ps S x (h x (by simp));have h2:=ih fun y hy=>h y (by simp [hy]);omega
 have h1:=key p.Inputs fun x hx=>(hp.inp x hx).1
 have h2:=hp.few
 omega
theorem xH {plan:List Zc} {l:List Zb} (hv:VPs plan) (hl:VAs l) (imp:ByteArray) (c:Za) (set:List Za) (hs:set.length≤140737488355328):fk plan l imp c set=some (tZ plan l imp c (aZ set)):=by
 unfold fk tZ
 have hlen:=hl.len
 rw [vX _ _ _ _ hv.sorted hl,bc]
 cases had:jd plan l imp c
 ·rfl
 obtain ⟨q,a,r,e1,e2,_,_,_⟩:=om had
 have hq:VProd plan (bO plan c.Product):=(kC hv (by rw [e1];rfl)).2.1
 have ha:kL l c.Agreement=a:=by unfold kL;rw [e2];rfl
 have hva:=(nh hl e2).1
 simp only [Bool.not_true,bB,bS]
 rw [sw hv,bc,rQ _ _ (by omega),e2,bc,wT _ _ _ _ hl,bc]
 have hpl:=sq l c.Agreement (bO plan c.Product).Country imp
 unfold oj ol
 rw [ha]
 generalize hps:eU l c.Agreement (bO plan c.Product).Country imp=ps at *
 refine (cE (l:=set) (by omega) (fun i (m:List (Za×Bool))=>(i,m)) (fun m x=>pT m x true) (fun m=>m) (fun _ _=>True) [] trivial (fun k hk m _=>⟨?_,trivial⟩) (fun m _=>by simp only [cT,bB])).1.trans ?_
 ·simp only [ic hk,bS,aQ hk,bc,bP hk (show set.length≤4611686018427387904 by omega)]
 rw [DN hv (ia DG (some a)).1 hva.ok.par.1 hq ps (by omega) _ (aZ set) (fun c=>F2 set c),bc]
 dsimp +instances only [ia]
 have hsl:=o6 hv a ps (aZ set) hq
 refine (cE (l:=(fm plan a ps (aZ set) (bO plan c.Product)).map AX) (by rw [List.length_map];omega) (fun i (s:List Za×List Zk)=>(s.1,i,s.2)) (fun s x=>(cond x.is_proved_ (s.1++[x.as_proved_.premise]) s.1,s.2++[match x with | .plain_ y=>y.use | .proved_ y=>y.use])) (fun s=>s) (fun k s=>s.1.length≤k∧s.2.length≤k) ([],[]) ⟨by simp,by simp⟩ (fun k hk s hs=>⟨?_,?_⟩) (fun s _=>by simp only [cT,bB])).1.trans ?_
 ·have hk2:k<64:=by rw [List.length_map] at hk;omega
  have ei:∀ x:Ze,Icumulation_supply_input x=some (match x with | .plain_ y=>y.use | .proved_ y=>y.use):=fun x=>by cases x <;> rfl
  simp only [ic hk,bS,aQ hk,bc,bP hk (show ((fm plan a ps (aZ set) (bO plan c.Product)).map AX).length≤4611686018427387904 by rw [List.length_map];omega),ei]
  rw [cI (by simp;omega) (by simp;omega),bc,cI (by simp;omega) (by simp;omega)]
  cases ((fm plan a ps (aZ set) (bO plan c.Product)).map AX)[k].is_proved_ <;> rfl
 ·obtain ⟨h1,h2⟩:=hs
  cases ((fm plan a ps (aZ set) (bO plan c.Product)).map AX)[k].is_proved_ <;> simp <;> omega
 have key:∀ (xs:List (Zk×Option Za)) (s:List Za×List Zk),(xs.map AX).foldl (fun s x=>(cond x.is_proved_ (s.1++[x.as_proved_.premise]) s.1,s.2++[match x with | .plain_ y=>y.use | .proved_ y=>y.use])) s=(s.1++xs.filterMap (·.2),s.2++xs.map (·.1)):=by
  intro xs
  induction xs with
  | nil=>intro s;simp
  | cons x xs ih =>
   intro s
   obtain ⟨i,o⟩:=x
   rw [List.map_cons,List.foldl_cons,ih]
   cases o with
   | none=>simp [AX,Ze.is_proved_]
   | some c=>simp [AX,Ze.is_proved_,Ze.as_proved_]
 rw [key]
 simp only [List.nil_append]
 show Option.bind (some (lD bu _)) _=_
 rw [bc,FX _ (by rw [od];have:=List.length_filterMap_le (fun x:Zk×Option Za=>x.2) (fm plan a ps (aZ set) (bO plan c.Product));omega)];rfl
theorem Av {plan:List Zc} {l:List Zb} (hv:VPs plan) (hl:VAs l) (imp:ByteArray) (c:Za) (set:List Za) (hs:set.length≤140737488355328):fB plan l imp c set=some (tZ plan l imp c (aZ set)):=by
 unfold fB tZ
 have hlen:=hl.len
 rw [yJ _ _ _ _ (by have:=hv.len;omega) hl,bc]
 cases had:jd plan l imp c
 ·rfl
 obtain ⟨q,a,r,e1,e2,_,_,_⟩:=om had
 have hq:VProd plan (bO plan c.Product):=(kC hv (by rw [e1];rfl)).2.1
 have ha:kL l c.Agreement=a:=by unfold kL;rw [e2];rfl
 have hva:=(nh hl e2).1
 simp only [Bool.not_true,bB,bS]
 rw [qU hv,bc,qQ _ _ (by omega),e2,bc,yK _ _ _ _ hl,bc]
 have hpl:=sq l c.Agreement (bO plan c.Product).Country imp
 unfold oj ol
 rw [ha]
 simp only [ia]
 generalize hps:eU l c.Agreement (bO plan c.Product).Country imp=ps at *
 have hpr:=F4 hq.proc
 have hfew:=hq.few
 generalize bO plan c.Product=p at *
 have hps2:ps.length≤140737488355328:=by omega
 refine (cE (l:=p.Inputs) (by omega) (fun i (s:List Za×List ByteArray×List Zk)=>(s.1,s.2.1,i,s.2.2)) (fun s x=>(((f8 plan a ps (aZ set) x).filterMap (·.2)).foldl (iw bu) s.1,lO plan a s.2.1 x,s.2.2++(f8 plan a ps (aZ set) x).map (·.1))) (fun s=>s) (fun k s=>s.1.length≤8*k∧s.2.1.length≤8+8*k∧s.2.2.length≤8*k) ([],p.Processes,[]) ⟨by simp,by simpa using hpr,by simp⟩ (fun k hk s hs=>?_) (fun s _=>by simp only [cT,bB])).1.trans ?_
 ·obtain ⟨l13,l14,l17⟩:=s
  obtain ⟨h1,h2,h3⟩:=hs
  dsimp only at h1 h2 h3 ⊢
  obtain ⟨hin,hv0,hv1⟩:=hq.inp _ (List.getElem_mem hk)
  obtain ⟨hq1,hq2,hq3⟩:=kC hv hin
  have hql:=hq2.few
  have hsl:=qC hv a ps (aZ set) p.Inputs[k] hin
  have hins:∀ (cs:List Za) (u:List Za),(cs.foldl (iw bu) u).length≤u.length+cs.length:=by
   intro cs
   induction cs with
   | nil=>intro u;simp
   | cons c cs ih=>intro u;rw [List.foldl_cons,List.length_cons];have h1:=ih (iw bu u c);have h2:=kA (lt:=bu) u c;omega
  refine ⟨?_,?_,by have:=xG hv a l14 p.Inputs[k] hin;omega,by simp;omega⟩
  rotate_left
  ·have g1:=hins ((f8 plan a ps (aZ set) p.Inputs[k]).filterMap (·.2)) l13
   have g2:=List.length_filterMap_le (fun x:Zk×Option Za=>x.2) (f8 plan a ps (aZ set) p.Inputs[k])
   omega
  simp only [ic hk,bS,aQ hk,bc,bP hk (show p.Inputs.length≤4611686018427387904 by omega),qU hv]
  generalize hx:p.Inputs[k]=x at *
  have hset:set.length≤140737488355328:=hs
  have htk:=F3 ps set hps2 hset
  rw [qP _ _ hva.ok.par.1,(htk (bO plan x.Product) x.Value).1]
  unfold f8 lO tY
  have e2:∀ {β:Type} (K:Bool→Option β),(∀ b c,((a.Kind == 3)&&b)=((a.Kind == 3)&&c)→K b=K c)→Option.bind (gd (a.Kind == 3) (some (lZ a.Parties (bO plan x.Product).Country))) K=K (lZ a.Parties (bO plan x.Product).Country):=by
   intro β K hK
   cases hk3:(a.Kind == 3)
   ·show K default=_;exact hK _ _ (by rw [hk3];rfl)
   rfl
  rw [e2 _ (fun b c hbc=>by simp only [hbc])]
  generalize hF:((a.Kind == 3)&&lZ a.Parties (bO plan x.Product).Country)=F
  have e3:(cond F (Option.bind (jS l14 (bO plan x.Product).Processes) (fun x38=>some x38)) (some l14))=some (cond F (nM l14 (bO plan x.Product).Processes) l14):=by
   cases F
   ·rfl
   rw [bS,DJ _ _ (by have:=F4 hq2.proc;omega)];rfl
  have e4:∀ (o:Option Za) (u:List Za),u.length≤1000000→(cond o.isSome (Option.bind (ez u (ia BP o).1) (fun x53=>some x53)) (some u))=some (match o with | some c=>iw bu u c | none=>u):=by
   intro o u hu
   cases o with
   | none=>rfl
   | some c=>show Option.bind (ez u c) _=_;rw [qT _ _ (by omega)];rfl
  have e5:∀ o:Option Za,(ia BP o).2=o.isSome:=fun o=>by cases o <;> rfl
  simp only [e3,bc,e5]
  simp only [e4 _ l13 (show l13.length≤1000000 by omega),bc,len0]
  have t1:=(htk (bO plan x.Product) x.Value).2
  generalize htt:ga ps (aZ set) (bO plan x.Product) x.Value=tt at *
  obtain ⟨ti,to⟩:=tt
  dsimp only at t1 ⊢
  cases hc:(to.isSome || !F||(bO plan x.Product).Inputs.isEmpty)
  ·have hto:to=none:=by cases to with | none=>rfl | some c=>simp at hc
   subst hto
   simp only [bB]
   refine (congrArg (fun o=>Option.bind o _) (cE (l:=(bO plan x.Product).Inputs) (by omega) (fun i (s:List Za×List Zk)=>(s.1,i,s.2)) (fun s y=>((match (ga ps (aZ set) (bO plan y.Product) (ee x.Value y.Value (bO plan x.Product).Price)).2 with | some c=>iw bu s.1 c | none=>s.1),s.2++[(ga ps (aZ set) (bO plan y.Product) (ee x.Value y.Value (bO plan x.Product).Price)).1])) (fun s=>s) (fun j s=>s.1.length≤8*k+j∧s.2.length≤8*k+j) (l13,l17) ⟨h1,h3⟩ (fun j hj s hs=>⟨?_,?_⟩) (fun s _=>by simp only [cT,bB])).1).trans ?_
   ·obtain ⟨hy1,hy2,hy3⟩:=hq2.inp _ (List.getElem_mem hj)
    simp only [ic hj,bS,aQ hj,bc,bP hj (show (bO plan x.Product).Inputs.length≤4611686018427387904 by omega)]
    rw [Au ⟨hv0,hv1⟩ ⟨hy2,hy3⟩ hq2.price,(htk (bO plan ((bO plan x.Product).Inputs[j]).Product) (ee x.Value ((bO plan x.Product).Inputs[j]).Value (bO plan x.Product).Price)).1,bc,e5,e4 _ s.1 (by omega),bc,← (htk (bO plan ((bO plan x.Product).Inputs[j]).Product) (ee x.Value ((bO plan x.Product).Inputs[j]).Value (bO plan x.Product).Price)).2,cI (by simp;omega) (by simp;omega)];rfl
   ·refine ⟨?_,by simp;omega⟩
    dsimp only
    split
    ·rename_i c' _;have:=kA (lt:=bu) s.1 c';omega
    omega
   have hfl:∀ (ys:List Zh) (s:List Za×List Zk),ys.foldl (fun s y=>((match (ga ps (aZ set) (bO plan y.Product) (ee x.Value y.Value (bO plan x.Product).Price)).2 with | some c=>iw bu s.1 c | none=>s.1),s.2++[(ga ps (aZ set) (bO plan y.Product) (ee x.Value y.Value (bO plan x.Product).Price)).1])) s=(((ys.map fun y=>ga ps (aZ set) (bO plan y.Product) (ee x.Value y.Value (bO plan x.Product).Price)).filterMap (·.2)).foldl (iw bu) s.1,s.2++(ys.map fun y=>ga ps (aZ set) (bO plan y.Product) (ee x.Value y.Value (bO plan x.Product).Price)).map (·.1)):=by
    intro ys
    induction ys with
    | nil=>intro s;simp
    | cons y ys ih =>
     intro s
     rw [List.foldl_cons,ih,List.map_cons]
     cases h:(ga ps (aZ set) (bO plan y.Product) (ee x.Value y.Value (bO plan x.Product).Price)).2 with
     | none=>simp [h]
     | some c=>simp [h]
   simp only [bc,hfl]
  simp only [bS]
  rw [cI (by simp;omega) (by simp;omega),← t1]
  cases to <;> rfl
 have hfold:∀ (xs:List Zh) (s:List Za×List ByteArray×List Zk),xs.foldl (fun s x=>(((f8 plan a ps (aZ set) x).filterMap (·.2)).foldl (iw bu) s.1,lO plan a s.2.1 x,s.2.2++(f8 plan a ps (aZ set) x).map (·.1))) s=(((xs.flatMap (f8 plan a ps (aZ set))).filterMap (·.2)).foldl (iw bu) s.1,xs.foldl (lO plan a) s.2.1,s.2.2++(xs.flatMap (f8 plan a ps (aZ set))).map (·.1)):=by
  intro xs
  induction xs with
  | nil=>intro s;simp
  | cons x xs ih=>intro s;rw [List.foldl_cons,ih,List.flatMap_cons];simp
 rw [hfold]
 dsimp only
 rw [Cv _ _ (by omega),bc,tW ordC,List.nil_append];rfl
theorem C6_ctry {s:ByteArray} (h:s∈C6):ra s=true:=List.all_eq_true.1 C6_ok.1 s h
theorem W5_words {l:List ByteArray} (h:l.Sublist W5):kw l=true:=by
 unfold kw
 have h1:=h.length_le
 have h5:W5.length=5:=rfl
 simp only [Bool.and_eq_true,decide_eq_true_eq]
 exact ⟨by omega,List.all_eq_true.2 fun s hs=>List.all_eq_true.1 W5_ok.1 s (h.subset hs),(lN _).2 (List.Pairwise.sublist h ((lN _).1 W5_ok.2.1))⟩
theorem MPs.found {l:List Zc} (h:MPs l) {k:Nat} (hk:k<l.length):(dj l (3*((k:Int)+1))).isSome=true:=by
 unfold dj
 rw [List.find?_isSome]
 exact ⟨l[k],List.getElem_mem hk,by have:=(h.all k _ (List.getElem?_eq_getElem hk)).id;simpa using this⟩
theorem MPs.vps {l:List Zc} (h:MPs l):VPs l:=by
 refine ⟨by have:=h.len;omega,h.sorted.asc,fun p hp=>?_⟩
 obtain ⟨i,hi,rfl⟩:=List.getElem_of_mem hp
 have hm:=h.all i _ (List.getElem?_eq_getElem hi)
 refine ⟨by have:=hm.price;omega,by have:=hm.lvl.1;omega,C6_ctry hm.ctr,W5_words hm.proc,by have:=hm.few;omega,hm.asc,fun x hx=>?_,hm.obt⟩
 obtain ⟨⟨k,hk,e⟩,h1,h2⟩:=hm.inp x hx
 exact ⟨by rw [e];exact h.found hk,h1,by omega⟩
theorem F5 (ps:List Int) (S:CSet) (q:Zc) (v:Int):(ga ps S q v).1.Code=q.Code∧(ga ps S q v).1.Value=v∧(ga ps S q v).1.Originating=(ga ps S q v).2.isSome:=by
 unfold ga;split <;> exact ⟨rfl,rfl,rfl⟩
theorem BR {plan:List Zc} (hv:VPs plan) (a:Zb) (ps:List Int) (S:CSet) {p:Zc} (hp:VProd plan p) (P:Zk×Option Za→Prop) (h:∀ q∈plan,∀ v,0≤v→v≤1000000000000→P (ga ps S q v)):∀ t∈fm plan a ps S p,P t:=by
 intro t ht
 unfold fm at ht
 obtain ⟨x,hx,ht⟩:=List.mem_flatMap.1 ht
 obtain ⟨h1,h2,h3⟩:=hp.inp x hx
 obtain ⟨hq1,hq2,_⟩:=kC hv h1
 unfold f8 at ht
 cases hc:((ga ps S (bO plan x.Product) x.Value).2.isSome || !tY a (bO plan x.Product)||(bO plan x.Product).Inputs.isEmpty)
 ·rw [hc,bB] at ht
  obtain ⟨y,hy,rfl⟩:=List.mem_map.1 ht
  obtain ⟨g1,g2,g3⟩:=hq2.inp y hy
  have hr:=wa h2 g2 hq2.price.1
  exact h _ (kC hv g1).1 _ hr.1 hr.2
 rw [hc,bS] at ht
 rw [List.mem_singleton.1 ht]
 exact h _ hq1 _ h2 h3
theorem Aw {a b:List ByteArray} (ha:∀ s∈a,hQ s=true) (hb:∀ s∈b,hQ s=true):(∀ s∈nM a b,hQ s=true)∧Strict jb (nM a b):=by
 refine ⟨fun s hs=>?_,tp BI _⟩
 have:=(FU (lt:=jb) (a++b) s).1 hs
 rcases List.mem_append.1 this with h | h
 ·exact ha s h
 exact hb s h
theorem wb {plan:List Zc} (hv:VPs plan) (a:Zb):∀ (xs:List Zh) (acc:List ByteArray),(∀ x∈xs,(dj plan x.Product).isSome=true)→(∀ s∈acc,hQ s=true)→Strict jb acc→(∀ s∈xs.foldl (lO plan a) acc,hQ s=true)∧Strict jb (xs.foldl (lO plan a) acc)
 | [],acc,_,h1,h2=>⟨h1,h2⟩
 | x::xs,acc,h,h1,h2=>by
  have hx:=kC hv (h x (by simp))
  rw [List.foldl_cons]
  have:(∀ s∈lO plan a acc x,hQ s=true)∧Strict jb (lO plan a acc x):=by
   unfold lO
   cases tY a (bO plan x.Product)
   ·exact ⟨h1,h2⟩
   exact Aw h1 (kB hx.2.1.proc).2.1
  exact wb hv a xs _ (fun y hy=>h y (by simp [hy])) this.1 this.2
theorem wc {s:ByteArray} (h:hQ s=true):s.size≤12:=by
 unfold hQ at h;simp only [Bool.and_eq_true,decide_eq_true_eq] at h;omega
theorem BS {l:List ByteArray} (h1:∀ s∈l,hQ s=true) (h2:Strict jb l):kw (l.take 8)=true∧StrsOk (l.take 8):=by
 refine ⟨?_,by rw [List.length_take];omega,fun s hs=>by have:=wc (h1 s (List.mem_of_mem_take hs));omega⟩
 unfold kw
 simp only [Bool.and_eq_true,decide_eq_true_eq]
 exact ⟨by rw [List.length_take];omega,List.all_eq_true.2 fun s hs=>h1 s (List.mem_of_mem_take hs),(lN _).2 (List.Pairwise.sublist (List.take_sublist _ _) h2)⟩
structure VCase (x:Zl):Prop where
 lvl:6≤d9 x.Code
 price:1≤x.Price∧x.Price≤1000000000000
 proc:kw x.Processes=true∧StrsOk x.Processes
 few:x.Inputs.length≤100
 inp:∀ y∈x.Inputs,6≤d9 y.Code∧0≤y.Value∧y.Value≤1000000000000
theorem o7 {plan:List Zc} {l:List Zb} (hv:VPs plan) (imp:ByteArray) (c:Za) (S:CSet) (h:(dj plan c.Product).isSome=true):VCase (oj plan l imp c S):=by
 obtain ⟨hq1,hq,_⟩:=kC hv h
 obtain ⟨w1,w2,w3⟩:=kB hq.proc
 have hw:=wb hv (kL l c.Agreement) (bO plan c.Product).Inputs _ (fun x hx=>(hq.inp x hx).1) w2 w3
 refine ⟨hq.lvl,hq.price,BS hw.1 hw.2,?_,?_⟩
 ·unfold oj;dsimp only;rw [List.length_map];have:=o6 hv (kL l c.Agreement) (eU l c.Agreement (bO plan c.Product).Country imp) S hq;omega
 unfold oj;dsimp only
 intro y hy
 obtain ⟨t,ht,rfl⟩:=List.mem_map.1 hy
 refine BR hv _ _ S hq (fun t=>6≤d9 t.1.Code∧0≤t.1.Value∧t.1.Value≤1000000000000) (fun q hqp v h1 h2=>?_) t ht
 obtain ⟨g1,g2,_⟩:=F5 (eU l c.Agreement (bO plan c.Product).Country imp) S q v
 rw [g1,g2];exact ⟨(hv.all q hqp).lvl,h1,h2⟩
theorem qD {x:Zl} (h:VCase x):gD x=some 0:=by
 unfold gD iX
 have hl:=h.few
 show Option.bind (some (decide (6≤d9 x.Code))) _=_
 rw [det h.lvl,bc]
 simp only [Bool.not_true,bB]
 rw [bF (by have:=h.price;omega),bF (by have:=h.price;omega),Bool.or_self,bB,rO _ h.proc.2,h.proc.1,bc]
 simp only [Bool.not_true,bB]
 rw [bF (by omega),bB]
 refine (bD (l:=x.Inputs) (by omega) (fun _ _=>none) (.inl ()) (fun k hk=>?_) (by simp only [cT,bB])).trans ?_
 ·have hy:=h.inp _ (List.getElem_mem hk)
  simp only [ic hk,bS,aQ hk,bc,bP hk (show x.Inputs.length≤4611686018427387904 by omega)]
  show Option.bind (Option.bind (some (d9 x.Inputs[k].Code)) _) _=_
  rw [bc,det hy.1,bc,bF (by omega),bF (by omega)];rfl
 have:∀ (m:List Zk) (i:Nat),cA (fun (_:Nat) (_:Zk)=>(none:Option (Unit⊕Int))) m i=none:=by
  intro m
  induction m with
  | nil=>intro i;rfl
  | cons x m ih=>intro i;exact ih _
 rw [this];rfl
theorem Ax {plan:List Zc} {l:List Zb} (hv:VPs plan) (imp:ByteArray) (c:Za) (S:CSet) (h:(dj plan c.Product).isSome=true):(ol plan l imp c S).length≤64:=by
 obtain ⟨hq1,hq,_⟩:=kC hv h
 unfold ol
 have h1:=FV (lt:=bu) ((fm plan (kL l c.Agreement) (eU l c.Agreement (bO plan c.Product).Country imp) S (bO plan c.Product)).filterMap (·.2))
 have h2:=List.length_filterMap_le (fun x:Zk×Option Za=>x.2) (fm plan (kL l c.Agreement) (eU l c.Agreement (bO plan c.Product).Country imp) S (bO plan c.Product))
 have h3:=o6 hv (kL l c.Agreement) (eU l c.Agreement (bO plan c.Product).Country imp) S hq
 omega
theorem oo {p:List Zc} {l:List Zb} {i:ByteArray} {c:Za} (h:jd p l i c=true):(dj p c.Product).isSome=true:=by
 obtain ⟨q,a,r,e,_⟩:=om h;rw [e];rfl
def xw (n:Int):Zo:=⟨n / 18446744073709551616,n % 18446744073709551616⟩
def U128 (n:Int):Prop:=0≤n∧n<340282366920938463463374607431768211456
theorem xw_of {w:Zo} (h:XW w):w=xw (xv w)∧U128 (xv w):=by
 obtain ⟨a,b⟩:=w
 unfold XW U64 at h;unfold xw xv U128;dsimp only at *
 refine ⟨?_,by omega⟩
 congr 1 <;> omega
theorem xmul {a b:Int} (ha:U64 a) (hb:U64 b):jR a b=some (xw (a*b))∧U128 (a*b):=by
 obtain ⟨w,e1,e2,e3⟩:=xD ha hb
 have:=xw_of e2
 rw [e3] at this
 rw [e1];exact ⟨congrArg some this.1,this.2⟩
theorem xcmp {a b:Int} (ha:U128 a) (hb:U128 b):gC (xw a) (xw b)=some (if a<b then -1 else if a=b then 0 else 1):=by
 unfold U128 at *
 unfold gC xw Zo.eqb
 dsimp only
 by_cases h:a<b
 ·have:((decide (a / 18446744073709551616<b / 18446744073709551616))||((a / 18446744073709551616 == b / 18446744073709551616)&&(decide (a % 18446744073709551616<b % 18446744073709551616))))=true:=by
   simp only [Bool.or_eq_true,Bool.and_eq_true,decide_eq_true_eq,beq_iff_eq];omega
  rw [this,if_pos h];rfl
 ·have:((decide (a / 18446744073709551616<b / 18446744073709551616))||((a / 18446744073709551616 == b / 18446744073709551616)&&(decide (a % 18446744073709551616<b % 18446744073709551616))))=false:=by
   simp only [Bool.or_eq_false_iff,Bool.and_eq_false_iff,decide_eq_false_iff_not,beq_eq_false_iff_ne];omega
  rw [this,if_neg h]
  simp only [bB]
  by_cases h2:a=b
  ·subst h2;simp
  rw [if_neg h2]
  have:((a / 18446744073709551616 == b / 18446744073709551616)&&(a % 18446744073709551616 == b % 18446744073709551616))=false:=by
   simp only [Bool.and_eq_false_iff,beq_eq_false_iff_ne];omega
  simp [this]
theorem t6 {v s p:Int} (hv:0≤v∧v≤100000000000000) (hs:0≤s∧s≤1000000) (hp:0≤p∧p≤1000000000000):jV v s p=some (decide (v*1000000≤s*p)):=by
 unfold jV
 rw [fE (a:=v) ⟨by omega,by omega⟩,fE (a:=s) ⟨by omega,by omega⟩,fE (a:=p) ⟨by omega,by omega⟩]
 obtain ⟨e1,u1⟩:=xmul (a:=v) (b:=1000000) ⟨by omega,by omega⟩ ⟨by omega,by omega⟩
 obtain ⟨e2,u2⟩:=xmul (a:=s) (b:=p) ⟨by omega,by omega⟩ ⟨by omega,by omega⟩
 rw [e1,bc,e2,bc,xcmp u1 u2,bc]
 congr 1
 by_cases h:v*1000000<s*p
 ·rw [if_pos h,det (by omega),det (by omega)]
 rw [if_neg h]
 by_cases h2:v*1000000=s*p
 ·rw [if_pos h2,det (by omega),det (by omega)]
 rw [if_neg h2,bF (by omega),bF (by omega)]
def qE (r:Zd) (code inp:ByteArray):Bool:=iv inp (code.extract 0 r.Digits.toNat)||r.Except.any fun x=>iv inp x
theorem F6 (l:List ByteArray) (s:ByteArray) (hl:l.length≤140737488355328):cr l (fun y=>gp y s)=some (l.any fun x=>iv s x):=by
 unfold cr
 have e:cM l (fun y=>gp y s)=some (match cA (fun k x=>cond (iv s x) (some (Sum.inr (k:Int):Unit⊕Int)) none) l 0 with | some (.inr k)=>k | _ => -1):=by
  unfold cM
  refine (bD (l:=l) (by omega) (fun k x=>cond (iv s x) (some (.inr (k:Int))) none) (.inl ()) (fun k hk=>?_) (by simp only [cT,bB])).trans ?_
  ·simp only [ic hk,bS,aQ hk,bc,bP hk (show l.length≤4611686018427387904 by omega)]
   unfold gp
   rw [tn,bc,bc];cases iv s l[k] <;> rfl
  cases cA (fun k x=>cond (iv s x) (some (Sum.inr (k:Int):Unit⊕Int)) none) l 0 with
  | none=>rfl
  | some t=>cases t <;> rfl
 rw [e,bc]
 rcases qv (fun x=>iv s x) (fun k=>(Sum.inr (k:Int):Unit⊕Int)) l 0 with ⟨h1,h2⟩ | ⟨j,hj,h1,h2⟩
 ·rw [h1]
  have:(l.any fun x=>iv s x)=false:=by rw [List.any_eq_false];exact fun x hx=>by have:=List.find?_eq_none.1 h2 x hx;simpa using this
  rw [this];rfl
 rw [h1]
 have:(l.any fun x=>iv s x)=true:=by
  rw [List.any_eq_true];exact ⟨_,List.getElem_mem hj,List.find?_some h2⟩
 rw [this]
 show some (decide (0≤((0+j:Nat):Int)))=_
 rw [det (by omega)]
theorem rR {s:ByteArray} (h:6≤d9 s):6≤s.size:=by
 unfold d9 at h
 split at h
 ·omega
 omega
theorem wU {r:Zd} {code:ByteArray} (hd:r.Digits=2∨r.Digits=4∨r.Digits=6) (he:r.Except.length≤6) (hc:6≤d9 code) (inp:ByteArray):iD r code inp=some (qE r code inp):=by
 unfold iD qE
 have hs:=rR hc
 have e:kg code 0 r.Digits=some (code.extract 0 r.Digits.toNat):=by
  unfold kg;rw [if_pos (by omega)];rfl
 rw [e,bc,tn,bc]
 cases iv inp (code.extract 0 r.Digits.toNat)
 ·simp only [bB,Bool.false_or];rw [F6 _ _ (by omega),bc]
 rfl
def wS (f:Zk→Int):List Zk→Int
 | []=>0
 | i::l=>cond i.Originating 0 (f i)+wS f l
def fV (i:Zk):Int:=i.Value
def fW (r:Zd) (code:ByteArray) (i:Zk):Int:=cond (qE r code i.Code) i.Value 0
def fN (_:Zk):Int:=1
def jD (r:Zd) (x:Zl):Bool :=
 cond (r.Kind == 1) (x.Obtained&&(wS fN x.Inputs == 0)) (cond (r.Kind == 2) (decide (wS (fW r x.Code) x.Inputs*1000000≤r.Tolerance*x.Price)) (cond (r.Kind == 3) (decide (wS fV x.Inputs*1000000≤r.Limit*x.Price)) (cond (r.Kind == 4) (lZ x.Processes r.Name) false)))
theorem qF {f:Zk→Int} {b:Int} (hb:0≤b):∀ {l:List Zk},(∀ i∈l,0≤f i∧f i≤b)→0≤wS f l∧wS f l≤l.length*b
 | [],_=>by simp [wS]
 | i::l,h=>by
  have h1:=qF hb (l:=l) fun j hj=>h j (by simp [hj])
  have h2:=h i (by simp)
  rw [wS,List.length_cons]
  have e:((l.length+1:Nat):Int)*b=l.length*b+b:=by rw [Int.natCast_add,Int.add_mul];simp
  rw [e]
  cases i.Originating
  ·simp only [bB];omega
  simp only [bS];omega
theorem prog_holds {r:Zd} {x:Zl} (hx:VCase x) (hr:dH r=true):rule_holds r x=some (jD r x):=by
 unfold rule_holds
 have hfew:=hx.few
 have hrl:=jZ hr
 have hvi:r.Kind=2→∀ i,iD r x.Code i=some (qE r x.Code i):=by
  intro hk i
  have hl:=hr
  rw [gW,hk] at hl
  simp only [jY,hk,Bool.and_eq_true] at hl
  have h3:=hl.2
  simp at h3
  exact wU (by omega) hrl.2.2 hx.lvl i
 refine (cE (l:=x.Inputs) (by omega) (fun i (s:Int×Int×Int)=>(s.1,s.2.1,s.2.2,i)) (fun s i=>(s.1+cond i.Originating 0 (fV i),s.2.1+cond i.Originating 0 (cond (r.Kind == 2) (fW r x.Code i) 0),s.2.2+cond i.Originating 0 (fN i))) (fun s=>s) (fun k s=>(0≤s.1∧s.1≤k*1000000000000)∧(0≤s.2.1∧s.2.1≤k*1000000000000)∧(0≤s.2.2∧s.2.2≤k)) (0,0,0) ⟨by simp,by simp,by simp⟩ (fun k hk s hs=>?_) (fun s _=>by simp only [cT,bB])).1.trans ?_
 ·obtain ⟨a,b,c⟩:=s
  obtain ⟨s1,s2,s3⟩:=hs
  dsimp only at s1 s2 s3 ⊢
  have hi:=hx.inp _ (List.getElem_mem hk)
  have hk100:k<100:=by omega
  simp only [ic hk,bS,aQ hk,bc,bP hk (show x.Inputs.length≤4611686018427387904 by omega)]
  generalize x.Inputs[k]=i at hi
  unfold fV fN fW
  cases i.Originating
  ·simp only [bB]
   cases hk2:(r.Kind == 2)
   ·simp only [jm,bc,Bool.false_and,bB]
    rw [cP (r:=a+i.Value) (by omega) (by omega),cP (r:=c+1) (by omega) (by omega)]
    refine ⟨by simp,⟨by omega,by omega⟩,⟨by omega,by omega⟩,by omega,by omega⟩
   rw [co,hvi (eq_of_beq hk2),bc]
   cases qE r x.Code i.Code
   ·simp only [Bool.and_false,bB,bc,bS]
    rw [cP (r:=a+i.Value) (by omega) (by omega),cP (r:=c+1) (by omega) (by omega)]
    refine ⟨by simp,⟨by omega,by omega⟩,⟨by omega,by omega⟩,by omega,by omega⟩
   simp only [Bool.and_self,bS,bc]
   rw [cP (r:=a+i.Value) (by omega) (by omega),cP (r:=c+1) (by omega) (by omega),cP (r:=b+i.Value) (by omega) (by omega)]
   refine ⟨rfl,⟨by omega,by omega⟩,⟨by omega,by omega⟩,by omega,by omega⟩
  simp only [bS,bc,Int.add_zero]
  refine ⟨trivial,⟨by omega,by omega⟩,⟨by omega,by omega⟩,by omega,by omega⟩
 have key:∀ (l:List Zk) (a b c:Int),l.foldl (fun (s:Int×Int×Int) i=>(s.1+cond i.Originating 0 (fV i),s.2.1+cond i.Originating 0 (cond (r.Kind == 2) (fW r x.Code i) 0),s.2.2+cond i.Originating 0 (fN i))) (a,b,c)=(a+wS fV l,b+wS (fun i=>cond (r.Kind == 2) (fW r x.Code i) 0) l,c+wS fN l):=by
  intro l
  induction l with
  | nil=>intro a b c;simp [wS]
  | cons i l ih=>intro a b c;rw [List.foldl_cons,ih];simp only [wS,Int.add_assoc]
 rw [key]
 dsimp only
 have hv:0≤wS fV x.Inputs∧wS fV x.Inputs≤100000000000000:=by
  have:=qF (f:=fV) (b:=1000000000000) (by omega) (l:=x.Inputs) fun i hi=>(hx.inp i hi).2
  omega
 have hw:0≤wS (fW r x.Code) x.Inputs∧wS (fW r x.Code) x.Inputs≤100000000000000:=by
  have:=qF (f:=fW r x.Code) (b:=1000000000000) (by omega) (l:=x.Inputs) fun i hi=>by
   have:=(hx.inp i hi).2
   unfold fW;cases qE r x.Code i.Code
   ·simp only [bB];omega
   exact this
  omega
 have hp:=hx.price
 unfold jD
 have hl:=hr
 rw [gW] at hl
 unfold jY Fy at hl
 simp only [Int.zero_add]
 cases h1:(r.Kind == 1)
 ·cases h2:(r.Kind == 2)
  ·cases h3:(r.Kind == 3)
   ·simp only [bB]
    cases h4:(r.Kind == 4)
    ·rfl
    simp only [bS];rw [so _ _ hx.proc.2.1];rfl
   have hk:=eq_of_beq h3
   rw [hk] at hl
   simp at hl
   simp only [bB,bS]
   rw [t6 hv hl.2 (by omega)];rfl
  have hk:=eq_of_beq h2
  rw [hk] at hl
  simp at hl
  simp only [bB,bS]
  rw [t6 hw (by omega) (by omega)];rfl
 simp only [bS]
mutual
def tt:Zd→Zg
 | ⟨k,d,e,t,m,n,l⟩=>cond (k == 5) (.every_ (tts l)) (cond (k == 6) (.some_ (tts l)) (.single_ ⟨⟨k,d,e,t,m,n,l⟩⟩))
def tts:List Zd→List Zg
 | []=>[]
 | a::l=>tt a::tts l
end
theorem CT:∀ l:List Zd,tts l=l.map tt
 | []=>by rw [tts];rfl
 | a::l=>by rw [tts,CT l];rfl
theorem F7 (r:Zd):tt r=cond (r.Kind == 5) (.every_ (r.Args.map tt)) (cond (r.Kind == 6) (.some_ (r.Args.map tt)) (.single_ ⟨r⟩)):=by
 cases r;rw [tt,CT]
theorem sy:∀ {l:List Zd} {a:Zd},a∈l→pD a≤nL l
 | b::l,a,h=>by
  rw [nL]
  rcases List.mem_cons.1 h with rfl | h
  ·omega
  have:=sy h;omega
theorem Ay (n:Nat):∀ r:Zd,dH r=true→tm r≤n→iC n r=some (tt r):=by
 induction n with
 | zero=>intro r _ hd;rw [kx] at hd;omega
 | succ n ih =>
  intro r hr hd
  obtain ⟨hl,ha,_⟩:=jZ hr
  show jz (iC n) r=_
  unfold jz
  refine (cE (l:=r.Args) (by omega) (fun i (s:List Zg)=>(s,i)) (fun s x=>s++[tt x]) (fun s=>s) (fun k s=>s.length=k) [] rfl (fun k hk s hs=>?_) (fun s _=>by simp only [cT,bB])).1.trans ?_
  ·simp only [ic hk,bS,aQ hk,bc,bP hk (show r.Args.length≤4611686018427387904 by omega)]
   rw [ih _ (ha _ (List.getElem_mem hk)) (by have:=iJ (List.getElem_mem hk);omega),bc,cI (by simp;omega) (by simp;omega)]
   exact ⟨rfl,by simp [hs]⟩
  have key:∀ (l:List Zd) (a:List Zg),l.foldl (fun s x=>s++[tt x]) a=a++l.map tt:=by
   intro l
   induction l with
   | nil=>intro a;simp
   | cons x l ih=>intro a;rw [List.foldl_cons,ih];simp
  rw [key,List.nil_append,F7]
  cases (r.Kind == 5) <;> cases (r.Kind == 6) <;> rfl
section
variable (x:Zl)
mutual
def kD:Zd→Option (List Int)
 | ⟨k,d,e,t,m,n,l⟩=>cond (k == 5) (jE l) (cond (k == 6) (lr 0 l) (cond (jD ⟨k,d,e,t,m,n,l⟩ x) (some []) none))
def jE:List Zd→Option (List Int)
 | []=>some []
 | a::l=>(kD a).bind fun p=>(jE l).bind fun q=>some (p++q)
def lr (i:Nat):List Zd→Option (List Int)
 | []=>none
 | a::l=>match kD a with
  | some p=>some ((i:Int)::p)
  | none=>lr (i+1) l
end
end
theorem yS (x:Zl) (r:Zd):kD x r=cond (r.Kind == 5) (jE x r.Args) (cond (r.Kind == 6) (lr x 0 r.Args) (cond (jD r x) (some []) none)):=by
 cases r;rw [kD]
mutual
theorem sA (x:Zl):∀ (r:Zd) (p:List Int),kD x r=some p→p.length≤pD r
 | ⟨k,d,e,t,m,n,l⟩,p,h=>by
  rw [kD] at h
  rw [pD]
  cases h5:(k == 5)
  ·rw [h5] at h
   simp only [bB] at h
   cases h6:(k == 6)
   ·rw [h6] at h
    simp only [bB] at h
    cases hh:jD ⟨k,d,e,t,m,n,l⟩ x
    ·rw [hh] at h;cases h
    rw [hh] at h;injection h with h;subst h;simp
   rw [h6] at h
   exact Az x l 0 p h
  rw [h5] at h
  have:=AA x l p h;omega
theorem AA (x:Zl):∀ (l:List Zd) (p:List Int),jE x l=some p→p.length≤nL l
 | [],p,h=>by rw [jE] at h;injection h with h;subst h;simp
 | a::l,p,h=>by
  rw [jE] at h
  rw [nL]
  cases ha:kD x a with
  | none=>rw [ha] at h;cases h
  | some q =>
   rw [ha,bc] at h
   cases hl:jE x l with
   | none=>rw [hl] at h;cases h
   | some s =>
    rw [hl,bc] at h
    injection h with h
    subst h
    have h1:=sA x a q ha
    have h2:=AA x l s hl
    rw [List.length_append];omega
theorem Az (x:Zl):∀ (l:List Zd) (i:Nat) (p:List Int),lr x i l=some p→p.length≤1+nL l
 | [],i,p,h=>by rw [lr] at h;cases h
 | a::l,i,p,h=>by
  rw [lr] at h
  rw [nL]
  cases ha:kD x a with
  | none =>
   rw [ha] at h
   have:=Az x l (i+1) p h;omega
  | some q =>
   rw [ha] at h
   injection h with h
   subst h
   have h1:=sA x a q ha
   rw [List.length_cons];omega
end
theorem concatI (a b:List Int) (h:a.length+b.length≤1000000):fZ [a,b]=some (a++b):=by
 unfold fZ mj
 refine (kj (l:=[a,b]) (by simp) (fun i (s:Nat)=>((s:Int),i)) (fun _ x s=>(.inl (s+x.length):Nat⊕Empty)) (fun (s:Nat)=>(s:Int)) noE (fun k s=>s≤1000000∧s=([a,b].take k).flatten.length) 0 ⟨by omega,rfl⟩ (fun k hk s hs=>⟨?_,fun s' h'=>?_⟩) (fun s _=>by simp only [cT,bB])).trans ?_
 ·have hb:s+([a,b][k]).length≤1000000:=by
   obtain ⟨_,e⟩:=hs
   match k,hk with
   | 0,_=>simp at e;subst e;simp;omega
   | 1,_=>simp at e;subst e;simp;omega
  simp only [ic hk,bS,aQ hk,bc,bP hk (show [a,b].length≤4611686018427387904 by simp),z1]
  rw [cP (by omega) (by omega),bF (by omega)]
  simp only [bB,Int.natCast_add]
 ·injection h' with h'
  obtain ⟨h1,h2⟩:=hs
  subst h'
  match k,hk with
  | 0,_=>simp at h2 ⊢;subst h2;simp;omega
  | 1,_=>simp at h2 ⊢;subst h2;omega
 show Option.bind (Option.bind (Du 8 ((0+a.length+b.length:Nat):Int)) _) _=_
 rw [Bu (by omega) (by omega),bc,bc]
 refine (cE (l:=[a,b]) (by simp) (fun i (s:List Int)=>(s,i)) (fun s x=>s++x) (fun s=>s) (fun k s=>s=([a,b].take k).flatten) [] rfl (fun k hk s hs=>⟨?_,?_⟩) (fun s _=>by simp only [cT,bB])).1.trans ?_
 ·have hb:s.length+([a,b][k]).length≤1000000:=by
   match k,hk with
   | 0,_=>simp at hs;subst hs;simp;omega
   | 1,_=>simp at hs;subst hs;simp;omega
  simp only [ic hk,bS,aQ hk,bc,bP hk (show [a,b].length≤4611686018427387904 by simp)]
  rw [cI (by omega) (by omega)];rfl
 ·match k,hk with
  | 0,_=>simp at hs;subst hs;simp
  | 1,_=>simp at hs;subst hs;simp
 simp
theorem DO (x:Zl) (hx:VCase x) (n:Nat):∀ r:Zd,dH r=true→pD r≤1000→tm r≤n→Irule_test_witness_F n (tt r) x=some (ia [] (kD x r)):=by
 induction n with
 | zero=>intro r _ _ hd;rw [kx] at hd;omega
 | succ n ih =>
  intro r hr hc hd
  obtain ⟨hl,ha,_⟩:=jZ hr
  have hargs:∀ k (hk:k<r.Args.length),Irule_test_witness_F n (tt r.Args[k]) x=some (ia [] (kD x r.Args[k])):=fun k hk=>ih _ (ha _ (List.getElem_mem hk)) (by have:=qr r;have:=sy (List.getElem_mem hk);omega) (by have:=iJ (List.getElem_mem hk);omega)
  have hcl:∀ k (hk:k<r.Args.length) p,kD x r.Args[k]=some p→p.length≤1000:=fun k hk p h=>by have h1:=sA x _ p h;have:=qr r;have:=sy (List.getElem_mem hk);omega
  show Irule_test_witness_B (Irule_test_witness_F n) (tt r) x=_
  rw [F7,yS]
  have hml:(r.Args.map tt).length=r.Args.length:=List.length_map _
  have hmi:∀ k (hk:k<(r.Args.map tt).length),(r.Args.map tt)[k]=tt (r.Args[k]'(by omega)):=fun k hk=>by rw [List.getElem_map]
  cases h5:(r.Kind == 5)
  ·cases h6:(r.Kind == 6)
   ·show jj ⟨r⟩ x=_
    unfold jj
    rw [prog_holds hx hr,bc]
    simp only [bB]
    cases jD r x <;> rfl
   show ji (Irule_test_witness_F n) (r.Args.map tt) x=_
   unfold ji
   refine (bD (l:=r.Args.map tt) (by omega) (fun k t=>match Irule_test_witness_F n t x with | some (p,true)=>some (.inr ((k:Int)::p,true)) | _=>none) (.inl ()) (fun k hk=>?_) (by simp only [cT,bB])).trans ?_
   ·simp only [ic hk,bS,aQ hk,bc,bP hk (show (r.Args.map tt).length≤4611686018427387904 by omega),hmi k hk]
    rw [hargs k (by omega)]
    have:=hcl k (by omega)
    cases hw:kD x (r.Args[k]'(by omega)) with
    | none=>rfl
    | some p =>
     have:=this p hw
     show Option.bind (fZ [[(k:Int)],p]) _=_
     rw [concatI _ _ (by simp;omega)];rfl
   have key:∀ (m:List Zd) (i:Nat),(∀ j (hj:j<m.length),Irule_test_witness_F n (tt m[j]) x=some (ia [] (kD x m[j])))→cA (fun k t=>match Irule_test_witness_F n t x with | some (p,true)=>some (Sum.inr ((k:Int)::p,true):Unit⊕(List Int×Bool)) | _=>none) (m.map tt) i=(lr x i m).map fun p=>Sum.inr (p,true):=by
    intro m
    induction m with
    | nil=>intro i _;rw [lr];rfl
    | cons a m ih =>
     intro i h
     have h0:=h 0 (by simp)
     have h1:=ih (i+1) fun j hj=>h (j+1) (by simpa using hj)
     rw [List.map_cons,cA,lr,h1]
     change Irule_test_witness_F n (tt a) x=some (ia [] (kD x a)) at h0
     rw [h0]
     cases kD x a <;> rfl
   rw [key _ 0 hargs]
   simp only [bB,bS]
   cases lr x 0 r.Args <;> rfl
  show iW (Irule_test_witness_F n) (r.Args.map tt) x=_
  unfold iW
  simp only [bS]
  refine (kj (l:=r.Args.map tt) (by omega) (fun i (s:List Int)=>(s,i)) (fun _ t s=>match Irule_test_witness_F n t x with | some (p,true)=>(.inl (s++p):List Int⊕Unit) | _=>.inr ()) (fun s=>.inl s) (fun _=>.inr ([],false)) (fun k s=>s.length≤k*1000) [] (by simp) (fun k hk s hs=>⟨?_,fun s' h'=>?_⟩) (fun s _=>by simp only [cT,bB])).trans ?_
  ·simp only [ic hk,bS,aQ hk,bc,bP hk (show (r.Args.map tt).length≤4611686018427387904 by omega),hmi k hk]
   rw [hargs k (by omega)]
   have:=hcl k (by omega)
   cases hw:kD x (r.Args[k]'(by omega)) with
   | none=>rfl
   | some p =>
    have:=this p hw
    show Option.bind (app 8 s p) _=_
    rw [cI (by omega) (by omega)];rfl
  ·have h0:=hargs k (by omega)
   have:=hcl k (by omega)
   rw [hmi k hk,h0] at h'
   cases hw:kD x (r.Args[k]'(by omega)) with
   | none=>rw [hw] at h';cases h'
   | some p =>
    have:=this p hw
    rw [hw] at h'
    injection h' with h'
    subst h'
    rw [List.length_append];omega
  have key:∀ (m:List Zd) (i:Nat) (s:List Int),(∀ j (hj:j<m.length),Irule_test_witness_F n (tt m[j]) x=some (ia [] (kD x m[j])))→run (fun _ t s=>match Irule_test_witness_F n t x with | some (p,true)=>(.inl (s++p):List Int⊕Unit) | _=>.inr ()) (m.map tt) i s=match jE x m with | some p=>.inl (s++p) | none=>.inr ():=by
   intro m
   induction m with
   | nil=>intro i s _;rw [jE];simp [run]
   | cons a m ih =>
    intro i s h
    have h0:=h 0 (by simp)
    have h1:=fun s=>ih (i+1) s fun j hj=>h (j+1) (by simpa using hj)
    rw [List.map_cons,jn,jE]
    change Irule_test_witness_F n (tt a) x=some (ia [] (kD x a)) at h0
    rw [h0]
    cases kD x a with
    | none=>rfl
    | some p =>
     show run _ (m.map tt) (i+1) (s++p)=_
     rw [h1,bc]
     cases jE x m with
     | none=>rfl
     | some q=>show Sum.inl (s++p++q)=Sum.inl (s++(p++q));rw [List.append_assoc]
  rw [key _ 0 [] hargs]
  cases jE x r.Args <;> rfl
theorem yT {r:Zd} {x:Zl} (hx:VCase x) (ok:ROk r) (hr:dH r=true) (hc:pD r≤32):oR r x=some (ia [] (kD x r)):=by
 have hd:=oU r
 have hf:FUEL=1267650600228229401496703205376:=rfl
 unfold oR gq
 rw [oe r ok (by omega),(lq r).2 ⟨hc,hr⟩,bc,show ((0:Int) == 0)=true from rfl,co,qD hx,bc,bc]
 show Option.bind (iC FUEL r) _=_
 rw [Ay FUEL r hr (by omega),bc]
 show Option.bind (Irule_test_witness_F FUEL (tt r) x) _=_
 rw [DO x hx FUEL r hr (by omega) (by omega)];rfl
mutual
theorem AB {x y:Zl} (h:∀ r,dH r=true→jD r x=true→jD r y=true):∀ r:Zd,dH r=true→(kD x r).isSome=true→(kD y r).isSome=true
 | ⟨k,d,e,t,m,n,l⟩,hr,hw=>by
  have hl:=hr
  rw [dH] at hl
  rw [kD] at hw ⊢
  cases h5:(k == 5)
  ·rw [h5] at hw hl
   simp only [bB] at hw ⊢
   cases h6:(k == 6)
   ·rw [h6] at hw
    simp only [bB] at hw ⊢
    cases hh:jD ⟨k,d,e,t,m,n,l⟩ x
    ·rw [hh] at hw;cases hw
    rw [h _ hr hh];rfl
   rw [h6] at hw hl
   simp only [Bool.or_true,bS,Bool.and_eq_true] at hl
   exact xI h l 0 0 k hl.2.2 hw
  rw [h5] at hw hl
  simp only [Bool.true_or,bS,Bool.and_eq_true] at hl
  exact xJ h l k hl.2.2 hw
theorem xJ {x y:Zl} (h:∀ r,dH r=true→jD r x=true→jD r y=true):∀ (l:List Zd) (k:Int),oV k l=true→(jE x l).isSome=true→(jE y l).isSome=true
 | [],k,_,_=>by rw [jE];rfl
 | a::l,k,hr,hw=>by
  rw [oV] at hr
  simp only [Bool.and_eq_true] at hr
  rw [jE] at hw ⊢
  have h1:=AB h a hr.1.2
  have h2:=xJ h l k hr.2
  cases ha:kD x a with
  | none=>rw [ha] at hw;cases hw
  | some p =>
   cases hl:jE x l with
   | none=>rw [ha,hl] at hw;cases hw
   | some q =>
    rw [ha] at h1;rw [hl] at h2
    obtain ⟨p',e1⟩:=Option.isSome_iff_exists.1 (h1 rfl)
    obtain ⟨q',e2⟩:=Option.isSome_iff_exists.1 (h2 rfl)
    rw [e1,e2];rfl
theorem xI {x y:Zl} (h:∀ r,dH r=true→jD r x=true→jD r y=true):∀ (l:List Zd) (i j:Nat) (k:Int),oV k l=true→(lr x i l).isSome=true→(lr y j l).isSome=true
 | [],i,j,k,_,hw=>by rw [lr] at hw;cases hw
 | a::l,i,j,k,hr,hw=>by
  rw [oV] at hr
  simp only [Bool.and_eq_true] at hr
  rw [lr] at hw ⊢
  have h1:=AB h a hr.1.2
  cases ha:kD x a with
  | none =>
   rw [ha] at hw
   cases kD y a with
   | none=>exact xI h l (i+1) (j+1) k hr.2 hw
   | some p=>rfl
  | some p =>
   rw [ha] at h1
   obtain ⟨p',e1⟩:=Option.isSome_iff_exists.1 (h1 rfl)
   rw [e1];rfl
end
structure Wt (f:Zk→Int):Prop where
 same:∀ c v a b,f ⟨c,v,a⟩=f ⟨c,v,b⟩
 pos:∀ i:Zk,0≤i.Value→0≤f i
section
variable {γ δ π:Type} [DecidableEq δ] (gc:γ→δ) (cl:π→δ) (pv:(δ→Bool)→γ→Option π)
def ma:Nat→List γ→List π→List π
 | 0,_,ps=>ps
 | n+1,o,ps=>cond (o.filterMap (pv (aZ (ps.map cl)))).isEmpty ps (ma n (o.filter fun g=>(pv (aZ (ps.map cl)) g).isNone) (ps++o.filterMap (pv (aZ (ps.map cl)))))
def sB (G:List γ):Nat→List π→List π
 | 0,ps=>ps
 | n+1,ps=>cond (G.filterMap fun g=>cond (aZ (ps.map cl) (gc g)) none (pv (aZ (ps.map cl)) g)).isEmpty ps (sB G n (ps++G.filterMap fun g=>cond (aZ (ps.map cl) (gc g)) none (pv (aZ (ps.map cl)) g)))
def Closed (G:List γ) (T:δ→Bool):Prop:=∀ g∈G,(pv T g).isSome=true→T (gc g)=true
structure RInv (G o:List γ) (ps:List π):Prop where
 all:∀ g∈G,g∈o∨aZ (ps.map cl) (gc g)=true
 opn:∀ g∈o,g∈G∧aZ (ps.map cl) (gc g)=false
 prv:∀ p∈ps,∃ g∈G,gc g=cl p∧(pv (aZ (ps.map cl)) g).isSome=true
 lst:∀ T,Closed gc pv G T→∀ p∈ps,T (cl p)=true
variable {gc cl pv} (hcl:∀ S g p,pv S g=some p→cl p=gc g)
theorem jF {l:List π} {c:δ}:aZ (l.map cl) c=true↔∃ p∈l,cl p=c:=by rw [gX,List.mem_map]
theorem sC {o:List γ} {f:γ→Option π} (h:(o.filterMap f).isEmpty=false):(o.filter fun g=>(f g).isNone).length<o.length:=by
 induction o with
 | nil=>cases h
 | cons g o ih =>
  rw [List.filter_cons]
  cases hf:f g with
  | some p =>
   have:=List.length_filter_le (fun g=>(f g).isNone) o
   simp only [Option.isNone_some,Bool.false_eq_true,if_false,List.length_cons];omega
  | none =>
   rw [List.filterMap_cons_none hf] at h
   have:=ih h
   simp only [Option.isNone_none,if_true,List.length_cons];omega
include hcl in
theorem BT {G:List γ} (inj:∀ g∈G,∀ g'∈G,gc g=gc g'→g=g'):∀ (n:Nat) (ps:List π),ma cl pv n (G.filter fun g => !aZ (ps.map cl) (gc g)) ps=sB gc cl pv G n ps:=by
 intro n
 induction n with
 | zero=>intro ps;rfl
 | succ n ih =>
  intro ps
  rw [ma,sB]
  have e1:(G.filter fun g => !aZ (ps.map cl) (gc g)).filterMap (pv (aZ (ps.map cl)))=G.filterMap fun g=>cond (aZ (ps.map cl) (gc g)) none (pv (aZ (ps.map cl)) g):=by
   generalize pv (aZ (ps.map cl))=f
   generalize aZ (ps.map cl)=m
   clear ih inj
   induction G with
   | nil=>rfl
   | cons g G ihG =>
    rw [List.filter_cons]
    cases hm:m (gc g)
    ·simp only [Bool.not_false,if_true,List.filterMap_cons,ihG,hm,bB]
    simp only [Bool.not_true,Bool.false_eq_true,if_false,List.filterMap_cons,ihG,hm,bS]
  rw [e1]
  have e2:((G.filter fun g => !aZ (ps.map cl) (gc g)).filter fun g=>(pv (aZ (ps.map cl)) g).isNone)=G.filter fun g => !aZ ((ps++G.filterMap fun g=>cond (aZ (ps.map cl) (gc g)) none (pv (aZ (ps.map cl)) g)).map cl) (gc g):=by
   rw [List.filter_filter]
   refine List.filter_congr fun g hg=>?_
   cases hm:aZ (ps.map cl) (gc g)
   ·cases hp:pv (aZ (ps.map cl)) g with
    | none =>
     cases hq:aZ ((ps++G.filterMap fun g=>cond (aZ (ps.map cl) (gc g)) none (pv (aZ (ps.map cl)) g)).map cl) (gc g)
     ·rfl
     ·obtain ⟨p,k1,k2⟩:=jF.1 hq
      rcases List.mem_append.1 k1 with k1 | k1
      ·rw [jF.2 ⟨p,k1,k2⟩] at hm;cases hm
      ·obtain ⟨g',hg',he⟩:=List.mem_filterMap.1 k1
       cases hm':aZ (ps.map cl) (gc g')
       ·rw [hm'] at he
        have:=inj g' hg' g hg ((hcl _ _ _ he).symm.trans k2)
        subst this
        rw [bB,hp] at he;cases he
       ·rw [hm'] at he;cases he
    | some p =>
     have:aZ ((ps++G.filterMap fun g=>cond (aZ (ps.map cl) (gc g)) none (pv (aZ (ps.map cl)) g)).map cl) (gc g)=true:=jF.2 ⟨p,List.mem_append.2 (.inr (List.mem_filterMap.2 ⟨g,hg,by rw [hm];exact hp⟩)),hcl _ _ _ hp⟩
     rw [this];rfl
   have:aZ ((ps++G.filterMap fun g=>cond (aZ (ps.map cl) (gc g)) none (pv (aZ (ps.map cl)) g)).map cl) (gc g)=true:=by
    obtain ⟨p,k1,k2⟩:=jF.1 hm
    exact jF.2 ⟨p,List.mem_append.2 (.inl k1),k2⟩
   rw [this]
   cases (pv (aZ (ps.map cl)) g).isNone <;> rfl
  rw [e2,ih]
end
abbrev Goal:=Za×Zd
abbrev Prf:=Za×List Int×List Za
def di (plan:List Zc) (l:List Zb) (imp:ByteArray):List Goal:=plan.flatMap fun p=>l.filterMap fun a=>cond (jd plan l imp ⟨p.ID,a.ID⟩) ((dw a p.Code).map fun r=>((⟨p.ID,a.ID⟩:Za),r)) none
def fx (plan:List Zc) (l:List Zb) (imp:ByteArray) (S:CSet) (g:Goal):Option Prf:=(kD (oj plan l imp g.1 S) g.2).map fun path=>(g.1,path,ol plan l imp g.1 S)
def nN (plan:List Zc) (l:List Zb) (imp:ByteArray):List Prf:=ma (fun p:Prf=>p.1) (fx plan l imp) (di plan l imp).length (di plan l imp) []
theorem oq {plan:List Zc} {l:List Zb} {imp:ByteArray} {g:Goal}:g∈di plan l imp↔∃ p∈plan,∃ a∈l,jd plan l imp ⟨p.ID,a.ID⟩=true∧dw a p.Code=some g.2∧g.1=⟨p.ID,a.ID⟩:=by
 unfold di
 rw [List.mem_flatMap]
 constructor
 ·rintro ⟨p,hp,hg⟩
  obtain ⟨a,ha,he⟩:=List.mem_filterMap.1 hg
  cases hc:jd plan l imp ⟨p.ID,a.ID⟩
  ·rw [hc] at he;cases he
  rw [hc,bS] at he
  cases hr:dw a p.Code with
  | none=>rw [hr] at he;cases he
  | some r =>
   rw [hr,Option.map_some] at he
   injection he with he
   subst he
   exact ⟨p,hp,a,ha,hc,hr,rfl⟩
 rintro ⟨p,hp,a,ha,hc,hr,hg⟩
 obtain ⟨c,r⟩:=g
 dsimp only at hr hg
 subst hg
 exact ⟨p,hp,List.mem_filterMap.2 ⟨a,ha,by rw [hc,hr];rfl⟩⟩
theorem yU {α:Type} {f:α→Int} {l:List α} (h:l.Pairwise fun a b=>f a<f b) {a b:α} (ha:a∈l) (hb:b∈l) (e:f a=f b):a=b:=by
 induction l with
 | nil=>cases ha
 | cons x l ih =>
  obtain ⟨h1,h2⟩:=List.pairwise_cons.1 h
  rcases List.mem_cons.1 ha with e1 | ha'
  ·rcases List.mem_cons.1 hb with e2 | hb'
   ·rw [e1,e2]
   have:=h1 b hb';rw [← e1] at this;omega
  rcases List.mem_cons.1 hb with e2 | hb'
  ·have:=h1 a ha';rw [← e2] at this;omega
  exact ih h2 ha' hb'
theorem xK {plan:List Zc} {l:List Zb} {imp:ByteArray} (hv:VPs plan) (hl:AscA l):∀ g∈di plan l imp,∀ g'∈di plan l imp,g.1=g'.1→g=g':=by
 intro g hg g' hg' e
 obtain ⟨p,hp,a,ha,_,hr,h1⟩:=oq.1 hg
 obtain ⟨p',hp',a',ha',_,hr',h1'⟩:=oq.1 hg'
 rw [h1,h1'] at e
 injection e with e1 e2
 have:=yU hv.asc hp hp' e1
 have:=yU hl ha ha' e2
 subst_vars
 rw [hr] at hr'
 injection hr' with hr'
 exact Prod.ext (h1.trans h1'.symm) hr'
theorem wd {a:Zb} (ha:VA a) {code:ByteArray} {r:Zd} (h:dw a code=some r):ROk r∧dH r=true∧pD r≤32:=by
 rcases oY a code with ⟨_,h2⟩ | ⟨j,hj,_,h2⟩
 ·rw [h2] at h;cases h
 rw [h2] at h
 injection h with h
 have h1:=(lq _).1 (ha.rules _ (List.getElem_mem hj))
 have h3:=ha.ok.rules _ (List.getElem_mem hj)
 rw [← h]
 exact ⟨h3.rule,h1.2,h1.1⟩
theorem tu {plan:List Zc} {l:List Zb} {imp:ByteArray} (hl:VAs l) {g:Goal} (hg:g∈di plan l imp):ROk g.2∧dH g.2=true∧pD g.2≤32:=by
 obtain ⟨p,hp,a,ha,_,hr,_⟩:=oq.1 hg
 exact wd (hl.all a ha) hr
theorem we {plan:List Zc} {l:List Zb} {imp:ByteArray} {g:Goal} (hg:g∈di plan l imp):jd plan l imp g.1=true∧(dj plan g.1.Product).isSome=true:=by
 obtain ⟨p,hp,a,ha,hc,_,h1⟩:=oq.1 hg
 rw [h1];exact ⟨hc,oo hc⟩
theorem F8 (plan:List Zc) (l:List Zb) (imp:ByteArray):∀ (S:CSet) (g:Goal) (p:Prf),fx plan l imp S g=some p→p.1=g.1:=by
 intro S g p h
 unfold fx at h
 cases hw:kD (oj plan l imp g.1 S) g.2 with
 | none=>rw [hw] at h;cases h
 | some q=>rw [hw,Option.map_some] at h;injection h with h;rw [← h]
inductive Chp:List Zh→List Zh→Prop
 | nil:Chp [] []
 | cons {x y:Zh} {l m:List Zh} (h1:y.Product=x.Product) (h2:0≤y.Value) (h3:y.Value≤x.Value) (h:Chp l m):Chp (x::l) (y::m)
theorem Chp.empty {l m:List Zh} (h:Chp l m):m.isEmpty=l.isEmpty:=by cases h <;> rfl
theorem Chp.refl:∀ {l:List Zh},(∀ x∈l,0≤x.Value)→Chp l l
 | [],_=>.nil
 | x::l,h=>.cons rfl (h x (by simp)) (Int.le_refl _) (Chp.refl fun y hy=>h y (by simp [hy]))
structure PLe (p q:Zc):Prop where
 id:q.ID=p.ID
 code:q.Code=p.Code
 ctr:q.Country=p.Country
 price:q.Price=p.Price
 obt:q.Obtained=p.Obtained
 proc:q.Processes=p.Processes
 inp:Chp p.Inputs q.Inputs
structure WtM (f:Zk→Int):Prop where
 wt:Wt f
 le:∀ c v w a,0≤v→v≤w→f ⟨c,v,a⟩≤f ⟨c,w,a⟩
section
variable {ps ps':List Int} {S T:CSet} (hps:∀ x∈ps,x∈ps') (hST:∀ c,S c=true→T c=true)
variable {plan plan':List Zc} (hpl:∀ id,(dj plan id).isSome=true→PLe (bO plan id) (bO plan' id))
end
inductive PsLe:List Zc→List Zc→Prop
 | nil:PsLe [] []
 | cons {p q:Zc} {l m:List Zc} (h1:PLe p q) (h:PsLe l m):PsLe (p::l) (q::m)
theorem PsLe.find {l m:List Zc} (h:PsLe l m) (id:Int):(dj l id=none∧dj m id=none)∨∃ p q,dj l id=some p∧dj m id=some q∧PLe p q:=by
 induction h with
 | nil=>exact .inl ⟨rfl,rfl⟩
 | @cons p q l m h1 h ih =>
  unfold dj at ih ⊢
  rw [List.find?_cons,List.find?_cons,h1.id]
  cases p.ID == id
  ·exact ih
  exact .inr ⟨p,q,rfl,rfl,h1⟩
theorem PsLe.mem {l m:List Zc} (h:PsLe l m) {p:Zc} (hp:p∈l):∃ q∈m,PLe p q:=by
 induction h with
 | nil=>cases hp
 | @cons x q l m h1 h ih =>
  rcases List.mem_cons.1 hp with e | hp'
  ·subst e;exact ⟨q,by simp,h1⟩
  obtain ⟨r,k1,k2⟩:=ih hp'
  exact ⟨r,by simp [k1],k2⟩
theorem CU {p:List Zc} {l:List Zb} {i:ByteArray} {c:Za} (h:jd p l i c=true):(j0 l c.Agreement).isSome=true:=by
 unfold jd at h
 cases hf:j0 l c.Agreement with
 | none=>rw [hf] at h;cases hp:dj p c.Product <;> rw [hp] at h <;> cases h
 | some a=>rfl
theorem PLe.refl {plan:List Zc} {p:Zc} (h:VProd plan p):PLe p p:=⟨rfl,rfl,rfl,rfl,rfl,rfl,Chp.refl fun x hx=>(h.inp x hx).2.1⟩
section
variable {plan:List Zc} (R:Int→Bool) (hR:∀ p∈plan,R p.ID=true→∀ y∈p.Inputs,R y.Product=true)
end
section
variable (x:Zl)
mutual
def wf:Zd→List Int→Option (List Int)
 | ⟨k,d,e,t,m,n,l⟩,p=>cond (k == 5) (rb l p) (cond (k == 6) (cond (!p.isEmpty&&decide (0≤p.headD 0)) (o8 l (p.headD 0).toNat p.tail) none) (cond (jD ⟨k,d,e,t,m,n,l⟩ x) (some p) none))
def rb:List Zd→List Int→Option (List Int)
 | [],p=>some p
 | a::l,p=>match wf a p with
  | some q=>rb l q
  | none=>none
def o8:List Zd→Nat→List Int→Option (List Int)
 | [],_,_=>none
 | a::_,0,p=>wf a p
 | _::l,n+1,p=>o8 l n p
end
end
theorem wg (x:Zl):∀ (l:List Zd) (n:Nat) (p:List Int),o8 x l n p=match l[n]? with | some a=>wf x a p | none=>none
 | [],n,p=>by rw [o8];rfl
 | a::l,0,p=>by rw [o8];rfl
 | a::l,n+1,p=>by rw [o8,wg x l n p];rfl
theorem F9 (x:Zl) (r:Zd) (p:List Int):wf x r p=cond (r.Kind == 5) (rb x r.Args p) (cond (r.Kind == 6) (cond (!p.isEmpty&&decide (0≤p.headD 0)) (o8 x r.Args (p.headD 0).toNat p.tail) none) (cond (jD r x) (some p) none)):=by
 cases r;rw [wf]
mutual
theorem CV (x:Zl):∀ (r:Zd) (p q:List Int),wf x r p=some q→(kD x r).isSome=true
 | ⟨k,d,e,t,m,n,l⟩,p,q,h=>by
  rw [wf] at h
  rw [kD]
  cases h5:(k == 5)
  ·rw [h5] at h
   simp only [bB] at h ⊢
   cases h6:(k == 6)
   ·rw [h6] at h
    simp only [bB] at h ⊢
    cases hh:jD ⟨k,d,e,t,m,n,l⟩ x
    ·rw [hh] at h;cases h
    rfl
   rw [h6] at h
   simp only [bS] at h ⊢
   cases hi:(!p.isEmpty&&decide (0≤p.headD 0))
   ·rw [hi] at h;cases h
   rw [hi] at h;exact AC x l _ 0 _ q h
  rw [h5] at h
  exact AD x l p q h
theorem AD (x:Zl):∀ (l:List Zd) (p q:List Int),rb x l p=some q→(jE x l).isSome=true
 | [],p,q,h=>by rw [jE];rfl
 | a::l,p,q,h=>by
  rw [rb] at h
  rw [jE]
  cases ha:wf x a p with
  | none=>rw [ha] at h;cases h
  | some s =>
   rw [ha] at h
   obtain ⟨w,e1⟩:=Option.isSome_iff_exists.1 (CV x a p s ha)
   obtain ⟨v,e2⟩:=Option.isSome_iff_exists.1 (AD x l s q h)
   rw [e1,e2];rfl
theorem AC (x:Zl):∀ (l:List Zd) (n i:Nat) (p q:List Int),o8 x l n p=some q→(lr x i l).isSome=true
 | [],n,i,p,q,h=>by rw [o8] at h;cases h
 | a::l,0,i,p,q,h=>by
  rw [o8] at h
  rw [lr]
  obtain ⟨w,e1⟩:=Option.isSome_iff_exists.1 (CV x a p q h)
  rw [e1];rfl
 | a::l,n+1,i,p,q,h=>by
  rw [o8] at h
  rw [lr]
  cases kD x a with
  | none=>exact AC x l n (i+1) p q h
  | some w=>rfl
end
mutual
theorem CW (x:Zl):∀ (r:Zd) (w t:List Int),kD x r=some w→wf x r (w++t)=some t
 | ⟨k,d,e,u,m,n,l⟩,w,t,h=>by
  rw [kD] at h
  rw [wf]
  cases h5:(k == 5)
  ·rw [h5] at h
   simp only [bB] at h ⊢
   cases h6:(k == 6)
   ·rw [h6] at h
    simp only [bB] at h ⊢
    cases hh:jD ⟨k,d,e,u,m,n,l⟩ x
    ·rw [hh] at h;cases h
    rw [hh] at h;injection h with h;subst h;rfl
   rw [h6] at h
   simp only [bS] at h ⊢
   obtain ⟨j,v,e1,e2⟩:=AE x l 0 w t h
   subst e1
   show cond (true&&decide (0≤((0+j:Nat):Int))) (o8 x l ((0+j:Nat):Int).toNat (v++t)) none=_
   rw [det (by omega),Bool.and_self,bS,show ((0+j:Nat):Int).toNat=j by omega]
   exact e2
  rw [h5] at h
  exact AF x l w t h
theorem AF (x:Zl):∀ (l:List Zd) (w t:List Int),jE x l=some w→rb x l (w++t)=some t
 | [],w,t,h=>by rw [jE] at h;injection h with h;subst h;rw [rb];rfl
 | a::l,w,t,h=>by
  rw [jE] at h
  rw [rb]
  cases ha:kD x a with
  | none=>rw [ha] at h;cases h
  | some p =>
   cases hl:jE x l with
   | none=>rw [ha,hl] at h;cases h
   | some q =>
    rw [ha,hl,bc,bc] at h
    injection h with h
    subst h
    rw [List.append_assoc,CW x a p (q++t) ha]
    exact AF x l q t hl
theorem AE (x:Zl):∀ (l:List Zd) (i:Nat) (w t:List Int),lr x i l=some w→∃ (j:Nat) (v:List Int),w=((i+j:Nat):Int)::v∧o8 x l j (v++t)=some t
 | [],i,w,t,h=>by rw [lr] at h;cases h
 | a::l,i,w,t,h=>by
  rw [lr] at h
  cases ha:kD x a with
  | none =>
   rw [ha] at h
   obtain ⟨j,v,e1,e2⟩:=AE x l (i+1) w t h
   exact ⟨j+1,v,by rw [e1];congr 2;omega,by rw [o8];exact e2⟩
  | some p =>
   rw [ha] at h
   injection h with h
   exact ⟨0,p,h.symm,by rw [o8];exact CW x a p t ha⟩
end
def nO (plan:List Zc) (l:List Zb) (c:Za):Zd:=(dw (kL l c.Agreement) (bO plan c.Product).Code).getD rm
def nP (plan:List Zc) (l:List Zb) (imp:ByteArray) (K:CSet) (p:Prf):Bool :=
 jd plan l imp p.1 && !K p.1&&p.2.2.all K&&decide (ol plan l imp p.1 (aZ p.2.2)=p.2.2)&&decide (wf (oj plan l imp p.1 (aZ p.2.2)) (nO plan l p.1) p.2.1=some [])
theorem Ga {plan:List Zc} {l:List Zb} {imp:ByteArray} {c:Za} (h:jd plan l imp c=true):(c,nO plan l c)∈di plan l imp:=by
 obtain ⟨q,a,r,e1,e2,e3,_⟩:=om h
 have h1:=tq e1
 have h2:a∈l∧a.ID=c.Agreement:=⟨List.mem_of_find?_eq_some e2,by have:=List.find?_some e2;simpa using this⟩
 have ec:c=⟨q.ID,a.ID⟩:=by obtain ⟨x,y⟩:=c;dsimp only at h1 h2;rw [h1.2,h2.2]
 have er:nO plan l c=r:=by unfold nO kL bO;rw [e1,e2];show (dw a q.Code).getD rm=r;rw [e3];rfl
 exact oq.2 ⟨q,h1.1,a,h2.1,by rw [← ec];exact h,by rw [er];exact e3,ec⟩
section
variable {γ π:Type}
end
def kI (plan:List Zc) (l:List Zb) (imp:ByteArray) (S:CSet) (p:Zc) (a:Zb):Option Prf :=
 cond (S ⟨p.ID,a.ID⟩ || !jd plan l imp ⟨p.ID,a.ID⟩) none (fx plan l imp S (⟨p.ID,a.ID⟩,(dw a p.Code).getD rm))
theorem BU {plan:List Zc} (h:VPs plan) {p:Zc} (hp:p∈plan):dj plan p.ID=some p:=by
 cases hf:dj plan p.ID with
 | none =>
  unfold dj at hf
  rw [List.find?_eq_none] at hf
  exact absurd (by simp) (hf p hp)
 | some q =>
  have h1:=tq hf
  rw [yU h.asc h1.1 hp h1.2]
theorem AG {plan:List Zc} {l:List Zb} {imp:ByteArray} (hv:VPs plan) (ha:AscA l) {p:Zc} (hp:p∈plan) {a:Zb} (hal:a∈l) (h:jd plan l imp ⟨p.ID,a.ID⟩=true):∃ r,dw a p.Code=some r:=by
 obtain ⟨q,b,r,e1,e2,e3,_⟩:=om h
 dsimp only at e1 e2
 rw [BU hv hp] at e1
 rw [DI ha hal] at e2
 injection e1 with e1
 injection e2 with e2
 exact ⟨r,by rw [e1,e2];exact e3⟩
theorem wh {plan:List Zc} {l:List Zb} (hv:VPs plan) (ha:AscA l) (imp:ByteArray) (S:CSet):(di plan l imp).filterMap (fun g=>cond (S g.1) none (fx plan l imp S g))=plan.flatMap fun p=>l.filterMap fun a=>kI plan l imp S p a:=by
 have inner:∀ p∈plan,∀ m:List Zb,(∀ a∈m,a∈l)→(m.filterMap fun a=>cond (jd plan l imp ⟨p.ID,a.ID⟩) ((dw a p.Code).map fun r=>((⟨p.ID,a.ID⟩:Za),r)) none).filterMap (fun g=>cond (S g.1) none (fx plan l imp S g))=m.filterMap fun a=>kI plan l imp S p a:=by
  intro p hp m
  induction m with
  | nil=>intro _;rfl
  | cons a m ih =>
   intro hm
   have ih:=ih fun b hb=>hm b (by simp [hb])
   cases hc:jd plan l imp ⟨p.ID,a.ID⟩
   ·rw [List.filterMap_cons_none (by rw [hc];rfl),ih,List.filterMap_cons_none (by unfold kI;rw [hc];cases S ⟨p.ID,a.ID⟩ <;> rfl)]
   obtain ⟨r,hr⟩:=AG hv ha hp (hm a (by simp)) hc
   rw [List.filterMap_cons_some (b:=((⟨p.ID,a.ID⟩:Za),r)) (by rw [hc,hr];rfl)]
   have e:kI plan l imp S p a=cond (S ⟨p.ID,a.ID⟩) none (fx plan l imp S (⟨p.ID,a.ID⟩,r)):=by
    unfold kI;rw [hc,hr];cases S ⟨p.ID,a.ID⟩ <;> rfl
   cases hs:cond (S ⟨p.ID,a.ID⟩) none (fx plan l imp S (⟨p.ID,a.ID⟩,r)) with
   | none=>rw [List.filterMap_cons_none (f:=fun g:Goal=>cond (S g.1) none (fx plan l imp S g)) hs,List.filterMap_cons_none (e.trans hs),ih]
   | some q=>rw [List.filterMap_cons_some (f:=fun g:Goal=>cond (S g.1) none (fx plan l imp S g)) hs,List.filterMap_cons_some (e.trans hs),ih]
 unfold di
 have outer:∀ q:List Zc,(∀ p∈q,p∈plan)→(q.flatMap fun p=>l.filterMap fun a=>cond (jd plan l imp ⟨p.ID,a.ID⟩) ((dw a p.Code).map fun r=>((⟨p.ID,a.ID⟩:Za),r)) none).filterMap (fun g=>cond (S g.1) none (fx plan l imp S g))=q.flatMap fun p=>l.filterMap fun a=>kI plan l imp S p a:=by
  intro q
  induction q with
  | nil=>intro _;rfl
  | cons p q ih =>
   intro hq
   rw [List.flatMap_cons,List.flatMap_cons,List.filterMap_append,inner p (hq p (by simp)) l (fun _ h=>h),ih fun x hx=>hq x (by simp [hx])]
 exact outer plan fun _ h=>h
def j5 (plan:List Zc) (l:List Zb) (imp:ByteArray):Nat→List Prf→List Za→List Prf
  | 0,ps,_=>ps
  | n+1,ps,set=>cond (plan.flatMap fun p=>l.filterMap fun a=>kI plan l imp (aZ set) p a).isEmpty ps
      (j5 plan l imp n (ps++plan.flatMap fun p=>l.filterMap fun a=>kI plan l imp (aZ set) p a) ((plan.flatMap fun p=>l.filterMap fun a=>kI plan l imp (aZ set) p a).foldl (fun t p=>iw bu t p.1) set))
theorem rS:∀ (ps:List Prf) (set:List Za) (c:Za),aZ (ps.foldl (fun t p=>iw bu t p.1) set) c=(aZ set c||aZ (ps.map fun p:Prf=>p.1) c)
 | [],set,c=>by simp [aZ]
 | p::ps,set,c=>by
  rw [List.foldl_cons,rS ps]
  have:aZ (iw bu set p.1) c=(aZ set c||decide (p.1=c)):=by
   cases h:aZ (iw bu set p.1) c
   ·rw [qz,sr] at h
    rw [qz.2 (fun hm=>h (.inr hm)),bF (fun e=>h (.inl e.symm))];rfl
   rw [gX,sr] at h
   rcases h with h | h
   ·rw [det h.symm,Bool.or_true]
   rw [gX.2 h,Bool.true_or]
  rw [this,List.map_cons]
  show _=(aZ set c||(decide (p.1=c)||aZ (ps.map fun p:Prf=>p.1) c))
  rw [Bool.or_assoc]
theorem sD {plan:List Zc} {l:List Zb} (hv:VPs plan) (ha:AscA l) (imp:ByteArray):∀ (n:Nat) (ps:List Prf) (set:List Za),(∀ c,aZ set c=aZ (ps.map fun p:Prf=>p.1) c)→j5 plan l imp n ps set=sB (fun g:Goal=>g.1) (fun p:Prf=>p.1) (fx plan l imp) (di plan l imp) n ps
 | 0,ps,set,_=>rfl
 | n+1,ps,set,h=>by
  have hS:aZ set=aZ (ps.map fun p:Prf=>p.1):=funext h
  rw [j5,sB,hS,← wh hv ha]
  cases ((di plan l imp).filterMap fun g=>cond (aZ (ps.map fun p:Prf=>p.1) g.1) none (fx plan l imp (aZ (ps.map fun p:Prf=>p.1)) g)).isEmpty
  ·simp only [bB]
   refine sD hv ha imp n _ _ fun c=>?_
   rw [rS,h,List.map_append]
   unfold aZ;rw [List.any_append]
  rfl
theorem uu {plan:List Zc} {l:List Zb} (hv:VPs plan) (ha:AscA l) (imp:ByteArray):j5 plan l imp (di plan l imp).length [] []=nN plan l imp:=by
 rw [sD hv ha imp _ [] [] (fun _=>rfl),← BT (F8 plan l imp) (xK hv ha)]
 unfold nN
 congr 1
 exact List.filter_eq_self.2 fun _ _=>rfl
section
variable (ps:List Prf)
def wi (d:Za):Option Nat:=ps.findIdx? fun p=>decide (p.1=d)
inductive Reach (c:Za):Za→Prop
 | base:Reach c c
 | step {d e:Za} {i:Nat} {p:Prf} (h:Reach c d) (h1:wi ps d=some i) (h2:ps[i]?=some p) (h3:e∈p.2.2):Reach c e
variable {ps} {c:Za}
def TCov (ps:List Prf) (nd:List Bool) (todo:List Za) (e:Za):Prop:=e∈todo∨∃ j,wi ps e=some j∧nd[j]?=some true
structure Zw (ps:List Prf) (c:Za) (nd:List Bool) (todo:List Za):Prop where
 len:nd.length=ps.length
 tr:∀ d∈todo,Reach ps c d
 nr:∀ i:Nat,nd[i]?=some true→∃ d,Reach ps c d∧wi ps d=some i
 cl:∀ (i:Nat) p,nd[i]?=some true→ps[i]?=some p→∀ e∈p.2.2,TCov ps nd todo e
 st:TCov ps nd todo c
structure NInv (ps:List Prf) (c:Za) (need:List Za) (k:Nat):Prop where
 rr:∀ d∈need,Reach ps c d
 st:c∈need
 nd:need.Nodup
 cl:∀ (j:Nat),j<k→∀ d,need[j]?=some d→∃ i p,wi ps d=some i∧ps[i]?=some p∧∀ e∈p.2.2,e∈need
end
def rw' (n:Int):Zm:=⟨n / 18446744073709551616,n % 18446744073709551616⟩
theorem rw_of {w:Zm} (h:RW w):w=rw' (rv w)∧U128 (rv w):=by
 obtain ⟨a,b⟩:=w
 unfold RW U64 at h;unfold rw' rv U128;dsimp only at *
 refine ⟨?_,by omega⟩
 congr 1 <;> omega
theorem rmul {a b:Int} (ha:U64 a) (hb:U64 b):jT a b=some (rw' (a*b))∧U128 (a*b):=by
 obtain ⟨w,e1,e2,e3⟩:=CN ha hb
 have:=rw_of e2
 rw [e3] at this
 rw [e1];exact ⟨congrArg some this.1,this.2⟩
theorem rless {a b:Int} (ha:U128 a) (hb:U128 b):ll (rw' a) (rw' b)=some (decide (a<b)):=by
 unfold U128 at *
 unfold ll rw'
 dsimp only
 congr 1
 by_cases h:a<b
 ·rw [det h];simp only [Bool.or_eq_true,Bool.and_eq_true,decide_eq_true_eq,beq_iff_eq];omega
 rw [bF h];simp only [Bool.or_eq_false_iff,Bool.and_eq_false_iff,decide_eq_false_iff_not,beq_eq_false_iff_ne];omega
theorem wj {v s p:Int} (hv:0≤v∧v≤100000000000000) (hs:0≤s∧s≤1000000) (hp:0≤p∧p≤1000000000000):i7 v s p=some (decide (v*1000000≤s*p)):=by
 unfold i7
 rw [fE (a:=v) ⟨by omega,by omega⟩,fE (a:=s) ⟨by omega,by omega⟩,fE (a:=p) ⟨by omega,by omega⟩]
 obtain ⟨e1,u1⟩:=rmul (a:=v) (b:=1000000) ⟨by omega,by omega⟩ ⟨by omega,by omega⟩
 obtain ⟨e2,u2⟩:=rmul (a:=s) (b:=p) ⟨by omega,by omega⟩ ⟨by omega,by omega⟩
 rw [e1,bc,e2,bc]
 unfold nw
 rw [rless u1 u2,rless u2 u1]
 simp only [bc]
 by_cases h:v*1000000<s*p
 ·rw [det h]
  simp only [bS,bc]
  rw [det (by omega),det (by omega)]
 rw [bF h]
 by_cases h2:s*p<v*1000000
 ·rw [det h2]
  simp only [bB,bS,bc]
  rw [bF (by omega),bF (by omega)]
 rw [bF h2]
 simp only [bB,bc]
 rw [det (by omega),det (by omega)]
theorem yV {r:Zd} {x:Zl} {i:Zk} (hd:r.Digits=2∨r.Digits=4∨r.Digits=6) (he:r.Except.length≤6) (hc:6≤d9 x.Code) (hi:6≤d9 i.Code):gU r x i=some (qE r x.Code i.Code):=by
 unfold gU qE
 have hs:=rR hc
 have hs2:=rR hi
 have e:kg x.Code 0 r.Digits=some (x.Code.extract 0 r.Digits.toNat):=by unfold kg;rw [if_pos (by omega)];rfl
 have e2:kg i.Code 0 r.Digits=some (i.Code.extract 0 r.Digits.toNat):=by unfold kg;rw [if_pos (by omega)];rfl
 have hsz:(x.Code.extract 0 r.Digits.toNat).size=r.Digits.toNat:=by rw [ByteArray.size_extract];omega
 have ep:iv i.Code (x.Code.extract 0 r.Digits.toNat)=decide (i.Code.extract 0 r.Digits.toNat=x.Code.extract 0 r.Digits.toNat):=by
  unfold iv;rw [hsz,det (by omega),Bool.true_and]
 rw [e2,bc,e,bc,ep]
 cases decide (i.Code.extract 0 r.Digits.toNat=x.Code.extract 0 r.Digits.toNat)
 ·simp only [bB,Bool.false_or]
  refine (bD (l:=r.Except) (by omega) (fun _ x=>cond (iv i.Code x) (some (.inr true)) none) (.inl ()) (fun k hk=>?_) (by simp only [cT,bB])).trans ?_
  ·simp only [ic hk,bS,aQ hk,bc,bP hk (show r.Except.length≤4611686018427387904 by omega),Ap]
   cases iv i.Code r.Except[k] <;> rfl
  rw [qM (fun x=>iv i.Code x) (Sum.inr true:Unit⊕Bool)]
  cases r.Except.any fun x=>iv i.Code x <;> rfl
 rfl
mutual
theorem AH (x:Zl):∀ l:List Zd,(jE x l).isSome=l.all fun a=>(kD x a).isSome
 | []=>by rw [jE];rfl
 | a::l=>by
  have h:=AH x l
  rw [jE,List.all_cons,← h]
  cases kD x a with
  | none=>rfl
  | some p=>cases jE x l <;> rfl
theorem AI (x:Zl):∀ (l:List Zd) (i:Nat),(lr x i l).isSome=l.any fun a=>(kD x a).isSome
 | [],i=>by rw [lr];rfl
 | a::l,i=>by
  have h:=AI x l (i+1)
  rw [lr,List.any_cons,← h]
  cases kD x a <;> rfl
end
def yW {α:Type} (p:α→Bool):List α→Nat
 | []=>0
 | a::l=>cond (p a) 1 0+yW p l
theorem CX {α:Type} (p:α→Bool):∀ l:List α,yW p l≤l.length
 | []=>Nat.le_refl _
 | a::l=>by have:=CX p l;rw [yW,List.length_cons];cases p a <;> simp <;> omega
theorem AJ {α:Type} (p:α→Bool):∀ l:List α,(yW p l == l.length)=l.all p
 | []=>rfl
 | a::l=>by
  have h:=AJ p l
  have hle:=CX p l
  rw [yW,List.length_cons,List.all_cons,← h]
  cases p a
  ·rw [bB,Bool.false_and,beq_eq_false_iff_ne];omega
  rw [bS,Bool.true_and,Bool.eq_iff_iff,beq_iff_eq,beq_iff_eq];omega
theorem AK {α:Type} (p:α→Bool):∀ l:List α,decide (0<yW p l)=l.any p
 | []=>rfl
 | a::l=>by
  have h:=AK p l
  rw [yW,List.any_cons,← h]
  cases p a
  ·rw [bB,Bool.false_or];exact decide_eq_decide.2 (by omega)
  rw [bS,Bool.true_or];exact det (by omega)
theorem AL (x:Zl) (hx:VCase x) (n:Nat):∀ r:Zd,dH r=true→tm r≤n→lx n r x=some (kD x r).isSome:=by
 induction n with
 | zero=>intro r _ hd;rw [kx] at hd;omega
 | succ n ih =>
  intro r hr hd
  obtain ⟨hl,ha,he⟩:=jZ hr
  have hfew:=hx.few
  show jv (lx n) r x=_
  unfold jv
  have hvi:r.Kind=2→∀ i∈x.Inputs,gU r x i=some (qE r x.Code i.Code):=by
   intro hk i hi
   have h:=hr
   rw [gW,hk] at h
   simp only [jY,hk,Bool.and_eq_true] at h
   have h3:=h.2
   simp at h3
   exact yV (by omega) he hx.lvl (hx.inp i hi).1
  refine (cE (l:=x.Inputs) (by omega) (fun i (s:Int×Int)=>(s.1,s.2,i)) (fun s i=>(s.1+cond i.Originating 0 (cond (r.Kind == 3) (fV i) (cond (r.Kind == 2) (fW r x.Code i) 0)),s.2+cond i.Originating 0 (fN i))) (fun s=>s) (fun k s=>(0≤s.1∧s.1≤k*1000000000000)∧(0≤s.2∧s.2≤k)) (0,0) ⟨by simp,by simp⟩ (fun k hk s hs=>?_) (fun s _=>by simp only [cT,bB])).1.trans ?_
  ·obtain ⟨a,b⟩:=s
   obtain ⟨s1,s2⟩:=hs
   dsimp only at s1 s2 ⊢
   have hmem:=List.getElem_mem hk
   have hi:=hx.inp _ hmem
   have hk100:k<100:=by omega
   simp only [ic hk,bS,aQ hk,bc,bP hk (show x.Inputs.length≤4611686018427387904 by omega)]
   generalize x.Inputs[k]=i at hi hmem
   unfold fV fN fW
   cases i.Originating
   ·simp only [bB]
    cases hk3:(r.Kind == 3)
    ·cases hk2:(r.Kind == 2)
     ·simp only [Bool.not_false,Bool.and_false,jm,bc,Bool.false_and,Bool.or_self,bB,Int.add_zero]
      rw [cP (r:=b+1) (by omega) (by omega)]
      exact ⟨rfl,⟨by omega,by omega⟩,by omega,by omega⟩
     simp only [Bool.not_false,Bool.and_self,co,Bool.false_or,Bool.true_and]
     rw [hvi (eq_of_beq hk2) i hmem,bc]
     cases qE r x.Code i.Code
     ·simp only [bB,bS,bc,Int.add_zero]
      rw [cP (r:=b+1) (by omega) (by omega)]
      exact ⟨rfl,⟨by omega,by omega⟩,by omega,by omega⟩
     simp only [bS,bB,bc]
     rw [cP (r:=b+1) (by omega) (by omega),cP (r:=a+i.Value) (by omega) (by omega)]
     exact ⟨rfl,⟨by omega,by omega⟩,by omega,by omega⟩
    simp only [Bool.not_true,Bool.false_and,jm,bc,Bool.true_or,bS]
    rw [cP (r:=b+1) (by omega) (by omega),cP (r:=a+i.Value) (by omega) (by omega)]
    exact ⟨rfl,⟨by omega,by omega⟩,by omega,by omega⟩
   simp only [bS,bc,Int.add_zero]
   exact ⟨trivial,⟨by omega,by omega⟩,by omega,by omega⟩
  have key:∀ (l:List Zk) (a b:Int),l.foldl (fun (s:Int×Int) i=>(s.1+cond i.Originating 0 (cond (r.Kind == 3) (fV i) (cond (r.Kind == 2) (fW r x.Code i) 0)),s.2+cond i.Originating 0 (fN i))) (a,b)=(a+wS (fun i=>cond (r.Kind == 3) (fV i) (cond (r.Kind == 2) (fW r x.Code i) 0)) l,b+wS fN l):=by
   intro l
   induction l with
   | nil=>intro a b;simp [wS]
   | cons i l ih=>intro a b;rw [List.foldl_cons,ih];simp only [wS,Int.add_assoc]
  rw [key]
  dsimp only
  simp only [Int.zero_add]
  refine (cE (l:=r.Args) (by omega) (fun i (s:Nat)=>((s:Int),i)) (fun s a=>s+cond (kD x a).isSome 1 0) (fun s=>(s:Int)) (fun k s=>s≤k) 0 (Nat.le_refl _) (fun k hk s hs=>?_) (fun s _=>by simp only [cT,bB])).1.trans ?_
  ·simp only [ic hk,bS,aQ hk,bc,bP hk (show r.Args.length≤4611686018427387904 by omega)]
   rw [ih _ (ha _ (List.getElem_mem hk)) (by have:=iJ (List.getElem_mem hk);omega),bc]
   cases (kD x r.Args[k]).isSome
   ·exact ⟨rfl,by simp;omega⟩
   simp only [bS,bc]
   rw [cP (by omega) (by omega)]
   exact ⟨rfl,by omega⟩
  have key2:∀ (l:List Zd) (s:Nat),l.foldl (fun s a=>s+cond (kD x a).isSome 1 0) s=s+yW (fun a=>(kD x a).isSome) l:=by
   intro l
   induction l with
   | nil=>intro s;rfl
   | cons a l ih=>intro s;rw [List.foldl_cons,ih,yW];omega
  rw [key2,Nat.zero_add,yS]
  have hv:0≤wS fV x.Inputs∧wS fV x.Inputs≤100000000000000:=by
   have:=qF (f:=fV) (b:=1000000000000) (by omega) (l:=x.Inputs) fun i hi=>(hx.inp i hi).2
   omega
  have hw:0≤wS (fW r x.Code) x.Inputs∧wS (fW r x.Code) x.Inputs≤100000000000000:=by
   have:=qF (f:=fW r x.Code) (b:=1000000000000) (by omega) (l:=x.Inputs) fun i hi=>by
    have:=(hx.inp i hi).2
    unfold fW;cases qE r x.Code i.Code
    ·simp only [bB];omega
    exact this
   omega
  have hp:=hx.price
  have hb:=hr
  rw [gW] at hb
  unfold jY Fy at hb
  unfold jD
  have fin:∀ b:Bool,(some b:Option Bool)=some ((cond b (some ([]:List Int)) none).isSome):=fun b=>by cases b <;> rfl
  cases h1:(r.Kind == 1)
  ·cases h2:(r.Kind == 2)
   ·cases h3:(r.Kind == 3)
    ·cases h4:(r.Kind == 4)
     ·cases h5:(r.Kind == 5)
      ·cases h6:(r.Kind == 6)
       ·rw [h1,h2,h3,h4,h5,h6] at hb;simp at hb
       simp only [bB,bS]
       rw [AI,← AK]
       congr 1
       exact decide_eq_decide.2 (by omega)
      simp only [bB,bS]
      rw [AH,← AJ]
      congr 1
      rw [Bool.eq_iff_iff,beq_iff_eq,beq_iff_eq];omega
     have hk:=eq_of_beq h4
     rw [hk]
     simp only [bB,bS]
     rw [qP _ _ hx.proc.2.1,bc]
     exact fin _
    have hk:=eq_of_beq h3
    rw [hk] at hb
    simp at hb
    rw [hk]
    simp only [bB,bS]
    rw [wj hv hb.2 (by omega),bc]
    exact fin _
   have hk:=eq_of_beq h2
   rw [hk] at hb
   simp at hb
   rw [hk]
   simp only [bB,bS]
   have e3:((2:Int) == 3)=false:=rfl
   rw [show (fun i=>cond ((2:Int) == 3) (fV i) (fW r x.Code i))=fW r x.Code from rfl,wj hw (by omega) (by omega),bc]
   exact fin _
  have hk:=eq_of_beq h1
  rw [hk]
  simp only [bS]
  exact fin _
theorem xL {r:Zd} {x:Zl} (hx:VCase x) (hr:dH r=true) (hd:tm r≤1000):nx r x=some (kD x r).isSome:=AL x hx FUEL r hr (by have hf:FUEL=1267650600228229401496703205376:=rfl;omega)
def rwF (x:Zl) (six:Bool) (k:Nat) (a:Zd) (l:List Int):List Int⊕List Int:=match kD x a with
 | none=>.inl l
 | some p=>cond six (.inr ((k:Int)::p)) (.inl (l++p))
theorem CY (x:Zl):∀ (m:List Zd) (i:Nat) (l:List Int),run (rwF x true) m i l=match lr x i m with | some p=>.inr p | none=>.inl l
 | [],i,l=>by rw [lr];rfl
 | a::m,i,l=>by
  rw [jn,lr]
  unfold rwF
  cases kD x a with
  | none=>exact CY x m (i+1) l
  | some p=>rfl
theorem CZ (x:Zl):∀ (m:List Zd) (i:Nat) (l w:List Int),jE x m=some w→run (rwF x false) m i l=.inl (l++w)
 | [],i,l,w,h=>by rw [jE] at h;injection h with h;subst h;rw [List.append_nil];rfl
 | a::m,i,l,w,h=>by
  rw [jE] at h
  rw [jn]
  unfold rwF
  cases ha:kD x a with
  | none=>rw [ha] at h;cases h
  | some p =>
   cases hm:jE x m with
   | none=>rw [ha,hm] at h;cases h
   | some q =>
    rw [ha,hm,bc,bc] at h
    injection h with h
    subst h
    rw [← List.append_assoc]
    exact CZ x m (i+1) (l++p) q hm
theorem wV (x:Zl) (hx:VCase x) (n:Nat):∀ r:Zd,dH r=true→pD r≤1000→tm r≤n→ir n r x=some (ia [] (kD x r)):=by
 induction n with
 | zero=>intro r _ _ hd;rw [kx] at hd;omega
 | succ n ih =>
  intro r hr hc hd
  obtain ⟨hl,ha,_⟩:=jZ hr
  have hdc:=oU r
  show iq (ir n) r x=_
  unfold iq
  rw [xL hx hr (by omega),bc]
  cases hw:kD x r with
  | none=>rfl
  | some w =>
   simp only [Option.isSome_some,Bool.not_true,bB]
   have hargs:∀ k (hk:k<r.Args.length),ir n r.Args[k] x=some (ia [] (kD x r.Args[k])):=fun k hk=>ih _ (ha _ (List.getElem_mem hk)) (by have:=qr r;have:=sy (List.getElem_mem hk);omega) (by have:=iJ (List.getElem_mem hk);omega)
   have hcl:∀ k (hk:k<r.Args.length) p,kD x r.Args[k]=some p→p.length≤1000:=fun k hk p h=>by have h1:=sA x _ p h;have:=qr r;have:=sy (List.getElem_mem hk);omega
   refine (kj (l:=r.Args) (by omega) (fun i (s:List Int)=>(s,i)) (rwF x (r.Kind == 6)) (fun s=>.inl s) (fun p=>.inr (p,true)) (fun k s=>s.length≤k*1000) [] (by simp) (fun k hk s hs=>⟨?_,fun s' h'=>?_⟩) (fun s _=>by simp only [cT,bB])).trans ?_
   ·simp only [ic hk,bS,aQ hk,bc,bP hk (show r.Args.length≤4611686018427387904 by omega)]
    rw [hargs k hk]
    have:=hcl k hk
    unfold rwF
    cases hwk:kD x r.Args[k] with
    | none=>rfl
    | some p =>
     have:=this p hwk
     show Option.bind (cond (r.Kind == 6) _ _) _=_
     cases (r.Kind == 6)
     ·simp only [bB]
      rw [show (ia ([]:List Int) (some p)).1=p from rfl]
      rw [cI (show (s.length+p.length)*8≤140737488355328 by omega) (by omega)];rfl
     simp only [bS]
     rw [show (ia ([]:List Int) (some p)).1=p from rfl]
     rw [cI (show (([(k:Int)]).length+p.length)*8≤140737488355328 by simp;omega) (by simp;omega)];rfl
   ·have:=hcl k hk
    unfold rwF at h'
    cases hwk:kD x r.Args[k] with
    | none=>rw [hwk] at h';injection h' with h';subst h';omega
    | some p =>
     have:=this p hwk
     rw [hwk] at h'
     cases h6:(r.Kind == 6)
     ·rw [h6] at h';injection h' with h';subst h';rw [List.length_append];omega
     rw [h6] at h';cases h'
   rw [yS] at hw
   cases h5:(r.Kind == 5)
   ·rw [h5] at hw
    simp only [bB] at hw
    cases h6:(r.Kind == 6)
    ·rw [h6] at hw
     simp only [bB] at hw
     have hnil:r.Args=[]:=by
      have hp:=hr
      rw [gW,Bool.and_eq_true] at hp
      have h1:=hp.1
      unfold ky at h1
      simp only [Bool.and_eq_true,h5,h6,Bool.false_or] at h1
      exact List.isEmpty_iff.1 h1.2
     rw [hnil]
     cases hh:jD r x
     ·rw [hh] at hw;cases hw
     rw [hh] at hw;injection hw with hw;subst hw;rfl
    rw [h6] at hw
    rw [CY,show lr x 0 r.Args=some w from hw];rfl
   rw [h5] at hw
   have h6:(r.Kind == 6)=false:=by rw [eq_of_beq h5];rfl
   rw [h6,CZ x r.Args 0 [] w hw];rfl
theorem AM {r:Zd} {x:Zl} (hx:VCase x) (hr:dH r=true) (hc:pD r≤32):jx r x=some (ia [] (kD x r)):=wV x hx FUEL r hr (by omega) (by have:=oU r;have hf:FUEL=1267650600228229401496703205376:=rfl;omega)
def wk (g:Goal):Zn:=⟨g.1,g.2⟩
def pC (p:Prf):Zf:=⟨p.1,p.2.1,p.2.2⟩
def nQ (plan:List Zc) (l:List Zb) (imp:ByteArray) (p:Zc) (a:Zb):Option Goal:=cond (jd plan l imp ⟨p.ID,a.ID⟩) ((dw a p.Code).map fun r=>((⟨p.ID,a.ID⟩:Za),r)) none
theorem AN {α β:Type} (h:α→Option β):∀ (l:List α) (s:List β),l.foldl (fun s a=>s++(h a).toList) s=s++l.filterMap h
 | [],s=>by simp
 | a::l,s=>by
  rw [List.foldl_cons,AN h l]
  cases ha:h a with
  | none=>rw [List.filterMap_cons_none ha];simp
  | some b=>rw [List.filterMap_cons_some ha];simp
theorem tv (plan:List Zc) (l:List Zb) (imp:ByteArray):(di plan l imp).length≤plan.length*l.length:=by
 have key:∀ q:List Zc,(q.flatMap fun p=>l.filterMap (nQ plan l imp p)).length≤q.length*l.length:=by
  intro q
  induction q with
  | nil=>simp
  | cons p q ih =>
   rw [List.flatMap_cons,List.length_append,List.length_cons,Nat.add_mul,Nat.one_mul]
   have:=List.length_filterMap_le (nQ plan l imp p) l;omega
 exact key plan
theorem BV {plan:List Zc} {l:List Zb} (hv:VPs plan) (hl:VAs l) (imp:ByteArray):oS plan l imp=some ((di plan l imp).map wk):=by
 unfold oS
 have hlen:=hv.len
 have hll:=hl.len
 have inner:∀ (p:Zc) (s:List Zn),s.length≤64000→Option.bind (aU (S:=(List Zn)×Int) (T:=((List Zn))) (fun (l17,v20)=>cond (decide (v20<(l.length:Int))) (Option.bind (Option.bind (idx l v20) (fun m33=>Option.bind (dG m33 p.Code) (fun x36=>Option.bind (gd x36.2 (cj plan l imp (⟨p.ID,m33.ID⟩:Za))) (fun x38=>cond (x36.2&&x38) (Option.bind (app 112 l17 [(⟨(⟨p.ID,m33.ID⟩:Za),x36.1⟩:Zn)]) (fun l42=>some l42)) (some l17))))) (fun l31=>some (.inl (l31,(IntKind.i64.wrap (v20+1)))))) (some (.inr l17))) FUEL (s,0)) (fun t=>(some t:Option (List Zn)))=some (s++(l.filterMap (nQ plan l imp p)).map wk):=by
  intro p s hs
  refine (cE (l:=l) (by omega) (fun i (s:List Zn)=>(s,i)) (fun s a=>s++((nQ plan l imp p a).map wk).toList) (fun s=>s) (fun k t=>t.length≤s.length+k) s (Nat.le_refl _) (fun k hk t ht=>?_) (fun t _=>by simp only [cT,bB])).1.trans ?_
  ·simp only [ic hk,bS,aQ hk,bc,bP hk (show l.length≤4611686018427387904 by omega)]
   have hva:=hl.all _ (List.getElem_mem hk)
   rw [qu _ _ hva,bc,vX _ _ _ _ hv.sorted hl]
   unfold nQ
   cases hr:dw l[k] p.Code with
   | none =>
    have e:(cond (jd plan l imp ⟨p.ID,l[k].ID⟩) ((none:Option Zd).map fun r=>((⟨p.ID,l[k].ID⟩:Za),r)) none)=none:=by cases jd plan l imp ⟨p.ID,l[k].ID⟩ <;> rfl
    rw [e]
    exact ⟨by simp [ia,gd],by simp;omega⟩
   | some r =>
    show Option.bind (Option.bind (gd true (some (jd plan l imp ⟨p.ID,l[k].ID⟩))) _) _=_∧_
    rw [co,bc]
    cases jd plan l imp ⟨p.ID,l[k].ID⟩
    ·exact ⟨by simp [ia],by simp;omega⟩
    show Option.bind (Option.bind (app 112 t [_]) _) _=_∧_
    rw [cI (by simp;omega) (by simp;omega)]
    exact ⟨rfl,by simp;omega⟩
  rw [AN (fun a=>(nQ plan l imp p a).map wk)]
  congr 2
  rw [List.map_filterMap]
 refine (cE (l:=plan) (by omega) (fun i (s:List Zn)=>(s,i)) (fun s p=>s++(l.filterMap (nQ plan l imp p)).map wk) (fun s=>s) (fun k t=>t.length≤1000*k) [] (by simp) (fun k hk t ht=>?_) (fun t _=>by simp only [cT,bB])).1.trans ?_
 ·simp only [ic hk,bS,aQ hk,bc,bP hk (show plan.length≤4611686018427387904 by omega)]
  have hin:=inner plan[k] t (by omega)
  have e:∀ {α β:Type} (x:Option α) (z:α) (K:α→Option β),Option.bind x (fun t=>some t)=some z→Option.bind x K=K z:=by
   intro α β x z K h
   cases x with
   | none=>cases h
   | some y=>injection h with h;rw [h];rfl
  refine ⟨e _ _ _ hin,?_⟩
  have:=List.length_filterMap_le (nQ plan l imp plan[k]) l
  simp;omega
 have key:∀ (q:List Zc) (s:List Zn),q.foldl (fun s p=>s++(l.filterMap (nQ plan l imp p)).map wk) s=s++(q.flatMap fun p=>l.filterMap (nQ plan l imp p)).map wk:=by
  intro q
  induction q with
  | nil=>intro s;simp
  | cons p q ih=>intro s;rw [List.foldl_cons,ih,List.flatMap_cons,List.map_append,List.append_assoc]
 rw [key,List.nil_append];rfl
theorem DP:lM=fk:=rfl
theorem BW {plan:List Zc} {l:List Zb} (hv:VPs plan) (hl:VAs l) {imp:ByteArray} {g:Goal} (hg:g∈di plan l imp) (known:List Za) (hk:known.length≤100000) (ps:List Zf) (hps:ps.length≤100000) :
    iY (wk g) plan l imp known ps=some ((fx plan l imp (aZ known) g).isSome,known,ps++((fx plan l imp (aZ known) g).map pC).toList):=by
  unfold iY
  have hf:=we hg
  have hr:=tu hl hg
  rw [DP,xH hv hl imp _ known (by omega),bc]
  unfold tZ wk
  dsimp only
  rw [hf.1]
  simp only [bS]
  rw [yT (o7 hv imp g.1 _ hf.2) hr.1 hr.2.1 hr.2.2,bc]
  unfold fx
  cases hw:kD (oj plan l imp g.1 (aZ known)) g.2 with
  | none=>simp [ia]
  | some w =>
    show Option.bind (cond true (Option.bind (app 64 ps [_]) _) _) _=_
    rw [bS,cI (by simp;omega) (by simp;omega)];rfl
theorem BX {plan:List Zc} {l:List Zb} (hv:VPs plan) (hl:VAs l) {imp:ByteArray} (o:List Goal) (ho:∀ g∈o,g∈di plan l imp) (ps:List Prf) (hlen:ps.length+o.length≤64000) {β:Type} (K:List Zn×List Zf×List Za→Option β) :
    Option.bind (aU (S:=(List Zn)×Int×(List Zf)×(List Za)) (T:=((List Zn)×(List Zf)×(List Za))) (fun (l27,v30,l32,l36)=>cond (decide (v30<((o.map wk).length:Int))) (Option.bind (Option.bind (idx (o.map wk) v30) (fun m68=>Option.bind (iY m68 plan l imp l36 l32) (fun x70=>cond (!x70.1) (Option.bind (app 112 l27 [m68]) (fun l80=>some (l80,x70.2.2,x70.2.1))) (some (l27,x70.2.2,x70.2.1))))) (fun (l58,l62,l66)=>some (.inl (l58,(IntKind.i64.wrap (v30+1)),l62,l66)))) (some (.inr (l27,l32,l36)))) FUEL (([]:List Zn),0,ps.map pC,ps.map fun p:Prf=>p.1)) K =
      K ((o.filter fun g=>(fx plan l imp (aZ (ps.map fun p:Prf=>p.1)) g).isNone).map wk,(ps++o.filterMap (fx plan l imp (aZ (ps.map fun p:Prf=>p.1)))).map pC,ps.map fun p:Prf=>p.1):=by
  generalize hS:(ps.map fun p:Prf=>p.1)=known
  have hkn:known.length=ps.length:=by rw [← hS,List.length_map]
  have hml:(o.map wk).length=o.length:=List.length_map _
  refine (cE (l:=o.map wk) (by omega) (fun i (s:List Zn×List Zf)=>(s.1,i,s.2,known)) (fun s t=>match fx plan l imp (aZ known) (t.claim,t.rule) with | some p=>(s.1,s.2++[pC p]) | none=>(s.1++[t],s.2)) (fun s=>(s.1,s.2,known)) (fun k s=>s.1.length≤k∧s.2.length≤ps.length+k) ([],ps.map pC) ⟨by simp,by simp⟩ (fun k hk s hs=>?_) (fun s _=>by simp only [cT,bB])).1.trans ?_
  · obtain ⟨a,b⟩:=s
    obtain ⟨h1,h2⟩:=hs
    dsimp only at h1 h2 ⊢
    simp only [ic hk,bS,aQ hk,bc,bP hk (show (o.map wk).length≤4611686018427387904 by omega)]
    have hk':k<o.length:=by omega
    rw [List.getElem_map,BW hv hl (ho _ (List.getElem_mem hk')) known (by omega) b (by omega),bc]
    rw [show fx plan l imp (aZ known) ((wk o[k]).claim,(wk o[k]).rule)=fx plan l imp (aZ known) o[k] from rfl]
    cases hp:fx plan l imp (aZ known) o[k] with
    | none =>
      simp only [Option.isSome_none,Bool.not_false,bS]
      rw [cI (by simp;omega) (by simp;omega)]
      exact ⟨by simp,by simp;omega,by omega⟩
    | some p =>
      simp only [Option.isSome_some,Bool.not_true,bB]
      exact ⟨rfl,by omega,by simp;omega⟩
  have key:∀ (o:List Goal) (a:List Zn) (b:List Zf),(o.map wk).foldl (fun (s:List Zn×List Zf) t=>match fx plan l imp (aZ known) (t.claim,t.rule) with | some p=>(s.1,s.2++[pC p]) | none=>(s.1++[t],s.2)) (a,b)=(a++(o.filter fun g=>(fx plan l imp (aZ known) g).isNone).map wk,b++(o.filterMap (fx plan l imp (aZ known))).map pC):=by
    intro o
    induction o with
    | nil=>intro a b;simp
    | cons g o ih =>
      intro a b
      rw [List.map_cons,List.foldl_cons,List.filter_cons]
      show List.foldl _ (match fx plan l imp (aZ known) g with | some p=>(a,b++[pC p]) | none=>(a++[wk g],b)) _=_
      cases hp:fx plan l imp (aZ known) g with
      | none=>rw [List.filterMap_cons_none hp];dsimp only;rw [ih];simp
      | some p=>rw [List.filterMap_cons_some hp];dsimp only;rw [ih];simp
  rw [key,List.nil_append,List.map_append]
def tw (p0:List Zc) (p1:List Zb) (p2:ByteArray):(List Zn)×(List Zf)×(List Za)→Option (((List Zn)×(List Zf)×(List Za))⊕(Unit⊕(List Zf×Int))):=(fun (l13,l15,l19)=>Option.bind (aU (S:=(List Zn)×Int×(List Zf)×(List Za)) (T:=((List Zn)×(List Zf)×(List Za))) (fun (l27,v30,l32,l36)=>cond (decide (v30<(l13.length:Int))) (Option.bind (Option.bind (idx l13 v30) (fun m68=>Option.bind (iY m68 p0 p1 p2 l36 l32) (fun x70=>cond (!x70.1) (Option.bind (app 112 l27 [m68]) (fun l80=>some (l80,x70.2.2,x70.2.1))) (some (l27,x70.2.2,x70.2.1))))) (fun (l58,l62,l66)=>some (.inl (l58,(IntKind.i64.wrap (v30+1)),l62,l66)))) (some (.inr (l27,l32,l36)))) FUEL (([]:List Zn),0,l15,l19)) (fun (l42,l46,l50)=>cond (((l46.length:Nat):Int) == ((l15.length:Nat):Int)) (some (.inr (.inr (l46,(0:Int))))) (Option.bind (sub l46 ((l15.length:Nat):Int) (l46.length:Int)) (fun l85=>Option.bind (aU (S:=Int×(List Za)) (T:=((List Za))) (fun (v86,l88)=>cond (decide (v86<((l46.length - ((l15.length:Nat):Int).toNat:Nat):Int))) (Option.bind (lB v86) (fun u100=>Option.bind (idx l46 (((l15.length:Nat):Int)+v86)) (fun m101=>Option.bind (app 16 l88 [m101.Claim]) (fun l105=>some (.inl ((IntKind.i64.wrap (v86+1)),l105)))))) (some (.inr l88))) FUEL (0,l50)) (fun l96=>some (.inl (l42,l46,l96)))))))
theorem DQ (a b:List Zf) (known:List Za) (h:a.length+b.length+known.length≤200000) {β:Type} (K:List Za→Option β) :
    Option.bind (aU (S:=Int×(List Za)) (T:=((List Za))) (fun (v86,l88)=>cond (decide (v86<(((a++b).length - ((a.length:Nat):Int).toNat:Nat):Int))) (Option.bind (lB v86) (fun u100=>Option.bind (idx (a++b) (((a.length:Nat):Int)+v86)) (fun m101=>Option.bind (app 16 l88 [m101.Claim]) (fun l105=>some (.inl ((IntKind.i64.wrap (v86+1)),l105)))))) (some (.inr l88))) FUEL (0,known)) K=K (known++b.map (·.Claim)):=by
  have e:(a++b).length - ((a.length:Nat):Int).toNat=b.length:=by rw [List.length_append];omega
  rw [e]
  refine (cE (l:=b) (by omega) (fun i (s:List Za)=>(i,s)) (fun s p=>s++[p.Claim]) (fun s=>s) (fun k s=>s.length≤known.length+k) known (Nat.le_refl _) (fun k hk s hs=>?_) (fun s _=>by simp only [cT,bB])).1.trans ?_
  · simp only [ic hk,bS,bP hk (show b.length≤4611686018427387904 by omega)]
    rw [BN (by omega),bc,show ((a.length:Nat):Int)+(k:Int)=((a.length+k:Nat):Int) by omega,aQ (show a.length+k<(a++b).length by rw [List.length_append];omega),bc,cI (by simp;omega) (by simp;omega),bc]
    have e2:(a++b)[a.length+k]'(by rw [List.length_append];omega)=b[k]:=by rw [List.getElem_append_right (by omega)];congr 1;omega
    rw [e2]
    exact ⟨rfl,by simp;omega⟩
  have key:∀ (b:List Zf) (s:List Za),b.foldl (fun s p=>s++[p.Claim]) s=s++b.map (·.Claim):=by
    intro b
    induction b with
    | nil=>intro s;simp
    | cons p b ih=>intro s;rw [List.foldl_cons,ih];simp
  rw [key]
theorem DR (ps:List Prf):(ps.map pC).map (·.Claim)=ps.map fun p:Prf=>p.1:=by rw [List.map_map];rfl
theorem o9 {γ π:Type} (f:γ→Option π):∀ o:List γ,(o.filterMap f).length+(o.filter fun g=>(f g).isNone).length=o.length
 | []=>rfl
 | g::o=>by
  have ih:=o9 f o
  rw [List.filter_cons]
  cases hf:f g with
  | some p=>rw [List.filterMap_cons_some hf];simp;omega
  | none=>rw [List.filterMap_cons_none hf];simp;omega
theorem AO {plan:List Zc} {l:List Zb} (hv:VPs plan) (hl:VAs l) {imp:ByteArray}:∀ (n:Nat) (o:List Goal) (ps:List Prf) (N:Nat),o.length≤n→n<N→(∀ g∈o,g∈di plan l imp)→ps.length+o.length≤64000 →
    aU (tw plan l imp) N (o.map wk,ps.map pC,ps.map fun p:Prf=>p.1)=some (.inr ((ma (fun p:Prf=>p.1) (fx plan l imp) n o ps).map pC,0)):=by
  have step:∀ (o:List Goal) (ps:List Prf),(∀ g∈o,g∈di plan l imp)→ps.length+o.length≤64000→tw plan l imp (o.map wk,ps.map pC,ps.map fun p:Prf=>p.1)=cond (o.filterMap (fx plan l imp (aZ (ps.map fun p:Prf=>p.1)))).isEmpty (some (.inr (.inr (ps.map pC,0))))
      (some (.inl ((o.filter fun g=>(fx plan l imp (aZ (ps.map fun p:Prf=>p.1)) g).isNone).map wk,(ps++o.filterMap (fx plan l imp (aZ (ps.map fun p:Prf=>p.1)))).map pC,(ps++o.filterMap (fx plan l imp (aZ (ps.map fun p:Prf=>p.1)))).map fun p:Prf=>p.1))):=by
    intro o ps ho hlen
    unfold tw
    refine (BX hv hl o ho ps hlen _).trans ?_
    have hnl:=List.length_filterMap_le (fx plan l imp (aZ (ps.map fun p:Prf=>p.1))) o
    generalize o.filterMap (fx plan l imp (aZ (ps.map fun p:Prf=>p.1)))=new at hnl
    dsimp only
    rw [List.map_append]
    cases hn:new.isEmpty
    · have hne:new≠[]:=fun e=>by rw [e] at hn;cases hn
      have hpos:0<new.length:=List.length_pos_iff.2 hne
      rw [show ((((ps.map pC++new.map pC).length:Nat):Int) == (((ps.map pC).length:Nat):Int))=false from by rw [beq_eq_false_iff_ne];simp;omega]
      simp only [bB]
      rw [jK (by simp) (Nat.le_refl _),bc,DQ _ _ _ (by simp;omega)]
      rw [DR,← List.map_append,← List.map_append]
    have e:new=[]:=List.isEmpty_iff.1 hn
    subst e
    simp
  intro n
  induction n with
  | zero =>
    intro o ps N ho hN hg hlen
    obtain rfl:o=[]:=List.length_eq_zero_iff.1 (by omega)
    obtain ⟨N,rfl⟩:∃ m,N=m+1:=⟨N - 1,by omega⟩
    rw [ma,fJ,step [] ps hg hlen];rfl
  | succ n ih =>
    intro o ps N ho hN hg hlen
    obtain ⟨N,rfl⟩:∃ m,N=m+1:=⟨N - 1,by omega⟩
    rw [fJ,step o ps hg hlen,ma]
    cases he:(o.filterMap (fx plan l imp (aZ (ps.map fun p:Prf=>p.1)))).isEmpty
    · have h1:=sC he
      have h2:=o9 (fx plan l imp (aZ (ps.map fun p:Prf=>p.1))) o
      exact ih _ _ N (by omega) (by omega) (fun g hg'=>hg g (List.mem_filter.1 hg').1) (by rw [List.length_append];omega)
    rfl
theorem BY {plan:List Zc} {l:List Zb} (hv:VPs plan) (hl:VAs l) {imp:ByteArray} (h1:db plan=some 0) (h2:da l=some 0) (h3:bN imp=some true):oT plan l imp=some ((nN plan l imp).map pC,0):=by
 have hlen:=hv.len
 have hll:=hl.len
 have hg:=tv plan l imp
 have hm:plan.length*l.length≤64*1000:=Nat.mul_le_mul hlen hll
 unfold oT
 rw [h1,bc,h2,bc,h3,bc,BV hv hl,bc]
 simp only [bne_self_eq_false,bB,Bool.not_true]
 have key:=AO hv hl (imp:=imp) (di plan l imp).length (di plan l imp) [] FUEL (Nat.le_refl _) (by have hf:FUEL=1267650600228229401496703205376:=rfl;omega) (fun g h=>h) (by simp;omega)
 exact (congrArg (fun o=>Option.bind o _) key).trans rfl
abbrev RSt:=(List Zf)×Bool×(List Za)
def wl (s:RSt) (o:Option Prf):RSt:=match o with
 | some p=>(s.1++[pC p],true,iw bu s.2.2 p.1)
 | none=>s
def gj (s:RSt) (new:List Prf):RSt:=(s.1++new.map pC,s.2.1 || !new.isEmpty,new.foldl (fun t p=>iw bu t p.1) s.2.2)
theorem wm {α:Type} (h:α→Option Prf):∀ (l:List α) (s:RSt),l.foldl (fun s a=>wl s (h a)) s=gj s (l.filterMap h)
 | [],s=>by simp [gj]
 | a::l,s=>by
  rw [List.foldl_cons,wm h l]
  cases ha:h a with
  | none=>rw [List.filterMap_cons_none ha];rfl
  | some p=>rw [List.filterMap_cons_some ha];simp [gj,wl]
theorem BZ (s:RSt) (a b:List Prf):gj (gj s a) b=gj s (a++b):=by
 unfold gj
 rw [List.map_append,List.append_assoc,List.foldl_append]
 dsimp only
 congr 2
 cases a <;> cases b <;> cases s.2.1 <;> rfl
theorem DS (s:RSt) (o:Option Prf):(wl s o).1.length≤s.1.length+1∧(wl s o).2.2.length≤s.2.2.length+1:=by
 cases o with
 | none=>exact ⟨by show s.1.length≤_;omega,by show s.2.2.length≤_;omega⟩
 | some p=>exact ⟨by simp [wl],kA _ _⟩
theorem wn (s:RSt):∀ (new:List Prf),(gj s new).1.length≤s.1.length+new.length∧(gj s new).2.2.length≤s.2.2.length+new.length:=by
 intro new
 refine ⟨by simp [gj],?_⟩
 show (new.foldl (fun t p=>iw bu t p.1) s.2.2).length≤_
 generalize s.2.2=t
 induction new generalizing t with
 | nil=>simp
 | cons p new ih=>rw [List.foldl_cons,List.length_cons];have:=ih (iw bu t p.1);have:=kA (lt:=bu) t p.1;omega
theorem ref_one {plan:List Zc} {l:List Zb} (hv:VPs plan) (hl:VAs l) (ha:AscA l) (imp:ByteArray) (set:List Za) (hs:set.length≤1000000) {p:Zc} (hp:p∈plan) {a:Zb} (hal:a∈l) (s:RSt) (h1:s.1.length≤1000000) (h2:s.2.2.length≤1000000) {i j:Int} (hi:idx plan i=some p) (hj:idx l j=some a) :
    Option.bind (idx plan i) (fun m60=>Option.bind (idx l j) (fun m61=>Option.bind (cL set (⟨m60.ID,m61.ID⟩:Za)) (fun x63=>Option.bind (gd (!x63) (cY plan l imp (⟨m60.ID,m61.ID⟩:Za))) (fun x64=>cond (x63||(!x64)) (some (s.1,s.2.1,s.2.2)) (Option.bind (fB plan l imp (⟨m60.ID,m61.ID⟩:Za) set) (fun x66=>Option.bind (idx l j) (fun m68=>Option.bind (idx plan i) (fun m69=>Option.bind (e9 m68 m69.Code) (fun x70=>Option.bind (jx x70.1 x66.1) (fun x72=>cond x72.2 (Option.bind (app 64 s.1 [(⟨(⟨m60.ID,m61.ID⟩:Za),x72.1,x66.2⟩:Zf)]) (fun l76=>Option.bind (ez s.2.2 (⟨m60.ID,m61.ID⟩:Za)) (fun x80=>some (l76,true,x80)))) (some (s.1,s.2.1,s.2.2))))))))))))=some (wl s (kI plan l imp (aZ set) p a)):=by
  have hlen:=hv.len
  have hva:=hl.all a hal
  rw [hi,bc,hj,bc,mI _ _ (by omega),bc,yJ _ _ _ _ (by omega) hl]
  unfold kI
  cases hm:aZ set ⟨p.ID,a.ID⟩
  · rw [Bool.not_false,co,bc]
    cases hc:jd plan l imp ⟨p.ID,a.ID⟩
    · rfl
    simp only [Bool.not_true,Bool.or_self,bB]
    obtain ⟨r,hr⟩:=AG hv ha hp hal hc
    have hro:=wd hva hr
    have hf:=oo hc
    rw [Av hv hl imp _ set (by omega),bc,bc,bc,oZ _ _ hva.ok.len,bc,hr]
    unfold tZ
    rw [hc]
    simp only [bS]
    rw [show (ia rm (some r)).1=r from rfl,show (some r).getD rm=r from rfl,AM (o7 hv imp _ _ hf) hro.2.1 hro.2.2,bc]
    unfold fx
    dsimp only
    cases hw:kD (oj plan l imp ⟨p.ID,a.ID⟩ (aZ set)) r with
    | none=>rfl
    | some w =>
      show Option.bind (app 64 s.1 [_]) _=_
      rw [cI (by simp;omega) (by simp;omega),bc,qT _ _ (by omega)];rfl
  rfl
theorem DT {plan:List Zc} {l:List Zb} (hv:VPs plan) (hl:VAs l) (ha:AscA l) (imp:ByteArray) (set:List Za) (hs:set.length≤100000) (out:List Zf) (h1:out.length≤100000) {β:Type} (K:RSt→Option β) :
    Option.bind (aU (S:=(List Zf)×Bool×(List Za)×Int) (T:=((List Zf)×Bool×(List Za))) (fun (l22,v25,l26,v27)=>cond (decide (v27<(plan.length:Int))) (Option.bind (aU (S:=(List Zf)×Bool×(List Za)×Int) (T:=((List Zf)×Bool×(List Za))) (fun (l38,v41,l42,v43)=>cond (decide (v43<(l.length:Int))) (Option.bind (Option.bind (idx plan v27) (fun m60=>Option.bind (idx l v43) (fun m61=>Option.bind (cL set (⟨m60.ID,m61.ID⟩:Za)) (fun x63=>Option.bind (gd (!x63) (cY plan l imp (⟨m60.ID,m61.ID⟩:Za))) (fun x64=>cond (x63||(!x64)) (some (l38,v41,l42)) (Option.bind (fB plan l imp (⟨m60.ID,m61.ID⟩:Za) set) (fun x66=>Option.bind (idx l v43) (fun m68=>Option.bind (idx plan v27) (fun m69=>Option.bind (e9 m68 m69.Code) (fun x70=>Option.bind (jx x70.1 x66.1) (fun x72=>cond x72.2 (Option.bind (app 64 l38 [(⟨(⟨m60.ID,m61.ID⟩:Za),x72.1,x66.2⟩:Zf)]) (fun l76=>Option.bind (ez l42 (⟨m60.ID,m61.ID⟩:Za)) (fun x80=>some (l76,true,x80)))) (some (l38,v41,l42))))))))))))) (fun (l56,v57,l58)=>some (.inl (l56,v57,l58,(IntKind.i64.wrap (v43+1)))))) (some (.inr (l38,v41,l42)))) FUEL (l22,v25,l26,0)) (fun (l47,v48,l49)=>some (.inl (l47,v48,l49,(IntKind.i64.wrap (v27+1)))))) (some (.inr (l22,v25,l26)))) FUEL (out,false,set,0)) K =
      K (gj (out,false,set) (plan.flatMap fun p=>l.filterMap fun a=>kI plan l imp (aZ set) p a)):=by
  have hlen:=hv.len
  have hll:=hl.len
  refine (cE (l:=plan) (by omega) (fun i (s:RSt)=>(s.1,s.2.1,s.2.2,i)) (fun s p=>gj s (l.filterMap fun a=>kI plan l imp (aZ set) p a)) (fun s=>(s.1,s.2.1,s.2.2)) (fun k s=>s.1.length≤out.length+1000*k∧s.2.2.length≤set.length+1000*k) (out,false,set) ⟨by simp,by simp⟩ (fun k hk s hs=>?_) (fun s _=>by simp only [cT,bB])).1.trans ?_
  · obtain ⟨g1,g2⟩:=hs
    have hfl:=List.length_filterMap_le (fun a=>kI plan l imp (aZ set) plan[k] a) l
    have hrl:=wn s (l.filterMap fun a=>kI plan l imp (aZ set) plan[k] a)
    refine ⟨?_,by omega,by omega⟩
    simp only [ic hk,bS,bP hk (show plan.length≤4611686018427387904 by omega)]
    refine (cE (l:=l) (by omega) (fun i (s:RSt)=>(s.1,s.2.1,s.2.2,i)) (fun s a=>wl s (kI plan l imp (aZ set) plan[k] a)) (fun s=>(s.1,s.2.1,s.2.2)) (fun j t=>t.1.length≤s.1.length+j∧t.2.2.length≤s.2.2.length+j) s ⟨Nat.le_refl _,Nat.le_refl _⟩ (fun j hj t ht=>?_) (fun t _=>by simp only [cT,bB])).1.trans ?_
    · obtain ⟨t1,t2⟩:=ht
      have hst:=DS t (kI plan l imp (aZ set) plan[k] l[j])
      refine ⟨?_,by omega,by omega⟩
      simp only [ic hj,bS,bP hj (show l.length≤4611686018427387904 by omega)]
      exact (congrArg (fun o=>Option.bind o _) (ref_one hv hl ha imp set (by omega) (List.getElem_mem hk) (List.getElem_mem hj) t (by omega) (by omega) (aQ hk) (aQ hj))).trans rfl
    rw [wm (fun a=>kI plan l imp (aZ set) plan[k] a)]
  have key:∀ (q:List Zc) (s:RSt),q.foldl (fun s p=>gj s (l.filterMap fun a=>kI plan l imp (aZ set) p a)) s=gj s (q.flatMap fun p=>l.filterMap fun a=>kI plan l imp (aZ set) p a):=by
    intro q
    induction q with
    | nil=>intro s;simp [gj]
    | cons p q ih=>intro s;rw [List.foldl_cons,ih,List.flatMap_cons,BZ]
  rw [key]
section
variable {γ δ π:Type} [DecidableEq δ] {gc:γ→δ} {cl:π→δ} {pv:(δ→Bool)→γ→Option π}
theorem C0 (G:List γ) (ps:List π):(G.filter fun g => !aZ (ps.map cl) (gc g)).filterMap (pv (aZ (ps.map cl)))=G.filterMap fun g=>cond (aZ (ps.map cl) (gc g)) none (pv (aZ (ps.map cl)) g):=by
    generalize pv (aZ (ps.map cl))=f
    generalize aZ (ps.map cl)=m
    induction G with
    | nil=>rfl
    | cons g G ihG =>
      rw [List.filter_cons]
      cases hm:m (gc g)
      · simp only [Bool.not_false,if_true,List.filterMap_cons,ihG,hm,bB]
      simp only [Bool.not_true,Bool.false_eq_true,if_false,List.filterMap_cons,ihG,hm,bS]
theorem Gb (hcl:∀ S g p,pv S g=some p→cl p=gc g) {G:List γ} (inj:∀ g∈G,∀ g'∈G,gc g=gc g'→g=g') (ps:List π):((G.filter fun g => !aZ (ps.map cl) (gc g)).filter fun g=>(pv (aZ (ps.map cl)) g).isNone)=G.filter fun g => !aZ ((ps++G.filterMap fun g=>cond (aZ (ps.map cl) (gc g)) none (pv (aZ (ps.map cl)) g)).map cl) (gc g):=by
    rw [List.filter_filter]
    refine List.filter_congr fun g hg=>?_
    cases hm:aZ (ps.map cl) (gc g)
    · cases hp:pv (aZ (ps.map cl)) g with
      | none =>
        cases hq:aZ ((ps++G.filterMap fun g=>cond (aZ (ps.map cl) (gc g)) none (pv (aZ (ps.map cl)) g)).map cl) (gc g)
        · rfl
        · obtain ⟨p,k1,k2⟩:=jF.1 hq
          rcases List.mem_append.1 k1 with k1 | k1
          · rw [jF.2 ⟨p,k1,k2⟩] at hm;cases hm
          · obtain ⟨g',hg',he⟩:=List.mem_filterMap.1 k1
            cases hm':aZ (ps.map cl) (gc g')
            · rw [hm'] at he
              have:=inj g' hg' g hg ((hcl _ _ _ he).symm.trans k2)
              subst this
              rw [bB,hp] at he;cases he
            · rw [hm'] at he;cases he
      | some p =>
        have:aZ ((ps++G.filterMap fun g=>cond (aZ (ps.map cl) (gc g)) none (pv (aZ (ps.map cl)) g)).map cl) (gc g)=true:=jF.2 ⟨p,List.mem_append.2 (.inr (List.mem_filterMap.2 ⟨g,hg,by rw [hm];exact hp⟩)),hcl _ _ _ hp⟩
        rw [this];rfl
    have:aZ ((ps++G.filterMap fun g=>cond (aZ (ps.map cl) (gc g)) none (pv (aZ (ps.map cl)) g)).map cl) (gc g)=true:=by
      obtain ⟨p,k1,k2⟩:=jF.1 hm
      exact jF.2 ⟨p,List.mem_append.2 (.inl k1),k2⟩
    rw [this]
    cases (pv (aZ (ps.map cl)) g).isNone <;> rfl
end
theorem B0 {plan:List Zc} {l:List Zb} (hv:VPs plan) (hl:VAs l) (ha:AscA l) (imp:ByteArray) {body:(List Zf)×(List Za)×Bool→Option (((List Zf)×(List Za)×Bool)⊕(List Zf))}
    (hb:∀ (out:List Zf) (set:List Za) (more:Bool),out.length≤100000→set.length≤100000→body (out,set,more)=cond more (some (.inl ((gj (out,false,set) (plan.flatMap fun p=>l.filterMap fun a=>kI plan l imp (aZ set) p a)).1,(gj (out,false,set) (plan.flatMap fun p=>l.filterMap fun a=>kI plan l imp (aZ set) p a)).2.2,(gj (out,false,set) (plan.flatMap fun p=>l.filterMap fun a=>kI plan l imp (aZ set) p a)).2.1))) (some (.inr out))) :
    ∀ (n:Nat) (ps:List Prf) (set:List Za) (N:Nat),((di plan l imp).filter fun g => !aZ (ps.map fun p:Prf=>p.1) g.1).length≤n→n+1<N→(∀ c,aZ set c=aZ (ps.map fun p:Prf=>p.1) c)→ps.length+((di plan l imp).filter fun g => !aZ (ps.map fun p:Prf=>p.1) g.1).length≤64000→set.length≤ps.length →
      aU body N (ps.map pC,set,true)=some ((j5 plan l imp n ps set).map pC):=by
  have hnewE:∀ (ps:List Prf) (set:List Za),(∀ c,aZ set c=aZ (ps.map fun p:Prf=>p.1) c)→(plan.flatMap fun p=>l.filterMap fun a=>kI plan l imp (aZ set) p a)=((di plan l imp).filter fun g => !aZ (ps.map fun p:Prf=>p.1) g.1).filterMap (fx plan l imp (aZ (ps.map fun p:Prf=>p.1))):=by
    intro ps set hS
    have hSS:aZ set=aZ (ps.map fun p:Prf=>p.1):=funext hS
    rw [hSS,← wh hv ha]
    exact (C0 (gc:=fun g:Goal=>g.1) (cl:=fun p:Prf=>p.1) (pv:=fx plan l imp) (di plan l imp) ps).symm
  have hempty:∀ (ps:List Prf) (set:List Za) (N:Nat),ps.length≤64000→set.length≤ps.length→(plan.flatMap fun p=>l.filterMap fun a=>kI plan l imp (aZ set) p a)=[]→aU body (N+2) (ps.map pC,set,true)=some (ps.map pC):=by
    intro ps set N h1 h2 h
    have hm:(ps.map pC).length=ps.length:=List.length_map _
    rw [fJ,hb _ _ _ (by omega) (by omega),h]
    have e:gj (ps.map pC,false,set) []=(ps.map pC,false,set):=by simp [gj]
    rw [e]
    show aU body (N+1) (ps.map pC,set,false)=_
    rw [fJ,hb _ _ _ (by omega) (by omega)];rfl
  intro n
  induction n with
  | zero =>
    intro ps set N ho hN hS hlen hset
    obtain ⟨N,rfl⟩:∃ m,N=m+2:=⟨N - 2,by omega⟩
    rw [j5]
    refine hempty ps set N (by omega) hset ?_
    rw [hnewE ps set hS,List.length_eq_zero_iff.1 (Nat.le_zero.1 ho)];rfl
  | succ n ih =>
    intro ps set N ho hN hS hlen hset
    obtain ⟨N,rfl⟩:∃ m,N=m+2:=⟨N - 2,by omega⟩
    rw [j5]
    cases he:(plan.flatMap fun p=>l.filterMap fun a=>kI plan l imp (aZ set) p a).isEmpty
    · have hm:(ps.map pC).length=ps.length:=List.length_map _
      rw [fJ,hb _ _ _ (by omega) (by omega)]
      have hn:=hnewE ps set hS
      have hrl:=wn (ps.map pC,false,set) (plan.flatMap fun p=>l.filterMap fun a=>kI plan l imp (aZ set) p a)
      have hmem:=rS (plan.flatMap fun p=>l.filterMap fun a=>kI plan l imp (aZ set) p a) set
      rw [hn] at he hrl hmem ⊢
      have hsh:=sC he
      have hsum:=o9 (fx plan l imp (aZ (ps.map fun p:Prf=>p.1))) ((di plan l imp).filter fun g => !aZ (ps.map fun p:Prf=>p.1) g.1)
      have hop:=Gb (gc:=fun g:Goal=>g.1) (cl:=fun p:Prf=>p.1) (pv:=fx plan l imp) (F8 plan l imp) (G:=di plan l imp) (xK (imp:=imp) hv ha) ps
      rw [hop,← C0 (gc:=fun g:Goal=>g.1) (cl:=fun p:Prf=>p.1) (pv:=fx plan l imp) (di plan l imp) ps] at hsh hsum
      generalize ((di plan l imp).filter fun g => !aZ (ps.map fun p:Prf=>p.1) g.1).filterMap (fx plan l imp (aZ (ps.map fun p:Prf=>p.1)))=new at *
      have e:gj (ps.map pC,false,set) new=((ps++new).map pC,true,new.foldl (fun t p=>iw bu t p.1) set):=by unfold gj;rw [he,List.map_append];rfl
      rw [e]
      rw [e] at hrl
      refine ih (ps++new) _ (N+1) (by omega) (by omega) (fun c=>?_) (by rw [List.length_append];omega) (by rw [List.length_append];exact Nat.le_trans hrl.2 (by dsimp only;omega))
      rw [hmem,hS,List.map_append]
      unfold aZ;rw [List.any_append]
    exact hempty ps set N (by omega) hset (List.isEmpty_iff.1 he)
theorem DU {plan:List Zc} {l:List Zb} (hv:VPs plan) (hl:VAs l) (ha:AscA l) {imp:ByteArray} (h1:lg plan=some 0) (h2:fI l=some 0) (h3:fa imp=some true):hI plan l imp=some ((nN plan l imp).map pC,0):=by
 have hlen:=hv.len
 have hll:=hl.len
 have hg:=tv plan l imp
 have hm:plan.length*l.length≤64*1000:=Nat.mul_le_mul hlen hll
 unfold hI
 rw [h1,bc,h2,bc,h3,bc]
 simp only [bne_self_eq_false,bB,Bool.not_true]
 have hfl:=List.length_filter_le (fun g:Goal => !aZ (([]:List Prf).map fun p:Prf=>p.1) g.1) (di plan l imp)
 refine (congrArg (fun o=>Option.bind o _) (B0 hv hl ha imp (fun out set more k1 k2=>?_) (di plan l imp).length [] [] FUEL hfl (by have hf:FUEL=1267650600228229401496703205376:=rfl;omega) (fun c=>rfl) (by simp only [List.length_nil];omega) (Nat.le_refl _))).trans ?_
 ·cases more
  ·rfl
  exact (DT hv hl ha imp set k2 out k1 _).trans rfl
 show some ((j5 plan l imp (di plan l imp).length [] []).map pC,(0:Int))=_
 rw [uu hv ha]
theorem ot {α T:Type}:∀ (m:List α) (i:Nat),cA (fun (_:Nat) (_:α)=>(none:Option T)) m i=none
 | [],_=>rfl
 | _::m,i=>ot m (i+1)
theorem DV (l:List Zc) (x:Zh) (hl:l.length≤140737488355328):bH l (fun y=>cF y x)=some (dj l x.Product).isSome:=by
 unfold bH
 have e:bR l (fun y=>cF y x)=some (match cA (fun k p=>cond (p.ID == x.Product) (some (Sum.inr (k:Int):Unit⊕Int)) none) l 0 with | some (.inr k)=>k | _ => -1):=by
  unfold bR
  refine (bD (l:=l) (by omega) (fun k (p:Zc)=>cond (p.ID == x.Product) (some (.inr (k:Int))) none) (.inl ()) (fun k hk=>?_) (by simp only [cT,bB])).trans ?_
  ·simp only [ic hk,bS,aQ hk,bc,bP hk (show l.length≤4611686018427387904 by omega)]
   unfold cF
   rw [bc];cases (l[k].ID == x.Product) <;> rfl
  cases cA (fun k (p:Zc)=>cond (p.ID == x.Product) (some (Sum.inr (k:Int):Unit⊕Int)) none) l 0 with
  | none=>rfl
  | some t=>cases t <;> rfl
 rw [e,bc]
 unfold dj
 rcases qv (fun p:Zc=>p.ID == x.Product) (fun k=>(Sum.inr (k:Int):Unit⊕Int)) l 0 with ⟨h1,h2⟩ | ⟨j,hj,h1,h2⟩
 ·rw [h1,h2];rfl
 rw [h1,h2]
 show some (decide (0≤((0+j:Nat):Int)))=_
 rw [det (by omega)];rfl
structure VIds (l:List Zc):Prop where
 id:∀ p∈l,1≤p.ID∧p.ID≤1000000
 lvl:∀ p∈l,d9 p.Code=6∨d9 p.Code=8
theorem uH {α:Type} {f:α→Int} {l:List α} (h:l.Pairwise fun a b=>f a<f b) {k:Nat} (h0:0<k) (hk:k<l.length):f (l[k - 1]'(by omega))<f l[k]:=List.pairwise_iff_getElem.1 h (k - 1) k (by omega) hk (by omega)
theorem AP {plan:List Zc} (hv:VPs plan) {p:Zc} (hp:VProd plan p):dz plan p.Inputs=some 0:=by
 unfold dz
 have hlen:=hv.len
 have hfew:=hp.few
 refine (bD (l:=p.Inputs) (by omega) (fun _ _=>none) (.inl ()) (fun k hk=>?_) (by simp only [cT,bB])).trans ?_
 ·have hin:=hp.inp _ (List.getElem_mem hk)
  simp only [ic hk,bS,aQ hk,bc,bP hk (show p.Inputs.length≤4611686018427387904 by omega),Bt]
  rw [DV _ _ (by omega),hin.1,bF (show ¬ p.Inputs[k].Value<0 by omega),bF (show ¬ 1000000000000<p.Inputs[k].Value by omega)]
  by_cases h0:0<k
  ·have hlt:=uH hp.asc h0 hk
   rw [det h0,co,fL h0 hk (by omega),bc,bF (by omega)];rfl
  rw [bF h0];rfl
 rw [ot];rfl
theorem yX {plan:List Zc} {p:Zc} (hp:VProd plan p) (hl:d9 p.Code=6∨d9 p.Code=8) (hw:StrsOk p.Processes):dr p=some 0:=by
 unfold dr
 show Option.bind (some (d9 p.Code)) _=_
 have hne:((d9 p.Code != 6)&&(d9 p.Code != 8))=false:=by rcases hl with h | h <;> rw [h] <;> rfl
 have hfew:=hp.few
 have hpr:=hp.price
 rw [bc,hne,Bool.not_false,co,ly,hp.ctr,bc,Bool.not_true,Bool.or_self,Bool.not_false,co,rO _ hw,hp.proc,bc]
 simp only [Bool.not_true,Bool.or_self,bB]
 rw [bF (show ¬ p.Price<1 by omega),bF (show ¬ 1000000000000<p.Price by omega),bF (show ¬ 8<(p.Inputs.length:Int) by omega)]
 simp only [Bool.or_self,bB]
 cases ho:p.Obtained
 ·rfl
 rw [hp.obt ho];rfl
theorem xM {plan:List Zc} {p:Zc} (hp:VProd plan p):StrsOk p.Processes:=by
 obtain ⟨h1,h2,_⟩:=kB hp.proc
 exact ⟨by omega,fun s hs=>by have:=wc (h2 s hs);omega⟩
theorem wo {plan:List Zc} (hv:VPs plan) (hi:VIds plan):db plan=some 0:=by
 unfold db
 have hlen:=hv.len
 rw [bF (by omega),bB]
 refine (bD (l:=plan) (by omega) (fun _ _=>none) (.inl ()) (fun k hk=>?_) (by simp only [cT,bB])).trans ?_
 ·have hm:=List.getElem_mem hk
  have hp:=hv.all _ hm
  have hid:=hi.id _ hm
  simp only [ic hk,bS,aQ hk,bc,bP hk (show plan.length≤4611686018427387904 by omega),Bt]
  rw [bF (show ¬ plan[k].ID<1 by omega),bF (show ¬ 1000000<plan[k].ID by omega),yX hp (hi.lvl _ hm) (xM hp),AP hv hp]
  by_cases h0:0<k
  ·have hlt:=uH hv.asc h0 hk
   rw [det h0,co,fL h0 hk (by omega),bc,bF (by omega)];rfl
  rw [bF h0];rfl
 rw [ot];rfl
theorem MPs.vids {l:List Zc} (h:MPs l):VIds l:=by
 have hlen:=h.len
 refine ⟨fun p hp=>?_,fun p hp=>?_⟩
 ·obtain ⟨i,hi,rfl⟩:=List.getElem_of_mem hp
  have:=(h.all i _ (List.getElem?_eq_getElem hi)).id;omega
 obtain ⟨i,hi,rfl⟩:=List.getElem_of_mem hp
 exact (h.all i _ (List.getElem?_eq_getElem hi)).lvl.1
theorem DW (l:List ByteArray) (hl:StrsOk l):lG l=some (kw l):=by
 obtain ⟨hl,hs⟩:=hl
 unfold lG kw
 refine (bD (l:=l) (by omega) (fun k x=>cond (nq hQ l k x) none (some (.inr false))) (.inl ()) (fun k hk=>?_) (by simp only [cT,bB])).trans ?_
 ·have h62:l.length≤4611686018427387904:=by omega
  simp only [ic hk,bS,aQ hk,bc,Ad _ (hs _ (List.getElem_mem hk)),Bt,bP hk h62,nq]
  cases hw:hQ l[k]
  ·rfl
  by_cases h0:0<k
  ·simp only [h0,decide_true,Bool.not_true,Bool.not_false,Bool.and_true,Bool.true_and,Bool.false_or,co,fL h0 hk h62,bc,fh (show k - 1<l.length by omega),jb]
   cases Op.bytesLess (l[k-1]'(by omega)).toList l[k].toList <;> rfl
  simp only [h0,decide_false,Bool.and_false,jm,bc,Bool.not_true,Bool.false_or,Bool.false_and,bB,Bool.not_false,Bool.true_and,Bool.true_or,Bool.or_false];rfl
 rw [mM]
 have i2:decide ((l.length:Int)≤(8:Int))=decide (l.length≤8):=decide_eq_decide.2 (by omega)
 cases (l.all hQ&&kG jb l)
 ·simp
 simp [i2]
theorem Gc {s:ByteArray} (h:d9 s=6∨d9 s=8):s.size≤8:=by
 unfold d9 at h
 split at h
 ·omega
 omega
theorem DX {plan:List Zc} (hv:VPs plan) (hi:VIds plan):lg plan=some 0:=by
 unfold lg
 have hlen:=hv.len
 rw [bF (by omega),bB]
 refine (bD (l:=plan) (by omega) (fun _ _=>none) (.inl ()) (fun k hk=>?_) (by simp only [cT,bB])).trans ?_
 ·have hm:=List.getElem_mem hk
  have hp:=hv.all _ hm
  have hid:=hi.id _ hm
  have hl:=hi.lvl _ hm
  have hls:=Gc hl
  have hfew:=hp.few
  have hpr:=hp.price
  simp only [ic hk,bS,aQ hk,bc,bP hk (show plan.length≤4611686018427387904 by omega),Bt]
  rw [bF (show ¬ plan[k].ID<1 by omega),bF (show ¬ 1000000<plan[k].ID by omega),tk _ (by omega),qq,DW _ (xM hp),hp.ctr,hp.proc]
  have hlv:decide (d9 plan[k].Code<6)=false:=bF (by omega)
  have tail:∀ {β:Type} (K:Unit⊕(Int⊕(Unit⊕Int))→Option β),Option.bind (aU (S:=Int) (T:=(Unit)⊕(Int⊕(Unit⊕Int))) (fun v18=>cond (decide (v18<(plan[k].Inputs.length:Int))) (Option.bind (gd (decide (0<v18)) (idx plan[k].Inputs v18)) (fun m22=>Option.bind (gd (decide (0<v18)) (idx plan[k].Inputs (IntKind.i64.wrap (v18 - 1)))) (fun m23=>cond ((decide (0<v18))&&(decide (m22.Product≤m23.Product))) (some (.inr (.inr (.inr (.inr 9))))) (Option.bind (idx plan[k].Inputs v18) (fun m25=>Option.bind (eR plan m25.Product) (fun x26=>cond (!x26.2) (some (.inr (.inr (.inr (.inr 6))))) (Option.bind (idx plan[k].Inputs v18) (fun m29=>Option.bind (gd (!(decide (m29.Value<0))) (idx plan[k].Inputs v18)) (fun m30=>cond ((decide (m29.Value<0))||(decide (1000000000000<m30.Value))) (some (.inr (.inr (.inr (.inr 2))))) (some (.inl (IntKind.i64.wrap (v18+1))))))))))))) (some (.inr (.inl ())))) FUEL 0) K=K (.inl ()):=by
   intro β K
   refine (bD (l:=plan[k].Inputs) (by omega) (fun _ _=>none) (.inl ()) (fun j hj=>?_) (by simp only [cT,bB])).trans ?_
   ·have hin:=hp.inp _ (List.getElem_mem hj)
    simp only [ic hj,bS,aQ hj,bc,bP hj (show plan[k].Inputs.length≤4611686018427387904 by omega),Bt]
    rw [qU hv,bc,hin.1,bF (show ¬ plan[k].Inputs[j].Value<0 by omega),Bool.not_false,co,bc,bF (show ¬ 1000000000000<plan[k].Inputs[j].Value by omega)]
    by_cases h0:0<j
    ·have hlt:=uH hp.asc h0 hj
     rw [det h0,co,co,bc,fL h0 hj (by omega),bc,bF (by omega)];rfl
    rw [bF h0];rfl
   rw [ot];rfl
  by_cases h0:0<k
  ·have hlt:=uH hv.asc h0 hk
   rw [det h0,co,fL h0 hk (by omega),bc,bF (show ¬ plan[k].ID≤(plan[k - 1]'(by omega)).ID by omega)]
   simp only [Bool.or_self,bB,Bool.and_false,bc,hlv,Bool.not_false,co,Bool.not_true]
   rw [bF (show ¬ plan[k].Price<1 by omega),bF (show ¬ 1000000000000<plan[k].Price by omega),bF (show ¬ 8<(plan[k].Inputs.length:Int) by omega)]
   have hob:(plan[k].Obtained&&decide (0<plan[k].Inputs.length))=false:=by
    cases ho:plan[k].Obtained
    ·rfl
    rw [hp.obt ho];rfl
   rw [hob]
   simp only [Bool.or_self,bB]
   exact (tail _).trans rfl
  rw [bF h0,jm,bc]
  simp only [Bool.or_self,bB,Bool.false_and,bc,hlv,Bool.not_false,co,Bool.not_true]
  rw [bF (show ¬ plan[k].Price<1 by omega),bF (show ¬ 1000000000000<plan[k].Price by omega),bF (show ¬ 8<(plan[k].Inputs.length:Int) by omega)]
  have hob:(plan[k].Obtained&&decide (0<plan[k].Inputs.length))=false:=by
   cases ho:plan[k].Obtained
   ·rfl
   rw [hp.obt ho];rfl
  rw [hob]
  simp only [Bool.or_self,bB]
  exact (tail _).trans rfl
 rw [ot];rfl
theorem wq {p:List Zc} {l:List Zb} {imp:ByteArray} (h1:MPs p) (h2:MAs l) (h3:imp∈C6):oT p l imp=some ((nN p l imp).map pC,0)∧hI p l imp=some ((nN p l imp).map pC,0):=by
 have hv:=h1.vps
 refine ⟨BY hv h2.vas (wo hv h1.vids) ?_ ?_,DU hv h2.vas h2.asc (DX hv h1.vids) ?_ ?_⟩
 ·rw [Ah l h2.ok,h2.valid]
 ·rw [ly,C6_ctry h3]
 ·rw [ref_agr l h2.ok,h2.valid]
 rw [qq,C6_ctry h3]
theorem AQ {plan:List Zc} {l:List Zb} (hv:VPs plan) (hl:VAs l) (ha:AscA l) (imp:ByteArray):(nN plan l imp).length≤64000∧∀ p∈nN plan l imp,p.2.1.length≤1000∧p.2.2.length≤64:=by
 have hg:=tv plan l imp
 have hm:plan.length*l.length≤64*1000:=Nat.mul_le_mul hv.len hl.len
 have key:∀ (n:Nat) (o:List Goal) (ps:List Prf),(∀ g∈o,g∈di plan l imp)→(∀ p∈ps,p.2.1.length≤1000∧p.2.2.length≤64)→(ma (fun p:Prf=>p.1) (fx plan l imp) n o ps).length≤ps.length+o.length∧∀ p∈ma (fun p:Prf=>p.1) (fx plan l imp) n o ps,p.2.1.length≤1000∧p.2.2.length≤64:=by
  intro n
  induction n with
  | zero=>intro o ps _ h;exact ⟨by rw [ma];omega,by rw [ma];exact h⟩
  | succ n ih =>
   intro o ps ho h
   rw [ma]
   have hs:=o9 (fx plan l imp (aZ (ps.map fun p:Prf=>p.1))) o
   cases (o.filterMap (fx plan l imp (aZ (ps.map fun p:Prf=>p.1)))).isEmpty
   ·obtain ⟨i1,i2⟩:=ih (o.filter fun g=>(fx plan l imp (aZ (ps.map fun p:Prf=>p.1)) g).isNone) (ps++o.filterMap (fx plan l imp (aZ (ps.map fun p:Prf=>p.1)))) (fun g hg=>ho g (List.mem_filter.1 hg).1) (fun p hp=>by
     rcases List.mem_append.1 hp with hp | hp
     ·exact h p hp
     obtain ⟨g,k1,k2⟩:=List.mem_filterMap.1 hp
     have hr:=tu hl (ho g k1)
     unfold fx at k2
     cases hw:kD (oj plan l imp g.1 (aZ (ps.map fun p:Prf=>p.1))) g.2 with
     | none=>rw [hw] at k2;cases k2
     | some w =>
      rw [hw,Option.map_some] at k2
      injection k2 with k2
      subst k2
      exact ⟨by have:=sA _ _ w hw;dsimp only;omega,Ax hv imp g.1 _ (we (ho g k1)).2⟩)
    exact ⟨by rw [List.length_append] at i1;simp only [bB];omega,i2⟩
   ·exact ⟨by simp only [bS];omega,h⟩
 obtain ⟨k1,k2⟩:=key (di plan l imp).length (di plan l imp) [] (fun g h=>h) (fun p hp=>by cases hp)
 exact ⟨by unfold nN;simp only [List.length_nil] at k1;omega,k2⟩




structure POk (p:Zc):Prop where
 code:p.Code.size≤140737488355328
 proc:StrsOk p.Processes
 len:p.Inputs.length≤140737488355328
structure PSOk (l:List Zc):Prop where
 len:l.length≤140737488355328
 all:∀ p∈l,POk p
theorem t7 {α T:Type} (g:Nat→α→Option T):∀ (l:List α) (i:Nat),cA g l i=none→∀ k,(h:k<l.length)→g (i+k) l[k]=none
 | [],_,_,k,h=>absurd h (by simp)
 | x::l,i,e,k,h=>by
  rw [cA] at e
  cases hg:g i x with
  | some t=>rw [hg] at e;cases e
  | none =>
   rw [hg] at e
   cases k with
   | zero=>exact hg
   | succ k=>have:=t7 g l (i+1) e k (by simpa using h);rw [show i+(k+1)=i+1+k by omega];exact this

def uIn (id pid:Int) (acc:List Int) (x:Zh):List Int:=cond (x.Product == id) (acc++[pid]) acc
def usersS (plan:List Zc) (id:Int):List Int:=plan.foldl (fun acc p=>p.Inputs.foldl (uIn id p.ID) acc) []
def hitB (plan:List Zc) (id:Int) (r:List Bool) (m:Nat) (u:List Int):Bool:=match plan[m]? with
 | none=>false
 | some p=>((p.ID == id)||r.getD m false)&&u.any fun x=>x == p.ID
def Gd (r:List Bool):Nat:=(r.filter fun b => !b).length
structure PassI (plan:List Zc) (id:Int) (r:List Bool) (k:Nat) (r':List Bool) (ag:Bool):Prop where
 len:r'.length=plan.length
 le:k≤plan.length
 no:ag=false→r'=r∧∀ i,i<k→∀ p,plan[i]?=some p→r.getD i false=true∨∀ m,hitB plan id r m (usersS plan p.ID)=false
 yes:ag=true→Gd r'<Gd r
theorem VIds.sub {l m:List Zc} (h:VIds l) (hs:∀ p∈m,p∈l):VIds m:=⟨fun p hp=>h.id p (hs p hp),fun p hp=>h.lvl p (hs p hp)⟩

def uv (p:Zf):Prf:=(p.Claim,p.Path,p.Premises)
structure FMap (ps:List Prf) (k:Nat) (m:List (Za×Int)):Prop where
 get:∀ d,kh m d=match wi ps d with | some i=>cond (decide (i<k)) (some (i:Int)) none | none=>none
theorem DY {α:Type} {l:List α} {k:Nat} (h:k<l.length):l.take (k+1)=l.take k++[l[k]]:=by
 rw [List.take_add_one,List.getElem?_eq_getElem h];rfl
structure Zx (x:List Zf) (M:Nat):Prop where
 len:x.length≤100000
 prem:∀ p∈x,p.Premises.length≤M
 path:∀ p∈x,p.Path.length≤1000000000000
 mx:M≤2000000
theorem wadd1 {k:Nat} (h:k≤4611686018427387904):IntKind.i64.wrap ((k:Int)+1)=((k+1:Nat):Int):=by rw [cP (by omega) (by omega)];omega


theorem awake16:nA=some true:=by kernel_rfl
def FR (o:Option (List Int)) (t:List Int×Bool):Prop:=match o with
 | some q=>t=(q,true)
 | none=>t.2=false
theorem Ge {o:Option (List Int)} {t:List Int×Bool} (h:FR o t):(t.2&&((t.1.length:Int) == 0))=decide (o=some []):=by
 cases o with
 | none=>rw [show t.2=false from h];simp
 | some q =>
  rw [show t=(q,true) from h]
  cases q with
  | nil=>simp
  | cons a q =>
   rw [bF (by simp)]
   show (true&&(((a::q).length:Int) == 0))=false
   rw [Bool.true_and,beq_eq_false_iff_ne];simp <;> omega
theorem DZ (x:Zl) {l:List Zd} {k:Nat} (hk:k<l.length) (p:List Int):rb x (l.drop k) p=match wf x l[k] p with | some q=>rb x (l.drop (k+1)) q | none=>none:=by
 rw [List.drop_eq_getElem_cons hk,rb] <;> rfl
section
variable {x:Zl} {rec:Zd→List Int→Option (List Int×Bool)}
theorem C1 {l:List Zd} {T:Type} (hl:l.length≤1000) {body:List Int×Int→Option ((List Int×Int)⊕(List Int⊕(List Int×Bool)))}
    (hstep:∀ (k:Nat) (hk:k<l.length) (p:List Int),Y (body (p,(k:Int))) (fun o=>match wf x l[k] p with | some q=>o=.inl (q,((k+1:Nat):Int)) | none=>∃ e:List Int×Bool,o=.inr (.inr e)∧e.2=false))
    (hend:∀ p,body (p,(l.length:Int))=some (.inr (.inl p))) (p:List Int):Y (aU body FUEL (p,0)) (fun t=>match t with | .inl q=>rb x l p=some q | .inr e=>rb x l p=none∧e.2=false):=by
  refine Y.loop (fun s:List Int×Int=>∃ k:Nat,s.2=(k:Int)∧k≤l.length∧rb x (l.drop k) s.1=rb x l p) (fun s=>(l.length - s.2).toNat) ⟨0,rfl,by omega,rfl⟩ (by show ((l.length:Int) - 0).toNat≤_;omega) (fun s hs=>?_)
  obtain ⟨q,v⟩:=s
  obtain ⟨k,hv,hk,he⟩:=hs
  dsimp only at hv he ⊢
  subst hv
  rcases Nat.lt_or_ge k l.length with hk2 | hk2
  rotate_left
  · have e:k=l.length:=by omega
    subst e
    rw [hend]
    refine Y.ret ?_
    rw [List.drop_length,rb] at he
    exact he.symm
  obtain ⟨o,e1,h1⟩:=hstep k hk2 q
  rw [DZ x hk2] at he
  rw [e1]
  cases hf:wf x l[k] q with
  | none =>
    rw [hf] at h1 he
    obtain ⟨e,rfl,h2⟩:=h1
    exact Y.ret ⟨he.symm,h2⟩
  | some w =>
    rw [hf] at h1 he
    subst h1
    refine Y.ret ⟨⟨k+1,rfl,by omega,he⟩,?_⟩
    show ((l.length:Int) - ((k+1:Nat):Int)).toNat<((l.length:Int) - (k:Int)).toNat;omega
end
theorem Gf (x:Zl) (hx:VCase x) (n:Nat):∀ (r:Zd) (p:List Int),dH r=true→tm r≤n→Y (Irule_test_follow_F n (tt r) x p) (FR (wf x r p)):=by
 induction n with
 | zero=>intro r p _ hd;rw [kx] at hd;omega
 | succ n ih =>
  intro r p hr hd
  obtain ⟨hl,ha,_⟩:=jZ hr
  have hargs:∀ k (hk:k<r.Args.length) p,Y (Irule_test_follow_F n (tt r.Args[k]) x p) (FR (wf x r.Args[k] p)):=fun k hk p=>ih _ p (ha _ (List.getElem_mem hk)) (by have:=iJ (List.getElem_mem hk);omega)
  show Y (Irule_test_follow_B (Irule_test_follow_F n) (tt r) x p) _
  rw [F7,F9]
  have hml:(r.Args.map tt).length=r.Args.length:=List.length_map _
  have hmi:∀ k (hk:k<(r.Args.map tt).length),(r.Args.map tt)[k]=tt (r.Args[k]'(by omega)):=fun k hk=>by rw [List.getElem_map]
  cases h5:(r.Kind == 5)
  ·cases h6:(r.Kind == 6)
   ·show Y (fT ⟨r⟩ x p) _
    unfold fT
    rw [prog_holds hx hr,bc]
    simp only [bB]
    cases jD r x
    ·exact Y.ret rfl
    exact Y.ret rfl
   show Y (fS (Irule_test_follow_F n) (r.Args.map tt) x p) _
   unfold fS
   simp only [bB,bS]
   cases p with
   | nil=>exact Y.ret rfl
   | cons a t =>
    have e0:((((a::t).length:Nat):Int) == 0)=false:=by rw [beq_eq_false_iff_ne];simp <;> omega
    have ei:idx (a::t) 0=some a:=rfl
    have e6:(cond (!(a::t).isEmpty&&decide (0≤(a::t).headD 0)) (o8 x r.Args ((a::t).headD 0).toNat (a::t).tail) none)=cond (decide (0≤a)) (o8 x r.Args a.toNat t) none:=rfl
    rw [e0,e6]
    simp only [Bool.not_false,co,ei,bc,Bool.false_or]
    by_cases hneg:a<0
    ·rw [det hneg,bF (show ¬ 0≤a by omega)]
     exact Y.ret rfl
    rw [bF hneg,det (show 0≤a by omega)]
    simp only [Bool.not_false,co,bc,Bool.false_or,bS]
    obtain ⟨i,rfl⟩:∃ i:Nat,a=(i:Int):=⟨a.toNat,by omega⟩
    rw [Int.toNat_natCast,wg]
    by_cases hi:i<r.Args.length
    ·rw [bF (show ¬ (((r.Args.map tt).length:Nat):Int)≤(i:Int) by omega),bB,aQ (show i<(r.Args.map tt).length by omega),bc,List.getElem?_eq_getElem hi,hmi i (by omega)]
     have hs:sub ((i:Int)::t) 1 ((((i:Int)::t).length:Nat):Int)=some t:=by
      have:=jK (xs:=(i:Int)::t) (a:=1) (b:=((i:Int)::t).length) (by simp) (Nat.le_refl _)
      rw [show ((1:Nat):Int)=1 from rfl] at this
      rw [this,List.take_length];rfl
     rw [hs,bc]
     exact (hargs i hi t).bind fun q hq=>Y.ret hq
    rw [det (show (((r.Args.map tt).length:Nat):Int)≤(i:Int) by omega),bS,List.getElem?_eq_none (by omega)]
    exact Y.ret rfl
  show Y (fw (Irule_test_follow_F n) (r.Args.map tt) x p) _
  unfold fw
  simp only [bS]
  refine Y.bind (C1 (T:=Unit) (x:=x) (l:=r.Args) (by omega) (fun k hk q=>?_) (fun q=>?_) p) fun t ht=>?_
  ·rw [hml]
   simp only [ic hk,bS,aQ (show k<(r.Args.map tt).length by omega),bc,bP hk (show r.Args.length≤4611686018427387904 by omega),hmi k (show k<(r.Args.map tt).length by omega)]
   refine (hargs k hk q).bind fun o ho=>?_
   cases hf:wf x r.Args[k] q with
   | none =>
    rw [hf] at ho
    rw [show o.2=false from ho]
    exact Y.ret ⟨([],false),rfl,rfl⟩
   | some w =>
    rw [hf] at ho
    rw [show o=(w,true) from ho]
    exact Y.ret rfl
  ·rw [hml];simp only [cT,bB]
  cases t with
  | inl q=>dsimp only at ht ⊢;rw [ht];exact Y.ret rfl
  | inr e=>obtain ⟨h1,h2⟩:=ht;dsimp only;rw [h1];exact Y.ret h2
theorem AR {r:Zd} {x:Zl} (hx:VCase x) (ok:ROk r) (hr:dH r=true) (hc:pD r≤32) (p:List Int):lK r x p=some (decide (wf x r p=some [])):=by
 have hd:=oU r
 have hf:FUEL=1267650600228229401496703205376:=rfl
 unfold lK gq
 rw [oe r ok (by omega),(lq r).2 ⟨hc,hr⟩,bc,show ((0:Int) == 0)=true from rfl,co,qD hx,bc,bc]
 show Option.bind (iC FUEL r) _=_
 rw [Ay FUEL r hr (by omega),bc]
 obtain ⟨t,e,h⟩:=Gf x hx FUEL r p hr (by omega)
 show Option.bind (Irule_test_follow_F FUEL (tt r) x p) _=_
 rw [e,bc,Ge h]
theorem AS (x:Zl) (hx:VCase x) (n:Nat):∀ (r:Zd) (p:List Int),dH r=true→tm r≤1000→tm r≤n→Y (gV n r x p) (FR (wf x r p)):=by
 induction n with
 | zero=>intro r p _ _ hd;rw [kx] at hd;omega
 | succ n ih =>
  intro r p hr h1000 hd
  obtain ⟨hl,ha,_⟩:=jZ hr
  have hargs:∀ k (hk:k<r.Args.length) p,Y (gV n r.Args[k] x p) (FR (wf x r.Args[k] p)):=fun k hk p=>ih _ p (ha _ (List.getElem_mem hk)) (by have:=iJ (List.getElem_mem hk);omega) (by have:=iJ (List.getElem_mem hk);omega)
  show Y (iU (gV n) r x p) _
  unfold iU
  rw [F9]
  cases h5:(r.Kind == 5)
  ·cases h6:(r.Kind == 6)
   ·simp only [bB]
    rw [xL hx hr h1000,bc,yS,h5,h6]
    simp only [bB]
    cases jD r x
    ·exact Y.ret rfl
    exact Y.ret rfl
   simp only [bB,bS]
   cases p with
   | nil=>exact Y.ret rfl
   | cons a t =>
    have e0:((((a::t).length:Nat):Int) == 0)=false:=by rw [beq_eq_false_iff_ne];simp <;> omega
    have ei:idx (a::t) 0=some a:=rfl
    have e6:(cond (!(a::t).isEmpty&&decide (0≤(a::t).headD 0)) (o8 x r.Args ((a::t).headD 0).toNat (a::t).tail) none)=cond (decide (0≤a)) (o8 x r.Args a.toNat t) none:=rfl
    rw [e0,e6]
    simp only [Bool.not_false,co,ei,bc,Bool.false_or]
    by_cases hneg:a<0
    ·rw [det hneg,bF (show ¬ 0≤a by omega)]
     exact Y.ret rfl
    rw [bF hneg,det (show 0≤a by omega)]
    simp only [Bool.not_false,co,bc,Bool.false_or,bS]
    obtain ⟨i,rfl⟩:∃ i:Nat,a=(i:Int):=⟨a.toNat,by omega⟩
    rw [Int.toNat_natCast,wg]
    by_cases hi:i<r.Args.length
    ·rw [bF (show ¬ ((r.Args.length:Nat):Int)≤(i:Int) by omega),bB,aQ hi,bc,List.getElem?_eq_getElem hi]
     have hs:sub ((i:Int)::t) 1 ((((i:Int)::t).length:Nat):Int)=some t:=by
      have:=jK (xs:=(i:Int)::t) (a:=1) (b:=((i:Int)::t).length) (by simp) (Nat.le_refl _)
      rw [show ((1:Nat):Int)=1 from rfl] at this
      rw [this,List.take_length];rfl
     rw [hs,bc]
     exact (hargs i hi t).bind fun q hq=>Y.ret hq
    rw [det (show ((r.Args.length:Nat):Int)≤(i:Int) by omega),bS,List.getElem?_eq_none (by omega)]
    exact Y.ret rfl
  simp only [bS]
  refine Y.bind (C1 (T:=Unit) (x:=x) (l:=r.Args) (by omega) (fun k hk q=>?_) (fun q=>?_) p) fun t ht=>?_
  ·simp only [ic hk,bS,aQ hk,bc,bP hk (show r.Args.length≤4611686018427387904 by omega)]
   refine (hargs k hk q).bind fun o ho=>?_
   cases hf:wf x r.Args[k] q with
   | none =>
    rw [hf] at ho
    rw [show o.2=false from ho]
    exact Y.ret ⟨([],false),rfl,rfl⟩
   | some w =>
    rw [hf] at ho
    rw [show o=(w,true) from ho]
    exact Y.ret rfl
  ·simp only [cT,bB]
  cases t with
  | inl q=>dsimp only at ht ⊢;rw [ht];exact Y.ret rfl
  | inr e=>obtain ⟨h1,h2⟩:=ht;dsimp only;rw [h1];exact Y.ret h2
theorem B1 {r:Zd} {x:Zl} (hx:VCase x) (hr:dH r=true) (hc:pD r≤32) (p:List Int):ja r x p=some (decide (wf x r p=some [])):=by
 have hd:=oU r
 have hf:FUEL=1267650600228229401496703205376:=rfl
 unfold ja
 obtain ⟨t,e,h⟩:=AS x hx FUEL r p hr (by omega) (by omega)
 show Option.bind (gV FUEL r x p) _=_
 rw [e,bc,Ge h]
end SX
end Go.Proofs.YtgmbmepakpcpaaaGreatDoor
