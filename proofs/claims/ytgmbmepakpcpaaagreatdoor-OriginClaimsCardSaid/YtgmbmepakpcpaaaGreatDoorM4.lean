/- A part of the proof: texts of the walk and of the plain laws, merged. No condition. -/
import Derived.Test.YtgmbmepakpcpaaaGreatDoorM3
set_option linter.unusedVariables false
set_option linter.unusedSimpArgs false
set_option maxHeartbeats 4000000
set_option maxRecDepth 100000
namespace Go.Proofs.YtgmbmepakpcpaaaGreatDoor
namespace SX
open Go
attribute [local irreducible] WL WC WD OpL OpQ OpG Ev GuardIs Ag lx DE Call CallP midK uj Holds tY Sub Pick WS Step Lit Upd SetAt SpliceAt FillR Sh LateRun
theorem zm (κ:Kr) (b:Nat) (s:ByteArray) (hs:Sh κ b 0 (fC j6)):CallP 181 [.string s,.pointer (some ⟨b,0,none⟩)] κ fun v _=>∃ u k,v=.string u∧bl u=(bl s).drop k∧k≤(bl s).length∧(∀ c∈(bl s).take k,j6 c.toNat=true)∧(∀ c,(bl u).head?=some c→j6 c.toNat=false):=by
  (unfold CallP;apply nW Tryz.func181 (Dl Tryz.func181 rfl) rfl Tryz.ntmps181 Tryz.results181 rfl)
  repeat (first | (first | (apply eH rfl rfl rfl;(focus (exact cq (v:=(.string _)) rfl (.p rfl)))) | apply dm) | (first | apply dQ | apply bE | apply jL | apply dP))
  refine rA (X:=ByteArray×Nat) (fun z=>[(0,.string z.1),(1,.pointer (some ⟨b,0,none⟩))]) (fun _=>[]) (fun z _=>bl z.1=(bl s).drop z.2∧z.2≤(bl s).length∧∀ c∈(bl s).take z.2,j6 c.toNat=true) (fun z=>(bl s).length - z.2) (s,0) (by (repeat (first | exact Holds.nil | apply Holds.cons rfl))) (by (repeat (exact Sub.nil))) ⟨rfl,Nat.zero_le _,by simp⟩ ?_
  rintro ⟨u,k⟩ τ κ2 _ ⟨h1,h2,h3⟩
  dsimp only at h1 h2 h3
  have hsz:u.size=(bl s).length - k:=by rw [mg,h1,List.length_drop]
  simp only [tY]
  repeat (first | (first | (apply eH rfl rfl rfl;(focus (first | exact bV (v:=(.string _)) rfl (.p rfl) | exact nT rfl (.p rfl) (.p rfl) rfl | exact mS rfl rfl (.p rfl)))) | apply dm) | (first | apply dQ | apply bE | apply dP))
  apply xk rfl <;> intro hc
  · have hk0:k<(bl s).length:=by omega
    have hu0:0<(bl u).length:=by rw [← mg];omega
    repeat (first | (apply eH rfl rfl rfl;(focus (first | exact bV (v:=(.pointer _)) rfl (.p rfl) | exact bV (v:=(.string _)) rfl (.p rfl)))) | (first | apply dQ | apply bE | apply jL | apply dP | apply jK))
    apply eH rfl rfl rfl (nw (j:=0) rfl rfl (.p rfl) (.p rfl) (fun _=>by omega) (fun _=>by omega))
    have hhead:(bl u).head?=some ((bl u).getD 0 0):=by
      rw [List.head?_eq_getElem?,tR hu0,List.getElem?_eq_getElem hu0]
    apply yp rfl rfl rfl;apply mv rfl rfl (s7 _ b j6 ((u.data.toList.getD 0 0).toNat:Int) (hs.mono (by (repeat (assumption)))) (by omega) (by have:=(u.data.toList.getD 0 0).toNat_lt;omega))
    rintro v κ3 _ rfl
    repeat (first | (first | (apply eH rfl rfl rfl;(focus (exact Ai rfl (.p rfl)))) | apply dm) | (apply dP))
    rw [Int.toNat_natCast]
    apply lR rfl <;> intro hb
    · repeat (first | (first | (apply eH rfl rfl rfl;(focus (first | exact bV (v:=(.string _)) rfl (.p rfl) | exact cq (v:=(.string _)) rfl (.p rfl)))) | apply dm) | (first | apply dQ | apply bE | apply dP | apply mu | apply nS | apply kv | apply kw rfl | apply ui rfl | apply ju))
      refine nc (xj (v:=.string _) rfl) .none ⟨rfl,u,k,rfl,h1,h2,h3,fun c hc=>?_⟩
      rw [hhead] at hc;injection hc with hc;subst hc;simpa using hb
    · repeat (first | (apply eH rfl rfl rfl;(focus (exact bV (v:=(.string _)) rfl (.p rfl)))) | (first | apply bE | apply dP | apply jK))
      apply eH rfl rfl rfl (sS (l:=1) rfl rfl (.p rfl) (.p rfl) (fun _=>by omega) (fun _=>by omega))
      repeat (first | (first | (apply eH rfl rfl rfl;(focus (exact cq (v:=(.string _)) rfl (.p rfl)))) | apply dm) | (apply qk))
      refine xi (u.extract 1 u.size,k+1) (by (repeat (first | exact Holds.nil | apply Holds.cons rfl))) (by (repeat (exact Sub.nil))) ⟨?_,by ((try dsimp only at *) <;> omega),?_⟩ (by ((try dsimp only at *) <;> omega))
      · rw [bl_lo,h1,List.drop_drop]
      · intro c hc
        rw [List.take_add_one] at hc
        rcases List.mem_append.1 hc with hc | hc
        · exact h3 c hc
        · have e:(bl u).getD 0 0=(bl s)[k]'hk0:=by rw [tR hu0];simp [h1]
          rw [List.getElem?_eq_getElem hk0] at hc
          simp only [Option.toList_some,List.mem_cons,List.not_mem_nil,or_false] at hc
          subst hc;rw [← e];simpa using hb
  · repeat (first | (first | (apply eH rfl rfl rfl;(focus (first | exact bV (v:=(.string _)) rfl (.p rfl) | exact cq (v:=(.string _)) rfl (.p rfl)))) | apply dm) | (first | apply dQ | apply bE | apply dP | apply mu | apply nS | apply kv | apply kw rfl | apply ju))
    refine nc (xj (v:=.string _) rfl) .none ⟨rfl,u,k,rfl,h1,h2,h3,fun c hc'=>?_⟩
    have:bl u=[]:=List.eq_nil_of_length_eq_zero (by rw [← mg];omega)
    rw [this] at hc';cases hc'
def kN (s:ByteArray):Bool:=(bl s).all fun c=>j6 c.toNat
theorem wE {s:ByteArray}:s=⟨#[]⟩↔bl s=[]:=⟨fun h=>by rw [h],fun h=>bl_inj (by rw [h])⟩
theorem trim_ok (κ:Kr) (s:ByteArray) (hz:s.size≤1000000000):CallP 156 [.string s,.string je] κ fun v _=>∃ u,v=.string u∧(u=⟨#[]⟩↔kN s=true):=by
  (unfold CallP;apply nW Tryz.func156 (Dl Tryz.func156 rfl) rfl Tryz.ntmps156 Tryz.results156 rfl)
  repeat (first | (first | (apply eH rfl rfl rfl;(focus (first | exact bV (v:=(.bool _)) rfl (.p rfl) | exact bV (v:=(.string _)) rfl (.p rfl) | exact cq (v:=(.string _)) rfl (.p rfl) | exact oq_or rfl (.p rfl) (.p rfl) (.g rfl) | exact xb rfl (.p rfl) (.p rfl) rfl))) | (apply t6;(focus (exact Bm rfl rfl rfl));rfl;rfl;(focus (first | (apply bV (v:=(.string _)) rfl;(focus (exact Ev.p rfl))) | (apply xb rfl (by (focus (exact Ev.g rfl))) (by (focus (exact Ev.p rfl)));rfl)))) | apply dm) | (first | apply dQ | apply bE | apply dP))
  apply lR rfl <;> intro hb
  · repeat (first | (first | (apply eH rfl rfl rfl;(focus (first | exact bV (v:=(.string _)) rfl (.p rfl) | exact cq (v:=(.string _)) rfl (.p rfl)))) | apply dm) | (first | apply dQ | apply bE | apply dP | apply mu | apply sb))
    have:s=⟨#[]⟩:=by simpa [je] using hb
    refine nc (xj (v:=.string _) rfl) .none ⟨rfl,s,rfl,?_⟩
    subst this;simp [kN,bl]
  · have hne:¬ bl s=[]:=fun h=>by rw [wE.2 h] at hb;simp at hb
    repeat (first | (first | (apply eH rfl rfl rfl;(focus (first | exact bV (v:=(.bool _)) rfl (.p rfl) | exact bV (v:=(.string _)) rfl (.p rfl) | exact nT rfl (.p rfl) (.p rfl) rfl | exact mS rfl rfl (.p rfl)))) | (apply t6;(focus (exact nR rfl rfl rfl));rfl;rfl;(focus (apply bV (v:=(.string _)) rfl;(focus (exact Ev.p rfl)))))) | (first | apply dQ | apply bE | apply dP | apply jK))
    apply t6;(focus (exact nR rfl rfl rfl));rfl;rfl;exact nw (s:=je) (j:=0) rfl rfl (.g rfl) (.p rfl) (fun _=>rfl) (fun _=>by decide)
    repeat (first | (first | (apply eH rfl rfl rfl;(focus (exact Ah rfl (.p rfl) (.p rfl) (.g rfl)))) | (apply t6;(focus (exact nR rfl rfl rfl));rfl;rfl;(focus (apply nT rfl (by (focus (exact Ev.g rfl))) (by (focus (exact Ev.p rfl)));rfl))) | apply dm) | (apply dP))
    apply lR rfl <;> intro hb2
    · have e:(je.size:Int)=10:=rfl
      rw [e] at hb2;simp at hb2
    repeat (first | (apply eH rfl rfl rfl;(focus (exact bV (v:=(.string _)) rfl (.p rfl)))) | (first | apply dQ | apply bE | apply dP | apply jK))
    refine wl_fun rfl rfl rfl rfl rfl (EG _) fun κ1 _=>?_
    repeat (first | (first | (apply eH rfl rfl rfl;(focus (first | exact bV (v:=(.bool _)) rfl (.p rfl) | exact bV (v:=(.tuple _)) rfl (.p rfl) | exact cq (v:=(.bool _)) rfl (.p rfl) | exact t7 rfl (.p rfl) rfl))) | (apply yp rfl rfl rfl;apply wf rfl rfl;intro _ _ _) | (apply Bn rfl rfl;apply wg rfl rfl rfl rfl rfl rfl;(focus (repeat (exact Upd.h)));rfl;intro _ _) | apply dm) | (first | apply dQ | apply bE | apply dP))
    rename_i b5 _ _ _ _
    apply wc_pub (b:=b5) Pick.h rfl;intro κ3 _ hS hsays
    have hset:=DR hS hsays
    apply Du rfl
    repeat (first | (apply eH rfl rfl rfl;(focus (exact bV (v:=(.string _)) rfl (.p rfl)))) | (first | apply dQ | apply bE))
    apply yp rfl rfl rfl;apply mv rfl rfl (xQ _ b5 s (hset.mono (by (repeat (exact Kle.refl _)))) hz)
    rintro v κ4 _ ⟨u,k,rfl,h1,h2,h3,h4⟩
    apply yp rfl rfl rfl;apply mv rfl rfl (zm _ b5 u (hset.mono (by (repeat (assumption)))))
    rintro v κ5 _ ⟨u2,k2,rfl,g1,g2,g3,g4⟩
    repeat (first | (first | (apply eH rfl rfl rfl;(focus (exact cq (v:=(.string _)) rfl (.p rfl)))) | apply dm) | (first | apply dP | apply mu | apply sb))
    refine nc (xj (v:=.string _) rfl) .none ⟨rfl,u2,rfl,?_⟩
    rw [wE]
    unfold kN
    rw [List.all_eq_true]
    constructor
    · intro h
      have hk2:k2=(bl u).length:=by
        have:=congrArg List.length (g1.symm.trans h);simp only [List.length_drop,List.length_nil] at this;omega
      intro c hc
      rw [← List.take_append_drop k (bl s)] at hc
      rcases List.mem_append.1 hc with hc | hc
      · rw [← h1] at hc;rw [hk2,List.take_length] at g3;exact g3 c hc
      · exact h3 c hc
    · intro h
      have hu:bl u=[]:=by
        rcases List.eq_nil_or_concat (bl u) with hu | ⟨l,c,hu⟩
        · exact hu
        · have hc:=h4 c (by rw [hu];simp)
          have hm:c∈bl s:=List.mem_of_mem_take (i:=k) (by rw [← h1,hu];simp)
          rw [h c hm] at hc;cases hc
      rw [g1,hu];simp
def Glob (κ:Kr):Prop:=Sh κ 0 0 [.int .i64 2,.int .i64 4,.int .i64 6,.int .i64 8]
theorem Glob.mono {κ κ':Kr} (h:Glob κ) (k:Kle κ κ'):Glob κ':=Sh.mono h k
def dL (s:ByteArray):Int:=if (s.size=2∨s.size=4∨s.size=6∨s.size=8)∧kN s=true then (s.size:Int) else 0
theorem gv_some {c:Bool} {v:Value} {P:ByteArray→Prop} (h:c=true→∃ u,v=.string u∧P u):∃ u,gv c v=gv c (.string u)∧(c=true→P u):=by
  cases c
  · exact ⟨⟨#[]⟩,by rw [il,il],fun h=>by cases h⟩
  · obtain ⟨u,rfl,h2⟩:=h rfl;exact ⟨u,rfl,fun _=>h2⟩
theorem EH (κ:Kr) (s:ByteArray) (hg:Glob κ):CallP 109 [.string s] κ fun v _=>v=.int .i64 (dL s):=by
  (unfold CallP;apply nW Tryz.func109 (Dl Tryz.func109 rfl) rfl Tryz.ntmps109 Tryz.results109 rfl)
  repeat (first | (first | (apply eH rfl rfl rfl;(focus (exact cq (v:=(.int _ _)) rfl (.p rfl)))) | apply dm) | (first | apply dQ | apply bE | apply dP))
  apply eH rfl rfl rfl (r9 rfl (.p rfl) (fun _=>hg) rfl)
  repeat (first | (first | (apply eH rfl rfl rfl;(focus (exact bV (v:=(.int _ _)) rfl (.p rfl)))) | apply dm) | (first | apply jL | apply dP))
  refine rA (X:=Nat) (fun k=>[(0,.string s),(5,.agg #[.int .i64 2,.int .i64 4,.int .i64 6,.int .i64 8]),(6,.int .i64 (k:Int))]) (fun _=>[]) (fun k _=>k≤4∧∀ j,j<k→¬ (s.size=2*(j+1)∧kN s=true)) (fun k=>4 - k) 0 (by (repeat (first | exact Holds.nil | apply Holds.cons rfl))) (by (repeat (exact Sub.nil))) ⟨by omega,by omega⟩ ?_
  rintro k τ κ1 _ ⟨hk,hno⟩
  simp only [tY]
  repeat (first | (first | (apply eH rfl rfl rfl;(focus (exact nT rfl (.p rfl) (.p rfl) rfl))) | apply dm) | (first | apply dQ | apply bE | apply dP))
  apply xk rfl <;> intro hc
  · have hk4:k<4:=by omega
    repeat (first | apply dQ | apply bE | apply jL | apply dP | apply jK)
    apply eH rfl rfl rfl (Ct (cs:=[.int .i64 2,.int .i64 4,.int .i64 6,.int .i64 8]) (v:=.int .i64 (2*((k:Int)+1))) (j:=k) rfl rfl rfl rfl rfl (.p rfl) (.p rfl) (fun _=>rfl) (fun _=>hk4) (fun _=>by
      have:k=0∨k=1∨k=2∨k=3:=by omega
      rcases this with rfl | rfl | rfl | rfl <;> rfl))
    repeat (first | (first | (apply eH rfl rfl rfl;(focus (first | exact bV (v:=(.int _ _)) rfl (.p rfl) | exact bV (v:=(.bool _)) rfl (.p rfl) | exact bV (v:=(.string _)) rfl (.p rfl) | exact cq (v:=(.int _ _)) rfl (.p rfl) | exact nT rfl (.p rfl) (.p rfl) rfl | exact mS rfl rfl (.p rfl)))) | (apply t6;(focus (exact nR rfl rfl rfl));rfl;rfl;(focus (apply bV (v:=(.string _)) rfl;(focus (exact Ev.p rfl))))) | apply dm) | (first | apply dQ | apply bE | apply dP))
    apply wl_g;(focus (exact nR rfl rfl rfl));rfl;rfl
    refine yu rfl (ar2 (.g rfl) (.p rfl)) (fun hcc=>trim_ok _ s (by simp at hcc;omega)) fun v κ2 _ hv=>?_
    obtain ⟨u,hu,hP⟩:=gv_some hv
    rw [hu]
    repeat (first | (first | (apply eH rfl rfl rfl;(focus (exact Ah rfl (.p rfl) (.p rfl) (.g rfl)))) | (apply t6;(focus (exact nR rfl rfl rfl));rfl;rfl;(focus (apply xb rfl (by (focus (exact Ev.g rfl))) (by (focus (exact Ev.p rfl)));rfl))) | apply dm) | (apply dP))
    apply lR rfl <;> intro hb
    · simp only [Bool.and_eq_true,beq_iff_eq,decide_eq_true_eq] at hb
      have hd:kN s=true:=(hP (by simpa using hb.1)).1 hb.2
      repeat (first | (first | (apply eH rfl rfl rfl;(focus (first | exact bV (v:=(.int _ _)) rfl (.p rfl) | exact cq (v:=(.int _ _)) rfl (.p rfl)))) | apply dm) | (first | apply dQ | apply bE | apply dP | apply mu | apply sb | apply yB | apply Ak))
      refine nc (xj (v:=.int _ _) rfl) .none ⟨rfl,?_⟩
      show Value.int .i64 (2*((k:Int)+1))=.int .i64 (dL s)
      unfold dL
      rw [if_pos ⟨by omega,hd⟩,← hb.1]
    · repeat (first | (first | (apply eH rfl rfl rfl;(focus (first | exact bV (v:=(.int _ _)) rfl (.p rfl) | exact nU rfl (.p rfl) (.p rfl) rfl (fun _=>by omega)))) | apply dm) | (first | apply bE | apply dP | apply jK | apply qk))
      refine xi (k+1) (by (repeat (first | exact Holds.nil | apply Holds.cons rfl))) (by (repeat (exact Sub.nil))) ⟨by omega,fun j hj=>?_⟩ (by omega)
      rcases Nat.lt_or_ge j k with h | h
      · exact hno j h
      · have:j=k:=by omega
        subst this
        rintro ⟨h1,h2⟩
        have hcc:((s.size:Int) == 2*((j:Int)+1))=true:=by simp;omega
        have:=(hP (by simpa using hcc)).2 h2
        subst this
        rw [hcc] at hb;simp at hb
  · repeat (first | (first | (apply eH rfl rfl rfl;(focus (exact cq (v:=(.int _ _)) rfl (.p rfl)))) | apply dm) | (first | apply dQ | apply bE | apply dP | apply mu | apply nS | apply kv | apply kw rfl | apply ju))
    refine nc (xj (v:=.int _ _) rfl) .none ⟨rfl,?_⟩
    show Value.int .i64 0=.int .i64 (dL s)
    unfold dL
    rw [if_neg]
    rintro ⟨h1,h2⟩
    have:k=4:=by omega
    subst this
    rcases h1 with h1 | h1 | h1 | h1
    · exact hno 0 (by omega) ⟨h1,h2⟩
    · exact hno 1 (by omega) ⟨h1,h2⟩
    · exact hno 2 (by omega) ⟨h1,h2⟩
    · exact hno 3 (by omega) ⟨h1,h2⟩
end SX
namespace SX
open Go
def dH (p0:ByteArray):Option Int:=some (dL p0)
theorem fK {p0:ByteArray} {r:Int} (h:dH p0=some r):PF 109 [.v (.string p0)] (.v (.int .i64 r)):=fun κ args g ha=>by
 obtain ⟨v,ws,rfl,h1,h2⟩:=ha.cons_inv
 rw [h2.nil_inv,h1.val]
 have h:=Option.some.inj h;subst h
 exact (EH κ p0 g).mono fun v κ' _ hv=>by subst hv;exact .v rfl
def itr (b:Nat) (s:ByteArray) (pos:Nat):Res:=⟨some b,fun o=>o=some (.stringIter s pos)⟩
theorem EI {o:Oper} {σ:PEnv} {ρ:List PRes} {x:Operand} {t:Nat} {s:ByteArray} {K:PV→List PRes→Prop} (ho:o.op=.range t x) (hu:eO t=some .string) (hx:bv σ x=.v (.string s)) (h:∀ b,K (.v (.pointer (some ⟨b,0,none⟩))) (.raw (itr b s 0)::ρ)):POpL o σ ρ K:=fun κ σ' ρ' g hs hr β hi Nx hk=>by
 have e1:=hs.v1 hx
 have h1:=run_underlying (w:=κ.w) (bB hu)
 have hrun:(execOp (ev σ') o).run Tryz.prog κ.w=.ok (.value (.pointer (some ⟨κ.w.heap.size,0,none⟩))) (κ.w.alloc (.stringIter s 0)):=by
  simp [execOp,ho,e1,Instr.range,h1,run_newObj_alloc]
 rw [hrun]
 exact hk _ _ ⟨κ.w.alloc (.stringIter s 0),κ.S⟩ (hi.alloc _ (itr κ.w.heap.size s 0) rfl rfl) (eV hi.fin _) ⟨_,_,.v rfl,.cons .raw (hr.mono (eV hi.fin _)),h _⟩
theorem pl_next {o:Oper} {σ:PEnv} {ρ ρ1:List PRes} {x:Operand} {b pos:Nat} {s:ByteArray} {K:PV→List PRes→Prop} (ho:o.op=.next x true) (hx:bv σ x=.v (.pointer (some ⟨b,0,none⟩))) (hu:PUpd ρ (.raw (itr b s pos)) (.raw (itr b s (pos+(Utf8.decode s pos).2))) ρ1) (h1:pos<s.size→K (.tup [.v (.bool true),.v (.int .i64 (pos:Int)),.v (.int .i32 ((Utf8.decode s pos).1:Int))]) ρ1) (h2:s.size≤pos→K (.tup [.v (.bool false)]) ρ):POpL o σ ρ K:=fun κ σ' ρ' g hs hr β hi Nx hk=>by
 have e1:=hs.v1 hx
 have hr0:=hr
 obtain ⟨r0,l1,l2,rfl,h4,h5⟩:=hr.upd hu
 cases h4 with
 | raw =>
  have hb:κ.w.heap[b]?=some (.stringIter s pos):=hi.own (itr b s pos) (by simp)
  have hg:(getObj b).run Tryz.prog κ.w=.ok (.stringIter s pos) κ.w:=by simp [getObj,Sem.run,hb]
  have hset:∀ ob,(setObj b ob).run Tryz.prog κ.w=.ok () { κ.w with heap:=κ.w.heap.setIfInBounds b ob }:=fun ob=>by simp [setObj,Sem.run,hb]
  rcases Nat.lt_or_ge pos s.size with hlt | hge
  ·have hrun:(execOp (ev σ') o).run Tryz.prog κ.w=.ok (.value (.tuple #[.bool true,goInt pos,.int .i32 ((Utf8.decode s pos).1:Int)])) { κ.w with heap:=κ.w.heap.setIfInBounds b (.stringIter s (pos+(Utf8.decode s pos).2)) }:=by
    simp [execOp,ho,e1,Instr.next,hg,hlt,hset]
   rw [hrun]
   obtain ⟨i1,i2⟩:=hi.turn (r:=itr b s pos) (r':=itr b s (pos+(Utf8.decode s pos).2)) (b:=b) (w':={ κ.w with heap:=κ.w.heap.setIfInBounds b (.stringIter s (pos+(Utf8.decode s pos).2)) }) rfl rfl rfl (fun i hi=>sW hi) (by simp) (sX hb) rfl rfl rfl (Nat.le_refl _)
   exact hk _ _ _ i1 i2 ⟨_,ρ1,.tup (ws:=[_,_,_]) (.cons (.v rfl) (.cons (.v rfl) (.cons (.v rfl) .nil))),h5 _ _ i2 .raw,h1 hlt⟩
  ·have hrun:(execOp (ev σ') o).run Tryz.prog κ.w=.ok (.value (.tuple #[.bool false])) κ.w:=by
    simp [execOp,ho,e1,Instr.next,hg,Nat.not_lt.2 hge]
   rw [hrun]
   exact hk _ _ κ hi (.refl _) ⟨_,ρ,.tup (ws:=[_]) (.cons (.v rfl) .nil),hr0,h2 hge⟩
def jE (s:ByteArray) (pos:Nat):Option (Nat⊕Bool):=cond (Nat.blt pos s.size) (cond (decide (((Utf8.decode s pos).1:Int)<97)||decide (122<((Utf8.decode s pos).1:Int))) (some (.inr false)) (some (.inl (pos+(Utf8.decode s pos).2)))) (some (.inr true))
def j7 (p0:ByteArray):Option Bool:=cond (decide ((p0.size:Int)<1)||decide (12<(p0.size:Int))) (some false) (aW (jE p0) FUEL 0)
attribute [local irreducible] PWL PWC PWD POpL POpQ PEv PGuardIs PSub PPick PUpd PSplice PFill PLit PF PFV PCall FOk eG eg lI nA jP lJ Cov PHolds aW jE
theorem tF {p0:ByteArray} {r:Bool} (h:j7 p0=some r):PF 110 [pS p0] (pB r):=by
 unfold j7 at h
 refine bc ?_
 refine n8 Tryz.func110 rfl Tryz.ntmps110 Tryz.results110 rfl ?_
 (repeat refine ae ?_)
 refine ap [] [2] [] bk (by kernel_rfl) ?_
 (repeat (first | apply aD | apply aY))
 (repeat refine ae ?_)
 refine ap [] [5,6,7,8,9,10,11] [(12,pB (decide ((p0.size:Int)<1)||decide (12<(p0.size:Int))))] bk (by kernel_rfl) ?_
 (repeat (first | apply aD | apply aY))
 (repeat refine ae ?_)
 refine jO rfl (fun hc=>?_) (fun hc=>?_)
 ·replace h:=At hc h
  (repeat refine ae ?_)
  refine ap [] [] [(2,pB false)] bk (by kernel_rfl) ?_
  (repeat (first | apply aD | apply aY))
  (repeat refine ae ?_)
  refine bS ?_
  (repeat (first | apply am | apply dB | apply mz | apply gn))
  obtain rfl:=Option.some.inj h
  exact aN (dh (aQ rfl)) bA ⟨rfl,rfl⟩
 replace h:=Au hc h
 refine ah ?_
 (repeat (first | apply aD | apply aY))
 (repeat refine ae ?_)
 refine af ?_
 refine aX 1 [] [] [(13,pS p0)] bk (by kernel_rfl) ?_
 refine Bw rfl rfl rfl (EI rfl rfl rfl fun b=>?_)
 refine aF ?_
 (repeat (first | apply aD | apply aY))
 (repeat refine ae ?_)
 refine aq (Y:=Unit) (fun _=>[]) (fun _=>[]) (fun _=>r=true) ?_ ?_
 ·refine av ?_
  refine aC (Y:=Unit) (S:=Nat) _ h (fun _ _=>[(14,pP b 0)]) (fun _ pos=>[PRes.raw (itr b p0 pos)]) () (by (repeat (first | exact oF | apply ed rfl))) (by (repeat (first | exact bA | (apply bd;(focus (repeat (first | exact aM | apply aB))))))) ?_
  rintro _ pos o τ hb;dsimp only [aw]
  unfold jE at hb
  (repeat refine ae ?_)
  refine af ?_
  refine Bw rfl rfl rfl (pl_next rfl rfl cg (fun hlt=>?_) (fun hge=>?_))
  ·have hlt':Nat.blt pos p0.size=true:=by simp [Nat.blt];omega
   rw [hlt'] at hb;simp only [bY] at hb
   refine iH [] [] [(16,pB true)] bk (by kernel_rfl) ?_
   (repeat (first | apply aD | apply aY))
   (repeat refine ae ?_)
   refine jO (p:=true) rfl (fun _=>?_) (fun hf=>by cases hf)
   refine ah ?_
   (repeat (first | apply aD | apply aY))
   (repeat refine ae ?_)
   refine av ?_
   (repeat refine ae ?_)
   refine ap [] [17] [(4,.v (.int .i32 ((Utf8.decode p0 pos).1:Int)))] bk (by kernel_rfl) ?_
   (repeat (first | apply aD | apply aY))
   (repeat refine ae ?_)
   refine ap [] [18,19,20,21,22] [(23,pB (decide (((Utf8.decode p0 pos).1:Int)<97)||decide (122<((Utf8.decode p0 pos).1:Int))))] bk (by kernel_rfl) ?_
   (repeat (first | apply aD | apply aY))
   (repeat refine ae ?_)
   refine jO rfl (fun hc2=>?_) (fun hc2=>?_)
   ·replace hb:=At hc2 hb
    (repeat refine ae ?_)
    refine ap [] [] [(2,pB false)] bk (by kernel_rfl) ?_
    (repeat (first | apply aD | apply aY))
    (repeat refine ae ?_)
    refine bS ?_
    (repeat (first | apply am | apply dB | apply mz | apply gn))
    refine au hb (fun ht=>?_);subst ht
    (repeat (first | apply am | apply dB | apply mz | apply gn))
    exact aN (dh (aQ rfl)) bA ⟨rfl,rfl⟩
   replace hb:=Au hc2 hb
   refine ah ?_
   (repeat apply aD)
   exact aU hb () (by (repeat (first | exact oF | apply ed rfl))) (by (repeat (first | exact bA | (apply bd;(focus (repeat (first | exact aM | apply aB)))))))
  have hge':Nat.blt pos p0.size=false:=by cases e:Nat.blt pos p0.size;rfl;exact absurd (Nat.le_of_ble_eq_true e) (by omega)
  rw [hge'] at hb;simp only [bI] at hb
  refine iH [] [] [(16,pB false)] bk (by kernel_rfl) ?_
  (repeat (first | apply aD | apply aY))
  (repeat refine ae ?_)
  refine jO (p:=false) rfl (fun hf=>by cases hf) (fun _=>?_)
  refine aH ?_
  (repeat (first | apply gI | apply yL | apply yM | apply o3 rfl))
  refine lT hb (fun ht=>?_)
  refine aj rfl ?_
  exact az () oF bA ht.symm
 rintro _ τ hz;subst hz;dsimp only [aw]
 (repeat refine ae ?_)
 refine ap [] [] [(2,pB true)] bk (by kernel_rfl) ?_
 (repeat (first | apply aD | apply aY))
 (repeat refine ae ?_)
 refine bS ?_
 (repeat (first | apply am | apply dB | apply mz | apply gn))
 exact aN (dh (aQ rfl)) bA ⟨rfl,rfl⟩
end SX
end Go.Proofs.YtgmbmepakpcpaaaGreatDoor
namespace Go.Proofs
open Go.Shelf
def Tryz.lSF_ren:Go.Shelf.Ren:=⟨fun | 6=>49 | 15=>101 | 14=>100 | 28=>150 | 29=>151 | 20=>142 | 21=>143 | 22=>144 | 23=>145 | 24=>146 | 25=>147 | 26=>148 | 27=>149 | 46=>173 | 47=>174 | 48=>175 | 49=>176 | 50=>177 | 57=>203 | n=>n,fun | 22=>31 | 24=>28 | 25=>109 | 3=>3 | 39=>49 | 0=>0 | 53=>206 | 55=>116 | 4=>4 | 46=>200 | 45=>199 | 50=>144 | 5=>5 | 9=>9 | 66=>235 | 70=>239 | 76=>259 | 77=>260 | n=>n,fun | n=>n⟩
theorem Tryz.lSF:Go.Proofs.SlLaysF0.n6 Tryz.prog Tryz.lSF_ren:={
 mixed:=by kernel_rfl
 f6:=⟨Tryz.f49.name,by decide,Tryz.func49.trans (congrArg some (by kernel_rfl))⟩
 f14:=⟨Tryz.f100.name,by decide,Tryz.func100.trans (congrArg some (by kernel_rfl))⟩
 f15:=Tryz.func101.trans (congrArg some (by kernel_rfl))
 f20:=⟨Tryz.f142.name,by decide,Tryz.func142.trans (congrArg some (by kernel_rfl))⟩
 f21:=⟨Tryz.f143.name,by decide,Tryz.func143.trans (congrArg some (by kernel_rfl))⟩
 f22:=⟨Tryz.f144.name,by decide,Tryz.func144.trans (congrArg some (by kernel_rfl))⟩
 f23:=⟨Tryz.f145.name,by decide,Tryz.func145.trans (congrArg some (by kernel_rfl))⟩
 f24:=⟨Tryz.f146.name,by decide,Tryz.func146.trans (congrArg some (by kernel_rfl))⟩
 f25:=⟨Tryz.f147.name,by decide,Tryz.func147.trans (congrArg some (by kernel_rfl))⟩
 f26:=⟨Tryz.f148.name,by decide,Tryz.func148.trans (congrArg some (by kernel_rfl))⟩
 f27:=⟨Tryz.f149.name,by decide,Tryz.func149.trans (congrArg some (by kernel_rfl))⟩
 f28:=Tryz.func150.trans (congrArg some (by kernel_rfl))
 f29:=Tryz.func151.trans (congrArg some (by kernel_rfl))
 f46:=⟨Tryz.f173.name,by decide,Tryz.func173.trans (congrArg some (by kernel_rfl))⟩
 f47:=Tryz.func174.trans (congrArg some (by kernel_rfl))
 f48:=Tryz.func175.trans (congrArg some (by kernel_rfl))
 f49:=⟨Tryz.f176.name,by decide,Tryz.func176.trans (congrArg some (by kernel_rfl))⟩
 f50:=⟨Tryz.f177.name,by decide,Tryz.func177.trans (congrArg some (by kernel_rfl))⟩
 f57:=⟨Tryz.f203.name,by decide,Tryz.func203.trans (congrArg some (by kernel_rfl))⟩
 t0:=Tryz.underlying0
 a0:=Tryz.isAgg0
 z0:=Tryz.sizeOf0
 v0:=Tryz.zeroValue0
 t3:=Tryz.underlying3
 a3:=Tryz.isAgg3
 z3:=Tryz.sizeOf3
 v3:=Tryz.zeroValue3
 t4:=Tryz.underlying4
 a4:=Tryz.isAgg4
 z4:=Tryz.sizeOf4
 v4:=Tryz.zeroValue4
 t5:=Tryz.underlying5
 a5:=Tryz.isAgg5
 z5:=Tryz.sizeOf5
 v5:=Tryz.zeroValue5
 t9:=Tryz.underlying9
 a9:=Tryz.isAgg9
 z9:=Tryz.sizeOf9
 v9:=Tryz.zeroValue9
 t22:=Tryz.underlying31
 a22:=Tryz.isAgg31
 z22:=Tryz.sizeOf31
 v22:=Tryz.zeroValue31
 t25:=Tryz.underlying109
 a25:=Tryz.isAgg109
 z25:=Tryz.sizeOf109
 v25:=Tryz.zeroValue109
 t39:=Tryz.underlying49
 a39:=Tryz.isAgg49
 z39:=Tryz.sizeOf49
 v39:=Tryz.zeroValue49
 t45:=Tryz.underlying199
 a45:=Tryz.isAgg199
 z45:=Tryz.sizeOf199
 v45:=Tryz.zeroValue199
 t46:=Tryz.underlying200
 a46:=Tryz.isAgg200
 z46:=Tryz.sizeOf200
 v46:=Tryz.zeroValue200
 t50:=Tryz.underlying144
 a50:=Tryz.isAgg144
 z50:=Tryz.sizeOf144
 v50:=Tryz.zeroValue144
 t53:=Tryz.underlying206
 a53:=Tryz.isAgg206
 z53:=Tryz.sizeOf206
 v53:=Tryz.zeroValue206
 t55:=Tryz.underlying116
 a55:=Tryz.isAgg116
 z55:=Tryz.sizeOf116
 v55:=Tryz.zeroValue116
 t66:=Tryz.underlying235
 a66:=Tryz.isAgg235
 z66:=Tryz.sizeOf235
 v66:=Tryz.zeroValue235
 t70:=Tryz.underlying239
 a70:=Tryz.isAgg239
 z70:=Tryz.sizeOf239
 v70:=Tryz.zeroValue239
 t76:=Tryz.underlying259
 a76:=Tryz.isAgg259
 z76:=Tryz.sizeOf259
 v76:=Tryz.zeroValue259
 t77:=Tryz.underlying260
 a77:=Tryz.isAgg260
 z77:=Tryz.sizeOf260
 v77:=Tryz.zeroValue260 }
end Go.Proofs
namespace Go.Proofs
open Go.Shelf
def Tryz.lSs_ren:Go.Shelf.Ren:=⟨fun | 190=>139 | 125=>101 | 258=>170 | 128=>150 | 129=>151 | 302=>191 | 303=>192 | 304=>193 | 305=>194 | 306=>195 | 307=>196 | 308=>197 | 309=>198 | 310=>199 | 333=>209 | 329=>174 | 330=>175 | 334=>210 | 335=>211 | 336=>212 | 344=>217 | n=>n,fun | 31=>33 | 9=>9 | 3=>3 | 46=>49 | 0=>0 | 51=>206 | 53=>116 | 4=>4 | 183=>200 | 182=>199 | 131=>144 | 5=>5 | 218=>235 | 222=>239 | 228=>259 | 229=>260 | n=>n,fun | n=>n⟩
theorem Tryz.lSs:Go.Proofs.Lays.n190 Tryz.prog Tryz.lSs_ren:={
 mixed:=by kernel_rfl
 f125:=Tryz.func101.trans (congrArg some (by kernel_rfl))
 f128:=Tryz.func150.trans (congrArg some (by kernel_rfl))
 f129:=Tryz.func151.trans (congrArg some (by kernel_rfl))
 f190:=Tryz.func139.trans (congrArg some (by kernel_rfl))
 f258:=Tryz.func170.trans (congrArg some (by kernel_rfl))
 f302:=Tryz.func191.trans (congrArg some (by kernel_rfl))
 f303:=Tryz.func192.trans (congrArg some (by kernel_rfl))
 f304:=Tryz.func193.trans (congrArg some (by kernel_rfl))
 f305:=Tryz.func194.trans (congrArg some (by kernel_rfl))
 f306:=Tryz.func195.trans (congrArg some (by kernel_rfl))
 f307:=Tryz.func196.trans (congrArg some (by kernel_rfl))
 f308:=Tryz.func197.trans (congrArg some (by kernel_rfl))
 f309:=Tryz.func198.trans (congrArg some (by kernel_rfl))
 f310:=Tryz.func199.trans (congrArg some (by kernel_rfl))
 f329:=Tryz.func174.trans (congrArg some (by kernel_rfl))
 f330:=Tryz.func175.trans (congrArg some (by kernel_rfl))
 f333:=Tryz.func209.trans (congrArg some (by kernel_rfl))
 f334:=Tryz.func210.trans (congrArg some (by kernel_rfl))
 f335:=Tryz.func211.trans (congrArg some (by kernel_rfl))
 f336:=Tryz.func212.trans (congrArg some (by kernel_rfl))
 f344:=Tryz.func217.trans (congrArg some (by kernel_rfl))
 t0:=Tryz.underlying0
 a0:=Tryz.isAgg0
 z0:=Tryz.sizeOf0
 v0:=Tryz.zeroValue0
 t3:=Tryz.underlying3
 a3:=Tryz.isAgg3
 z3:=Tryz.sizeOf3
 v3:=Tryz.zeroValue3
 t4:=Tryz.underlying4
 a4:=Tryz.isAgg4
 z4:=Tryz.sizeOf4
 v4:=Tryz.zeroValue4
 t5:=Tryz.underlying5
 a5:=Tryz.isAgg5
 z5:=Tryz.sizeOf5
 v5:=Tryz.zeroValue5
 t9:=Tryz.underlying9
 a9:=Tryz.isAgg9
 z9:=Tryz.sizeOf9
 v9:=Tryz.zeroValue9
 t31:=Tryz.underlying33
 a31:=Tryz.isAgg33
 z31:=Tryz.sizeOf33
 v31:=Tryz.zeroValue33
 t46:=Tryz.underlying49
 a46:=Tryz.isAgg49
 z46:=Tryz.sizeOf49
 v46:=Tryz.zeroValue49
 t51:=Tryz.underlying206
 a51:=Tryz.isAgg206
 z51:=Tryz.sizeOf206
 v51:=Tryz.zeroValue206
 t53:=Tryz.underlying116
 a53:=Tryz.isAgg116
 z53:=Tryz.sizeOf116
 v53:=Tryz.zeroValue116
 t131:=Tryz.underlying144
 a131:=Tryz.isAgg144
 z131:=Tryz.sizeOf144
 v131:=Tryz.zeroValue144
 t182:=Tryz.underlying199
 a182:=Tryz.isAgg199
 z182:=Tryz.sizeOf199
 v182:=Tryz.zeroValue199
 t183:=Tryz.underlying200
 a183:=Tryz.isAgg200
 z183:=Tryz.sizeOf200
 v183:=Tryz.zeroValue200
 t218:=Tryz.underlying235
 a218:=Tryz.isAgg235
 z218:=Tryz.sizeOf235
 v218:=Tryz.zeroValue235
 t222:=Tryz.underlying239
 a222:=Tryz.isAgg239
 z222:=Tryz.sizeOf239
 v222:=Tryz.zeroValue239
 t228:=Tryz.underlying259
 a228:=Tryz.isAgg259
 z228:=Tryz.sizeOf259
 v228:=Tryz.zeroValue259
 t229:=Tryz.underlying260
 a229:=Tryz.isAgg260
 z229:=Tryz.sizeOf260
 v229:=Tryz.zeroValue260 }
end Go.Proofs
namespace Go.Proofs.YtgmbmepakpcpaaaGreatDoor
namespace SX
open Go
section
variable {γ:Type} [Inhabited γ]
theorem vU (e:γ→Value) (D:Array γ) (cur:Array Value) (h:D.size≤cur.size):(Sort.putCells e 0 D cur).toList.take D.size=D.toList.map e:=by
 apply List.ext_getElem
 ·simp [Sort.putCells];omega
 intro i h1 h2
 have h3:i<D.size:=by simpa using h2
 simp [Sort.putCells,h3]
theorem zn {e:γ→Value} {w:World} {b:Nat} {D:Array γ} {cur:Array Value} {T:Nat} {fr:Nat×Nat} (h:w.heap[b]?=some (.cells cur T fr)):(Sort.putRow e w b 0 D).heap[b]?=some (.cells (Sort.putCells e 0 D cur) T fr):=by
 simp [Sort.putRow,Sort.mapBlock,Array.getElem?_modify,h,Sort.onCells]
theorem uW {e:γ→Value} {w:World} {b i:Nat} {D:Array γ} (h:i≠b):(Sort.putRow e w b 0 D).heap[i]?=w.heap[i]?:=by
 simp only [Sort.putRow,Sort.mapBlock,Array.getElem?_modify]
 rw [if_neg (fun e=>h e.symm)]
theorem ra {β:Base} {l:List Res} {κ:Kr} {b n c T sz m:Nat} {css css':List (List Value)} {os:Array Obj} {e:γ→Value} {D:Array γ} (hi:Zp β (Res.row (some ⟨b,0,none⟩) n c T sz css::l) κ) (hF:D.toList.map e=css'.flatten) (hl:css'.length=n) (hw:∀ cs∈css',cs.length=sz) :
    Zp β (Res.row (some ⟨b,0,none⟩) n c T sz css'::l) ⟨Sort.grow (Sort.putRow e (Sort.ahead κ.w m) b 0 D) os,κ.S⟩∧Kle κ ⟨Sort.grow (Sort.putRow e (Sort.ahead κ.w m) b 0 D) os,κ.S⟩:=by
  have ho:=hi.own _ (List.mem_cons_self)
  obtain ⟨h1,h2,h3,h4,h5,cur,h6,h7,h8⟩:=ho
  have hD:D.size=n*sz:=by
    have:=congrArg List.length hF
    rw [List.length_map,eP hw,hl] at this
    simpa using this
  have hle:D.size≤cur.size:=by rw [hD,h7];exact Nat.mul_le_mul_right _ h4
  have t1:=hi.turn (r':=Res.row (some ⟨b,0,none⟩) n c T sz css') (l1:=[]) (b:=b) (w':=Sort.putRow e (Sort.ahead κ.w m) b 0 D) rfl rfl rfl (fun i hne=>uW hne) (by simp [Sort.putRow,Sort.mapBlock,Sort.ahead])
    ⟨h1,hl,hw,h4,h5,_,zn (w:=Sort.ahead κ.w m) h6,by simpa [Sort.putCells] using h7,by rw [← hD,vU e D cur hle,hF]⟩ rfl rfl rfl (by simp [Sort.putRow,Sort.mapBlock,Sort.ahead])
  have hh:=t1.1.own _ (List.mem_cons_self)
  have hb2:b<(Sort.putRow e (Sort.ahead κ.w m) b 0 D).heap.size:=by
    have:=(t1.1.blk _ (List.mem_cons_self) b rfl).1;exact this
  have hold:∀ i,i<(Sort.putRow e (Sort.ahead κ.w m) b 0 D).heap.size→(Sort.grow (Sort.putRow e (Sort.ahead κ.w m) b 0 D) os).heap[i]?=(Sort.putRow e (Sort.ahead κ.w m) b 0 D).heap[i]?:=fun i h=>by
    simp only [Sort.grow];rw [Array.getElem?_append_left h]
  have hh2:(Res.row (some ⟨b,0,none⟩) n c T sz css').holds (Sort.grow (Sort.putRow e (Sort.ahead κ.w m) b 0 D) os):=by
    have:(Sort.grow (Sort.putRow e (Sort.ahead κ.w m) b 0 D) os).heap[b]?=(Sort.putRow e (Sort.ahead κ.w m) b 0 D).heap[b]?:=hold b hb2
    unfold Res.holds at hh ⊢
    show (Res.row (some ⟨b,0,none⟩) n c T sz css').says (Sort.grow (Sort.putRow e (Sort.ahead κ.w m) b 0 D) os).heap[b]?
    rw [this];exact hh
  obtain ⟨i3,k3⟩:=t1.1.grow (r':=Res.row (some ⟨b,0,none⟩) n c T sz css') (w':=Sort.grow (Sort.putRow e (Sort.ahead κ.w m) b 0 D) os) ⟨rfl,rfl,rfl,by simp [Sort.grow],fun i h _=>hold i h⟩ (.inr (.inl rfl)) hh2 (Al hh2) (Nat.le_refl _)
  exact ⟨i3,t1.2.trans k3⟩
end
def iN (a b:ByteArray):Bool:=Op.bytesLess a.toList b.toList
theorem pz (a b:ByteArray):iN a b=decide (a.data.toList<b.data.toList):=by
 unfold iN;rw [bytesLess_eq,ByteArray.toList_eq,ByteArray.toList_eq]
theorem BO {κ:Kr}:∀ {xs:List ByteArray} {dss:List (List Value)},Rpss κ (xs.map eS) dss→dss=xs.map fun s=>[.string s]
 | [],_,h=>h.nil_inv
 | x::xs,_,h=>by
  obtain ⟨d,ds,rfl,h1,h2⟩:=h.cons_inv
  obtain ⟨v,vs,rfl,h3,h4⟩:=h1.cons_inv
  rw [BO h2,h4.nil_inv,h3.val];rfl
theorem uX {κ:Kr}:∀ {xs:List ByteArray} {dss:List (List Value)},Rpss κ (xs.map eS) dss→∀ x∈xs,xn (.string x)=true
 | [],_,_=>by simp
 | x::xs,_,h=>by
  obtain ⟨d,ds,rfl,h1,h2⟩:=h.cons_inv
  obtain ⟨v,vs,rfl,h3,h4⟩:=h1.cons_inv
  intro y hy
  rcases List.mem_cons.1 hy with rfl | hy
  ·cases h3 with | v hq=>exact hq
  exact uX h2 y hy
theorem uY {κ:Kr}:∀ {xs:List ByteArray},(∀ x∈xs,xn (.string x)=true)→Rpss κ (xs.map eS) (xs.map fun s=>[.string s])
 | [],_=>.nil
 | x::xs,h=>.cons (.cons (.v (h x (by simp))) .nil) (uY fun y hy=>h y (by simp [hy]))
theorem EJ (l:List ByteArray):(l.map fun s=>[Value.string s]).flatten=l.map Value.string:=by
 induction l with
 | nil=>rfl
 | cons x xs ih=>simp [ih]
def iP (l:List ByteArray):Option (List ByteArray):=some (ko iN l)
theorem mq {α:Type} {lt:α→α→Bool} (l:List α):(ko lt l).length=l.length:=kB.length_eq
theorem AL (l:List ByteArray):(l.map fun s=>s.data.toList).mergeSort (fun x y=>decide (x≤y))=(ko iN l).map fun s=>s.data.toList:=by
 have key:∀ x y:List UInt8,decide (x≤y) = !decide (y<x):=fun x y=>by
  rw [← decide_not];exact decide_eq_decide.2 (by rw [List.not_lt])
 refine o9 (lt:=fun x y=>decide (x<y)) (fun x y h1 h2=>?_) ?_ ?_ ?_
 ·have h1:=of_decide_eq_false h1;have h2:=of_decide_eq_false h2
  exact List.le_antisymm (List.not_lt.1 h2) (List.not_lt.1 h1)
 ·have h:=List.pairwise_mergeSort (le:=fun x y:List UInt8=>decide (x≤y)) (fun a b c h1 h2=>det (List.le_trans (of_decide_eq_true h1) (of_decide_eq_true h2))) (fun a b=>by
   rcases List.le_total a b with h | h
   ·simp [h]
   simp [h]) (l.map fun s=>s.data.toList)
  exact h.imp fun {a b} hab=>by rw [key] at hab;simpa using hab
 ·rw [List.pairwise_map]
  have h:=lW (lt:=iN) (fun x y z h1 h2=>by
   rw [pz] at *;exact det (List.lt_trans (of_decide_eq_true h1) (of_decide_eq_true h2))) (fun x y z h1 h2=>by
   rw [pz] at *;exact bK (List.not_lt.2 (List.le_trans (List.not_lt.1 (of_decide_eq_false h2)) (List.not_lt.1 (of_decide_eq_false h1))))) (fun x=>by rw [pz];exact bK (List.lt_irrefl _)) l
  exact h.imp fun {a b} hab=>by rw [← pz];exact hab
 exact (List.mergeSort_perm _ _).trans (kB.symm.map _)
theorem lC {p0 r:List ByteArray} (h:iP p0=some r) {a:Option Addr} {n c:Nat}:PCall 139 [.v (.slice a n c)] [PRes.row a n c 9 1 (List.map eS p0)] (fun pv ρ'=>pv=.tup []∧ρ'=[PRes.row a n c 9 1 (List.map eS r)]):=fun κ args ρ g ha hr=>by
 obtain rfl:=Option.some.inj h
 obtain ⟨v,ws,rfl,ha1,ha2⟩:=ha.cons_inv
 rw [ha2.nil_inv,ha1.val]
 obtain ⟨r0,l',rfl,hr1,hr2⟩:=hr.cons_inv
 have:=hr2.nil_inv;subst this
 refine ⟨(Dl Tryz.func139 rfl),fun hi=>?_⟩
 cases hr1 with
 | row hb ho hc =>
  have hok:=uX hc
  have hd:=BO hc;subst hd
  have how:=hi.own _ (List.mem_cons_self)
  cases a with
  | none =>
   obtain ⟨rfl,rfl,h3⟩:=how
   have hp:p0=[]:=List.map_eq_nil_iff.1 h3
   subst hp
   refine (Any.slices_Sort_string_none Tryz.lSs none 0 κ.w).mono fun e w' ⟨h1,h2⟩=>?_
   subst h1 h2
   exact ⟨_,_,κ,rfl,rfl,hi,.tup [],_,.tup .nil,.cons (.row hb ho (by exact .nil)) .nil,rfl,rfl⟩
  | some ad =>
   have how2:=how
   obtain ⟨h1,h2,h3,h4,h5,cur,h6,h7,h8⟩:=how
   obtain ⟨b,off,sp⟩:=ad
   injection h1 with h1a h1b h1c
   subst h1b h1c
   have hblk:b<κ.w.heap.size:=(hi.blk _ (List.mem_cons_self) b rfl).1
   have hn:n=(p0.map fun s=>s.data.toList).length:=by rw [← h2];simp
   have hH:Sort.Holds encStr κ.w b 0 (p0.map fun s=>s.data.toList).toArray:=by
    intro j hj
    have hj2:j<p0.length:=by simpa using hj
    rw [EJ,Nat.mul_one] at h8
    have hj3:cur.toList[j]?=some (Value.string p0[j]):=by
     have e:=congrArg (fun l=>l[j]?) h8
     simp only [List.getElem?_take,List.getElem?_map] at e
     rw [if_pos (by rw [← h2];simpa using hj2),List.getElem?_eq_getElem hj2] at e
     exact e
    have hj4:cur[j]?=some (Value.string p0[j]):=by rw [← Array.getElem?_toList];exact hj3
    constructor
    ·simp only [World.cell?,h6,Option.isSome_none,Bool.false_eq_true,if_false,Nat.zero_add]
     rw [hj4]
     congr 1
     simp [getElem!_pos,hj2]
    simp [World.frozen?,h6]
   rw [hn]
   refine (Any.slices_Sort_string Tryz.lSs b 0 c _ κ.w hH hblk (by rw [← hn];unfold maxLen at h5;omega)).mono fun e w' ⟨k1,m,os,k2⟩=>?_
   subst k1 k2
   obtain ⟨i1,i2⟩:=ra (m:=m) (os:=os) (e:=encStr) (css':=(ko iN p0).map fun s=>[Value.string s]) (D:=((p0.map fun s=>s.data.toList).mergeSort fun x y=>decide (x≤y)).toArray) hi (by
    rw [AL]
    generalize ko iN p0=q
    induction q with
    | nil=>rfl
    | cons x xs ih=>simp at ih ⊢;exact ih) (by rw [List.length_map,mq];rw [← h2];simp) (by simp)
   exact ⟨_,_,⟨_,κ.S⟩,rfl,rfl,i1,.tup [],_,.tup .nil,.cons (.row hb (by intro cs hcs;obtain ⟨q,_,rfl⟩:=List.mem_map.1 hcs;intro u hu;rw [List.mem_singleton.1 hu];rfl) (uY fun y hy=>hok y (kB.mem_iff.1 hy))) .nil,rfl,by rw [← hn]⟩
theorem le_grow {κ κ':Kr} (h:Le [] κ κ'):∃ q os',κ'.w=Sort.grow (κ.w.drewN q) os':=by
 refine ⟨κ'.w.drawn - κ.w.drawn,κ'.w.heap.extract κ.w.heap.size κ'.w.heap.size,?_⟩
 have hz:=h.kle.size
 have hd:=h.drawn
 have e1:κ'.w.heap=κ.w.heap++κ'.w.heap.extract κ.w.heap.size κ'.w.heap.size:=by
  apply Array.ext_getElem?
  intro i
  rcases Nat.lt_or_ge i κ.w.heap.size with hi | hi
  ·rw [Array.getElem?_append_left hi];exact h.same i hi (by simp)
  rw [Array.getElem?_append_right hi,Array.getElem?_extract]
  split
  ·congr 1;omega
  rw [Array.getElem?_eq_none (by omega)]
 cases hw:κ'.w with
 | mk heap tape drawn os output =>
  have h2:=h.tape;have h3:=h.os;have h4:=h.output
  rw [hw] at e1 h2 h3 h4 hd
  simp only at e1 h2 h3 h4 hd
  simp only [Sort.grow,World.drewN]
  subst h2 h3 h4
  rw [← e1]
  congr 1;omega
theorem wF {γ:Type} [Inhabited γ] (enc:γ→List Value) (k:Nat) (hk:∀ x,(enc x).length=k):∀ L:List γ,(List.range (L.length*k)).map (fun t=>(enc L[t / k]!)[t % k]!)=(L.map enc).flatten
 | []=>by simp
 | x::xs=>by
  have ih:=wF enc k hk xs
  rcases Nat.eq_zero_or_pos k with h0 | h0
  ·subst h0
   have:∀ M:List γ,(M.map enc).flatten=[]:=fun M=>by
    rw [List.flatten_eq_nil_iff];intro l hl;obtain ⟨y,_,rfl⟩:=List.mem_map.1 hl;exact List.eq_nil_of_length_eq_zero (hk y)
   rw [this];simp
  rw [List.length_cons,Nat.add_mul,Nat.one_mul,Nat.add_comm,List.range_add,List.map_append,List.map_cons,List.flatten_cons,← ih,List.map_map]
  congr 1
  ·apply List.ext_getElem
   ·simp [hk]
   intro i h1 h2
   have hi:i<k:=by simpa using h1
   simp [Nat.div_eq_of_lt hi,Nat.mod_eq_of_lt hi,getElem!_pos,h2]
  apply List.map_congr_left
  intro t _
  simp only [Function.comp,Nat.add_div_left _ h0,Nat.add_mod_left]
  rfl
theorem uZ {γ:Type} [Inhabited γ] (enc:γ→List Value) (k:Nat) (hk:∀ x,(enc x).length=k) (d:Array γ):(Sort.flatK enc k d).toList.map id=(d.toList.map enc).flatten:=by
 rw [List.map_id,← wF enc k hk]
 simp only [Sort.flatK,Array.toList_map,Array.toList_range,Array.length_toList]
 apply List.map_congr_left
 intro t _
 congr 2
 simp [getElem!_def]
section
variable {α:Type} {enc:α→List PV} {encV:α→List Value}
theorem zo {κ:Kr} (hinv:∀ x ds,Rps κ (enc x) ds→ds=encV x):∀ {xs:List α} {dss:List (List Value)},Rpss κ (xs.map enc) dss→dss=xs.map encV
 | [],_,h=>h.nil_inv
 | x::xs,_,h=>by
  obtain ⟨d,ds,rfl,h1,h2⟩:=h.cons_inv
  rw [zo hinv h2,hinv _ _ h1];rfl
theorem s9 {κ:Kr} (hmk:∀ x,Rps κ (enc x) (encV x)):∀ {xs:List α},Rpss κ (xs.map enc) (xs.map encV)
 | []=>.nil
 | x::xs=>.cons (hmk x) (s9 hmk)
theorem EK [Inhabited α] {f g T k:Nat} {ρs:Shelf.Ren} (L:SlLaysF0.n6 Tryz.prog ρs) (hf:ρs.f 6=f) (fOk:FnOk f) (gOk:FnOk g) (aE:∀ w,(isAgg (ρs.t 24)).run Tryz.prog w=.ok true w) (zE:∀ w,(Go.sizeOf (ρs.t 24)).run Tryz.prog w=.ok k w)
    (hk:∀ x,(encV x).length=k) (h1:∀ x,∀ v∈encV x,v.oneCell'=true) (hinv:∀ κ x ds,Rps κ (enc x) ds→ds=encV x) (hmk:∀ κ x,Rps κ (enc x) (encV x)) (cf:α→α→Int) (hO:Sort.SWO (ltOf cf)) (hT:∀ x y,ltOf cf x y=false→ltOf cf y x=false→x=y)
    (hcmp:∀ x y,PF g [.agg (enc x),.agg (enc y)] (pI (cf x y))) {p0:List α} {a:Option Addr} {n c:Nat}:PCall f [.v (.slice a n c),.fn g []] [PRes.row a n c T k (List.map enc p0)] (fun pv ρ'=>pv=.tup []∧ρ'=[PRes.row a n c T k (List.map enc (ko (ltOf cf) p0))]):=fun κ args ρ gk ha hr=>by
  subst hf
  obtain ⟨v,ws,rfl,ha1,ha2⟩:=ha.cons_inv
  obtain ⟨v2,ws2,rfl,ha3,ha4⟩:=ha2.cons_inv
  rw [ha4.nil_inv,ha1.val]
  have hv2:v2=.func (.func g) #[] #[]:=by
    cases ha3 with
    | fn h=>rw [h.nil_inv]
  subst hv2
  obtain ⟨r0,l',rfl,hr1,hr2⟩:=hr.cons_inv
  have:=hr2.nil_inv;subst this
  refine ⟨fOk,fun hi=>?_⟩
  have hn1:∀ l:List α,∀ cs∈l.map encV,cs.length=k:=fun l cs hcs=>by obtain ⟨q,_,rfl⟩:=List.mem_map.1 hcs;exact hk q
  cases hr1 with
  | row hb ho hc =>
    have hd:=zo (hinv κ) hc;subst hd
    have how:=hi.own _ (List.mem_cons_self)
    cases a with
    | none =>
      obtain ⟨rfl,rfl,h3⟩:=how
      have hp:p0=[]:=List.map_eq_nil_iff.1 h3
      subst hp
      refine (AnyF.slices_SortFunc_none L none 0 _ κ.w).mono fun e w' ⟨h1,h2⟩=>?_
      subst h1 h2
      exact ⟨_,_,κ,rfl,rfl,hi,.tup [],_,.tup .nil,.cons (.row hb ho (by exact .nil)) .nil,rfl,rfl⟩
    | some ad =>
      obtain ⟨q1,h2,h3,h4,h5,cur,h6,h7,h8⟩:=how
      obtain ⟨b,off,sp⟩:=ad
      injection q1 with h1a h1b h1c
      subst h1b h1c
      have hblk:b<κ.w.heap.size:=(hi.blk _ (List.mem_cons_self) b rfl).1
      have hn:n=p0.toArray.size:=by rw [← h2];simp
      have hz:(Sort.flatK encV k p0.toArray).size=n*k:=by rw [Sort.size_flatK,← hn]
      have hft:(Sort.flatK encV k p0.toArray).toList=cur.toList.take (n*k):=by
        rw [h8,← uZ encV k hk,List.map_id]
      have hH:Sort.HoldsK encV k κ.w b 0 p0.toArray:=by
        intro j hj
        have hj2:j<n*k:=by rw [← hz];exact hj
        have hj3:(Sort.flatK encV k p0.toArray)[j]?=cur[j]?:=by
          rw [← Array.getElem?_toList,hft,List.getElem?_take,if_pos hj2,Array.getElem?_toList]
        constructor
        · simp only [World.cell?,h6,Option.isSome_none,Bool.false_eq_true,if_false,Nat.zero_add]
          rw [← hj3,Array.getElem?_eq_getElem hj,getElem!_pos _ j hj];rfl
        simp [World.frozen?,h6]
      have hcl:CmpLays Tryz.prog g #[] encV k cf b 0 p0.toArray.size κ.w:=fun m os dk hs x y=>by
        obtain ⟨i1,k1⟩:=ra (m:=m) (os:=os) (e:=id) (D:=Sort.flatK encV k dk) (css':=dk.toList.map encV) hi (uZ encV k hk dk) (by rw [List.length_map,Array.length_toList,hs,hn]) (hn1 _)
        have hc2:=hcmp x y ⟨_,κ.S⟩ [.agg (encV x).toArray,.agg (encV y).toArray] (gk.mono k1) (.cons (.agg (h1 x) (hmk _ x)) (.cons (.agg (h1 y) (hmk _ y)) .nil))
        refine (hc2.2 ⟨Le.refl _ _,i1.fin,by simp,by simp,List.Pairwise.nil⟩).mono fun e w' ⟨v,ρ',κ',g1,g2,g3,g4⟩=>?_
        obtain ⟨q,os',hq⟩:=le_grow g3.le
        subst g1 g2
        exact ⟨by rw [g4.2.val],q,os',hq⟩
      rw [hn]
      refine (AnyQ.slices_SortFunc_total L k aE zE encV hk h1 cf hO g #[] b 0 c p0.toArray κ.w (fun args w=>lS gOk args w) hcl hH hblk (by rw [← hn];unfold maxLen at h5;omega) hT).mono fun e w' ⟨k1,m,os,k2⟩=>?_
      have hso:(p0.toArray.toList.mergeSort fun x y => !(ltOf cf) y x)=ko (ltOf cf) p0:=by
        refine o9 (lt:=ltOf cf) hT ?_ (lW hO.trans hO.ntrans hO.irrefl p0) ((List.mergeSort_perm _ _).trans kB.symm)
        have h:=List.pairwise_mergeSort (le:=fun x y:α => !(ltOf cf) y x) (fun a b c h1 h2=>by
          simp only [Bool.not_eq_true'] at h1 h2 ⊢;exact hO.ntrans _ _ _ h2 h1) (fun a b=>by
          cases e1:ltOf cf b a
          · simp
          cases e2:ltOf cf a b
          · simp
          have:=hO.trans _ _ _ e1 e2;rw [hO.irrefl] at this;cases this) p0
        exact h.imp fun {a b} hab=>by simpa using hab
      rw [hso] at k2
      subst k1 k2
      obtain ⟨i1,i2⟩:=ra (m:=m) (os:=os) (e:=id) (css':=(ko (ltOf cf) p0).map encV) (D:=Sort.flatK encV k (ko (ltOf cf) p0).toArray) hi (uZ encV k hk _) (by rw [List.length_map,mq];rw [← h2];simp) (hn1 _)
      exact ⟨_,_,⟨_,κ.S⟩,rfl,rfl,i1,.tup [],_,.tup .nil,.cons (.row hb (by intro cs hcs;obtain ⟨q,_,rfl⟩:=List.mem_map.1 hcs;exact h1 q) (s9 (hmk _))) .nil,rfl,by rw [← hn]⟩
end
theorem EL (a b:Int):dC a b=some (if a<b then -1 else if b<a then 1 else 0):=by
 unfold dC iZ
 simp only [bne_self_eq_false,bg,bI]
 by_cases h:a<b
 ·rw [det h,if_pos h];rfl
 rw [bK h,if_neg h]
 by_cases h2:b<a
 ·rw [det h2,if_pos h2];rfl
 rw [bK h2,if_neg h2];rfl
theorem EM (a b:Int):kE [a,b]=some (if a=0 then b else a):=by
 unfold kE
 refine (bJ (l:=[a,b]) (by simp) (fun _ x=>cond (x != 0) (some (.inr x)) none) (.inl ()) (fun k hk=>?_) (by rw [cR];rfl)).trans ?_
 ·rw [ik hk,bY,oI (aV hk),bR hk (by simp)]
  cases ([a,b][k] != 0) <;> rfl
 rw [kC (fun x:Int=>x != 0) (fun x=>(Sum.inr x:Unit⊕Int))]
 by_cases ha:a=0
 ·subst ha
  by_cases hb:b=0
  ·subst hb;rfl
  simp [hb]
 simp [ha]
def bw (x y:Za):Bool:=decide (x.Product<y.Product)||(decide (x.Product=y.Product)&&decide (x.Agreement<y.Agreement))
def mV (x y:Za):Int:=if (if x.Product<y.Product then (-1:Int) else if y.Product<x.Product then 1 else 0)=0 then (if x.Agreement<y.Agreement then -1 else if y.Agreement<x.Agreement then 1 else 0) else (if x.Product<y.Product then -1 else if y.Product<x.Product then 1 else 0)
theorem kO:ltOf mV=bw:=by
 funext x y
 unfold ltOf mV bw
 rcases Int.lt_trichotomy x.Product y.Product with h | h | h
 ·rw [if_pos h];simp [h]
 ·simp only [h,Int.lt_irrefl,if_false,if_true,decide_false,decide_true,Bool.false_or,Bool.true_and]
  rcases Int.lt_trichotomy x.Agreement y.Agreement with h2 | h2 | h2
  ·rw [if_pos h2];simp [h2]
  ·simp [h2]
  rw [if_neg (by omega),if_pos h2];simp;omega
 have h1:¬ x.Product<y.Product:=by omega
 have h3:¬ x.Product=y.Product:=by omega
 simp [h,h1,h3]
theorem CP (x y:Za):eM x y=some (mV x y):=by
 unfold eM mV
 rw [EL,EL]
 simp only [bg,EM]
theorem tc (x y:Za):bw x y=true↔x.Product<y.Product∨(x.Product=y.Product∧x.Agreement<y.Agreement):=by simp [bw]
theorem pA (x y:Za):bw x y=false↔¬ (x.Product<y.Product∨(x.Product=y.Product∧x.Agreement<y.Agreement)):=by rw [← tc];simp
theorem pC (x:Za):bw x x=false:=by rw [pA];omega
theorem rb (x y z:Za):bw x y=true→bw y z=true→bw x z=true:=by simp only [tc];omega
theorem pD (x y z:Za):bw x y=false→bw y z=false→bw x z=false:=by simp only [pA];omega
theorem pE (x y:Za):bw x y=false→bw y x=false→x=y:=by
 simp only [pA];intro h1 h2
 cases x;cases y;simp at h1 h2 ⊢;omega
def bu (l:List Za):Option (List Za):=some (ko bw l)
theorem cV {p0 r:List Za} (h:bu p0=some r) {a:Option Addr} {n c:Nat}:PCall 49 [.v (.slice a n c),.fn 50 []] [PRes.row a n c 28 2 (List.map Za.enc p0)] (fun pv ρ'=>pv=.tup []∧ρ'=[PRes.row a n c 28 2 (List.map Za.enc r)]):=by
 obtain rfl:=Option.some.inj h
 rw [← kO]
 exact EK Tryz.lSF rfl (Dl Tryz.func49 rfl) (Dl Tryz.func50 rfl) Tryz.isAgg28 Tryz.sizeOf28 (encV:=fun x=>[.int .i64 x.Product,.int .i64 x.Agreement]) (fun _=>rfl)
  (fun x v hv=>by simp at hv;rcases hv with rfl | rfl <;> rfl) (fun κ x ds h=>by
   obtain ⟨v,ws,rfl,h1,h2⟩:=h.cons_inv
   obtain ⟨v2,ws2,rfl,h3,h4⟩:=h2.cons_inv
   rw [h1.val,h3.val,h4.nil_inv]) (fun κ x=>.cons (.v rfl) (.cons (.v rfl) .nil)) mV
  (by rw [kO];exact ⟨pC,rb,pD⟩) (by rw [kO];exact pE) (fun x y=>ma (CP x y))
theorem AM (x y:Za):dl x y=some (mV x y):=by
 unfold dl mV
 rw [EL,EL]
 simp only [bg,EM]
def bq (l:List Za):Option (List Za):=some (ko bw l)
theorem cT {p0 r:List Za} (h:bq p0=some r) {a:Option Addr} {n c:Nat}:PCall 49 [.v (.slice a n c),.fn 81 []] [PRes.row a n c 28 2 (List.map Za.enc p0)] (fun pv ρ'=>pv=.tup []∧ρ'=[PRes.row a n c 28 2 (List.map Za.enc r)]):=by
 obtain rfl:=Option.some.inj h
 rw [← kO]
 exact EK Tryz.lSF rfl (Dl Tryz.func49 rfl) (Dl Tryz.func81 rfl) Tryz.isAgg28 Tryz.sizeOf28 (encV:=fun x=>[.int .i64 x.Product,.int .i64 x.Agreement]) (fun _=>rfl)
  (fun x v hv=>by simp at hv;rcases hv with rfl | rfl <;> rfl) (fun κ x ds h=>by
   obtain ⟨v,ws,rfl,h1,h2⟩:=h.cons_inv
   obtain ⟨v2,ws2,rfl,h3,h4⟩:=h2.cons_inv
   rw [h1.val,h3.val,h4.nil_inv]) (fun κ x=>.cons (.v rfl) (.cons (.v rfl) .nil)) mV
  (by rw [kO];exact ⟨pC,rb,pD⟩) (by rw [kO];exact pE) (fun x y=>hQ (AM x y))
end SX
namespace SX
open Go
attribute [local irreducible] PWL PWC PWD POpL POpQ PEv PGuardIs PSub PPick PUpd PSplice PFill PLit PF PFV PCall FOk eG eg lI nA jP lJ Cov PHolds aW idx app mk gd lb nz lf Dm sub jR dw nQ vE ff cu oP vG IntKind.wrap Int.tmod Int.tdiv Op.bytesLess strOfNums
def dM (p0:(List ByteArray)):Option Bool:=cond (decide (8<(p0.length:Int))) (some false) ((aW (S:=Int) (T:=(Unit)⊕(_)) (fun v2=>cond (decide (v2<(p0.length:Int))) ((idx p0 v2).bind fun m6=>(j7 m6).bind fun x7=>(gd ((!(!x7))&&(decide (0<v2))) (idx p0 (IntKind.i64.wrap (v2 - 1)))).bind fun m8=>cond ((!x7)||((decide (0<v2))&&(Op.bytesLess m6.toList m8.toList||decide (m6=m8)))) (some (.inr (.inr false))) (some (.inl (IntKind.i64.wrap (v2+1))))) (some (.inr (.inl ())))) FUEL 0).bind fun q=>match q with | .inl _=>some true | .inr e=>some e)
theorem iV {p0:(List ByteArray)} {r:Bool}  (h:dM p0=some r):PF 63 [pL eS p0] (pB r):=by
 unfold dM at h
 refine bc ?_
 refine di Tryz.func63 rfl Tryz.ntmps63 Tryz.results63 rfl (aS [2] (by kernel_rfl) (co (bL [5,6] [(7,pB (decide (8<(p0.length:Int))))] (by kernel_rfl) rfl h (fun hc1 h=>?_) fun hc1 h=>?_)))
 ·refine ae ?_
  refine cU [(2,pB false)] (by kernel_rfl) (am ?_)
  exact zz r h rfl
 refine ah ?_
 refine co (ak [(8,pL eS p0),(9,pI (p0.length:Int)),(10,pI 0)] (by kernel_rfl) (fG h fun q4 hq4 h=>?_))
 refine aq (Y:=Unit×Unit) (fun (_,_)=>[]) (fun (_,_)=>[]) (fun (_,_)=>q4=Sum.inl ()) ?_ ?_
 ·refine av ?_
  refine aC (Y:=Unit) (S:=Int) _ hq4 (fun _ v2=>[(0,pL eS p0),(8,pL eS p0),(9,pI (p0.length:Int)),(10,pI v2)]) (fun _ v2=>[]) () (iQ rfl) bA ?_
  rintro _ v2 o τ hb3;(try dsimp only at hb3);dsimp only [aw]
  refine ae (ak [(11,pB (decide (v2<(p0.length:Int))))] (by kernel_rfl) (bW (ki rfl hb3 (fun hc5 hb3=>?_) fun hc5 hb3=>?_)))
  ·refine ah ?_
   refine dG (aa hb3 fun m6 hm6 hb3=>ap [] [12,13,14] [(3,pI v2),(4,pS m6)] (cG 1 eS hm6 bk) (by kernel_rfl) (dc hb3 fun x7 hx7 hb3=>aa hb3 fun m8 hm8 hb3=>ap [] (rg 15 15) [(30,pB ((!x7)||((decide (0<v2))&&(Op.bytesLess m6.toList m8.toList||decide (m6=m8)))))] (bh 1 (tF hx7) (eQ 11 eS (cA hm8) bk)) (by kernel_rfl) (cN rfl hb3 (fun hc9 hb3=>?_) fun hc9 hb3=>?_)))
   ·refine ae ?_
    refine cU [(2,pB false)] (by kernel_rfl) (dO ?_)
    refine au hb3 (fun ht=>?_);subst ht
    refine cO ?_
    exact zz r h rfl
   refine ah ?_
   refine dI (ai [31] [(10,pI (IntKind.i64.wrap (v2+1)))] (by kernel_rfl) ?_)
   exact aU hb3 () (iQ rfl) bA
  refine aH ?_
  refine cj hb3 (fun ht=>aj rfl ?_)
  exact az ((),()) oF bA ht.symm
 rintro ⟨_,_⟩ τ hz;(try dsimp only at hz);subst q4;(try dsimp only at h);dsimp only [aw]
 refine ae (cU [(2,pB true)] (by kernel_rfl) ?_)
 exact zz r h rfl
def hU (p0:(List ByteArray)):Option Bool:=cond (decide (6<(p0.length:Int))) (some false) ((aW (S:=Int) (T:=(Unit)⊕(_)) (fun v2=>cond (decide (v2<(p0.length:Int))) ((idx p0 v2).bind fun m6=>(dH m6).bind fun x7=>(gd ((!(x7 == 0))&&(decide (0<v2))) (idx p0 (IntKind.i64.wrap (v2 - 1)))).bind fun m8=>cond ((x7 == 0)||((decide (0<v2))&&(Op.bytesLess m6.toList m8.toList||decide (m6=m8)))) (some (.inr (.inr false))) (some (.inl (IntKind.i64.wrap (v2+1))))) (some (.inr (.inl ())))) FUEL 0).bind fun q=>match q with | .inl _=>some true | .inr e=>some e)
theorem rc {p0:(List ByteArray)} {r:Bool}  (h:hU p0=some r):PF 189 [pL eS p0] (pB r):=by
 unfold hU at h
 refine bc ?_
 refine di Tryz.func189 rfl Tryz.ntmps189 Tryz.results189 rfl (aS [2] (by kernel_rfl) (co (bL [5,6] [(7,pB (decide (6<(p0.length:Int))))] (by kernel_rfl) rfl h (fun hc1 h=>?_) fun hc1 h=>?_)))
 ·refine ae ?_
  refine cU [(2,pB false)] (by kernel_rfl) (am ?_)
  exact zz r h rfl
 refine ah ?_
 refine co (ak [(8,pL eS p0),(9,pI (p0.length:Int)),(10,pI 0)] (by kernel_rfl) (fG h fun q4 hq4 h=>?_))
 refine aq (Y:=Unit×Unit) (fun (_,_)=>[]) (fun (_,_)=>[]) (fun (_,_)=>q4=Sum.inl ()) ?_ ?_
 ·refine av ?_
  refine aC (Y:=Unit) (S:=Int) _ hq4 (fun _ v2=>[(0,pL eS p0),(8,pL eS p0),(9,pI (p0.length:Int)),(10,pI v2)]) (fun _ v2=>[]) () (iQ rfl) bA ?_
  rintro _ v2 o τ hb3;(try dsimp only at hb3);dsimp only [aw]
  refine ae (ak [(11,pB (decide (v2<(p0.length:Int))))] (by kernel_rfl) (bW (ki rfl hb3 (fun hc5 hb3=>?_) fun hc5 hb3=>?_)))
  ·refine ah ?_
   refine dG (aa hb3 fun m6 hm6 hb3=>ap [] [12,13,14] [(3,pI v2),(4,pS m6)] (cG 1 eS hm6 bk) (by kernel_rfl) (dc hb3 fun x7 hx7 hb3=>aa hb3 fun m8 hm8 hb3=>ap [] (rg 15 15) [(30,pB ((x7 == 0)||((decide (0<v2))&&(Op.bytesLess m6.toList m8.toList||decide (m6=m8)))))] (bh 1 (fK hx7) (eQ 11 eS (cA hm8) bk)) (by kernel_rfl) (cN rfl hb3 (fun hc9 hb3=>?_) fun hc9 hb3=>?_)))
   ·refine ae ?_
    refine cU [(2,pB false)] (by kernel_rfl) (dO ?_)
    refine au hb3 (fun ht=>?_);subst ht
    refine cO ?_
    exact zz r h rfl
   refine ah ?_
   refine dI (ai [31] [(10,pI (IntKind.i64.wrap (v2+1)))] (by kernel_rfl) ?_)
   exact aU hb3 () (iQ rfl) bA
  refine aH ?_
  refine cj hb3 (fun ht=>aj rfl ?_)
  exact az ((),()) oF bA ht.symm
 rintro ⟨_,_⟩ τ hz;(try dsimp only at hz);subst q4;(try dsimp only at h);dsimp only [aw]
 refine ae (cU [(2,pB true)] (by kernel_rfl) ?_)
 exact zz r h rfl
def j8 (rec:Zd→Option Bool) (p0:Zd):Option Bool:=(mF p0).bind fun x2=>cond (!x2) (some false) (cond (p0.Kind == 1) (some true) (cond (p0.Kind == 2) ((gd (((p0.Digits == 2)||(p0.Digits == 4))||(p0.Digits == 6)) (hU p0.Except)).bind fun x6=>(gd ((((p0.Digits == 2)||(p0.Digits == 4))||(p0.Digits == 6))&&x6) (jj p0.Tolerance)).bind fun x7=>some (((((p0.Digits == 2)||(p0.Digits == 4))||(p0.Digits == 6))&&x6)&&x7)) (cond (p0.Kind == 3) ((jj p0.Limit).bind fun x9=>some x9) (cond (p0.Kind == 4) ((dM [p0.Name]).bind fun x13=>some x13) (Option.bind (cond (p0.Kind == 5) (some (p0.Kind == 5)) (some (p0.Kind == 6))) (fun v14=>cond v14 (cond ((decide ((p0.Args.length:Int)<2))||(decide (6<(p0.Args.length:Int)))) (some false) ((aW (S:=Int) (T:=(Unit)⊕(_)) (fun v19=>cond (decide (v19<(p0.Args.length:Int))) ((idx p0.Args v19).bind fun m23=>(gd (!(m23.Kind == p0.Kind)) (rec m23)).bind fun x25=>cond ((m23.Kind == p0.Kind)||(!x25)) (some (.inr (.inr false))) (some (.inl (IntKind.i64.wrap (v19+1))))) (some (.inr (.inl ())))) FUEL 0).bind fun q=>match q with | .inl _=>some true | .inr e=>some e)) (some false)))))))
theorem tG {rec:Zd→Option Bool} (hrec:∀ {p0:Zd} {r:Bool},rec p0=some r→PF 166 [.agg (ar p0)] (pB r)) {p0:Zd} {r:Bool} (h:j8 rec p0=some r):PF 166 [.agg (ar p0)] (pB r):=by
 unfold j8 at h
 refine bc ?_
 refine di Tryz.func166 rfl Tryz.ntmps166 Tryz.results166 rfl (cX rfl (bf (cs:=(ar p0)) rfl rfl (fun b1=>aZ [2] (by kernel_rfl) (co (aa h fun x2 hx2 h=>ap [0] [6,7] [(8,pB (!x2))] (bh 1 (vO hx2) bk) (by kernel_rfl) (cN rfl h (fun hc3 h=>?_) fun hc3 h=>?_))))))
 ·refine ae ?_
  refine cU [(2,pB false)] (by kernel_rfl) (am ?_)
  exact zz r h rfl
 refine ah ?_
 refine co (aJ [0] [9] [(10,pI p0.Kind)] (by kernel_rfl) (aY (qy (bL [12] [(11,pB (p0.Kind == 1))] (by kernel_rfl) rfl h (fun hc4 h=>?_) fun hc4 h=>?_))))
 ·refine ae ?_
  refine cU [(2,pB true)] (by kernel_rfl) (dO ?_)
  exact zz r h rfl
 refine ae ?_
 refine bL [14] [(13,pB (p0.Kind == 2))] (by kernel_rfl) rfl h (fun hc5 h=>?_) fun hc5 h=>?_
 ·refine ae ?_
  refine aJ [0,0,0] (rg 15 13) [(3,pB (((p0.Digits == 2)||(p0.Digits == 4))||(p0.Digits == 6)))] (by kernel_rfl) (dc h fun x6 hx6 h=>aa h fun x7 hx7 h=>ap [0,0] (rg 28 11) [(2,pB (((((p0.Digits == 2)||(p0.Digits == 4))||(p0.Digits == 6))&&x6)&&x7))] (ee 4 (fun hc=>rc (cA hx6 hc)) (ee 9 (fun hc=>mG (cA hx7 hc)) bk)) (by kernel_rfl) (cW (dO ?_)))
  exact zz r h rfl
 refine ae ?_
 refine bL [40] [(39,pB (p0.Kind == 3))] (by kernel_rfl) rfl h (fun hc8 h=>?_) fun hc8 h=>?_
 ·refine ae ?_
  refine aa h fun x9 hx9 h=>ap [0] [41,42,43] [(2,pB x9)] (bh 2 (mG hx9) bk) (by kernel_rfl) (cW (dO ?_))
  exact zz r h rfl
 refine ae ?_
 refine bL [45] [(44,pB (p0.Kind == 4))] (by kernel_rfl) rfl h (fun hc10 h=>?_) fun hc10 h=>?_
 ·refine ae ?_
  refine af (cB 2 [0] [46] [(47,pS p0.Name)] (by kernel_rfl) (an rfl (bM rfl rfl rfl rfl rfl (gr rfl jJ) rfl rfl rfl rfl (fun b11=>?_))))
  refine gw (enc:=eS) (xs:=[p0.Name]) 48 rfl (by exact aM) ?_
  refine aa h fun x13 hx13 h=>iH [] [49] [(2,pB x13)] (bh 0 (iV hx13) bk) (by kernel_rfl) (cW (dO ?_))
  exact zz r h rfl
 refine ae ?_
 refine ae (ai [51] [(50,pB (p0.Kind == 5))] (by kernel_rfl) (fG h fun q15 hq15 h=>?_))
 refine aq (Y:=Unit×Bool) (fun (_,v14)=>[(1,pP b1 0),(50,pB v14)]) (fun (_,v14)=>[PRes.b b1 84 (ar p0)]) (fun (_,v14)=>q15=v14) ?_ ?_
 ·skip
  refine ki rfl hq15 (fun hc16 hq15=>?_) fun hc16 hq15=>?_
  ·refine ah ?_
   obtain rfl:=osi hq15
   exact az ((),(p0.Kind == 5)) (mn rfl) cI rfl
  refine ai [52] [(50,pB (p0.Kind == 6))] (by kernel_rfl) ?_
  obtain rfl:=osi hq15
  exact az ((),(p0.Kind == 6)) (mn rfl) cI rfl
 rintro ⟨_,v14⟩ τ hz;(try dsimp only at hz);subst q15;(try dsimp only at h);dsimp only [aw]
 refine ki rfl h (fun hc17 h=>?_) fun hc17 h=>?_
 ·refine ae ?_
  refine ae (aJ [0,0] (rg 53 9) [(62,pB ((decide ((p0.Args.length:Int)<2))||(decide (6<(p0.Args.length:Int)))))] (by kernel_rfl) (cN rfl h (fun hc18 h=>?_) fun hc18 h=>?_))
  ·refine ae ?_
   refine cU [(2,pB false)] (by kernel_rfl) (am (dO ?_))
   exact zz r h rfl
  refine ah ?_
  refine co (aJ [0] [63] [(64,pL Zd.enc p0.Args),(65,pI (p0.Args.length:Int)),(66,pI 0)] (by kernel_rfl) (fG h fun q21 hq21 h=>?_))
  refine aq (Y:=Unit×Unit) (fun (_,_)=>[]) (fun (_,_)=>[]) (fun (_,_)=>q21=Sum.inl ()) ?_ ?_
  ·refine av ?_
   refine aC (Y:=Unit) (S:=Int) _ hq21 (fun _ v19=>[(1,pP b1 0),(64,pL Zd.enc p0.Args),(65,pI (p0.Args.length:Int)),(66,pI v19)]) (fun _ v19=>[PRes.b b1 84 (ar p0)]) () (iQ rfl) cI ?_
   rintro _ v19 o τ hb20;(try dsimp only at hb20);dsimp only [aw]
   refine ae (ak [(67,pB (decide (v19<(p0.Args.length:Int))))] (by kernel_rfl) (bW (ki rfl hb20 (fun hc22 hb20=>?_) fun hc22 hb20=>?_)))
   ·refine ah ?_
    refine dG (aa hb20 fun m23 hm23 hb20=>af (aX 2 [] [68] [(69,.agg (ar m23))] (oH 0 Zd.enc (Zd.enc_eq _) hm23 bk) (by kernel_rfl) (an rfl (aK (cs:=[pI 0,pI 0,pN,pI 0,pI 0,pS ByteArray.empty,pN]) rfl rfl rfl rfl (fun b24=>aP rfl rfl (al (vs:=(ar m23)) rfl rfl rfl rfl rfl cg nf (aF (dc hb20 fun x25 hx25 hb20=>ap [0,1,0] (rg 70 9) [(79,pB ((m23.Kind == p0.Kind)||(!x25)))] (ee 7 (fun hc=>hrec (cA hx25 hc)) bk) (by kernel_rfl) (cN rfl hb20 (fun hc26 hb20=>?_) fun hc26 hb20=>?_)))))))))
    ·refine ae ?_
     refine cU [(2,pB false)] (by kernel_rfl) (dO ?_)
     refine au hb20 (fun ht=>?_);subst ht
     refine cO (dO ?_)
     exact zz r h rfl
    refine ah ?_
    refine dI (ai [80] [(66,pI (IntKind.i64.wrap (v19+1)))] (by kernel_rfl) ?_)
    exact aU hb20 () (iQ rfl) (bd (aB aM) bA)
   refine aH ?_
   refine cj hb20 (fun ht=>aj rfl ?_)
   exact az ((),()) oF bA ht.symm
  rintro ⟨_,_⟩ τ hz;(try dsimp only at hz);subst q21;(try dsimp only at h);dsimp only [aw]
  refine ae (cU [(2,pB true)] (by kernel_rfl) (dO ?_))
  exact zz r h rfl
 refine ah ?_
 refine aD (bW (cU [(2,pB false)] (by kernel_rfl) ?_))
 exact zz r h rfl
def mi (n:Nat):Zd→Option Bool:=Nat.rec (motive:=fun _=>Zd→Option Bool) (fun _=>none) (fun _ ih=>j8 ih) n
def re (p0:Zd):Option Bool:=mi FUEL p0
theorem u3 (n:Nat):∀ {p0:Zd} {r:Bool},mi n p0=some r→PF 166 [.agg (ar p0)] (pB r):=by
 induction n with
 | zero=>intros;rename_i h;exact nomatch h
 | succ n ih=>intros;rename_i h;exact tG (fun hr=>ih hr) h
theorem vV {p0:Zd} {r:Bool} (h:re p0=some r):PF 166 [.agg (ar p0)] (pB r):=u3 FUEL h
def fi (p0:Zd):Option Int:=(qS p0 33).bind fun x2=>cond (decide (32<x2)) (some (8:Int)) ((re p0).bind fun x4=>cond (!x4) (some (1:Int)) (some (0:Int)))
theorem iO {p0:Zd} {r:Int}  (h:fi p0=some r):PF 130 [.agg (ar p0)] (pI r):=by
 unfold fi at h
 refine bc ?_
 refine di Tryz.func130 rfl Tryz.ntmps130 Tryz.results130 rfl (cX rfl (bf (cs:=(ar p0)) rfl rfl (fun b1=>aZ [2] (by kernel_rfl) (co (aa h fun x2 hx2 h=>ap [0] [3,4] [(5,pB (decide (32<x2)))] (bh 1 (vN hx2) bk) (by kernel_rfl) (cN rfl h (fun hc3 h=>?_) fun hc3 h=>?_))))))
 ·refine ae ?_
  refine cU [(2,pI 8)] (by kernel_rfl) (am ?_)
  exact zz r h rfl
 refine ah ?_
 refine co (aa h fun x4 hx4 h=>ap [0] [6,7] [(8,pB (!x4))] (bh 1 (vV hx4) bk) (by kernel_rfl) (cN rfl h (fun hc5 h=>?_) fun hc5 h=>?_))
 ·refine ae ?_
  refine cU [(2,pI 1)] (by kernel_rfl) (am ?_)
  exact zz r h rfl
 refine ah ?_
 refine bW (cU [(2,pI 0)] (by kernel_rfl) ?_)
 exact zz r h rfl
def dr (p0:Zb) (p1:ByteArray):Option (Zd×Bool):=(aW (S:=Int×Int) (T:=(Int)) (fun (v3,v4)=>cond (decide (v4<(p0.Rules.length:Int))) (((idx p0.Rules v4).bind fun m11=>(dq p1 m11.Prefix).bind fun x13=>(gd (x13&&(!(decide (v3<0)))) (idx p0.Rules v3)).bind fun m14=>cond (x13&&((decide (v3<0))||(decide ((m14.Prefix.size:Int)<(m11.Prefix.size:Int))))) (some v4) (some v3)).bind fun v9=>some (.inl (v9,(IntKind.i64.wrap (v4+1))))) (some (.inr v3))) FUEL ((-1),0)).bind fun v5=>(gd (!(decide (v5<0))) (idx p0.Rules v5)).bind fun m16=>(gd (!(decide (v5<0))) (fi m16.Rule)).bind fun x17=>cond ((decide (v5<0))||(x17 != 0)) (some ((⟨0,0,[],0,0,ByteArray.empty,[]⟩:Zd),false)) ((idx p0.Rules v5).bind fun m19=>(iv m19.Rule).bind fun x20=>some (x20,true))
theorem lp {p0:Zb} {p1:ByteArray} {r:(Zd×Bool)}  (h:dr p0 p1=some r):PF 89 [.agg (aA p0),pS p1] (.tup [.agg (ar r.1),pB r.2]):=by
 unfold dr at h
 refine bc ?_
 refine di Tryz.func89 rfl Tryz.ntmps89 Tryz.results89 rfl (cX rfl (bf (cs:=(aA p0)) rfl rfl (fun b1=>an rfl (aK (cs:=[pI 0,pI 0,pN,pI 0,pI 0,pS ByteArray.empty,pN]) rfl rfl rfl rfl (fun b2=>aZ [5] (by kernel_rfl) (bW (ak [(6,pI (-1))] (by kernel_rfl) (co (aJ [1] [9] [(10,pL Zi.enc p0.Rules),(11,pI (p0.Rules.length:Int)),(12,pI 0)] (by kernel_rfl) (fG h fun q7 hq7 h=>?_))))))))))
 refine aq (Y:=Unit×Int) (fun (_,v5)=>[(2,pP b1 0),(4,pP b2 0),(6,pI v5)]) (fun (_,v5)=>[PRes.b b1 81 (aA p0),PRes.b b2 84 [pI 0,pI 0,pN,pI 0,pI 0,pS ByteArray.empty,pN]]) (fun (_,v5)=>q7=v5) ?_ ?_
 ·refine av ?_
  refine aC (Y:=Unit) (S:=Int×Int) _ hq7 (fun _ (v3,v4)=>[(1,pS p1),(2,pP b1 0),(4,pP b2 0),(6,pI v3),(10,pL Zi.enc p0.Rules),(11,pI (p0.Rules.length:Int)),(12,pI v4)]) (fun _ (v3,v4)=>[PRes.b b1 81 (aA p0),PRes.b b2 84 [pI 0,pI 0,pN,pI 0,pI 0,pS ByteArray.empty,pN]]) () (sm rfl) (bd (aB aM) cI) ?_
  rintro _ ⟨v3,v4⟩ o τ hb6;(try dsimp only at hb6);dsimp only [aw]
  refine ae (ak [(13,pB (decide (v4<(p0.Rules.length:Int))))] (by kernel_rfl) (bW (ki rfl hb6 (fun hc8 hb6=>?_) fun hc8 hb6=>?_)))
  ·refine ah ?_
   refine dc hb6 fun q10 hq10 hb6=>?_
   refine aq (Y:=Unit×Int) (fun (_,v9)=>[(1,pS p1),(2,pP b1 0),(4,pP b2 0),(6,pI v9),(10,pL Zi.enc p0.Rules),(11,pI (p0.Rules.length:Int)),(12,pI v4)]) (fun (_,v9)=>[PRes.b b1 81 (aA p0),PRes.b b2 84 [pI 0,pI 0,pN,pI 0,pI 0,pS ByteArray.empty,pN]]) (fun (_,v9)=>q10=v9) ?_ ?_
   ·skip
    refine qy (aa hq10 fun m11 hm11 hq10=>af (aX 3 [] [15] [(14,pI v4),(16,.agg (dS m11))] (cG 1 Zi.enc hm11 bk) (by kernel_rfl) (an rfl (aK (cs:=[pS ByteArray.empty,pI 0,pI 0,pN,pI 0,pI 0,pS ByteArray.empty,pN]) rfl rfl rfl rfl (fun b12=>aG 1 [(7,pI v4)] (by kernel_rfl) (aP rfl rfl (al (vs:=(dS m11)) rfl rfl rfl rfl rfl cg zl8 (aF (bW (bi (ρd:=[]) [(0,0),(1,0),(2,0),(3,1),(4,0),(5,0),(6,0),(7,0),(8,0),(9,0),(10,0),(11,0),(12,0),(13,0),(14,0),(15,0),(16,0),(17,0),(18,0),(19,0),(20,0)] _ (List.Perm.refl _) (by kernel_rfl) rfl (aa hq10 fun x13 hx13 hq10=>aa hq10 fun m14 hm14 hq10=>bt 21 [0,0,1] (rg 17 20) [(37,pB (x13&&((decide (v3<0))||(decide ((m14.Prefix.size:Int)<(m11.Prefix.size:Int))))))] (bh 3 (iu hx13) (eQ 14 Zi.enc (cA hm14) bk)) (by kernel_rfl) (bx (cN rfl hq10 (fun hc15 hq10=>?_) fun hc15 hq10=>?_)))))))))))))
    ·refine ai [38] [(6,pI v4)] (by kernel_rfl) ?_
     refine aD ?_
     obtain rfl:=osi hq10
     exact az ((),v4) (sm rfl) (bd (aB aM) (bd (aB aM) bA)) rfl
    refine ah ?_
    refine aD ?_
    obtain rfl:=osi hq10
    exact az ((),v3) (sm rfl) (bd (aB aM) (bd (aB aM) bA)) rfl
   rintro ⟨_,v9⟩ τ hz;(try dsimp only at hz);subst q10;(try dsimp only at hb6);dsimp only [aw]
   refine ai [39] [(12,pI (IntKind.i64.wrap (v4+1)))] (by kernel_rfl) ?_
   exact aU hb6 () (sm rfl) oX
  refine aH ?_
  refine cj hb6 (fun ht=>aj rfl ?_)
  exact az ((),v3) (nu rfl) oX ht.symm
 rintro ⟨_,v5⟩ τ hz;(try dsimp only at hz);subst q7;(try dsimp only at h);dsimp only [aw]
 refine de (aa h fun m16 hm16 h=>aa h fun x17 hx17 h=>ap [0] (rg 40 11) [(51,pB ((decide (v5<0))||(x17 != 0)))] (eQ 6 Zi.enc (cA hm16) (ee 9 (fun hc=>iO (cA hx17 hc)) bk)) (by kernel_rfl) (cN rfl h (fun hc18 h=>?_) fun hc18 h=>?_))
 ·refine ae ?_
  refine af (aG 1 [(52,.agg [pI 0,pI 0,pN,pI 0,pI 0,pS ByteArray.empty,pN])] (by kernel_rfl) (aP rfl rfl (al (vs:=[pI 0,pI 0,pN,pI 0,pI 0,pS ByteArray.empty,pN]) rfl rfl rfl rfl rfl (dA cg) nf (aL [(5,pB false)] (by kernel_rfl) (aY (cJ (k:=2) (b:=b2) rfl (dA cg) (cJ (k:=6) (b:=b2) rfl (dA cg) (bS (am ?_)))))))))
  obtain rfl:=osi h
  exact aN (cF (du rfl xA rfl) (aQ rfl)) bA ⟨rfl,rfl⟩
 refine ah ?_
 refine dc h fun m19 hm19 h=>aa h fun x20 hx20 h=>af (aX 7 [0] (rg 53 6) [(59,.agg (ar x20))] (cG 3 Zi.enc hm19 (bh 6 (nG hx20) bk)) (by kernel_rfl) (aP rfl rfl (al (vs:=(ar x20)) rfl rfl rfl rfl rfl (dA cg) nf (aL [(5,pB true)] (by kernel_rfl) (cW ?_)))))
 obtain rfl:=osi h
 exact aN (cF (du rfl xA rfl) (aQ rfl)) bA ⟨rfl,rfl⟩
def ca (p0:(List Zc)) (p1:(List Zb)) (p2:ByteArray) (p3:Za):Option Bool:=(cK p0 p3.Product).bind fun x2=>cond (!x2.2) (some false) ((ef p1 p3.Agreement).bind fun x5=>(gd (!((!x5.2)||(decide (x2.1.Country=p2)))) (dt x5.1 x2.1.Country p2)).bind fun x7=>cond (((!x5.2)||(decide (x2.1.Country=p2)))||(!x7)) (some false) ((dr x5.1 x2.1.Code).bind fun x9=>some x9.2))
theorem jf {p0:(List Zc)} {p1:(List Zb)} {p2:ByteArray} {p3:Za} {r:Bool}  (h:ca p0 p1 p2 p3=some r):PF 44 [pL Zc.enc p0,pL Zb.enc p1,pS p2,.agg [pI p3.Product,pI p3.Agreement]] (pB r):=by
 unfold ca at h
 refine bc ?_
 refine di Tryz.func44 rfl Tryz.ntmps44 Tryz.results44 rfl (cX rfl (bf (cs:=[pI p3.Product,pI p3.Agreement]) rfl rfl (fun b1=>aZ [8] (by kernel_rfl) (dc h fun x2 hx2 h=>af (aX 7 [0] [13,14,15,16,12] [(17,.agg (aI x2.1)),(18,pB x2.2)] (bh 3 (fy hx2) bk) (by kernel_rfl) (an rfl (aK (cs:=[pI 0,pS ByteArray.empty,pS ByteArray.empty,pI 0,pB false,pN,pN]) rfl rfl rfl rfl (fun b3=>aP rfl rfl (al (vs:=(aI x2.1)) rfl rfl rfl rfl rfl cg nf (aL [(10,pB x2.2)] (by kernel_rfl) (co (bL [19] [(20,pB (!x2.2))] (by kernel_rfl) rfl h (fun hc4 h=>?_) fun hc4 h=>?_))))))))))))
 ·refine ae ?_
  refine cU [(8,pB false)] (by kernel_rfl) (am ?_)
  exact zz r h rfl
 refine ah ?_
 refine dc h fun x5 hx5 h=>af (aX 7 [1] [22,23,24,25,21] [(26,.agg (aA x5.1)),(27,pB x5.2)] (bh 3 (jn hx5) bk) (by kernel_rfl) (an rfl (aK (cs:=[pI 0,pI 0,pN,pN]) rfl rfl rfl rfl (fun b6=>aP rfl rfl (al (vs:=(aA x5.1)) rfl rfl rfl rfl rfl cg xB (aL [(10,pB x5.2)] (by kernel_rfl) (co (aa h fun x7 hx7 h=>ap [1,0,1] (rg 28 15) [(43,pB (((!x5.2)||(decide (x2.1.Country=p2)))||(!x7)))] (ee 13 (fun hc=>i4 (cA hx7 hc)) bk) (by kernel_rfl) (cN rfl h (fun hc8 h=>?_) fun hc8 h=>?_)))))))))
 ·refine ae ?_
  refine cU [(8,pB false)] (by kernel_rfl) (am ?_)
  exact zz r h rfl
 refine ah ?_
 refine dc h fun x9 hx9 h=>ap [0,1] [45,46,47,48,44,49,50] [(10,pB x9.2)] (bh 3 (lp hx9) bk) (by kernel_rfl) (bW (ai [51] [(8,pB x9.2)] (by kernel_rfl) (cW ?_)))
 exact zz r h rfl
def eW (p0:Zi) (p1:Zi):Option Bool:=(gd (decide (p0.Prefix=p1.Prefix)) (fi p0.Rule)).bind fun x3=>(gd ((decide (p0.Prefix=p1.Prefix))&&(x3 == 0)) (iw p0.Rule p1.Rule)).bind fun x4=>some (((decide (p0.Prefix=p1.Prefix))&&(x3 == 0))&&x4)
theorem mL {p0:Zi} {p1:Zi} {r:Bool}  (h:eW p0 p1=some r):PF 135 [.agg (dS p0),.agg (dS p1)] (pB r):=by
 unfold eW at h
 refine bc ?_
 refine di Tryz.func135 rfl Tryz.ntmps135 Tryz.results135 rfl (cX rfl (bf (cs:=(dS p0)) rfl rfl (fun b1=>an rfl (bf (cs:=(dS p1)) rfl rfl (fun b2=>aZ [4] (by kernel_rfl) (dc h fun x3 hx3 h=>aa h fun x4 hx4 h=>ap [1,0,1,1,0] (rg 5 18) [(4,pB (((decide (p0.Prefix=p1.Prefix))&&(x3 == 0))&&x4))] (ee 8 (fun hc=>iO (cA hx3 hc)) (ee 16 (fun hc=>nH (cA hx4 hc)) bk)) (by kernel_rfl) (cW ?_)))))))
 exact zz r h rfl
def eu (p0:(List Zi)) (p1:(List Zi)):Option Bool:=(bj p0 p1 (fun y1 y2=>eW y1 y2)).bind fun x3=>some x3
theorem nl {p0:(List Zi)} {p1:(List Zi)} {r:Bool}  (h:eu p0 p1=some r):PF 95 [pL Zi.enc p0,pL Zi.enc p1] (pB r):=by
 unfold eu at h
 refine bc ?_
 refine di Tryz.func95 rfl Tryz.ntmps95 Tryz.results95 rfl (aS [4] (by kernel_rfl) (dc h fun x3 hx3 h=>ap [] [5,6,7] [(4,pB x3)] (bh 2 (dD (fun hr=>se (mL hr)) hx3) bk) (by kernel_rfl) (cW ?_)))
 exact zz r h rfl
def d9 (p0:(List Zb)) (p1:Int) (p2:ByteArray) (p3:ByteArray):Option (List Int):=(ef p0 p1).bind fun x1=>cond (!x1.2) (some []) (cond (x1.1.Kind != 2) (some [p1]) ((aW (S:=(List Int)×Int) (T:=((List Int))) (fun (l8,v11)=>cond (decide (v11<(p0.length:Int))) (((idx p0 v11).bind fun m24=>(gd (m24.ID != p1) (dt m24 p2 p3)).bind fun x26=>(gd ((m24.ID != p1)&&x26) (eu x1.1.Rules m24.Rules)).bind fun x27=>cond (((m24.ID != p1)&&x26)&&x27) ((app 8 l8 [m24.ID]).bind fun l31=>some l31) (some l8)).bind fun l22=>some (.inl (l22,(IntKind.i64.wrap (v11+1))))) (some (.inr l8))) FUEL ([p1],0)).bind fun l15=>some l15))
theorem oj {p0:(List Zb)} {p1:Int} {p2:ByteArray} {p3:ByteArray} {r:(List Int)}  (h:d9 p0 p1 p2 p3=some r):PF 47 [pL Zb.enc p0,pI p1,pS p2,pS p3] (pL eI r):=by
 unfold d9 at h
 refine bc ?_
 refine di Tryz.func47 rfl Tryz.ntmps47 Tryz.results47 rfl (aS [8] (by kernel_rfl) (dc h fun x1 hx1 h=>af (aX 6 [] [15,16,17,14] [(18,.agg (aA x1.1)),(19,pB x1.2)] (bh 2 (jn hx1) bk) (by kernel_rfl) (an rfl (aK (cs:=[pI 0,pI 0,pN,pN]) rfl rfl rfl rfl (fun b2=>aP rfl rfl (al (vs:=(aA x1.1)) rfl rfl rfl rfl rfl cg xB (aL [(10,pB x1.2)] (by kernel_rfl) (co (bL [20] [(21,pB (!x1.2))] (by kernel_rfl) rfl h (fun hc3 h=>?_) fun hc3 h=>?_))))))))))
 ·refine ae ?_
  refine ak [(8,pN)] (by kernel_rfl) (aY (iE 8 rfl (bS (am ?_))))
  exact zz r h rfl
 refine ah ?_
 refine bW (af (aG 1 [(22,pI p1)] (by kernel_rfl) (an rfl (bM rfl rfl rfl rfl rfl (gr rfl jJ) rfl rfl rfl rfl (fun b4=>aL [(11,pO (some ⟨b4,0,none⟩) 1 1)] (by kernel_rfl) (co (aJ [1] [24,25] [(26,pB (x1.1.Kind != 2))] (by kernel_rfl) (cN rfl h (fun hc6 h=>?_) fun hc6 h=>?_))))))))
 ·refine ae ?_
  refine ai [27] [(8,pO (some ⟨b4,0,none⟩) 1 1)] (by kernel_rfl) (aY ?_)
  refine fa (enc:=eI) (xs:=[p1]) 8 rfl (by exact aM) ?_
  refine bS (am ?_)
  exact zz r h rfl
 refine ah ?_
 refine co (ak [(28,pL Zb.enc p0),(29,pI (p0.length:Int)),(30,pI 0)] (by kernel_rfl) (fG h fun q17 hq17 h=>?_))
 refine aq (Y:=(Option Addr×Nat)×((List Int))) (fun ((a13,c14),l15)=>[(11,pO a13 l15.length c14)]) (fun ((a13,c14),l15)=>[PRes.row a13 l15.length c14 3 1 (List.map eI l15)]) (fun ((a13,c14),l15)=>q17=l15) ?_ ?_
 ·refine av ?_
  refine aC (Y:=Option Addr×Nat) (S:=(List Int)×Int) _ hq17 (fun (a9,c10) (l8,v11)=>[(1,pI p1),(2,pS p2),(3,pS p3),(9,pP b2 0),(11,pO a9 l8.length c10),(28,pL Zb.enc p0),(29,pI (p0.length:Int)),(30,pI v11)]) (fun (a9,c10) (l8,v11)=>[PRes.b b2 81 (aA x1.1),PRes.row a9 l8.length c10 3 1 (List.map eI l8)]) ((some ⟨b4,0,none⟩),1) (r5 rfl) (bd (aB aM) cI) ?_
  rintro ⟨a9,c10⟩ ⟨l8,v11⟩ o τ hb16;(try dsimp only at hb16);dsimp only [aw]
  refine ae (ak [(31,pB (decide (v11<(p0.length:Int))))] (by kernel_rfl) (bW (ki rfl hb16 (fun hc18 hb16=>?_) fun hc18 hb16=>?_)))
  ·refine ah ?_
   refine dc hb16 fun q23 hq23 hb16=>?_
   refine aq (Y:=(Option Addr×Nat)×((List Int))) (fun ((a20,c21),l22)=>[(1,pI p1),(2,pS p2),(3,pS p3),(9,pP b2 0),(11,pO a20 l22.length c21),(28,pL Zb.enc p0),(29,pI (p0.length:Int)),(30,pI v11)]) (fun ((a20,c21),l22)=>[PRes.b b2 81 (aA x1.1),PRes.row a20 l22.length c21 3 1 (List.map eI l22)]) (fun ((a20,c21),l22)=>q23=l22) ?_ ?_
   ·skip
    refine qy (aa hq23 fun m24 hm24 hq23=>af (aX 2 [] [32] [(33,.agg (aA m24))] (cG 0 Zb.enc hm24 bk) (by kernel_rfl) (an rfl (aK (cs:=[pI 0,pI 0,pN,pN]) rfl rfl rfl rfl (fun b25=>aP rfl rfl (al (vs:=(aA m24)) rfl rfl rfl rfl rfl cg xB (aF (dc hq23 fun x26 hx26 hq23=>aa hq23 fun x27 hx27 hq23=>ap [0,0,1,0] (rg 34 16) [(50,pB (((m24.ID != p1)&&x26)&&x27))] (ee 8 (fun hc=>i4 (cA hx26 hc)) (ee 15 (fun hc=>nl (cA hx27 hc)) bk)) (by kernel_rfl) (cN rfl hq23 (fun hc28 hq23=>?_) fun hc28 hq23=>?_)))))))))
    ·refine af ?_
     refine cB 3 [0] [52] [(51,pO a9 l8.length c10),(53,pI m24.ID)] (by kernel_rfl) (an rfl (bM rfl rfl rfl rfl rfl (gr rfl jJ) rfl rfl rfl rfl (fun b29=>aa hq23 fun l31 hl31 hq23=>?_)))
     refine an rfl (bZ (enc:=eI) rfl rfl rfl rfl rfl rfl rfl rfl rfl fT (by exact aB (aB (aB aM))) hl31 (fun a32 c33=>?_))
     refine aL [(11,pO a32 l31.length c33)] (by kernel_rfl) (aD ?_)
     obtain rfl:=osi hq23
     exact az ((a32,c33),l31) (r5 rfl) (bd (aB (aB (aB aM))) cI) rfl
    refine ah ?_
    refine aD ?_
    obtain rfl:=osi hq23
    exact az ((a9,c10),l8) (r5 rfl) (bd (aB aM) (bd (aB aM) bA)) rfl
   rintro ⟨⟨a20,c21⟩,l22⟩ τ hz;(try dsimp only at hz);subst q23;(try dsimp only at hb16);dsimp only [aw]
   refine ai [56] [(30,pI (IntKind.i64.wrap (v11+1)))] (by kernel_rfl) ?_
   exact aU hb16 (a20,c21) (r5 rfl) oX
  refine aH ?_
  refine cj hb16 (fun ht=>aj rfl ?_)
  exact az ((a9,c10),l8) (rq rfl) (bd (aB aM) bA) ht.symm
 rintro ⟨⟨a13,c14⟩,l15⟩ τ hz;(try dsimp only at hz);subst q17;(try dsimp only at h);dsimp only [aw]
 refine ae (ai [57] [(8,pO a13 l15.length c14)] (by kernel_rfl) (aY ?_))
 refine fa (enc:=eI) (xs:=l15) 8 rfl (by exact aM) ?_
 refine bS ?_
 exact zz r h rfl
def jF (p0:(List ByteArray)) (p1:(List ByteArray)):Option (List ByteArray):=(cQ [p0,p1]).bind fun x3=>(iP x3).bind fun x7=>(dE x7).bind fun x8=>some x8
theorem u6 {p0:(List ByteArray)} {p1:(List ByteArray)} {r:(List ByteArray)}  (h:jF p0 p1=some r):PF 97 [pL eS p0,pL eS p1] (pL eS r):=by
 unfold jF at h
 refine bc ?_
 refine di Tryz.func97 rfl Tryz.ntmps97 Tryz.results97 rfl (aS [4] (by kernel_rfl) (bW (af (aG 2 [(6,pL eS p0),(7,pL eS p1)] (by kernel_rfl) (an rfl (bM rfl rfl rfl rfl rfl (gr rfl (gr rfl jJ)) rfl rfl rfl rfl (fun b1=>?_)))))))
 refine gw (enc:=(eL eS)) (xs:=[p0,p1]) 8 rfl (by exact aM) ?_
 refine aa h fun x3 hx3 h=>?_
 refine an rfl (be rfl rfl (ρ1:=[]) (List.Perm.refl _) (kD hx3) ?_);rintro _ _ ⟨a4,c5,rfl,rfl⟩
 refine aL [(5,pO a4 x3.length c5)] (by kernel_rfl) (dc h fun x7 hx7 h=>af (aG 1 [(10,pO a4 x3.length c5)] (by kernel_rfl) ?_))
 refine an rfl (be rfl rfl (ρ1:=[_]) (aR (by exact aM) (List.Perm.refl _)) (lC hx7) ?_);rintro _ _ ⟨rfl,rfl⟩
 refine aF (dc h fun x8 hx8 h=>af (aG 1 [(12,pO a4 x3.length c5)] (by kernel_rfl) ?_))
 refine an rfl (be rfl rfl (ρ1:=[_]) (aR (by exact aM) (List.Perm.refl _)) (kj hx8) ?_);rintro _ _ ⟨a9,c10,rfl,rfl⟩
 refine aL [(4,pO a9 x8.length c10)] (by kernel_rfl) (aY ?_)
 refine fa (enc:=eS) (xs:=x8) 4 rfl (by exact aM) ?_
 refine bS ?_
 exact zz r h rfl
def eX (p0:(List Zc)) (p1:Zb) (p2:Zc) (p3:Zs):Option ((List Ze)×(List ByteArray)):=(bP p2.Processes).bind fun x4=>(aW (S:=(List Ze)×(List ByteArray)×Int) (T:=((List Ze)×(List ByteArray))) (fun (l9,l12,v13)=>cond (decide (v13<(p2.Inputs.length:Int))) (((idx p2.Inputs v13).bind fun m29=>(cK p0 m29.Product).bind fun x31=>(gd (p1.Kind == 3) (bG p1.Parties x31.1.Country)).bind fun x33=>Option.bind (cond ((p1.Kind == 3)&&x33) ((jF l12 x31.1.Processes).bind fun x38=>some x38) (some l12)) (fun l35=>(cL p3 x31.1 m29.Value).bind fun x39=>cond (((Ze.is_proved_ x39)||(!((p1.Kind == 3)&&x33)))||((x31.1.Inputs.length:Int) == 0)) ((app 16 l9 [x39]).bind fun l44=>some (l44,l35)) ((aW (S:=(List Ze)×Int) (T:=((List Ze))) (fun (l49,v52)=>cond (decide (v52<(x31.1.Inputs.length:Int))) ((idx x31.1.Inputs v52).bind fun m60=>(cK p0 m60.Product).bind fun x62=>(fz m29.Value m60.Value x31.1.Price).bind fun x64=>(cL p3 x62.1 x64).bind fun x65=>(app 16 l49 [x65]).bind fun l68=>some (.inl (l68,(IntKind.i64.wrap (v52+1))))) (some (.inr l49))) FUEL (l9,0)).bind fun l56=>some (l56,l35)))).bind fun (l26,l27)=>some (.inl (l26,l27,(IntKind.i64.wrap (v13+1))))) (some (.inr (l9,l12)))) FUEL (([]:List Ze),x4,0)).bind fun (l17,l18)=>(sub l18 0 (oP (l18.length:Int) 8)).bind fun l73=>some (l17,l73)
theorem pF {p0:(List Zc)} {p1:Zb} {p2:Zc} {p3:Zs} {m3_set_:Nat} {r:((List Ze)×(List ByteArray))}  (h:eX p0 p1 p2 p3=some r):PCall 48 [pL Zc.enc p0,.agg (aA p1),.agg (aI p2),.agg [pL eI p3.partners,.v (.map (some m3_set_))]] [PRes.mp (some m3_set_) (fP Za.key vT p3.set_)] (fun pv ρ'=>pv=.tup [pL Ze.enc r.1,pL eS r.2]∧ρ'=[PRes.mp (some m3_set_) (fP Za.key vT p3.set_)]):=by
 unfold eX at h
 refine di Tryz.func48 rfl Tryz.ntmps48 Tryz.results48 rfl (cX rfl (bf (cs:=(aA p1)) rfl rfl (fun b1=>an rfl (bf (cs:=(aI p2)) rfl rfl (fun b2=>an rfl (bf (cs:=[pL eI p3.partners,.v (.map (some m3_set_))]) rfl rfl (fun b3=>aZ [8,9] (by kernel_rfl) (bW (ak [(10,pN)] (by kernel_rfl) (dc h fun x4 hx4 h=>af (cB 2 [1] [24] [(25,pL eS p2.Processes)] (by kernel_rfl) ?_)))))))))))
 refine an rfl (be rfl rfl (ρ1:=[]) (List.Perm.refl _) (eR hx4) ?_);rintro _ _ ⟨a5,c6,rfl,rfl⟩
 refine aL [(11,pO a5 x4.length c6)] (by kernel_rfl) (co (aJ [2] [27] [(28,pL Zh.enc p2.Inputs),(29,pI (p2.Inputs.length:Int)),(30,pI 0)] (by kernel_rfl) (aY (cM 101 1 ?_))))
 refine fa (enc:=eS) (xs:=x4) 11 rfl (by exact aB aM) ?_
 refine aa h fun q20 hq20 h=>?_
 refine aq (Y:=(Option Addr×Nat)×((List Ze)×(List ByteArray))) (fun ((a15,c16),(l17,l18))=>[(10,pO a15 l17.length c16),(11,pL eS l18)]) (fun ((a15,c16),(l17,l18))=>[PRes.mp (some m3_set_) (fP Za.key vT p3.set_),PRes.row a15 l17.length c16 101 1 (List.map Ze.enc l17)]) (fun ((a15,c16),(l17,l18))=>q20=(l17,l18)) ?_ ?_
 ·refine av ?_
  refine aC (Y:=Option Addr×Nat) (S:=(List Ze)×(List ByteArray)×Int) _ hq20 (fun (a10,c11) (l9,l12,v13)=>[(0,pL Zc.enc p0),(5,pP b1 0),(7,pP b3 0),(10,pO a10 l9.length c11),(11,pL eS l12),(28,pL Zh.enc p2.Inputs),(29,pI (p2.Inputs.length:Int)),(30,pI v13)]) (fun (a10,c11) (l9,l12,v13)=>[PRes.b b1 81 (aA p1),PRes.b b3 96 [pL eI p3.partners,.v (.map (some m3_set_))],PRes.mp (some m3_set_) (fP Za.key vT p3.set_),PRes.row a10 l9.length c11 101 1 (List.map Ze.enc l9)]) (none,0) (r5 rfl) (bd (aB (aB (aB (aB aM)))) (bd (aB (aB aM)) (bd (aB (aB (aB aM))) (bd (aB aM) bA)))) ?_
  rintro ⟨a10,c11⟩ ⟨l9,l12,v13⟩ o τ hb19;(try dsimp only at hb19);dsimp only [aw]
  refine ae (ak [(31,pB (decide (v13<(p2.Inputs.length:Int))))] (by kernel_rfl) (bW (ki rfl hb19 (fun hc22 hb19=>?_) fun hc22 hb19=>?_)))
  ·refine ah ?_
   refine dc hb19 fun q28 hq28 hb19=>?_
   refine aq (Y:=(Option Addr×Nat)×((List Ze)×(List ByteArray))) (fun ((a24,c25),(l26,l27))=>[(0,pL Zc.enc p0),(5,pP b1 0),(7,pP b3 0),(10,pO a24 l26.length c25),(11,pL eS l27),(28,pL Zh.enc p2.Inputs),(29,pI (p2.Inputs.length:Int)),(30,pI v13)]) (fun ((a24,c25),(l26,l27))=>[PRes.b b1 81 (aA p1),PRes.b b3 96 [pL eI p3.partners,.v (.map (some m3_set_))],PRes.mp (some m3_set_) (fP Za.key vT p3.set_),PRes.row a24 l26.length c25 101 1 (List.map Ze.enc l26)]) (fun ((a24,c25),(l26,l27))=>q28=(l26,l27)) ?_ ?_
   ·skip
    refine qy (aa hq28 fun m29 hm29 hq28=>af (aX 2 [] [32] [(33,.agg [pI m29.Product,pI m29.Value])] (cG 0 Zh.enc hm29 bk) (by kernel_rfl) (an rfl (aK (cs:=[pI 0,pI 0]) rfl rfl rfl rfl (fun b30=>aP rfl rfl (al (vs:=[pI m29.Product,pI m29.Value]) rfl rfl rfl rfl rfl cg rZ (aF (dc hq28 fun x31 hx31 hq28=>af (aX 7 [0] [35,36,37,38,34] [(39,.agg (aI x31.1)),(40,pB x31.2)] (bh 3 (fy hx31) bk) (by kernel_rfl) (an rfl (aK (cs:=[pI 0,pS ByteArray.empty,pS ByteArray.empty,pI 0,pB false,pN,pN]) rfl rfl rfl rfl (fun b32=>aP rfl rfl (al (vs:=(aI x31.1)) rfl rfl rfl rfl rfl cg nf (aZ [15] (by kernel_rfl) (dc hq28 fun x33 hx33 hq28=>ap [2,2,0] (rg 41 10) [(16,pB ((p1.Kind == 3)&&x33))] (ee 8 (fun hc=>cP (cA hx33 hc)) bk) (by kernel_rfl) (co (ak [(51,pB ((p1.Kind == 3)&&x33))] (by kernel_rfl) (fG hq28 fun q36 hq36 hq28=>?_))))))))))))))))))
    refine aq (Y:=Unit×((List ByteArray))) (fun (_,l35)=>[(0,pL Zc.enc p0),(5,pP b1 0),(7,pP b3 0),(10,pO a10 l9.length c11),(11,pL eS l35),(13,pP b30 0),(14,pP b32 0),(16,pB ((p1.Kind == 3)&&x33)),(28,pL Zh.enc p2.Inputs),(29,pI (p2.Inputs.length:Int)),(30,pI v13)]) (fun (_,l35)=>[PRes.b b1 81 (aA p1),PRes.b b3 96 [pL eI p3.partners,.v (.map (some m3_set_))],PRes.b b30 78 [pI m29.Product,pI m29.Value],PRes.b b32 76 (aI x31.1),PRes.mp (some m3_set_) (fP Za.key vT p3.set_),PRes.row a10 l9.length c11 101 1 (List.map Ze.enc l9)]) (fun (_,l35)=>q36=l35) ?_ ?_
    ·skip
     refine ki rfl hq36 (fun hc37 hq36=>?_) fun hc37 hq36=>?_
     ·refine aa hq36 ?_;clear hq36;intro x38 hx38 hq36
      refine ap [0] [52,53,54,55] [(11,pL eS x38)] (bh 3 (u6 hx38) bk) (by kernel_rfl) ?_
      obtain rfl:=osi hq36
      exact az ((),x38) (ed rfl (ed rfl (r6 rfl))) (bd (aB (aB aM)) (bd (aB (aB aM)) (bd (aB aM) BB))) rfl
     refine ah ?_
     obtain rfl:=osi hq36
     exact az ((),l12) (ed rfl (ed rfl (r6 rfl))) (bd (aB (aB aM)) (bd (aB (aB aM)) (bd (aB aM) BB))) rfl
    rintro ⟨_,l35⟩ τ hz;(try dsimp only at hz);subst q36;(try dsimp only at hq28);dsimp only [aw]
    refine ae (aa hq28 fun x39 hx39 hq28=>af (cB 4 [1,3,2] [58] [(56,.agg [pL eI p3.partners,.v (.map (some m3_set_))]),(57,.agg (aI x31.1)),(59,pI m29.Value)] (by kernel_rfl) ?_))
    refine an rfl (be rfl rfl (ρ1:=[_]) (aR (by exact aB (aB (aB (aB aM)))) (List.Perm.refl _)) (ij hx39) ?_);rintro _ _ ⟨rfl,rfl⟩
    refine aL [(17,Ze.pv x39)] (by kernel_rfl) (co (af (aX 5 [] [62,63,61] [(64,.agg [pS ((((Ze.as_proved_ x39)).use).Code),pI ((((Ze.as_proved_ x39)).use).Value),pB ((((Ze.as_proved_ x39)).use).Originating),pI ((((Ze.as_proved_ x39)).premise).Product),pI ((((Ze.as_proved_ x39)).premise).Agreement)]),(65,pB (Ze.is_proved_ x39))] (fota 1 (Ze.ta_proved_ x39) bk) (by kernel_rfl) (an rfl (aK (cs:=[pS ByteArray.empty,pI 0,pB false,pI 0,pI 0]) rfl rfl rfl rfl (fun b40=>aP rfl rfl (al (vs:=[pS ((((Ze.as_proved_ x39)).use).Code),pI ((((Ze.as_proved_ x39)).use).Value),pB ((((Ze.as_proved_ x39)).use).Originating),pI ((((Ze.as_proved_ x39)).premise).Product),pI ((((Ze.as_proved_ x39)).premise).Agreement)]) rfl rfl rfl rfl rfl cg Fx (aL [(19,pB (Ze.is_proved_ x39))] (by kernel_rfl) (bW (aJ [5] (rg 66 10) [(76,pB (((Ze.is_proved_ x39)||(!((p1.Kind == 3)&&x33)))||((x31.1.Inputs.length:Int) == 0)))] (by kernel_rfl) (cN rfl hq28 (fun hc41 hq28=>?_) fun hc41 hq28=>?_)))))))))))
    ·refine ae ?_
     refine af (aG 2 [(77,pO a10 l9.length c11),(78,Ze.pv x39)] (by kernel_rfl) (an rfl (bM rfl rfl rfl rfl rfl (gr rfl jJ) rfl rfl rfl rfl (fun b42=>aa hq28 fun l44 hl44 hq28=>?_))))
     refine an rfl (bZ (enc:=Ze.enc) rfl rfl rfl rfl rfl rfl rfl rfl rfl fT (by exact aB (aB (aB (aB (aB (aB (aB aM))))))) hl44 (fun a45 c46=>?_))
     refine aL [(10,pO a45 l44.length c46)] (by kernel_rfl) (aY (aH (gI (aj rfl ?_))))
     obtain rfl:=osi hq28
     exact az ((a45,c46),(l44,l35)) (r5 rfl) (bd (aB (aB (aB (aB aM)))) (bd (aB (aB (aB (aB aM)))) (bd (aB (aB (aB aM))) cI))) rfl
    refine ah ?_
    refine bW (aJ [5] [81] [(82,pL Zh.enc x31.1.Inputs),(83,pI (x31.1.Inputs.length:Int)),(84,pI 0)] (by kernel_rfl) (fG hq28 fun q58 hq58 hq28=>?_))
    refine iW (Y:=(Option Addr×Nat)×((List Ze))) (fun ((a54,c55),l56)=>[(0,pL Zc.enc p0),(5,pP b1 0),(7,pP b3 0),(10,pO a54 l56.length c55),(11,pL eS l35),(28,pL Zh.enc p2.Inputs),(29,pI (p2.Inputs.length:Int)),(30,pI v13)]) (fun ((a54,c55),l56)=>[PRes.b b1 81 (aA p1),PRes.b b3 96 [pL eI p3.partners,.v (.map (some m3_set_))],PRes.mp (some m3_set_) (fP Za.key vT p3.set_),PRes.row a54 l56.length c55 101 1 (List.map Ze.enc l56)]) (fun ((a54,c55),l56)=>q58=l56) ?_ ?_
    ·refine av ?_
     refine aC (Y:=Option Addr×Nat) (S:=(List Ze)×Int) _ hq58 (fun (a50,c51) (l49,v52)=>[(0,pL Zc.enc p0),(5,pP b1 0),(7,pP b3 0),(10,pO a50 l49.length c51),(11,pL eS l35),(13,pP b30 0),(14,pP b32 0),(28,pL Zh.enc p2.Inputs),(29,pI (p2.Inputs.length:Int)),(30,pI v13),(82,pL Zh.enc x31.1.Inputs),(83,pI (x31.1.Inputs.length:Int)),(84,pI v52)]) (fun (a50,c51) (l49,v52)=>[PRes.b b1 81 (aA p1),PRes.b b3 96 [pL eI p3.partners,.v (.map (some m3_set_))],PRes.b b30 78 [pI m29.Product,pI m29.Value],PRes.b b32 76 (aI x31.1),PRes.mp (some m3_set_) (fP Za.key vT p3.set_),PRes.row a50 l49.length c51 101 1 (List.map Ze.enc l49)]) (a10,c11) (ed rfl (ed rfl (ed rfl (ed rfl (r6 rfl))))) (bd (aB (aB aM)) (bd (aB (aB aM)) (bd (aB (aB aM)) (bd (aB (aB aM)) (bd (aB aM) (bd (aB aM) bA)))))) ?_
     rintro ⟨a50,c51⟩ ⟨l49,v52⟩ o τ hb57;(try dsimp only at hb57);dsimp only [aw]
     refine ae (ak [(85,pB (decide (v52<(x31.1.Inputs.length:Int))))] (by kernel_rfl) (bW (ki rfl hb57 (fun hc59 hb57=>?_) fun hc59 hb57=>?_)))
     ·refine ah ?_
      refine dG (aa hb57 fun m60 hm60 hb57=>af (aX 2 [] [86] [(87,.agg [pI m60.Product,pI m60.Value])] (cG 0 Zh.enc hm60 bk) (by kernel_rfl) (an rfl (aK (cs:=[pI 0,pI 0]) rfl rfl rfl rfl (fun b61=>aP rfl rfl (al (vs:=[pI m60.Product,pI m60.Value]) rfl rfl rfl rfl rfl cg rZ (aF (dc hb57 fun x62 hx62 hb57=>af (aX 7 [0] [89,90,91,92,88] [(93,.agg (aI x62.1)),(94,pB x62.2)] (bh 3 (fy hx62) bk) (by kernel_rfl) (an rfl (aK (cs:=[pI 0,pS ByteArray.empty,pS ByteArray.empty,pI 0,pB false,pN,pN]) rfl rfl rfl rfl (fun b63=>aP rfl rfl (al (vs:=(aI x62.1)) rfl rfl rfl rfl rfl cg nf (aZ [23] (by kernel_rfl) (aY (bi (ρd:=[PRes.mp (some m3_set_) _,PRes.row a50 _ _ _ _ _]) [(0,0),(1,0),(2,0),(3,0),(4,0),(5,0),(6,0),(7,0),(8,0),(9,1),(10,1),(11,1),(12,1),(13,0)] _ (aR (aB (aB (aB (aB (aB (aB aM)))))) (aR (aB (aB (aB (aB (aB (aB aM)))))) (List.Perm.refl _))) (by kernel_rfl) rfl (aa hb57 fun x64 hx64 hb57=>aa hb57 fun x65 hx65 hb57=>bt 10 [3,0,4,1,5] (rg 98 6) [(95,pO a50 l49.length c51),(96,.agg [pL eI p3.partners,.v (.map (some m3_set_))]),(97,.agg (aI x62.1)),(104,pI x64)] (bh 9 (oT hx64) bk) (by kernel_rfl) ?_)))))))))))))))))
      refine im rfl rfl rfl (be rfl rfl (ρ1:=[_]) (aR (by exact aM) (List.Perm.refl _)) (ij hx65) ?_);rintro _ _ ⟨rfl,rfl⟩
      refine im rfl rfl rfl (bM rfl rfl rfl rfl rfl (gr rfl jJ) rfl rfl rfl rfl (fun b66=>aa hb57 fun l68 hl68 hb57=>?_))
      refine im rfl rfl rfl (bZ (enc:=Ze.enc) rfl rfl rfl rfl rfl rfl rfl rfl rfl fT (by exact aB (aB aM)) hl68 (fun a69 c70=>?_))
      refine iq 1 [(10,pO a69 l68.length c70)] (by kernel_rfl) (bx (dI (ai [108] [(84,pI (IntKind.i64.wrap (v52+1)))] (by kernel_rfl) ?_)))
      exact aU hb57 (a69,c70) (ed rfl (ed rfl (ed rfl (ed rfl (r6 rfl))))) (bd (aB (aB (aB (aB (aB aM))))) (bd (aB (aB (aB (aB (aB aM))))) (bd (aB (aB (aB (aB (aB aM))))) (bd (aB (aB (aB (aB (aB aM))))) (bd (aB (aB aM)) cI)))))
     refine aH ?_
     refine cj hb57 (fun ht=>aj rfl ?_)
     exact gK ((a50,c51),l49) (r5 rfl) (bd aM (bd aM (bd (aB (aB aM)) (bd (aB (aB aM)) bA)))) ht.symm
    rintro ⟨⟨a54,c55⟩,l56⟩ τ ρ1 hsub72 hz;(try dsimp only at hz hsub72);subst q58;(try dsimp only at hq28);dsimp only [aw]
    refine aD ?_
    obtain rfl:=osi hq28
    exact az ((a54,c55),(l56,l35)) (r5 rfl) (PSub.trans Dn hsub72) rfl
   rintro ⟨⟨a24,c25⟩,⟨l26,l27⟩⟩ τ hz;(try dsimp only at hz);subst q28;(try dsimp only at hb19);dsimp only [aw]
   refine ai [109] [(30,pI (IntKind.i64.wrap (v13+1)))] (by kernel_rfl) ?_
   exact aU hb19 (a24,c25) (r5 rfl) Dn
  refine aH ?_
  refine cj hb19 (fun ht=>aj rfl ?_)
  exact az ((a10,c11),(l9,l12)) (mn rfl) (bd (aB (aB aM)) (bd (aB (aB aM)) bA)) ht.symm
 rintro ⟨⟨a15,c16⟩,⟨l17,l18⟩⟩ τ hz;(try dsimp only at hz);subst q20;(try dsimp only at h);dsimp only [aw]
 refine ae (bi (ρd:=[]) [(0,0),(1,0),(2,0),(3,0),(4,0),(5,0),(6,0),(7,0)] _ (List.Perm.refl _) (by kernel_rfl) rfl (aa h fun l73 hl73 h=>bt 8 [] (rg 110 6) [(8,pO a15 l17.length c16),(9,pL eS l73)] (vI 5 eS 1 (fun _=>rfl) hl73 bk) (by kernel_rfl) (bx (aY ?_))))
 refine fa (enc:=Ze.enc) (xs:=l17) 8 rfl (by exact aB aM) ?_
 refine bS ?_
 obtain rfl:=osi h
 exact aN (cF (aQ rfl) (aQ rfl)) (bd (aB aM) bA) ⟨rfl,rfl⟩
def eY (p0:(List Zc)) (p1:(List Zb)) (p2:ByteArray) (p3:Za) (p4:(List Za)):Option (Zm×(List Za)):=(ca p0 p1 p2 p3).bind fun x3=>cond (!x3) (some ((⟨ByteArray.empty,0,false,[],[]⟩:Zm),[])) ((cK p0 p3.Product).bind fun x5=>(ef p1 p3.Agreement).bind fun x7=>(d9 p1 p3.Agreement x5.1.Country p2).bind fun x9=>(aW (S:=Int×(List (Za×Bool))) (T:=((List (Za×Bool)))) (fun (v12,l13)=>cond (decide (v12<(p4.length:Int))) ((idx p4 v12).bind fun m18=>some (.inl ((IntKind.i64.wrap (v12+1)),(o8 l13 m18 true)))) (some (.inr l13))) FUEL (0,([]:List (Za×Bool)))).bind fun l14=>(eX p0 x7.1 x5.1 (⟨x9,l14⟩:Zs)).bind fun x20=>(aW (S:=(List Za)×Int×(List Zk)) (T:=((List Za)×(List Zk))) (fun (l23,v26,l28)=>cond (decide (v26<(x20.1.length:Int))) (((idx x20.1 v26).bind fun m53=>(Icumulation_supply_input m53).bind fun x54=>(app 32 l28 [x54]).bind fun l57=>cond (Ze.is_proved_ m53) ((app 16 l23 [(((Ze.as_proved_ m53)).premise)]).bind fun l65=>some (l65,l57)) (some (l23,l57))).bind fun (l47,l51)=>some (.inl (l47,(IntKind.i64.wrap (v26+1)),l51))) (some (.inr (l23,l28)))) FUEL (([]:List Za),0,([]:List Zk))).bind fun (l34,l38)=>(bu l34).bind fun x69=>(bm x69).bind fun x70=>some ((⟨x5.1.Code,x5.1.Price,x5.1.Obtained,x20.2,l38⟩:Zm),x70))
theorem pG {p0:(List Zc)} {p1:(List Zb)} {p2:ByteArray} {p3:Za} {p4:(List Za)} {r:(Zm×(List Za))}  (h:eY p0 p1 p2 p3 p4=some r):PF 17 [pL Zc.enc p0,pL Zb.enc p1,pS p2,.agg [pI p3.Product,pI p3.Agreement],pL Za.enc p4] (.tup [.agg (bz r.1),pL Za.enc r.2]):=by
 unfold eY at h
 refine bc ?_
 refine di Tryz.func17 rfl Tryz.ntmps17 Tryz.results17 rfl (cX rfl (bf (cs:=[pI p3.Product,pI p3.Agreement]) rfl rfl (fun b1=>an rfl (aK (cs:=[pS ByteArray.empty,pI 0,pB false,pN,pN]) rfl rfl rfl rfl (fun b2=>aZ [11] (by kernel_rfl) (co (aa h fun x3 hx3 h=>ap [1] (rg 27 5) [(32,pB (!x3))] (bh 4 (jf hx3) bk) (by kernel_rfl) (cN rfl h (fun hc4 h=>?_) fun hc4 h=>?_))))))))
 ·refine ae ?_
  refine af (aG 1 [(33,.agg [pS ByteArray.empty,pI 0,pB false,pN,pN])] (by kernel_rfl) (aP rfl rfl (al (vs:=[pS ByteArray.empty,pI 0,pB false,pN,pN]) rfl rfl rfl rfl rfl cg Fx (aL [(11,pN)] (by kernel_rfl) (aY (cJ (k:=3) (b:=b2) rfl cg (cJ (k:=4) (b:=b2) rfl cg (iE 11 rfl (bS (am ?_))))))))))
  obtain rfl:=osi h
  exact aN (cF (du rfl fT rfl) (aQ rfl)) bA ⟨rfl,rfl⟩
 refine ah ?_
 refine dc h fun x5 hx5 h=>af (aX 7 [1] [35,36,37,38,34] [(39,.agg (aI x5.1)),(40,pB x5.2)] (bh 3 (fy hx5) bk) (by kernel_rfl) (an rfl (aK (cs:=[pI 0,pS ByteArray.empty,pS ByteArray.empty,pI 0,pB false,pN,pN]) rfl rfl rfl rfl (fun b6=>aP rfl rfl (al (vs:=(aI x5.1)) rfl rfl rfl rfl rfl cg nf (aZ [13] (by kernel_rfl) (dc h fun x7 hx7 h=>af (aX 7 [2] [42,43,44,45,41] [(46,.agg (aA x7.1)),(47,pB x7.2)] (bh 3 (jn hx7) bk) (by kernel_rfl) (an rfl (aK (cs:=[pI 0,pI 0,pN,pN]) rfl rfl rfl rfl (fun b8=>aP rfl rfl (al (vs:=(aA x7.1)) rfl rfl rfl rfl rfl cg xB (aZ [15] (by kernel_rfl) (dc h fun x9 hx9 h=>af (aX 7 [3,1] (rg 48 6) [(54,pL eI x9)] (bh 6 (oj hx9) bk) (by kernel_rfl) (an rfl (sY Za.key vT rfl (fun b10=>aG 1 [(56,.agg [pL eI x9,.v (.map (some b10))])] (by kernel_rfl) (an rfl (aK (cs:=[pN,.v (.map none)]) rfl rfl rfl rfl (fun b11=>aP rfl rfl (al (vs:=[pL eI x9,.v (.map (some b10))]) rfl rfl rfl rfl rfl cg rZ (aF (co (ak [(57,pL Za.enc p4),(58,pI (p4.length:Int)),(59,pI 0)] (by kernel_rfl) (fG h fun q16 hq16 h=>?_))))))))))))))))))))))))))
 refine aq (Y:=Unit×((List (Za×Bool)))) (fun (_,l14)=>[(0,pL Zc.enc p0),(10,pP b2 0),(12,pP b6 0),(14,pP b8 0),(16,pP b11 0)]) (fun (_,l14)=>[PRes.mp (some b10) (fP Za.key vT l14),PRes.b b11 96 [pL eI x9,.v (.map (some b10))],PRes.b b2 36 [pS ByteArray.empty,pI 0,pB false,pN,pN],PRes.b b6 76 (aI x5.1),PRes.b b8 81 (aA x7.1)]) (fun (_,l14)=>q16=l14) ?_ ?_
 ·refine av ?_
  refine aC (Y:=Unit) (S:=Int×(List (Za×Bool))) _ hq16 (fun _ (v12,l13)=>[(0,pL Zc.enc p0),(10,pP b2 0),(12,pP b6 0),(14,pP b8 0),(16,pP b11 0),(57,pL Za.enc p4),(58,pI (p4.length:Int)),(59,pI v12)]) (fun _ (v12,l13)=>[PRes.mp (some b10) (fP Za.key vT l13),PRes.b b11 96 [pL eI x9,.v (.map (some b10))],PRes.b b2 36 [pS ByteArray.empty,pI 0,pB false,pN,pN],PRes.b b6 76 (aI x5.1),PRes.b b8 81 (aA x7.1)]) () (r5 rfl) (bd (aB aM) (bd aM (bd (aB (aB aM)) (bd (aB aM) cI)))) ?_
  rintro _ ⟨v12,l13⟩ o τ hb15;(try dsimp only at hb15);dsimp only [aw]
  refine ae (ak [(60,pB (decide (v12<(p4.length:Int))))] (by kernel_rfl) (bW (ki rfl hb15 (fun hc17 hb15=>?_) fun hc17 hb15=>?_)))
  ·refine ah ?_
   refine dG (aa hb15 fun m18 hm18 hb15=>af (aX 2 [] [61] [(62,.agg [pI m18.Product,pI m18.Agreement])] (cG 0 Za.enc hm18 bk) (by kernel_rfl) (an rfl (aK (cs:=[pI 0,pI 0]) rfl rfl rfl rfl (fun b19=>aP rfl rfl (al (vs:=[pI m18.Product,pI m18.Agreement]) rfl rfl rfl rfl rfl cg rZ (aF (aY (af (cB 3 [2,0] [63] [(64,.v (.map (some b10))),(65,.agg [pI m18.Product,pI m18.Agreement])] (by kernel_rfl) (aP rfl rfl (rH (xs:=l13) (k:=m18) (ek:=Za.key) (vv:=vT) (v:=true) rfl rfl Za.kenc28 rfl rfl xK rfl (dA cg) (aF (dI (ai [66] [(59,pI (IntKind.i64.wrap (v12+1)))] (by kernel_rfl) ?_)))))))))))))))
   exact aU hb15 () (r5 rfl) (bd (aB aM) (bd (aB aM) (bd (aB aM) (bd (aB aM) (bd (aB aM) bA)))))
  refine aH ?_
  refine cj hb15 (fun ht=>aj rfl ?_)
  exact az ((),l13) (mT rfl) zs5 ht.symm
 rintro ⟨_,l14⟩ τ hz;(try dsimp only at hz);subst q16;(try dsimp only at h);dsimp only [aw]
 refine ae (aa h fun x20 hx20 h=>af (gz 4 [4,3,1] [(68,pL Zc.enc p0),(69,.agg (aA x7.1)),(70,.agg (aI x5.1)),(71,.agg [pL eI x9,.v (.map (some b10))])] (by kernel_rfl) ?_))
 refine an rfl (be rfl rfl (ρ1:=[_]) (aR (by exact aM) (List.Perm.refl _)) (pF hx20) ?_);rintro _ _ ⟨rfl,rfl⟩
 refine jV [67,73,74] [(19,pL Ze.enc x20.1),(20,pL eS x20.2)] (by kernel_rfl) (bW (af (cB 8 [3,3,3] (rg 75 7) [(82,.agg [pS x5.1.Code,pI x5.1.Price,pB x5.1.Obtained,pL eS x20.2,pN])] (by kernel_rfl) (an rfl (aK (cs:=[pS ByteArray.empty,pI 0,pB false,pN,pN]) rfl rfl rfl rfl (fun b21=>aP rfl rfl (al (vs:=[pS x5.1.Code,pI x5.1.Price,pB x5.1.Obtained,pL eS x20.2,pN]) rfl rfl rfl rfl rfl cg Fx (aF (bW (ak [(22,pN)] (by kernel_rfl) (co (ak [(83,pL Ze.enc x20.1),(84,pI (x20.1.length:Int)),(85,pI 0)] (by kernel_rfl) (aY (cM 28 2 (cM 103 3 (aa h fun q40 hq40 h=>?_))))))))))))))))
 refine aq (Y:=(Option Addr×Nat×Option Addr×Nat)×((List Za)×(List Zk))) (fun ((a32,c33,a36,c37),(l34,l38))=>[(10,pP b2 0),(21,pP b21 0),(22,pO a32 l34.length c33)]) (fun ((a32,c33,a36,c37),(l34,l38))=>[PRes.b b2 36 [pS ByteArray.empty,pI 0,pB false,pN,pN],PRes.b b21 36 [pS x5.1.Code,pI x5.1.Price,pB x5.1.Obtained,pL eS x20.2,pO a36 l38.length c37],PRes.row a32 l34.length c33 28 2 (List.map Za.enc l34),PRes.row a36 l38.length c37 103 3 (List.map Zk.enc l38)]) (fun ((a32,c33,a36,c37),(l34,l38))=>q40=(l34,l38)) ?_ ?_
 ·refine av ?_
  refine aC (Y:=Option Addr×Nat×Option Addr×Nat) (S:=(List Za)×Int×(List Zk)) _ hq40 (fun (a24,c25,a29,c30) (l23,v26,l28)=>[(10,pP b2 0),(21,pP b21 0),(22,pO a24 l23.length c25),(83,pL Ze.enc x20.1),(84,pI (x20.1.length:Int)),(85,pI v26)]) (fun (a24,c25,a29,c30) (l23,v26,l28)=>[PRes.b b2 36 [pS ByteArray.empty,pI 0,pB false,pN,pN],PRes.b b21 36 [pS x5.1.Code,pI x5.1.Price,pB x5.1.Obtained,pL eS x20.2,pO a29 l28.length c30],PRes.row a24 l23.length c25 28 2 (List.map Za.enc l23),PRes.row a29 l28.length c30 103 3 (List.map Zk.enc l28)]) (none,0,none,0) (qP rfl) (bd (aB (aB (aB (aB (aB aM))))) (bd (aB (aB aM)) (bd (aB aM) cI))) ?_
  rintro ⟨a24,c25,a29,c30⟩ ⟨l23,v26,l28⟩ o τ hb39;(try dsimp only at hb39);dsimp only [aw]
  refine ae (ak [(86,pB (decide (v26<(x20.1.length:Int))))] (by kernel_rfl) (bW (ki rfl hb39 (fun hc43 hb39=>?_) fun hc43 hb39=>?_)))
  ·refine ah ?_
   refine dc hb39 fun q52 hq52 hb39=>?_
   refine aq (Y:=(Option Addr×Nat×Option Addr×Nat)×((List Za)×(List Zk))) (fun ((a45,c46,a49,c50),(l47,l51))=>[(10,pP b2 0),(21,pP b21 0),(22,pO a45 l47.length c46),(83,pL Ze.enc x20.1),(84,pI (x20.1.length:Int)),(85,pI v26)]) (fun ((a45,c46,a49,c50),(l47,l51))=>[PRes.b b2 36 [pS ByteArray.empty,pI 0,pB false,pN,pN],PRes.b b21 36 [pS x5.1.Code,pI x5.1.Price,pB x5.1.Obtained,pL eS x20.2,pO a49 l51.length c50],PRes.row a45 l47.length c46 28 2 (List.map Za.enc l47),PRes.row a49 l51.length c50 103 3 (List.map Zk.enc l51)]) (fun ((a45,c46,a49,c50),(l47,l51))=>q52=(l47,l51)) ?_ ?_
   ·skip
    refine qy (aa hq52 fun m53 hm53 hq52=>ap [] [87,88] [(24,Ze.pv m53)] (cG 0 Ze.enc hm53 bk) (by kernel_rfl) (dc hq52 fun x54 hx54 hq52=>aa hq52 fun l57 hl57 hq52=>?_))
    refine aq (Y:=Option Addr×Nat) (fun (a58,c59)=>[(10,pP b2 0),(21,pP b21 0),(22,pO a24 l23.length c25),(24,Ze.pv m53),(83,pL Ze.enc x20.1),(84,pI (x20.1.length:Int)),(85,pI v26)]) (fun (a58,c59)=>[PRes.b b2 36 [pS ByteArray.empty,pI 0,pB false,pN,pN],PRes.b b21 36 [pS x5.1.Code,pI x5.1.Price,pB x5.1.Obtained,pL eS x20.2,pO a58 l57.length c59],PRes.row a24 l23.length c25 28 2 (List.map Za.enc l23),PRes.row a58 l57.length c59 103 3 (List.map Zk.enc l57)]) (fun _=>True) ?_ ?_
    ·refine nC (ρd:=[PRes.row a29 _ _ _ _ _,PRes.b b21 _ _]) _ (aR (aB (aB (aB aM))) (aR (aB aM) (List.Perm.refl _))) ?_
     refine dx 0 (by kernel_rfl) rfl rfl rfl rfl (bH rfl rfl rfl rfl rfl (.p rfl)) (dx 2 (by kernel_rfl) rfl rfl rfl rfl (gM (p:=Ze.pv m53) rfl (.p rfl)) ?_)
     refine jS 1 3 (by kernel_rfl) ?_ ?_
     ·skip
      refine bo rfl rfl rfl rfl (oQ (dg (p:=pO a29 l28.length c30) rfl (.p rfl) xA rfl) (br 3 (by kernel_rfl) (bo rfl rfl rfl rfl (wq rfl rfl (Icumulation_supply_input_ok hx54) (br 4 (by kernel_rfl) (bo rfl rfl rfl rfl (bM rfl rfl rfl rfl rfl (gr rfl jJ) rfl rfl rfl rfl (fun b55=>br 5 (by kernel_rfl) ?_))))))))
      refine bo rfl rfl rfl rfl (bZ (enc:=Zk.enc) rfl rfl rfl rfl rfl rfl rfl rfl rfl fT (by exact aB aM) hl57 (fun a58 c59=>?_))
      refine dx 6 (by kernel_rfl) rfl rfl rfl rfl (bH rfl rfl rfl rfl rfl (.p rfl)) (br 7 (by kernel_rfl) (fc rfl rfl rfl (al (vs:=[pO a58 l57.length c59]) rfl rfl rfl rfl rfl (dA (dA cg)) (el (el (el (el oG)))) (fb (by kernel_rfl) ?_))))
      exact az (a58,c59) (sm rfl) (bd (aB (aB (aB aM))) (bd (aB (aB aM)) (bd (aB (aB aM)) cI))) trivial
     skip
     refine bo rfl rfl rfl rfl (wq rfl rfl (Icumulation_supply_input_ok hx54) ?_)
     refine jS 1 4 (by kernel_rfl) ?_ ?_
     ·skip
      refine bo rfl rfl rfl rfl (oQ (dg (p:=pO a29 l28.length c30) rfl (.p rfl) xA rfl) (br 4 (by kernel_rfl) (bo rfl rfl rfl rfl (bM rfl rfl rfl rfl rfl (gr rfl jJ) rfl rfl rfl rfl (fun b55=>br 5 (by kernel_rfl) ?_)))))
      refine bo rfl rfl rfl rfl (bZ (enc:=Zk.enc) rfl rfl rfl rfl rfl rfl rfl rfl rfl fT (by exact aB aM) hl57 (fun a58 c59=>?_))
      refine dx 6 (by kernel_rfl) rfl rfl rfl rfl (bH rfl rfl rfl rfl rfl (.p rfl)) (br 7 (by kernel_rfl) (fc rfl rfl rfl (al (vs:=[pO a58 l57.length c59]) rfl rfl rfl rfl rfl (dA (dA cg)) (el (el (el (el oG)))) (fb (by kernel_rfl) ?_))))
      exact az (a58,c59) (sm rfl) (bd (aB (aB (aB aM))) (bd (aB (aB aM)) (bd (aB (aB aM)) cI))) trivial
     skip
     refine bo rfl rfl rfl rfl (bM rfl rfl rfl rfl rfl (gr rfl jJ) rfl rfl rfl rfl (fun b55=>br 1 (by kernel_rfl) (bo rfl rfl rfl rfl (oQ (dg (p:=pO a29 l28.length c30) rfl (.p rfl) vH rfl) (br 5 (by kernel_rfl) ?_)))))
     refine bo rfl rfl rfl rfl (bZ (enc:=Zk.enc) rfl rfl rfl rfl rfl rfl rfl rfl rfl fT (by exact aB aM) hl57 (fun a58 c59=>?_))
     refine dx 6 (by kernel_rfl) rfl rfl rfl rfl (bH rfl rfl rfl rfl rfl (.p rfl)) (br 7 (by kernel_rfl) (fc rfl rfl rfl (al (vs:=[pO a58 l57.length c59]) rfl rfl rfl rfl rfl (dA (dA cg)) (el (el (el (el oG)))) (fb (by kernel_rfl) ?_))))
     exact az (a58,c59) (sm rfl) (bd (aB (aB (aB aM))) (bd (aB (aB aM)) (bd (aB (aB aM)) cI))) trivial
    rintro ⟨a58,c59⟩ τ _;dsimp only [aw]
    refine ae (af (aX 5 [] [97,98,96] [(99,.agg [pS ((((Ze.as_proved_ m53)).use).Code),pI ((((Ze.as_proved_ m53)).use).Value),pB ((((Ze.as_proved_ m53)).use).Originating),pI ((((Ze.as_proved_ m53)).premise).Product),pI ((((Ze.as_proved_ m53)).premise).Agreement)]),(100,pB (Ze.is_proved_ m53))] (fota 1 (Ze.ta_proved_ m53) bk) (by kernel_rfl) (an rfl (aK (cs:=[pS ByteArray.empty,pI 0,pB false,pI 0,pI 0]) rfl rfl rfl rfl (fun b61=>aP rfl rfl (al (vs:=[pS ((((Ze.as_proved_ m53)).use).Code),pI ((((Ze.as_proved_ m53)).use).Value),pB ((((Ze.as_proved_ m53)).use).Originating),pI ((((Ze.as_proved_ m53)).premise).Product),pI ((((Ze.as_proved_ m53)).premise).Agreement)]) rfl rfl rfl rfl rfl cg Fx (aL [(26,pB (Ze.is_proved_ m53))] (by kernel_rfl) (bW (ak [(101,pB (Ze.is_proved_ m53))] (by kernel_rfl) (cN rfl hq52 (fun hc62 hq52=>?_) fun hc62 hq52=>?_))))))))))
    ·refine af ?_
     refine cB 3 [0] [103] [(102,pO a24 l23.length c25),(104,.agg [pI ((((Ze.as_proved_ m53)).premise).Product),pI ((((Ze.as_proved_ m53)).premise).Agreement)])] (by kernel_rfl) (an rfl (bM rfl rfl rfl rfl rfl (gr rfl jJ) rfl rfl rfl rfl (fun b63=>aa hq52 fun l65 hl65 hq52=>?_)))
     refine an rfl (bZ (enc:=Za.enc) rfl rfl rfl rfl rfl rfl rfl rfl rfl fT (by exact aB (aB (aB (aB aM)))) hl65 (fun a66 c67=>?_))
     refine aL [(22,pO a66 l65.length c67)] (by kernel_rfl) (aD ?_)
     obtain rfl:=osi hq52
     exact az ((a66,c67,a58,c59),(l65,l57)) (qP rfl) (bd (aB (aB (aB aM))) (bd (aB (aB (aB aM))) (bd aM (bd (aB (aB aM)) bA)))) rfl
    refine ah ?_
    refine aD ?_
    obtain rfl:=osi hq52
    exact az ((a24,c25,a58,c59),(l23,l57)) (qP rfl) (bd (aB aM) (bd (aB aM) (bd (aB aM) (bd (aB aM) bA)))) rfl
   rintro ⟨⟨a45,c46,a49,c50⟩,⟨l47,l51⟩⟩ τ hz;(try dsimp only at hz);subst q52;(try dsimp only at hb39);dsimp only [aw]
   refine ai [107] [(85,pI (IntKind.i64.wrap (v26+1)))] (by kernel_rfl) ?_
   exact aU hb39 (a45,c46,a49,c50) (qP rfl) Dn
  refine aH ?_
  refine cj hb39 (fun ht=>aj rfl ?_)
  exact az ((a24,c25,a29,c30),(l23,l28)) (nu rfl) Dn ht.symm
 rintro ⟨⟨a32,c33,a36,c37⟩,⟨l34,l38⟩⟩ τ hz;(try dsimp only at hz);subst q40;(try dsimp only at h);dsimp only [aw]
 refine ae (aa h fun x69 hx69 h=>af (aG 1 [(108,pO a32 l34.length c33)] (by kernel_rfl) ?_))
 refine an rfl (be rfl rfl (ρ1:=[_]) (aR (by exact aB (aB aM)) (List.Perm.refl _)) (cV hx69) ?_);rintro _ _ ⟨rfl,rfl⟩
 refine aF (bW ?_)
 refine xq (css:=List.map Zk.enc l38) (a:=a36) (by exact aB (aB (aB aM))) ?_
 refine wn (k:=4) (enc:=Zk.enc) (xs:=l38) (b:=b21) (a:=a36) rfl fT (dA (dA (dA cg))) (bi (ρd:=[PRes.row a32 _ _ _ _ _,PRes.b b2 _ _]) [(0,0),(1,0),(2,1),(3,1),(4,0)] _ (aR (aB aM) (aR (aB aM) (List.Perm.refl _))) (by kernel_rfl) rfl (aa h fun x70 hx70 h=>EF 2 [1] [(110,.agg [pS x5.1.Code,pI x5.1.Price,pB x5.1.Obtained,pL eS x20.2,pL Zk.enc l38]),(111,pO a32 l34.length c33)] (by kernel_rfl) ?_))
 refine im rfl rfl rfl (be rfl rfl (ρ1:=[_]) (aR (by exact aM) (List.Perm.refl _)) (df hx70) ?_);rintro _ _ ⟨a71,c72,rfl,rfl⟩
 refine xy rfl rfl (al (vs:=[pS x5.1.Code,pI x5.1.Price,pB x5.1.Obtained,pL eS x20.2,pL Zk.enc l38]) rfl rfl rfl rfl rfl (dA cg) Fx (iq 1 [(11,pO a71 x70.length c72)] (by kernel_rfl) (bx (aY ?_))))
 refine fa (enc:=Za.enc) (xs:=x70) 11 rfl (by exact aM) ?_
 refine bS ?_
 obtain rfl:=osi h
 exact aN (cF (du rfl xA rfl) (aQ rfl)) bA ⟨rfl,rfl⟩
def iA (p0:ByteArray):Option Bool:=(dH p0).bind fun x1=>some (decide (6≤x1))
theorem mW {p0:ByteArray} {r:Bool}  (h:iA p0=some r):PF 62 [pS p0] (pB r):=by
 unfold iA at h
 refine bc ?_
 refine di Tryz.func62 rfl Tryz.ntmps62 Tryz.results62 rfl (aS [2] (by kernel_rfl) (dc h fun x1 hx1 h=>ap [] [3,4,5] [(2,pB (decide (6≤x1)))] (bh 1 (fK hx1) bk) (by kernel_rfl) (cW ?_)))
 exact zz r h rfl
def gj (p0:Zm):Option Int:=(iA p0.Code).bind fun x2=>cond (!x2) (some (1:Int)) (cond ((decide (p0.Price<1))||(decide (1000000000000<p0.Price))) (some (2:Int)) ((dM p0.Processes).bind fun x5=>cond (!x5) (some (1:Int)) (cond (decide (100<(p0.Inputs.length:Int))) (some (8:Int)) ((aW (S:=Int) (T:=(Unit)⊕(_)) (fun v8=>cond (decide (v8<(p0.Inputs.length:Int))) ((idx p0.Inputs v8).bind fun m12=>(iA m12.Code).bind fun x14=>cond (!x14) (some (.inr (.inr (1:Int)))) (cond ((decide (m12.Value<0))||(decide (1000000000000<m12.Value))) (some (.inr (.inr (2:Int)))) (some (.inl (IntKind.i64.wrap (v8+1)))))) (some (.inr (.inl ())))) FUEL 0).bind fun q=>match q with | .inl _=>some (0:Int) | .inr e=>some e))))
theorem pH {p0:Zm} {r:Int}  (h:gj p0=some r):PF 21 [.agg (bz p0)] (pI r):=by
 unfold gj at h
 refine bc ?_
 refine di Tryz.func21 rfl Tryz.ntmps21 Tryz.results21 rfl (cX rfl (bf (cs:=(bz p0)) rfl rfl (fun b1=>aZ [2] (by kernel_rfl) (dG (aa h fun x2 hx2 h=>ap [0] [6,7,8,9] [(5,pB (!x2))] (bh 2 (mW hx2) bk) (by kernel_rfl) (cN rfl h (fun hc3 h=>?_) fun hc3 h=>?_))))))
 ·refine ae ?_
  refine cU [(2,pI 1)] (by kernel_rfl) (dO ?_)
  exact zz r h rfl
 refine ae ?_
 refine aJ [0,0] (rg 11 8) [(10,pB ((decide (p0.Price<1))||(decide (1000000000000<p0.Price))))] (by kernel_rfl) (cN rfl h (fun hc4 h=>?_) fun hc4 h=>?_)
 ·refine ae ?_
  refine cU [(2,pI 2)] (by kernel_rfl) (dO ?_)
  exact zz r h rfl
 refine ae ?_
 refine aa h fun x5 hx5 h=>ap [0] [20,21,22,23] [(19,pB (!x5))] (bh 2 (iV hx5) bk) (by kernel_rfl) (cN rfl h (fun hc6 h=>?_) fun hc6 h=>?_)
 ·refine ae ?_
  refine cU [(2,pI 1)] (by kernel_rfl) (dO ?_)
  exact zz r h rfl
 refine ae ?_
 refine aJ [0] [25,26,27,28] [(24,pB (decide (100<(p0.Inputs.length:Int))))] (by kernel_rfl) (cN rfl h (fun hc7 h=>?_) fun hc7 h=>?_)
 ·refine ae ?_
  refine cU [(2,pI 8)] (by kernel_rfl) (dO ?_)
  exact zz r h rfl
 refine ah ?_
 refine aD (co (aJ [0] [29] [(30,pL Zk.enc p0.Inputs),(31,pI (p0.Inputs.length:Int)),(32,pI 0)] (by kernel_rfl) (fG h fun q10 hq10 h=>?_)))
 refine aq (Y:=Unit×Unit) (fun (_,_)=>[]) (fun (_,_)=>[]) (fun (_,_)=>q10=Sum.inl ()) ?_ ?_
 ·refine av ?_
  refine aC (Y:=Unit) (S:=Int) _ hq10 (fun _ v8=>[(30,pL Zk.enc p0.Inputs),(31,pI (p0.Inputs.length:Int)),(32,pI v8)]) (fun _ v8=>[]) () (nu rfl) bA ?_
  rintro _ v8 o τ hb9;(try dsimp only at hb9);dsimp only [aw]
  refine ae (ak [(33,pB (decide (v8<(p0.Inputs.length:Int))))] (by kernel_rfl) (bW (ki rfl hb9 (fun hc11 hb9=>?_) fun hc11 hb9=>?_)))
  ·refine ah ?_
   refine dG (aa hb9 fun m12 hm12 hb9=>af (aX 2 [] [34] [(35,.agg [pS m12.Code,pI m12.Value,pB m12.Originating])] (cG 0 Zk.enc hm12 bk) (by kernel_rfl) (an rfl (aK (cs:=[pS ByteArray.empty,pI 0,pB false]) rfl rfl rfl rfl (fun b13=>aP rfl rfl (al (vs:=[pS m12.Code,pI m12.Value,pB m12.Originating]) rfl rfl rfl rfl rfl cg zl3 (aF (co (aa hb9 fun x14 hx14 hb9=>ap [0] [36,37,38] [(39,pB (!x14))] (bh 2 (mW hx14) bk) (by kernel_rfl) (cN rfl hb9 (fun hc15 hb9=>?_) fun hc15 hb9=>?_))))))))))
   ·refine ae ?_
    refine cU [(2,pI 1)] (by kernel_rfl) (am (dO ?_))
    refine au hb9 (fun ht=>?_);subst ht
    refine cO ?_
    exact zz r h rfl
   refine ah ?_
   refine bW (aJ [0,0] (rg 40 7) [(47,pB ((decide (m12.Value<0))||(decide (1000000000000<m12.Value))))] (by kernel_rfl) (cN rfl hb9 (fun hc16 hb9=>?_) fun hc16 hb9=>?_))
   ·refine ae ?_
    refine cU [(2,pI 2)] (by kernel_rfl) (dO ?_)
    refine au hb9 (fun ht=>?_);subst ht
    refine cO ?_
    exact zz r h rfl
   refine ah ?_
   refine dI (ai [48] [(32,pI (IntKind.i64.wrap (v8+1)))] (by kernel_rfl) ?_)
   exact aU hb9 () (nu rfl) bA
  refine aH ?_
  refine cj hb9 (fun ht=>aj rfl ?_)
  exact az ((),()) oF bA ht.symm
 rintro ⟨_,_⟩ τ hz;(try dsimp only at hz);subst q10;(try dsimp only at h);dsimp only [aw]
 refine ae (cU [(2,pI 0)] (by kernel_rfl) ?_)
 exact zz r h rfl
def dz (p0:(List Zi)):Option Int:=(aW (S:=Int) (T:=(Unit)⊕(_)) (fun v1=>cond (decide (v1<(p0.length:Int))) ((idx p0 v1).bind fun m5=>(dH m5.Prefix).bind fun x7=>cond (x7 == 0) (some (.inr (.inr (1:Int)))) ((gd (decide (0<v1)) (idx p0 (IntKind.i64.wrap (v1 - 1)))).bind fun m9=>cond ((decide (0<v1))&&(Op.bytesLess m5.Prefix.toList m9.Prefix.toList||decide (m5.Prefix=m9.Prefix))) (some (.inr (.inr (9:Int)))) ((fi m5.Rule).bind fun x11=>cond (x11 != 0) (some (.inr (.inr x11))) (some (.inl (IntKind.i64.wrap (v1+1))))))) (some (.inr (.inl ())))) FUEL 0).bind fun q=>match q with | .inl _=>some (0:Int) | .inr e=>some e
theorem mj {p0:(List Zi)} {r:Int}  (h:dz p0=some r):PF 112 [pL Zi.enc p0] (pI r):=by
 unfold dz at h
 refine bc ?_
 refine di Tryz.func112 rfl Tryz.ntmps112 Tryz.results112 rfl (aS [2] (by kernel_rfl) (co (ak [(6,pL Zi.enc p0),(7,pI (p0.length:Int)),(8,pI 0)] (by kernel_rfl) (fG h fun q3 hq3 h=>?_))))
 refine aq (Y:=Unit×Unit) (fun (_,_)=>[]) (fun (_,_)=>[]) (fun (_,_)=>q3=Sum.inl ()) ?_ ?_
 ·refine av ?_
  refine aC (Y:=Unit) (S:=Int) _ hq3 (fun _ v1=>[(0,pL Zi.enc p0),(6,pL Zi.enc p0),(7,pI (p0.length:Int)),(8,pI v1)]) (fun _ v1=>[]) () (iQ rfl) bA ?_
  rintro _ v1 o τ hb2;(try dsimp only at hb2);dsimp only [aw]
  refine ae (ak [(9,pB (decide (v1<(p0.length:Int))))] (by kernel_rfl) (bW (ki rfl hb2 (fun hc4 hb2=>?_) fun hc4 hb2=>?_)))
  ·refine ah ?_
   refine dG (aa hb2 fun m5 hm5 hb2=>af (aX 3 [] [11] [(10,pI v1),(12,.agg (dS m5))] (cG 1 Zi.enc hm5 bk) (by kernel_rfl) (an rfl (aK (cs:=[pS ByteArray.empty,pI 0,pI 0,pN,pI 0,pI 0,pS ByteArray.empty,pN]) rfl rfl rfl rfl (fun b6=>aG 1 [(3,pI v1)] (by kernel_rfl) (aP rfl rfl (al (vs:=(dS m5)) rfl rfl rfl rfl rfl cg zl8 (aF (co (aa hb2 fun x7 hx7 hb2=>ap [0] [13,14,15] [(16,pB (x7 == 0))] (bh 2 (fK hx7) bk) (by kernel_rfl) (cN rfl hb2 (fun hc8 hb2=>?_) fun hc8 hb2=>?_)))))))))))
   ·refine ae ?_
    refine cU [(2,pI 1)] (by kernel_rfl) (am (dO ?_))
    refine au hb2 (fun ht=>?_);subst ht
    refine cO ?_
    exact zz r h rfl
   refine ah ?_
   refine co (bi (ρd:=[]) [(0,0),(1,0),(2,0),(3,0),(4,0),(5,0),(6,0),(7,0),(8,0),(9,0),(10,0),(11,0),(12,0)] _ (List.Perm.refl _) (by kernel_rfl) rfl (aa hb2 fun m9 hm9 hb2=>bt 13 [0] (rg 17 12) [(29,pB ((decide (0<v1))&&(Op.bytesLess m5.Prefix.toList m9.Prefix.toList||decide (m5.Prefix=m9.Prefix))))] (eQ 8 Zi.enc (cA hm9) bk) (by kernel_rfl) (bx (cN rfl hb2 (fun hc10 hb2=>?_) fun hc10 hb2=>?_))))
   ·refine ae ?_
    refine cU [(2,pI 9)] (by kernel_rfl) (am (dO ?_))
    refine au hb2 (fun ht=>?_);subst ht
    refine cO ?_
    exact zz r h rfl
   refine ah ?_
   refine dc hb2 fun x11 hx11 hb2=>ap [0] [30,31,32] [(5,pI x11)] (bh 2 (iO hx11) bk) (by kernel_rfl) (bW (bL [33] [(34,pB (x11 != 0))] (by kernel_rfl) rfl hb2 (fun hc12 hb2=>?_) fun hc12 hb2=>?_))
   ·refine ae ?_
    refine ai [35] [(2,pI x11)] (by kernel_rfl) (cW (dO ?_))
    refine au hb2 (fun ht=>?_);subst ht
    refine cO ?_
    exact zz r h rfl
   refine ah ?_
   refine dI (ai [36] [(8,pI (IntKind.i64.wrap (v1+1)))] (by kernel_rfl) ?_)
   exact aU hb2 () (iQ rfl) bA
  refine aH ?_
  refine cj hb2 (fun ht=>aj rfl ?_)
  exact az ((),()) oF bA ht.symm
 rintro ⟨_,_⟩ τ hz;(try dsimp only at hz);subst q3;(try dsimp only at h);dsimp only [aw]
 refine ae (cU [(2,pI 0)] (by kernel_rfl) ?_)
 exact zz r h rfl
def dn (p0:(List Zb)):Option Int:=cond (decide (8<(p0.length:Int))) (some (8:Int)) ((aW (S:=Int) (T:=(Unit)⊕(_)) (fun v2=>cond (decide (v2<(p0.length:Int))) ((idx p0 v2).bind fun m6=>cond ((((decide (m6.ID<1))||(decide (1000<m6.ID)))||(decide (m6.Kind<1)))||(decide (3<m6.Kind))) (some (.inr (.inr (2:Int)))) ((gd (decide (0<v2)) (idx p0 (IntKind.i64.wrap (v2 - 1)))).bind fun m9=>cond ((decide (0<v2))&&(decide (m6.ID≤m9.ID))) (some (.inr (.inr (9:Int)))) (cond ((decide (12<(m6.Parties.length:Int)))||(decide (12<(m6.Rules.length:Int)))) (some (.inr (.inr (8:Int)))) ((dK m6.Parties).bind fun x12=>cond (!x12) (some (.inr (.inr (1:Int)))) ((dz m6.Rules).bind fun x14=>cond (x14 != 0) (some (.inr (.inr x14))) (some (.inl (IntKind.i64.wrap (v2+1))))))))) (some (.inr (.inl ())))) FUEL 0).bind fun q=>match q with | .inl _=>some (0:Int) | .inr e=>some e)
theorem ol {p0:(List Zb)} {r:Int}  (h:dn p0=some r):PF 64 [pL Zb.enc p0] (pI r):=by
 unfold dn at h
 refine bc ?_
 refine di Tryz.func64 rfl Tryz.ntmps64 Tryz.results64 rfl (aS [2] (by kernel_rfl) (co (bL [6,7] [(8,pB (decide (8<(p0.length:Int))))] (by kernel_rfl) rfl h (fun hc1 h=>?_) fun hc1 h=>?_)))
 ·refine ae ?_
  refine cU [(2,pI 8)] (by kernel_rfl) (am ?_)
  exact zz r h rfl
 refine ah ?_
 refine co (ak [(9,pL Zb.enc p0),(10,pI (p0.length:Int)),(11,pI 0)] (by kernel_rfl) (fG h fun q4 hq4 h=>?_))
 refine aq (Y:=Unit×Unit) (fun (_,_)=>[]) (fun (_,_)=>[]) (fun (_,_)=>q4=Sum.inl ()) ?_ ?_
 ·refine av ?_
  refine aC (Y:=Unit) (S:=Int) _ hq4 (fun _ v2=>[(0,pL Zb.enc p0),(9,pL Zb.enc p0),(10,pI (p0.length:Int)),(11,pI v2)]) (fun _ v2=>[]) () (iQ rfl) bA ?_
  rintro _ v2 o τ hb3;(try dsimp only at hb3);dsimp only [aw]
  refine ae (ak [(12,pB (decide (v2<(p0.length:Int))))] (by kernel_rfl) (bW (ki rfl hb3 (fun hc5 hb3=>?_) fun hc5 hb3=>?_)))
  ·refine ah ?_
   refine dG (aa hb3 fun m6 hm6 hb3=>af (aX 3 [] [14] [(13,pI v2),(15,.agg (aA m6))] (cG 1 Zb.enc hm6 bk) (by kernel_rfl) (an rfl (aK (cs:=[pI 0,pI 0,pN,pN]) rfl rfl rfl rfl (fun b7=>aG 1 [(3,pI v2)] (by kernel_rfl) (aP rfl rfl (al (vs:=(aA m6)) rfl rfl rfl rfl rfl cg xB (aF (co (aJ [0,0,0,0] (rg 16 17) [(33,pB ((((decide (m6.ID<1))||(decide (1000<m6.ID)))||(decide (m6.Kind<1)))||(decide (3<m6.Kind))))] (by kernel_rfl) (cN rfl hb3 (fun hc8 hb3=>?_) fun hc8 hb3=>?_)))))))))))
   ·refine ae ?_
    refine cU [(2,pI 2)] (by kernel_rfl) (am (dO ?_))
    refine au hb3 (fun ht=>?_);subst ht
    refine cO ?_
    exact zz r h rfl
   refine ah ?_
   refine co (bi (ρd:=[]) [(0,0),(1,0),(2,0),(3,0),(4,0),(5,0),(6,0),(7,0),(8,0),(9,0),(10,0),(11,0),(12,0)] _ (List.Perm.refl _) (by kernel_rfl) rfl (aa hb3 fun m9 hm9 hb3=>bt 13 [0] (rg 34 12) [(46,pB ((decide (0<v2))&&(decide (m6.ID≤m9.ID))))] (eQ 8 Zb.enc (cA hm9) bk) (by kernel_rfl) (bx (cN rfl hb3 (fun hc10 hb3=>?_) fun hc10 hb3=>?_))))
   ·refine ae ?_
    refine cU [(2,pI 9)] (by kernel_rfl) (am (dO ?_))
    refine au hb3 (fun ht=>?_);subst ht
    refine cO ?_
    exact zz r h rfl
   refine ah ?_
   refine co (aJ [0,0] (rg 47 9) [(56,pB ((decide (12<(m6.Parties.length:Int)))||(decide (12<(m6.Rules.length:Int)))))] (by kernel_rfl) (cN rfl hb3 (fun hc11 hb3=>?_) fun hc11 hb3=>?_))
   ·refine ae ?_
    refine cU [(2,pI 8)] (by kernel_rfl) (am (dO ?_))
    refine au hb3 (fun ht=>?_);subst ht
    refine cO ?_
    exact zz r h rfl
   refine ah ?_
   refine co (aa hb3 fun x12 hx12 hb3=>ap [0] [57,58,59] [(60,pB (!x12))] (bh 2 (mJ hx12) bk) (by kernel_rfl) (cN rfl hb3 (fun hc13 hb3=>?_) fun hc13 hb3=>?_))
   ·refine ae ?_
    refine cU [(2,pI 1)] (by kernel_rfl) (am (dO ?_))
    refine au hb3 (fun ht=>?_);subst ht
    refine cO ?_
    exact zz r h rfl
   refine ah ?_
   refine dc hb3 fun x14 hx14 hb3=>ap [0] [61,62,63] [(5,pI x14)] (bh 2 (mj hx14) bk) (by kernel_rfl) (bW (bL [64] [(65,pB (x14 != 0))] (by kernel_rfl) rfl hb3 (fun hc15 hb3=>?_) fun hc15 hb3=>?_))
   ·refine ae ?_
    refine ai [66] [(2,pI x14)] (by kernel_rfl) (cW (dO ?_))
    refine au hb3 (fun ht=>?_);subst ht
    refine cO ?_
    exact zz r h rfl
   refine ah ?_
   refine dI (ai [67] [(11,pI (IntKind.i64.wrap (v2+1)))] (by kernel_rfl) ?_)
   exact aU hb3 () (iQ rfl) bA
  refine aH ?_
  refine cj hb3 (fun ht=>aj rfl ?_)
  exact az ((),()) oF bA ht.symm
 rintro ⟨_,_⟩ τ hz;(try dsimp only at hz);subst q4;(try dsimp only at h);dsimp only [aw]
 refine ae (cU [(2,pI 0)] (by kernel_rfl) ?_)
 exact zz r h rfl
def cZ (p0:Zc):Option Int:=(dH p0.Code).bind fun x2=>(gd (!((x2 != 6)&&(x2 != 8))) (bU p0.Country)).bind fun x3=>(gd (!(((x2 != 6)&&(x2 != 8))||(!x3))) (dM p0.Processes)).bind fun x4=>cond ((((x2 != 6)&&(x2 != 8))||(!x3))||(!x4)) (some (1:Int)) (cond ((decide (p0.Price<1))||(decide (1000000000000<p0.Price))) (some (2:Int)) (cond (decide (8<(p0.Inputs.length:Int))) (some (8:Int)) (cond (p0.Obtained&&(decide (0<(p0.Inputs.length:Int)))) (some (1:Int)) (some (0:Int)))))
theorem lq {p0:Zc} {r:Int}  (h:cZ p0=some r):PF 118 [.agg (aI p0)] (pI r):=by
 unfold cZ at h
 refine bc ?_
 refine di Tryz.func118 rfl Tryz.ntmps118 Tryz.results118 rfl (cX rfl (bf (cs:=(aI p0)) rfl rfl (fun b1=>aZ [2] (by kernel_rfl) (dc h fun x2 hx2 h=>ap [0] [4,5,6] [(3,pI x2)] (bh 2 (fK hx2) bk) (by kernel_rfl) (co (aa h fun x3 hx3 h=>aa h fun x4 hx4 h=>ap [0,0] (rg 7 17) [(24,pB ((((x2 != 6)&&(x2 != 8))||(!x3))||(!x4)))] (ee 9 (fun hc=>fB (cA hx3 hc)) (ee 15 (fun hc=>iV (cA hx4 hc)) bk)) (by kernel_rfl) (cN rfl h (fun hc5 h=>?_) fun hc5 h=>?_)))))))
 ·refine ae ?_
  refine cU [(2,pI 1)] (by kernel_rfl) (am ?_)
  exact zz r h rfl
 refine ah ?_
 refine co (aJ [0,0] (rg 25 7) [(32,pB ((decide (p0.Price<1))||(decide (1000000000000<p0.Price))))] (by kernel_rfl) (cN rfl h (fun hc6 h=>?_) fun hc6 h=>?_))
 ·refine ae ?_
  refine cU [(2,pI 2)] (by kernel_rfl) (am ?_)
  exact zz r h rfl
 refine ah ?_
 refine co (aJ [0] [33,34,35] [(36,pB (decide (8<(p0.Inputs.length:Int))))] (by kernel_rfl) (cN rfl h (fun hc7 h=>?_) fun hc7 h=>?_))
 ·refine ae ?_
  refine cU [(2,pI 8)] (by kernel_rfl) (am ?_)
  exact zz r h rfl
 refine ah ?_
 refine co (aJ [0,0] (rg 37 7) [(44,pB (p0.Obtained&&(decide (0<(p0.Inputs.length:Int)))))] (by kernel_rfl) (cN rfl h (fun hc8 h=>?_) fun hc8 h=>?_))
 ·refine ae ?_
  refine cU [(2,pI 1)] (by kernel_rfl) (am ?_)
  exact zz r h rfl
 refine ah ?_
 refine bW (cU [(2,pI 0)] (by kernel_rfl) ?_)
 exact zz r h rfl
def dp (p0:(List Zc)):Option Int:=cond (decide (64<(p0.length:Int))) (some (8:Int)) ((aW (S:=Int) (T:=(Unit)⊕(_)) (fun v2=>cond (decide (v2<(p0.length:Int))) ((idx p0 v2).bind fun m6=>cond ((decide (m6.ID<1))||(decide (1000000<m6.ID))) (some (.inr (.inr (2:Int)))) ((gd (decide (0<v2)) (idx p0 (IntKind.i64.wrap (v2 - 1)))).bind fun m9=>cond ((decide (0<v2))&&(decide (m6.ID≤m9.ID))) (some (.inr (.inr (9:Int)))) ((cZ m6).bind fun x11=>cond (x11 != 0) (some (.inr (.inr x11))) ((dj p0 m6.Inputs).bind fun x13=>cond (x13 != 0) (some (.inr (.inr x13))) (some (.inl (IntKind.i64.wrap (v2+1)))))))) (some (.inr (.inl ())))) FUEL 0).bind fun q=>match q with | .inl _=>some (0:Int) | .inr e=>some e)
theorem om {p0:(List Zc)} {r:Int}  (h:dp p0=some r):PF 71 [pL Zc.enc p0] (pI r):=by
 unfold dp at h
 refine bc ?_
 refine di Tryz.func71 rfl Tryz.ntmps71 Tryz.results71 rfl (aS [2] (by kernel_rfl) (co (bL [7,8] [(9,pB (decide (64<(p0.length:Int))))] (by kernel_rfl) rfl h (fun hc1 h=>?_) fun hc1 h=>?_)))
 ·refine ae ?_
  refine cU [(2,pI 8)] (by kernel_rfl) (am ?_)
  exact zz r h rfl
 refine ah ?_
 refine co (ak [(10,pL Zc.enc p0),(11,pI (p0.length:Int)),(12,pI 0)] (by kernel_rfl) (fG h fun q4 hq4 h=>?_))
 refine aq (Y:=Unit×Unit) (fun (_,_)=>[]) (fun (_,_)=>[]) (fun (_,_)=>q4=Sum.inl ()) ?_ ?_
 ·refine av ?_
  refine aC (Y:=Unit) (S:=Int) _ hq4 (fun _ v2=>[(0,pL Zc.enc p0),(10,pL Zc.enc p0),(11,pI (p0.length:Int)),(12,pI v2)]) (fun _ v2=>[]) () (iQ rfl) bA ?_
  rintro _ v2 o τ hb3;(try dsimp only at hb3);dsimp only [aw]
  refine ae (ak [(13,pB (decide (v2<(p0.length:Int))))] (by kernel_rfl) (bW (ki rfl hb3 (fun hc5 hb3=>?_) fun hc5 hb3=>?_)))
  ·refine ah ?_
   refine dG (aa hb3 fun m6 hm6 hb3=>af (aX 3 [] [15] [(14,pI v2),(16,.agg (aI m6))] (cG 1 Zc.enc hm6 bk) (by kernel_rfl) (an rfl (aK (cs:=[pI 0,pS ByteArray.empty,pS ByteArray.empty,pI 0,pB false,pN,pN]) rfl rfl rfl rfl (fun b7=>aG 1 [(3,pI v2)] (by kernel_rfl) (aP rfl rfl (al (vs:=(aI m6)) rfl rfl rfl rfl rfl cg nf (aF (co (aJ [0,0] (rg 17 7) [(24,pB ((decide (m6.ID<1))||(decide (1000000<m6.ID))))] (by kernel_rfl) (cN rfl hb3 (fun hc8 hb3=>?_) fun hc8 hb3=>?_)))))))))))
   ·refine ae ?_
    refine cU [(2,pI 2)] (by kernel_rfl) (am (dO ?_))
    refine au hb3 (fun ht=>?_);subst ht
    refine cO ?_
    exact zz r h rfl
   refine ah ?_
   refine co (bi (ρd:=[]) [(0,0),(1,0),(2,0),(3,0),(4,0),(5,0),(6,0),(7,0),(8,0),(9,0),(10,0),(11,0),(12,0)] _ (List.Perm.refl _) (by kernel_rfl) rfl (aa hb3 fun m9 hm9 hb3=>bt 13 [0] (rg 25 12) [(37,pB ((decide (0<v2))&&(decide (m6.ID≤m9.ID))))] (eQ 8 Zc.enc (cA hm9) bk) (by kernel_rfl) (bx (cN rfl hb3 (fun hc10 hb3=>?_) fun hc10 hb3=>?_))))
   ·refine ae ?_
    refine cU [(2,pI 9)] (by kernel_rfl) (am (dO ?_))
    refine au hb3 (fun ht=>?_);subst ht
    refine cO ?_
    exact zz r h rfl
   refine ah ?_
   refine co (aa hb3 fun x11 hx11 hb3=>ap [0] [38,39] [(5,pI x11)] (bh 1 (lq hx11) bk) (by kernel_rfl) (bW (bL [40] [(41,pB (x11 != 0))] (by kernel_rfl) rfl hb3 (fun hc12 hb3=>?_) fun hc12 hb3=>?_)))
   ·refine ae ?_
    refine ai [42] [(2,pI x11)] (by kernel_rfl) (cW (am (dO ?_)))
    refine au hb3 (fun ht=>?_);subst ht
    refine cO ?_
    exact zz r h rfl
   refine ah ?_
   refine dc hb3 fun x13 hx13 hb3=>ap [0] [43,44,45,46] [(6,pI x13)] (bh 3 (lB hx13) bk) (by kernel_rfl) (bW (bL [47] [(48,pB (x13 != 0))] (by kernel_rfl) rfl hb3 (fun hc14 hb3=>?_) fun hc14 hb3=>?_))
   ·refine ae ?_
    refine ai [49] [(2,pI x13)] (by kernel_rfl) (cW (dO ?_))
    refine au hb3 (fun ht=>?_);subst ht
    refine cO ?_
    exact zz r h rfl
   refine ah ?_
   refine dI (ai [50] [(12,pI (IntKind.i64.wrap (v2+1)))] (by kernel_rfl) ?_)
   exact aU hb3 () (iQ rfl) bA
  refine aH ?_
  refine cj hb3 (fun ht=>aj rfl ?_)
  exact az ((),()) oF bA ht.symm
 rintro ⟨_,_⟩ τ hz;(try dsimp only at hz);subst q4;(try dsimp only at h);dsimp only [aw]
 refine ae (cU [(2,pI 0)] (by kernel_rfl) ?_)
 exact zz r h rfl
def hX (p0:Zd) (p1:Zm):Option Bool:=(fi p0).bind fun x3=>(gd (x3 == 0) (gj p1)).bind fun x4=>some ((x3 == 0)&&(x4 == 0))
theorem ri {p0:Zd} {p1:Zm} {r:Bool}  (h:hX p0 p1=some r):PF 126 [.agg (ar p0),.agg (bz p1)] (pB r):=by
 unfold hX at h
 refine bc ?_
 refine di Tryz.func126 rfl Tryz.ntmps126 Tryz.results126 rfl (cX rfl (bf (cs:=(ar p0)) rfl rfl (fun b1=>an rfl (bf (cs:=(bz p1)) rfl rfl (fun b2=>aZ [4] (by kernel_rfl) (dc h fun x3 hx3 h=>aa h fun x4 hx4 h=>ap [1,0] (rg 5 8) [(4,pB ((x3 == 0)&&(x4 == 0)))] (bh 1 (iO hx3) (ee 5 (fun hc=>pH (cA hx4 hc)) bk)) (by kernel_rfl) (cW ?_)))))))
 exact zz r h rfl
def pJ (p0:Zd) (p1:Zm) (p2:(List Int)):Option Bool:=(hX p0 p1).bind fun x3=>cond (!x3) (some false) ((pu p0).bind fun x5=>(Irule_test_follow x5 p1 p2).bind fun x6=>some (x6.2&&((x6.1.length:Int) == 0)))
theorem u9 {p0:Zd} {p1:Zm} {p2:(List Int)} {r:Bool}  (h:pJ p0 p1 p2=some r):PF 123 [.agg (ar p0),.agg (bz p1),pL eI p2] (pB r):=by
 unfold pJ at h
 refine bc ?_
 refine di Tryz.func123 rfl Tryz.ntmps123 Tryz.results123 rfl (cX rfl (bf (cs:=(ar p0)) rfl rfl (fun b1=>an rfl (bf (cs:=(bz p1)) rfl rfl (fun b2=>aZ [6] (by kernel_rfl) (co (aa h fun x3 hx3 h=>ap [1,0] [9,10,11] [(12,pB (!x3))] (bh 2 (ri hx3) bk) (by kernel_rfl) (cN rfl h (fun hc4 h=>?_) fun hc4 h=>?_))))))))
 ·refine ae ?_
  refine cU [(6,pB false)] (by kernel_rfl) (am ?_)
  exact zz r h rfl
 refine ah ?_
 refine bW (bi (ρd:=[]) [(0,0),(2,0),(3,0),(1,1),(4,1),(5,0),(6,0),(7,0),(8,0),(9,0)] _ (List.Perm.refl _) (by kernel_rfl) rfl (aa h fun x5 hx5 h=>aa h fun x6 hx6 h=>bt 10 [1,0] [14,16,17,15,18,13,19,20] [(7,pL eI x6.1),(8,pB x6.2)] (bh 3 (uV hx5) (foci 4 (Irule_test_follow_ok hx6) bk)) (by kernel_rfl) (bx (bW (ai (rg 21 6) [(6,pB (x6.2&&((x6.1.length:Int) == 0)))] (by kernel_rfl) (cW ?_))))))
 exact zz r h rfl
def fD (p0:Zv) (p1:Za):Option Zd:=(cK p0.plan p1.Product).bind fun x4=>(aW (S:=Int) (T:=(Unit)⊕(_)) (fun v6=>cond (decide (v6<(p0.list.length:Int))) ((idx p0.list v6).bind fun m10=>cond (m10.ID == p1.Agreement) ((dr m10 x4.1.Code).bind fun x13=>some (.inr (.inr x13.1))) (some (.inl (IntKind.i64.wrap (v6+1))))) (some (.inr (.inl ())))) FUEL 0).bind fun q=>match q with | .inl _=>some (⟨0,0,[],0,0,ByteArray.empty,[]⟩:Zd) | .inr e=>some e
theorem lr {p0:Zv} {p1:Za} {m0_known_claims:Nat} {r:Zd}  (h:fD p0 p1=some r):PCall 124 [.agg [.v (.map (some m0_known_claims)),pL Zc.enc p0.plan,pL Zb.enc p0.list,pS p0.importer],.agg [pI p1.Product,pI p1.Agreement]] [PRes.mp (some m0_known_claims) (fP Za.key vT p0.known.claims)] (fun pv ρ'=>pv=.agg (ar r)∧ρ'=[PRes.mp (some m0_known_claims) (fP Za.key vT p0.known.claims)]):=by
 unfold fD at h
 refine di Tryz.func124 rfl Tryz.ntmps124 Tryz.results124 rfl (cX rfl (bf (cs:=[.v (.map (some m0_known_claims)),pL Zc.enc p0.plan,pL Zb.enc p0.list,pS p0.importer]) rfl rfl (fun b1=>an rfl (bf (cs:=[pI p1.Product,pI p1.Agreement]) rfl rfl (fun b2=>an rfl (aK (cs:=[pI 0,pI 0,pN,pI 0,pI 0,pS ByteArray.empty,pN]) rfl rfl rfl rfl (fun b3=>aF (dc h fun x4 hx4 h=>af (aX 8 [2,1] ((rg 12 5)++[11]) [(17,.agg (aI x4.1)),(18,pB x4.2)] (bh 4 (fy hx4) bk) (by kernel_rfl) (an rfl (aK (cs:=[pI 0,pS ByteArray.empty,pS ByteArray.empty,pI 0,pB false,pN,pN]) rfl rfl rfl rfl (fun b5=>aP rfl rfl (al (vs:=(aI x4.1)) rfl rfl rfl rfl rfl cg nf (aZ [6] (by kernel_rfl) (co (aJ [3] [19] [(20,pL Zb.enc p0.list),(21,pI (p0.list.length:Int)),(22,pI 0)] (by kernel_rfl) (fG h fun q8 hq8 h=>?_)))))))))))))))))
 refine aq (Y:=Unit×Unit) (fun (_,_)=>[(4,pP b3 0)]) (fun (_,_)=>[PRes.b b3 84 [pI 0,pI 0,pN,pI 0,pI 0,pS ByteArray.empty,pN],PRes.mp (some m0_known_claims) (fP Za.key vT p0.known.claims)]) (fun (_,_)=>q8=Sum.inl ()) ?_ ?_
 ·refine av ?_
  refine aC (Y:=Unit) (S:=Int) _ hq8 (fun _ v6=>[(3,pP b2 0),(4,pP b3 0),(5,pP b5 0),(20,pL Zb.enc p0.list),(21,pI (p0.list.length:Int)),(22,pI v6)]) (fun _ v6=>[PRes.b b2 28 [pI p1.Product,pI p1.Agreement],PRes.b b3 84 [pI 0,pI 0,pN,pI 0,pI 0,pS ByteArray.empty,pN],PRes.b b5 76 (aI x4.1),PRes.mp (some m0_known_claims) (fP Za.key vT p0.known.claims)]) () (qP rfl) (bd (aB (aB aM)) (bd (aB aM) (bd aM (bd (aB aM) bA)))) ?_
  rintro _ v6 o τ hb7;(try dsimp only at hb7);dsimp only [aw]
  refine ae (ak [(23,pB (decide (v6<(p0.list.length:Int))))] (by kernel_rfl) (bW (ki rfl hb7 (fun hc9 hb7=>?_) fun hc9 hb7=>?_)))
  ·refine ah ?_
   refine dG (aa hb7 fun m10 hm10 hb7=>af (aX 2 [] [24] [(25,.agg (aA m10))] (cG 0 Zb.enc hm10 bk) (by kernel_rfl) (an rfl (aK (cs:=[pI 0,pI 0,pN,pN]) rfl rfl rfl rfl (fun b11=>aP rfl rfl (al (vs:=(aA m10)) rfl rfl rfl rfl rfl cg xB (aF (bW (aJ [0,1] [26,27,28,29] [(30,pB (m10.ID == p1.Agreement))] (by kernel_rfl) (cN rfl hb7 (fun hc12 hb7=>?_) fun hc12 hb7=>?_))))))))))
   ·refine ae ?_
    refine aa hb7 fun x13 hx13 hb7=>af (aX 7 [0,3] [32,33,34,35,31] [(36,.agg (ar x13.1)),(37,pB x13.2)] (bh 3 (lp hx13) bk) (by kernel_rfl) (an rfl (aK (cs:=[pI 0,pI 0,pN,pI 0,pI 0,pS ByteArray.empty,pN]) rfl rfl rfl rfl (fun b14=>aP rfl rfl (al (vs:=(ar x13.1)) rfl rfl rfl rfl rfl cg nf (aZ [10] (by kernel_rfl) (bW (af (gz 1 [0] [(38,.agg (ar x13.1))] (by kernel_rfl) (aP rfl rfl (al (vs:=(ar x13.1)) rfl rfl rfl rfl rfl (dA (dA (dA cg))) nf (aF (cW (dO ?_))))))))))))))
    refine au hb7 (fun ht=>?_);subst ht
    refine cO ?_
    obtain rfl:=osi h
    exact aN (dh (du rfl zm3 rfl)) (bd (aB (aB (aB (aB (aB aM))))) bA) ⟨rfl,rfl⟩
   refine ah ?_
   refine dI (ai [39] [(22,pI (IntKind.i64.wrap (v6+1)))] (by kernel_rfl) ?_)
   exact aU hb7 () (qP rfl) (bd (aB aM) (bd (aB aM) (bd (aB aM) (bd (aB aM) bA))))
  refine aH ?_
  refine cj hb7 (fun ht=>aj rfl ?_)
  exact az ((),()) (rq rfl) (bd (aB aM) (bd (aB (aB aM)) bA)) ht.symm
 rintro ⟨_,_⟩ τ hz;(try dsimp only at hz);subst q8;(try dsimp only at h);dsimp only [aw]
 refine ae (af (aG 1 [(40,.agg [pI 0,pI 0,pN,pI 0,pI 0,pS ByteArray.empty,pN])] (by kernel_rfl) (aP rfl rfl (al (vs:=[pI 0,pI 0,pN,pI 0,pI 0,pS ByteArray.empty,pN]) rfl rfl rfl rfl rfl cg nf (aF (aY (cJ (k:=2) (b:=b3) rfl cg (cJ (k:=6) (b:=b3) rfl cg (bS ?_)))))))))
 obtain rfl:=osi h
 exact aN (dh (du rfl fT rfl)) (bd (aB aM) bA) ⟨rfl,rfl⟩
def fQ (p0:Zv) (p1:Zf):Option Bool:=(ca p0.plan p0.list p0.importer p1.Claim).bind fun x3=>(gd (!(!x3)) (fI p0.known p1.Claim)).bind fun x4=>cond ((!x3)||x4) (some false) ((aW (S:=Int) (T:=(Unit)⊕(_)) (fun v6=>cond (decide (v6<(p1.Premises.length:Int))) ((idx p1.Premises v6).bind fun m10=>(fI p0.known m10).bind fun x12=>(gd ((!(!x12))&&(decide (0<v6))) (idx p1.Premises (IntKind.i64.wrap (v6 - 1)))).bind fun m13=>(gd ((!(!x12))&&(decide (0<v6))) (dl m13 m10)).bind fun x14=>cond ((!x12)||((decide (0<v6))&&(decide (0≤x14)))) (some (.inr (.inr false))) (some (.inl (IntKind.i64.wrap (v6+1))))) (some (.inr (.inl ())))) FUEL 0).bind fun q=>match q with | .inl _=>(eY p0.plan p0.list p0.importer p1.Claim p1.Premises).bind (fun x16=>(cC x16.2 p1.Premises).bind fun x18=>cond (!x18) (some false) ((fD p0 p1.Claim).bind fun x20=>(pJ x20 x16.1 p1.Path).bind fun x21=>some x21)) | .inr e=>some e)
theorem lD {p0:Zv} {p1:Zf} {m0_known_claims:Nat} {r:Bool}  (h:fQ p0 p1=some r):PCall 73 [.agg [.v (.map (some m0_known_claims)),pL Zc.enc p0.plan,pL Zb.enc p0.list,pS p0.importer],.agg (dR p1)] [PRes.mp (some m0_known_claims) (fP Za.key vT p0.known.claims)] (fun pv ρ'=>pv=pB r∧ρ'=[PRes.mp (some m0_known_claims) (fP Za.key vT p0.known.claims)]):=by
 unfold fQ at h
 refine di Tryz.func73 rfl Tryz.ntmps73 Tryz.results73 rfl (cX rfl (bf (cs:=[.v (.map (some m0_known_claims)),pL Zc.enc p0.plan,pL Zb.enc p0.list,pS p0.importer]) rfl rfl (fun b1=>an rfl (bf (cs:=(dR p1)) rfl rfl (fun b2=>aZ [4] (by kernel_rfl) (co (aa h fun x3 hx3 h=>aa h fun x4 hx4 h=>af (aX 15 [1,1,1,0,1,0] ((rg 9 10)++[20,22]) [(19,pB (!x3)),(21,pgv (!(!x3)) (.agg [.v (.map (some m0_known_claims))])),(23,pgv (!(!x3)) (.agg [pI p1.Claim.Product,pI p1.Claim.Agreement]))] (bh 8 (jf hx3) bk) (by kernel_rfl) ?_))))))))
 refine qQ (yJ rfl rfl rfl) rfl rfl rfl (by exact aB (aB aM)) (ky (.g rfl) (ky (.g rfl) sj)) (fun hc=>jb (cA hx4 hc)) (fun _=>rfl) ?_
 refine cd rfl rfl rfl (D0 rfl (.p rfl) (.p rfl) (.g rfl)) (aF (cN rfl h (fun hc5 h=>?_) fun hc5 h=>?_))
 ·refine ae ?_
  refine cU [(4,pB false)] (by kernel_rfl) (am ?_)
  obtain rfl:=osi h
  exact aN (dh (aQ rfl)) cI ⟨rfl,rfl⟩
 refine ah ?_
 refine co (aJ [1] [26] [(27,pL Za.enc p1.Premises),(28,pI (p1.Premises.length:Int)),(29,pI 0)] (by kernel_rfl) (fG h fun q8 hq8 h=>?_))
 refine aq (Y:=Unit×Unit) (fun (_,_)=>[(2,pP b1 0),(3,pP b2 0)]) (fun (_,_)=>[PRes.b b1 132 [.v (.map (some m0_known_claims)),pL Zc.enc p0.plan,pL Zb.enc p0.list,pS p0.importer],PRes.b b2 61 (dR p1),PRes.mp (some m0_known_claims) (fP Za.key vT p0.known.claims)]) (fun (_,_)=>q8=Sum.inl ()) ?_ ?_
 ·refine av ?_
  refine aC (Y:=Unit) (S:=Int) _ hq8 (fun _ v6=>[(2,pP b1 0),(3,pP b2 0),(27,pL Za.enc p1.Premises),(28,pI (p1.Premises.length:Int)),(29,pI v6)]) (fun _ v6=>[PRes.b b1 132 [.v (.map (some m0_known_claims)),pL Zc.enc p0.plan,pL Zb.enc p0.list,pS p0.importer],PRes.b b2 61 (dR p1),PRes.mp (some m0_known_claims) (fP Za.key vT p0.known.claims)]) () (mT rfl) (bd (aB (aB aM)) (bd (aB aM) cI)) ?_
  rintro _ v6 o τ hb7;(try dsimp only at hb7);dsimp only [aw]
  refine ae (ak [(30,pB (decide (v6<(p1.Premises.length:Int))))] (by kernel_rfl) (bW (ki rfl hb7 (fun hc9 hb7=>?_) fun hc9 hb7=>?_)))
  ·refine ah ?_
   refine dG (aa hb7 fun m10 hm10 hb7=>af (aX 3 [] [32] [(31,pI v6),(33,.agg [pI m10.Product,pI m10.Agreement])] (cG 1 Za.enc hm10 bk) (by kernel_rfl) (an rfl (aK (cs:=[pI 0,pI 0]) rfl rfl rfl rfl (fun b11=>aG 1 [(5,pI v6)] (by kernel_rfl) (aP rfl rfl (al (vs:=[pI m10.Product,pI m10.Agreement]) rfl rfl rfl rfl rfl cg rZ (aF (bW (bi (ρd:=[PRes.mp (some m0_known_claims) _]) [(0,0),(1,0),(2,0),(3,1),(4,0),(5,0),(6,0),(7,0),(8,0),(9,0),(10,0),(11,0),(12,0),(13,0),(14,0),(15,0),(16,1),(17,0),(18,0),(19,0)] _ (aR (aB (aB (aB aM))) (List.Perm.refl _)) (by kernel_rfl) rfl (aa hb7 fun x12 hx12 hb7=>pa 3 [1,0] [34] [(35,.agg [.v (.map (some m0_known_claims))]),(36,.agg [pI m10.Product,pI m10.Agreement])] (by kernel_rfl) ?_)))))))))))
   refine im rfl rfl rfl (be rfl rfl (ρ1:=[_]) (aR (by exact aM) (List.Perm.refl _)) (jb hx12) ?_);rintro _ _ ⟨rfl,rfl⟩
   refine aa hb7 fun m13 hm13 hb7=>aa hb7 fun x14 hx14 hb7=>bt 16 [2,0] (rg 38 15) [(53,pB ((!x12)||((decide (0<v6))&&(decide (0≤x14)))))] (eQ 9 Za.enc (cA hm13) (ee 12 (fun hc=>hQ (cA hx14 hc)) bk)) (by kernel_rfl) (bx (cN rfl hb7 (fun hc15 hb7=>?_) fun hc15 hb7=>?_))
   ·refine ae ?_
    refine cU [(4,pB false)] (by kernel_rfl) (dO ?_)
    refine au hb7 (fun ht=>?_);subst ht
    refine cO ?_
    obtain rfl:=osi h
    exact aN (dh (aQ rfl)) cI ⟨rfl,rfl⟩
   refine ah ?_
   refine dI (ai [54] [(29,pI (IntKind.i64.wrap (v6+1)))] (by kernel_rfl) ?_)
   exact aU hb7 () (mT rfl) (bd (aB (aB aM)) (bd (aB (aB aM)) cI))
  refine aH ?_
  refine cj hb7 (fun ht=>aj rfl ?_)
  exact az ((),()) (mn rfl) BB ht.symm
 rintro ⟨_,_⟩ τ hz;(try dsimp only at hz);subst q8;(try dsimp only at h);dsimp only [aw]
 refine ae (aa h fun x16 hx16 h=>af (aX 14 [0,0,0,1,1] ((rg 56 11)++[55]) [(67,.agg (bz x16.1)),(68,pL Za.enc x16.2)] (bh 10 (pG hx16) bk) (by kernel_rfl) (an rfl (aK (cs:=[pS ByteArray.empty,pI 0,pB false,pN,pN]) rfl rfl rfl rfl (fun b17=>aP rfl rfl (al (vs:=(bz x16.1)) rfl rfl rfl rfl rfl cg Fx (aL [(8,pL Za.enc x16.2)] (by kernel_rfl) (co (aa h fun x18 hx18 h=>ap [2] [69,70,71,72] [(73,pB (!x18))] (bh 3 (gh hx18) bk) (by kernel_rfl) (cN rfl h (fun hc19 h=>?_) fun hc19 h=>?_))))))))))
 ·refine ae ?_
  refine cU [(4,pB false)] (by kernel_rfl) (am ?_)
  obtain rfl:=osi h
  exact aN (dh (aQ rfl)) (bd (aB (aB (aB aM))) bA) ⟨rfl,rfl⟩
 refine ah ?_
 refine bW (bi (ρd:=[PRes.mp (some m0_known_claims) _]) [(0,0),(1,0),(2,0),(4,0),(5,0),(6,0),(3,1),(7,1),(8,0)] _ (aR (aB (aB (aB aM))) (List.Perm.refl _)) (by kernel_rfl) rfl (aa h fun x20 hx20 h=>pa 6 [1,2,0,2] [75,79] [(74,.agg [.v (.map (some m0_known_claims)),pL Zc.enc p0.plan,pL Zb.enc p0.list,pS p0.importer]),(76,.agg [pI p1.Claim.Product,pI p1.Claim.Agreement]),(78,.agg (bz x16.1)),(80,pL eI p1.Path)] (by kernel_rfl) ?_))
 refine im rfl rfl rfl (be rfl rfl (ρ1:=[_]) (aR (by exact aM) (List.Perm.refl _)) (lr hx20) ?_);rintro _ _ ⟨rfl,rfl⟩
 refine aa h fun x21 hx21 h=>bt 2 [] [81] [(4,pB x21)] (bh 0 (u9 hx21) bk) (by kernel_rfl) (bx (cW ?_))
 obtain rfl:=osi h
 exact aN (dh (aQ rfl)) cI ⟨rfl,rfl⟩
def gm (p0:(List Zc)) (p1:(List Zb)) (p2:ByteArray) (p3:(List Zf)):Option (Int×Int):=(dp p0).bind fun x1=>cond (x1 != 0) (some ((0:Int),x1)) ((dn p1).bind fun x3=>cond (x3 != 0) (some ((0:Int),x3)) ((bU p2).bind fun x5=>cond (!x5) (some ((0:Int),(1:Int))) ((aW (S:=Int×(List (Za×Bool))) (T:=(Unit)⊕(_)) (fun (v9,l10)=>cond (decide (v9<(p3.length:Int))) ((idx p3 v9).bind fun m14=>(fQ (⟨(⟨l10⟩:Zr),p0,p1,p2⟩:Zv) m14).bind fun x16=>cond (!x16) (some (.inr (.inr (v9,(10:Int))))) ((ii (⟨l10⟩:Zr) m14.Claim).bind fun x18=>some (.inl ((IntKind.i64.wrap (v9+1)),x18)))) (some (.inr (.inl ())))) FUEL (0,([]:List (Za×Bool)))).bind fun q=>match q with | .inl _=>some ((p3.length:Int),(0:Int)) | .inr e=>some e)))
theorem iB {p0:(List Zc)} {p1:(List Zb)} {p2:ByteArray} {p3:(List Zf)} {r:(Int×Int)}  (h:gm p0 p1 p2 p3=some r):PF 25 [pL Zc.enc p0,pL Zb.enc p1,pS p2,pL Zf.enc p3] (.tup [pI r.1,pI r.2]):=by
 unfold gm at h
 refine bc ?_
 refine di Tryz.func25 rfl Tryz.ntmps25 Tryz.results25 rfl (aS [8,9] (by kernel_rfl) (co (aa h fun x1 hx1 h=>ap [] [15,16] [(10,pI x1)] (bh 1 (om hx1) bk) (by kernel_rfl) (bW (bL [17] [(18,pB (x1 != 0))] (by kernel_rfl) rfl h (fun hc2 h=>?_) fun hc2 h=>?_)))))
 ·refine ae ?_
  refine ai [19] [(8,pI 0),(9,pI x1)] (by kernel_rfl) (cW (am ?_))
  obtain rfl:=osi h
  exact aN (cF (aQ rfl) (aQ rfl)) bA ⟨rfl,rfl⟩
 refine ah ?_
 refine co (aa h fun x3 hx3 h=>ap [] [20,21] [(11,pI x3)] (bh 1 (ol hx3) bk) (by kernel_rfl) (bW (bL [22] [(23,pB (x3 != 0))] (by kernel_rfl) rfl h (fun hc4 h=>?_) fun hc4 h=>?_)))
 ·refine ae ?_
  refine ai [24] [(8,pI 0),(9,pI x3)] (by kernel_rfl) (cW (am ?_))
  obtain rfl:=osi h
  exact aN (cF (aQ rfl) (aQ rfl)) bA ⟨rfl,rfl⟩
 refine ah ?_
 refine co (aa h fun x5 hx5 h=>ap [] [25,26] [(27,pB (!x5))] (bh 1 (fB hx5) bk) (by kernel_rfl) (cN rfl h (fun hc6 h=>?_) fun hc6 h=>?_))
 ·refine ae ?_
  refine cU [(8,pI 0),(9,pI 1)] (by kernel_rfl) (am ?_)
  obtain rfl:=osi h
  exact aN (cF (aQ rfl) (aQ rfl)) bA ⟨rfl,rfl⟩
 refine ah ?_
 refine bW (cX rfl (sY Za.key vT rfl (fun b7=>cw 5 [29,30,31,32] [(33,.agg [.v (.map (some b7)),pL Zc.enc p0,pL Zb.enc p1,pS p2])] (by kernel_rfl) (an rfl (aK (cs:=[.v (.map none),pN,pN,pS ByteArray.empty]) rfl rfl rfl rfl (fun b8=>aP rfl rfl (al (vs:=[.v (.map (some b7)),pL Zc.enc p0,pL Zb.enc p1,pS p2]) rfl rfl rfl rfl rfl cg xB (aF (co (ak [(34,pL Zf.enc p3),(35,pI (p3.length:Int)),(36,pI 0)] (by kernel_rfl) (fG h fun q12 hq12 h=>?_)))))))))))
 refine aq (Y:=Unit×Unit) (fun (_,_)=>[(3,pL Zf.enc p3)]) (fun (_,_)=>[]) (fun (_,_)=>q12=Sum.inl ()) ?_ ?_
 ·refine av ?_
  refine aC (Y:=Unit) (S:=Int×(List (Za×Bool))) _ hq12 (fun _ (v9,l10)=>[(3,pL Zf.enc p3),(12,pP b8 0),(34,pL Zf.enc p3),(35,pI (p3.length:Int)),(36,pI v9)]) (fun _ (v9,l10)=>[PRes.mp (some b7) (fP Za.key vT l10),PRes.b b8 132 [.v (.map (some b7)),pL Zc.enc p0,pL Zb.enc p1,pS p2]]) () (mT rfl) (bd (aB aM) cI) ?_
  rintro _ ⟨v9,l10⟩ o τ hb11;(try dsimp only at hb11);dsimp only [aw]
  refine ae (ak [(37,pB (decide (v9<(p3.length:Int))))] (by kernel_rfl) (bW (ki rfl hb11 (fun hc13 hb11=>?_) fun hc13 hb11=>?_)))
  ·refine ah ?_
   refine dG (aa hb11 fun m14 hm14 hb11=>af (aX 3 [] [39] [(38,pI v9),(40,.agg (dR m14))] (cG 1 Zf.enc hm14 bk) (by kernel_rfl) (an rfl (aK (cs:=[pI 0,pI 0,pN,pN]) rfl rfl rfl rfl (fun b15=>aG 1 [(13,pI v9)] (by kernel_rfl) (aP rfl rfl (al (vs:=(dR m14)) rfl rfl rfl rfl rfl cg xB (aF (co (aa hb11 fun x16 hx16 hb11=>af (gz 2 [2,0] [(41,.agg [.v (.map (some b7)),pL Zc.enc p0,pL Zb.enc p1,pS p2]),(42,.agg (dR m14))] (by kernel_rfl) ?_)))))))))))
   refine an rfl (be rfl rfl (ρ1:=[_]) (aR (by exact aB aM) (List.Perm.refl _)) (lD hx16) ?_);rintro _ _ ⟨rfl,rfl⟩
   refine aL [(44,pB (!x16))] (by kernel_rfl) (cN rfl hb11 (fun hc17 hb11=>?_) fun hc17 hb11=>?_)
   ·refine ae ?_
    refine ai [45] [(8,pI v9),(9,pI 10)] (by kernel_rfl) (cW (am (dO ?_)))
    refine au hb11 (fun ht=>?_);subst ht
    refine cO ?_
    obtain rfl:=osi h
    exact aN (cF (aQ rfl) (aQ rfl)) bA ⟨rfl,rfl⟩
   refine ah ?_
   refine fG hb11 fun x18 hx18 hb11=>af (cB 4 [2,1] [46,48] [(47,.agg [.v (.map (some b7))]),(49,.agg [pI m14.Claim.Product,pI m14.Claim.Agreement])] (by kernel_rfl) ?_)
   refine an rfl (be rfl rfl (ρ1:=[_]) (aR (by exact aM) (List.Perm.refl _)) (nk hx18) ?_);rintro _ _ ⟨rfl,rfl⟩
   refine aF (dI (ai [51] [(36,pI (IntKind.i64.wrap (v9+1)))] (by kernel_rfl) ?_))
   exact aU hb11 () (mT rfl) (bd aM (bd (aB aM) bA))
  refine aH ?_
  refine cj hb11 (fun ht=>aj rfl ?_)
  exact az ((),()) (rq rfl) bA ht.symm
 rintro ⟨_,_⟩ τ hz;(try dsimp only at hz);subst q12;(try dsimp only at h);dsimp only [aw]
 refine ae (ai [52,53] [(8,pI (p3.length:Int)),(9,pI 0)] (by kernel_rfl) (cW ?_))
 obtain rfl:=osi h
 exact aN (cF (aQ rfl) (aQ rfl)) bA ⟨rfl,rfl⟩
def mX  : Option Bool:=(gm [(⟨1,(⟨#[57,52,48,49,48,49]⟩:ByteArray),(⟨#[65,65]⟩:ByteArray),10,true,[],[]⟩:Zc)] [(⟨7,1,[(⟨#[65,65]⟩:ByteArray),(⟨#[67,67]⟩:ByteArray)],[(⟨(⟨#[57,52]⟩:ByteArray),(⟨1,0,[],0,0,ByteArray.empty,[]⟩:Zd)⟩:Zi)]⟩:Zb)] (⟨#[67,67]⟩:ByteArray) []).bind fun x9=>(gm [(⟨1,(⟨#[57,52,48,49,48,49]⟩:ByteArray),(⟨#[65,65]⟩:ByteArray),10,true,[],[]⟩:Zc)] [(⟨7,1,[(⟨#[65,65]⟩:ByteArray),(⟨#[67,67]⟩:ByteArray)],[(⟨(⟨#[57,52]⟩:ByteArray),(⟨1,0,[],0,0,ByteArray.empty,[]⟩:Zd)⟩:Zi)]⟩:Zb)] (⟨#[67,67]⟩:ByteArray) [(⟨(⟨1,7⟩:Za),[],[]⟩:Zf)]).bind fun x12=>(gm [(⟨1,(⟨#[57,52,48,49,48,49]⟩:ByteArray),(⟨#[65,65]⟩:ByteArray),10,true,[],[]⟩:Zc)] [(⟨7,1,[(⟨#[65,65]⟩:ByteArray),(⟨#[67,67]⟩:ByteArray)],[(⟨(⟨#[57,52]⟩:ByteArray),(⟨1,0,[],0,0,ByteArray.empty,[]⟩:Zd)⟩:Zi)]⟩:Zb)] (⟨#[67,67]⟩:ByteArray) [(⟨(⟨1,8⟩:Za),[],[]⟩:Zf)]).bind fun x15=>some (((((x9.1 == 0)&&(x9.2 == 0))&&(x12.1 == 1))&&(x12.2 == 0))&&(x15.2 == 10))
theorem vb  {r:Bool}  (h:mX  = some r):PF 27 [] (pB r):=by
 unfold mX at h
 refine bc ?_
 refine di Tryz.func27 rfl Tryz.ntmps27 Tryz.results27 rfl (aS [0] (by kernel_rfl) (bW (cX rfl (bM rfl rfl rfl rfl rfl (gr rfl (gr rfl jJ)) rfl rfl rfl rfl (fun b1=>aG 1 [(10,.agg [pI 1,pI 0,pN,pI 0,pI 0,pS ByteArray.empty,pN])] (by kernel_rfl) (ip 10 2 rfl rfl (ip 10 6 rfl rfl (aG 1 [(11,.agg [pS (⟨#[57,52]⟩:ByteArray),pI 1,pI 0,pL eS [],pI 0,pI 0,pS ByteArray.empty,pL Zd.enc []])] (by kernel_rfl) (an rfl (bM rfl rfl rfl rfl rfl (gr rfl jJ) rfl rfl rfl rfl (fun b3=>?_)))))))))))
 refine gw (enc:=eS) (xs:=[(⟨#[65,65]⟩:ByteArray),(⟨#[67,67]⟩:ByteArray)]) 9 rfl (by exact aB aM) ?_
 refine gw (enc:=Zi.enc) (xs:=[(⟨(⟨#[57,52]⟩:ByteArray),(⟨1,0,[],0,0,ByteArray.empty,[]⟩:Zd)⟩:Zi)]) 12 rfl (by exact aB aM) ?_
 refine aG 1 [(13,.agg [pI 7,pI 1,pL eS [(⟨#[65,65]⟩:ByteArray),(⟨#[67,67]⟩:ByteArray)],pL Zi.enc [(⟨(⟨#[57,52]⟩:ByteArray),(⟨1,0,[],0,0,ByteArray.empty,[]⟩:Zd)⟩:Zi)]])] (by kernel_rfl) (an rfl (bM rfl rfl rfl rfl rfl (gr rfl jJ) rfl rfl rfl rfl (fun b5=>aL [(1,pO (some ⟨b5,0,none⟩) 1 1)] (by kernel_rfl) (bW (af (aG 1 [(15,.agg [pI 1,pS (⟨#[57,52,48,49,48,49]⟩:ByteArray),pS (⟨#[65,65]⟩:ByteArray),pI 10,pB true,pN,pN])] (by kernel_rfl) (ip 15 5 rfl rfl (ip 15 6 rfl rfl (an rfl (bM rfl rfl rfl rfl rfl (gr rfl jJ) rfl rfl rfl rfl (fun b7=>aL [(2,pO (some ⟨b7,0,none⟩) 1 1)] (by kernel_rfl) (bW (af (aG 2 [(18,pO (some ⟨b7,0,none⟩) 1 1),(19,pO (some ⟨b5,0,none⟩) 1 1)] (by kernel_rfl) ?_))))))))))))))
 refine gw (enc:=Zc.enc) (xs:=[(⟨1,(⟨#[57,52,48,49,48,49]⟩:ByteArray),(⟨#[65,65]⟩:ByteArray),10,true,[],[]⟩:Zc)]) 18 rfl (by exact aM) ?_
 refine gw (enc:=Zb.enc) (xs:=[(⟨7,1,[(⟨#[65,65]⟩:ByteArray),(⟨#[67,67]⟩:ByteArray)],[(⟨(⟨#[57,52]⟩:ByteArray),(⟨1,0,[],0,0,ByteArray.empty,[]⟩:Zd)⟩:Zi)]⟩:Zb)]) 19 rfl (by exact aB aM) ?_
 refine aa h fun x9 hx9 h=>DW rfl rfl rfl rfl rfl (pf_nil1 [_,_,_] [] (iB hx9)) (jV [17,21,22] [(3,pI x9.1),(4,pI x9.2)] (by kernel_rfl) (bW (af (cw 4 [26] [(24,pO (some ⟨b7,0,none⟩) 1 1),(25,pO (some ⟨b5,0,none⟩) 1 1),(27,.agg [pI 1,pI 7,pN,pN])] (by kernel_rfl) (ip 27 2 rfl rfl (ip 27 3 rfl rfl (an rfl (bM rfl rfl rfl rfl rfl (gr rfl jJ) rfl rfl rfl rfl (fun b10=>o5 (enc:=Zc.enc) (xs:=[(⟨1,(⟨#[57,52,48,49,48,49]⟩:ByteArray),(⟨#[65,65]⟩:ByteArray),10,true,[],[]⟩:Zc)]) 24 rfl vH (o5 (enc:=Zb.enc) (xs:=[(⟨7,1,[(⟨#[65,65]⟩:ByteArray),(⟨#[67,67]⟩:ByteArray)],[(⟨(⟨#[57,52]⟩:ByteArray),(⟨1,0,[],0,0,ByteArray.empty,[]⟩:Zd)⟩:Zi)]⟩:Zb)]) 25 rfl xA ?_))))))))))
 refine gw (enc:=Zf.enc) (xs:=[(⟨(⟨1,7⟩:Za),[],[]⟩:Zf)]) 28 rfl (by exact aM) ?_
 refine aa h fun x12 hx12 h=>iH [] [29,23,30,31] [(5,pI x12.1),(6,pI x12.2)] (bh 0 (iB hx12) bk) (by kernel_rfl) (bW (af (cw 4 [35] [(33,pO (some ⟨b7,0,none⟩) 1 1),(34,pO (some ⟨b5,0,none⟩) 1 1),(36,.agg [pI 1,pI 8,pN,pN])] (by kernel_rfl) (ip 36 2 rfl rfl (ip 36 3 rfl rfl (an rfl (bM rfl rfl rfl rfl rfl (gr rfl jJ) rfl rfl rfl rfl (fun b13=>o5 (enc:=Zc.enc) (xs:=[(⟨1,(⟨#[57,52,48,49,48,49]⟩:ByteArray),(⟨#[65,65]⟩:ByteArray),10,true,[],[]⟩:Zc)]) 33 rfl zm3 (o5 (enc:=Zb.enc) (xs:=[(⟨7,1,[(⟨#[65,65]⟩:ByteArray),(⟨#[67,67]⟩:ByteArray)],[(⟨(⟨#[57,52]⟩:ByteArray),(⟨1,0,[],0,0,ByteArray.empty,[]⟩:Zd)⟩:Zi)]⟩:Zb)]) 34 rfl vH ?_)))))))))
 refine gw (enc:=Zf.enc) (xs:=[(⟨(⟨1,8⟩:Za),[],[]⟩:Zf)]) 37 rfl (by exact aM) ?_
 refine aa h fun x15 hx15 h=>iH [] [38,32,39,40,7] [(8,pI x15.2)] (bh 0 (iB hx15) bk) (by kernel_rfl) (bW (ai (rg 41 18) [(0,pB (((((x9.1 == 0)&&(x9.2 == 0))&&(x12.1 == 1))&&(x12.2 == 0))&&(x15.2 == 10)))] (by kernel_rfl) (cW ?_)))
 exact zz r h rfl
def ls (p0:(List Zc)) (p1:(List Zb)) (p2:ByteArray) (p3:Za) (p4:(List Za)):Option (Zm×(List Za)):=(ca p0 p1 p2 p3).bind fun x3=>cond (!x3) (some ((⟨ByteArray.empty,0,false,[],[]⟩:Zm),[])) ((cK p0 p3.Product).bind fun x5=>(ef p1 p3.Agreement).bind fun x7=>(d9 p1 p3.Agreement x5.1.Country p2).bind fun x9=>(aW (S:=Int×(List (Za×Bool))) (T:=((List (Za×Bool)))) (fun (v12,l13)=>cond (decide (v12<((p4.length:Nat):Int))) ((idx p4 v12).bind fun m19=>some (.inl ((IntKind.i64.wrap (v12+1)),(o8 l13 m19 true)))) (some (.inr l13))) FUEL (0,([]:List (Za×Bool)))).bind fun l15=>(eX p0 x7.1 x5.1 (⟨x9,l15⟩:Zs)).bind fun x21=>(aW (S:=(List Za)×Int×(List Zk)) (T:=((List Za)×(List Zk))) (fun (l24,v27,l29)=>cond (decide (v27<(x21.1.length:Int))) (((idx x21.1 v27).bind fun m56=>(Icumulation_supply_input m56).bind fun x57=>(app 32 l29 [x57]).bind fun l60=>cond (Ze.is_proved_ m56) ((app 16 l24 [(((Ze.as_proved_ m56)).premise)]).bind fun l68=>some (l68,l60)) (some (l24,l60))).bind fun (l49,l54)=>some (.inl (l49,(IntKind.i64.wrap (v27+1)),l54))) (some (.inr (l24,l29)))) FUEL (([]:List Za),0,([]:List Zk))).bind fun (l35,l40)=>(bu l35).bind fun x72=>(bm x72).bind fun x73=>some ((⟨x5.1.Code,x5.1.Price,x5.1.Obtained,x21.2,l40⟩:Zm),x73))
def oo (p0:Zd) (p1:Zm):Option ((List Int)×Bool):=(hX p0 p1).bind fun x3=>cond (!x3) (some ([],false)) ((pu p0).bind fun x5=>(Irule_test_witness x5 p1).bind fun x6=>some (x6.1,x6.2))
def iC (p0:Zn) (p1:(List Zc)) (p2:(List Zb)) (p3:ByteArray) (p4:(List Za)) (p5:(List Zf)):Option (Bool×(List Za)×(List Zf)):=(ls p1 p2 p3 p0.claim p4).bind fun x2=>(oo p0.rule x2.1).bind fun x4=>Option.bind (cond x4.2 ((app 64 p5 [(⟨p0.claim,x4.1,x2.2⟩:Zf)]).bind fun l14=>some l14) (some p5)) (fun l9=>some (x4.2,p4,l9))
def oq (p0:(List Zc)) (p1:(List Zb)) (p2:ByteArray):Option (List Zn):=(aW (S:=(List Zn)×Int) (T:=((List Zn))) (fun (l2,v5)=>cond (decide (v5<(p0.length:Int))) ((idx p0 v5).bind fun m14=>(aW (S:=(List Zn)×Int) (T:=((List Zn))) (fun (l17,v20)=>cond (decide (v20<(p1.length:Int))) (((idx p1 v20).bind fun m33=>(dr m33 m14.Code).bind fun x36=>(gd x36.2 (ca p0 p1 p2 (⟨m14.ID,m33.ID⟩:Za))).bind fun x38=>cond (x36.2&&x38) ((app 112 l17 [(⟨(⟨m14.ID,m33.ID⟩:Za),x36.1⟩:Zn)]).bind fun l42=>some l42) (some l17)).bind fun l31=>some (.inl (l31,(IntKind.i64.wrap (v20+1))))) (some (.inr l17))) FUEL (l2,0)).bind fun l24=>some (.inl (l24,(IntKind.i64.wrap (v5+1))))) (some (.inr l2))) FUEL (([]:List Zn),0)).bind fun l9=>some l9
def ot (p0:(List Zc)) (p1:(List Zb)) (p2:ByteArray):Option ((List Zf)×Int):=(dp p0).bind fun x4=>cond (x4 != 0) (some ([],x4)) ((dn p1).bind fun x6=>cond (x6 != 0) (some ([],x6)) ((bU p2).bind fun x8=>cond (!x8) (some ([],(1:Int))) ((oq p0 p1 p2).bind fun x12=>(aW (S:=(List Zn)×(List Zf)×(List Za)) (T:=(Unit)⊕(_)) (fun (l13,l15,l19)=>(aW (S:=(List Zn)×Int×(List Zf)×(List Za)) (T:=((List Zn)×(List Zf)×(List Za))) (fun (l27,v30,l32,l36)=>cond (decide (v30<(l13.length:Int))) (((idx l13 v30).bind fun m68=>(iC m68 p0 p1 p2 l36 l32).bind fun x70=>cond (!x70.1) ((app 112 l27 [m68]).bind fun l80=>some (l80,x70.2.2,x70.2.1)) (some (l27,x70.2.2,x70.2.1))).bind fun (l58,l62,l66)=>some (.inl (l58,(IntKind.i64.wrap (v30+1)),l62,l66))) (some (.inr (l27,l32,l36)))) FUEL (([]:List Zn),0,l15,l19)).bind fun (l42,l46,l50)=>cond (((l46.length:Nat):Int) == ((l15.length:Nat):Int)) (some (.inr (.inr (l46,(0:Int))))) ((sub l46 ((l15.length:Nat):Int) (l46.length:Int)).bind fun l85=>(aW (S:=Int×(List Za)) (T:=((List Za))) (fun (v86,l88)=>cond (decide (v86<((l46.length - ((l15.length:Nat):Int).toNat:Nat):Int))) ((lf v86).bind fun u100=>(idx l46 (((l15.length:Nat):Int)+v86)).bind fun m101=>(app 16 l88 [m101.Claim]).bind fun l105=>some (.inl ((IntKind.i64.wrap (v86+1)),l105))) (some (.inr l88))) FUEL (0,l50)).bind fun l96=>some (.inl (l42,l46,l96)))) FUEL (x12,([]:List Zf),([]:List Za))).bind fun q=>match q with | .inl _=>none | .inr e=>some e)))
def eD (p0:(List Zf)):Option (List Za):=(aW (S:=(List Za)×Int) (T:=((List Za))) (fun (l2,v5)=>cond (decide (v5<(p0.length:Int))) ((idx p0 v5).bind fun m14=>(app 16 l2 [m14.Claim]).bind fun l18=>some (.inl (l18,(IntKind.i64.wrap (v5+1))))) (some (.inr l2))) FUEL (([]:List Za),0)).bind fun l9=>(bq l9).bind fun x22=>(bm x22).bind fun x23=>some x23
theorem kp {p0:(List Zf)} {r:(List Za)}  (h:eD p0=some r):PF 32 [pL Zf.enc p0] (pL Za.enc r):=by
 unfold eD at h
 refine bc ?_
 refine di Tryz.func32 rfl Tryz.ntmps32 Tryz.results32 rfl (aS [2] (by kernel_rfl) (bW (ak [(3,pN)] (by kernel_rfl) (co (ak [(6,pL Zf.enc p0),(7,pI (p0.length:Int)),(8,pI 0)] (by kernel_rfl) (aY (cM 28 2 (aa h fun q11 hq11 h=>?_))))))))
 refine aq (Y:=(Option Addr×Nat)×((List Za))) (fun ((a7,c8),l9)=>[(3,pO a7 l9.length c8)]) (fun ((a7,c8),l9)=>[PRes.row a7 l9.length c8 28 2 (List.map Za.enc l9)]) (fun ((a7,c8),l9)=>q11=l9) ?_ ?_
 ·refine av ?_
  refine aC (Y:=Option Addr×Nat) (S:=(List Za)×Int) _ hq11 (fun (a3,c4) (l2,v5)=>[(3,pO a3 l2.length c4),(6,pL Zf.enc p0),(7,pI (p0.length:Int)),(8,pI v5)]) (fun (a3,c4) (l2,v5)=>[PRes.row a3 l2.length c4 28 2 (List.map Za.enc l2)]) (none,0) (iQ rfl) cI ?_
  rintro ⟨a3,c4⟩ ⟨l2,v5⟩ o τ hb10;(try dsimp only at hb10);dsimp only [aw]
  refine ae (ak [(9,pB (decide (v5<(p0.length:Int))))] (by kernel_rfl) (bW (ki rfl hb10 (fun hc13 hb10=>?_) fun hc13 hb10=>?_)))
  ·refine ah ?_
   refine dG (aa hb10 fun m14 hm14 hb10=>af (aX 2 [] [10] [(11,.agg (dR m14))] (cG 0 Zf.enc hm14 bk) (by kernel_rfl) (an rfl (aK (cs:=[pI 0,pI 0,pN,pN]) rfl rfl rfl rfl (fun b15=>aP rfl rfl (al (vs:=(dR m14)) rfl rfl rfl rfl rfl cg xB (aF (aY (af (cB 3 [0] [13] [(12,pO a3 l2.length c4),(14,.agg [pI m14.Claim.Product,pI m14.Claim.Agreement])] (by kernel_rfl) (an rfl (bM rfl rfl rfl rfl rfl (gr rfl jJ) rfl rfl rfl rfl (fun b16=>aa hb10 fun l18 hl18 hb10=>?_)))))))))))))
   refine an rfl (bZ (enc:=Za.enc) rfl rfl rfl rfl rfl rfl rfl rfl rfl fT (by exact aB (aB aM)) hl18 (fun a19 c20=>?_))
   refine aL [(3,pO a19 l18.length c20)] (by kernel_rfl) (dI (ai [17] [(8,pI (IntKind.i64.wrap (v5+1)))] (by kernel_rfl) ?_))
   exact aU hb10 (a19,c20) (iQ rfl) cI
  refine aH ?_
  refine cj hb10 (fun ht=>aj rfl ?_)
  exact az ((a3,c4),l2) (rq rfl) cI ht.symm
 rintro ⟨⟨a7,c8⟩,l9⟩ τ hz;(try dsimp only at hz);subst q11;(try dsimp only at h);dsimp only [aw]
 refine ae (aa h fun x22 hx22 h=>af (aG 1 [(18,pO a7 l9.length c8)] (by kernel_rfl) ?_))
 refine an rfl (be rfl rfl (ρ1:=[_]) (aR (by exact aM) (List.Perm.refl _)) (cT hx22) ?_);rintro _ _ ⟨rfl,rfl⟩
 refine aF (dc h fun x23 hx23 h=>af (aG 1 [(20,pO a7 l9.length c8)] (by kernel_rfl) ?_))
 refine an rfl (be rfl rfl (ρ1:=[_]) (aR (by exact aM) (List.Perm.refl _)) (df hx23) ?_);rintro _ _ ⟨a24,c25,rfl,rfl⟩
 refine aL [(2,pO a24 x23.length c25)] (by kernel_rfl) (aY ?_)
 refine fa (enc:=Za.enc) (xs:=x23) 2 rfl (by exact aM) ?_
 refine bS ?_
 exact zz r h rfl
def fE (p0:(List Zf)) (p1:(List Int)) (p2:(List Int)) (p3:Int):Option Bool:=Option.bind (cond (decide (40<(p0.length:Int))) ((sub p0 0 40).bind fun l7=>some (l7,p1,p2,p3)) (some (p0,p1,p2,p3))) (fun (l1,l2,l3,v4)=>(nD l2).bind fun x8=>(gW l3).bind fun x12=>(iY v4).bind fun x16=>(jC x8 x12 x16).bind fun x17=>(eD l1).bind fun x18=>(iM l1).bind fun x19=>(fp x18 x19).bind fun x20=>(gd x20 (eD x17.1)).bind fun x21=>(gd x20 (iM x17.1)).bind fun x22=>(gd x20 (fp x21 x22)).bind fun x23=>(gd (x20&&x23) (mX)).bind fun x24=>some ((x20&&x23)&&x24))
theorem oW {p0:(List Zf)} {p1:(List Int)} {p2:(List Int)} {p3:Int} {r:Bool}  (h:fE p0 p1 p2 p3=some r):PF 7 [pL Zf.enc p0,pL eI p1,pL eI p2,pI p3] (pB r):=by
 unfold fE at h
 refine bc ?_
 refine di Tryz.func7 rfl Tryz.ntmps7 Tryz.results7 rfl (aS [8] (by kernel_rfl) (co (ai [11,12] [(13,pB (decide (40<(p0.length:Int))))] (by kernel_rfl) (fG h fun q5 hq5 h=>?_))))
 refine aq (Y:=Unit×((List Zf)×(List Int)×(List Int)×Int)) (fun (_,(l1,l2,l3,v4))=>[(0,pL Zf.enc l1),(1,pL eI l2),(2,pL eI l3),(3,pI v4)]) (fun (_,(l1,l2,l3,v4))=>[]) (fun (_,(l1,l2,l3,v4))=>q5=(l1,l2,l3,v4)) ?_ ?_
 ·skip
  refine ki rfl hq5 (fun hc6 hq5=>?_) fun hc6 hq5=>?_
  ·refine aa hq5 ?_;clear hq5;intro l7 hl7 hq5
   refine ap [] [14,15] [(0,pL Zf.enc l7)] (vI 1 Zf.enc 4 (fun _=>rfl) hl7 bk) (by kernel_rfl) ?_
   obtain rfl:=osi hq5
   exact az ((),(l7,p1,p2,p3)) (iQ rfl) bA rfl
  refine ah ?_
  obtain rfl:=osi hq5
  exact az ((),(p0,p1,p2,p3)) (iQ rfl) bA rfl
 rintro ⟨_,⟨l1,l2,l3,v4⟩⟩ τ hz;(try dsimp only at hz);subst q5;(try dsimp only at h);dsimp only [aw]
 refine ae (aa h fun x8 hx8 h=>af (aG 1 [(17,pL eI l2)] (by kernel_rfl) ?_))
 refine an rfl (be rfl rfl (ρ1:=[]) (List.Perm.refl _) (xL hx8) ?_);rintro _ _ ⟨a9,c10,rfl,rfl⟩
 refine aa h fun x12 hx12 h=>aG 1 [(19,pL eI l3)] (by kernel_rfl) ?_
 refine an rfl (be rfl rfl (ρ1:=[]) (List.Perm.refl _) (qR hx12) ?_);rintro _ _ ⟨a13,c14,rfl,rfl⟩
 refine aa h fun x16 hx16 h=>aX 2 [] [21] [(22,pS x16)] (bh 1 (su hx16) bk) (by kernel_rfl) ?_
 refine gw (enc:=Zc.enc) (xs:=x8) 18 rfl (by exact aB aM) ?_
 refine gw (enc:=Zb.enc) (xs:=x12) 20 rfl (by exact aB aM) ?_
 refine aa h fun x17 hx17 h=>iH [] [23,16,24,25,10] [(9,pL Zf.enc x17.1)] (bh 0 (uU hx17) bk) (by kernel_rfl) (dc h fun x18 hx18 h=>aa h fun x19 hx19 h=>aa h fun x20 hx20 h=>aa h fun x21 hx21 h=>aa h fun x22 hx22 h=>aa h fun x23 hx23 h=>aa h fun x24 hx24 h=>ap [] (rg 26 15) [(8,pB ((x20&&x23)&&x24))] (bh 1 (kp hx18) (bh 3 (oM hx19) (bh 4 (lN hx20) (ee 7 (fun hc=>kp (cA hx21 hc)) (ee 9 (fun hc=>oM (cA hx22 hc)) (ee 10 (fun hc=>lN (cA hx23 hc)) (ee 13 (fun hc=>vb (cA hx24 hc)) bk))))))) (by kernel_rfl) (cW ?_))
 exact zz r h rfl
end SX
namespace SX
open Go
theorem mr {S T:Type} {body:S→Option (S⊕T)} (P:S→Prop) (μ:S→Nat) (Q:T→Prop) (step:∀ s,P s→(∃ s',body s=some (.inl s')∧P s'∧μ s'<μ s)∨∃ t,body s=some (.inr t)∧Q t):∀ (N:Nat) (s:S),P s→μ s<N→∃ t,aW body N s=some t∧Q t:=by
 intro N
 induction N with
 | zero=>intro s _ h;exact absurd h (Nat.not_lt_zero _)
 | succ N ih =>
  intro s hp hm
  rw [fu]
  rcases step s hp with ⟨s',h1,h2,h3⟩ | ⟨t,h1,h2⟩
  ·rw [h1];exact ih s' h2 (by omega)
  rw [h1];exact ⟨t,rfl,h2⟩
theorem ix0 {α:Type} {a b:α}:idx [a,b] 0=some a:=rfl
theorem ix1 {α:Type} {a b:α}:idx [a,b] 1=some b:=rfl
theorem cap_eq (c:Int):eT c=some (decide (65≤c)&&decide (c≤90)):=rfl
def qC (s:ByteArray):Bool:=match s.data.toList with | [a,b]=>decide (65≤(a.toNat:Int))&&decide ((a.toNat:Int)≤90)&&decide (65≤(b.toNat:Int))&&decide ((b.toNat:Int)≤90) | _=>false
theorem zr {s:ByteArray} (h:((s.size:Int) == 2)=true):∃ a b,s.data.toList=[a,b]:=by
 have h2:s.data.toList.length=2:=by
  have:=eq_of_beq h
  rw [Array.length_toList];have e:s.size=s.data.size:=rfl;omega
 match hd:s.data.toList,h2 with
 | [a,b],_=>exact ⟨a,b,rfl⟩
theorem BP {s:ByteArray} (h:((s.size:Int) == 2)=false):qC s=false:=by
 unfold qC
 split
 ·rename_i a b hd
  have e:s.size=s.data.toList.length:=by rw [Array.length_toList];rfl
  rw [hd] at e
  have e2:(s.size:Int)=2:=by rw [e];rfl
  rw [e2] at h;cases h
 rfl
theorem np (s:ByteArray):bU s=some (qC s):=by
 unfold bU
 cases h:((s.size:Int) == 2)
 ·rw [BP h];rfl
 obtain ⟨a,b,hd⟩:=zr h
 simp only [Bool.true_and,cx,cap_eq]
 rw [hd]
 simp only [qC,hd]
 rw [oI ix0]
 simp only [bg]
 cases h1:(decide (65≤(a.toNat:Int))&&decide ((a.toNat:Int)≤90))
 ·rfl
 simp only [cx,Bool.true_and];rw [oI ix1];rfl
theorem pK (s:ByteArray):eN s=some (qC s):=by
 unfold eN
 cases h:((s.size:Int) == 2)
 ·rw [BP h];rfl
 obtain ⟨a,b,hd⟩:=zr h
 simp only [Bool.true_and,cx]
 rw [hd]
 simp only [qC,hd]
 rw [oI ix0]
 cases h1:decide (65≤(a.toNat:Int))
 ·rfl
 simp only [cx,Bool.true_and];rw [oI ix0]
 cases h2:decide ((a.toNat:Int)≤90)
 ·rfl
 simp only [cx,Bool.true_and];rw [oI ix1]
 cases h3:decide (65≤(b.toNat:Int))
 ·rfl
 simp only [cx,Bool.true_and];rw [oI ix1]
theorem sD (s:ByteArray) (hs:s.size≤140737488355328):gg s=some (dL s):=by
 have hz:s.size=s.data.toList.length:=by rw [Array.length_toList];rfl
 unfold gg
 obtain ⟨t,h5,h6⟩:=mr (body:=fun v1=>cond (decide (v1<(s.size:Int))) (Option.bind (idx s.data.toList v1) (fun c5=>Option.bind (gd (!(decide ((c5.toNat:Int)<48))) (idx s.data.toList v1)) (fun c6=>cond ((decide ((c5.toNat:Int)<48))||(decide (57<(c6.toNat:Int)))) (some (.inr (.inr 0))) (some (.inl (IntKind.i64.wrap (v1+1))))))) (some (.inr (.inl ()))))
  (fun v:Int=>0≤v∧v≤s.size∧∀ j,(h:j<s.data.toList.length)→(j:Int)<v→j6 (s.data.toList[j]).toNat=true) (fun v=>(s.size:Int).toNat - v.toNat) (fun t:Unit⊕Int=>(t=.inl ()∧kN s=true)∨(t=.inr 0∧kN s=false))
  (fun v hv=>by
   obtain ⟨a1,a2,a3⟩:=hv
   by_cases hl:v<(s.size:Int)
   ·rw [det hl];simp only [bY]
    obtain ⟨k,rfl⟩:∃ k:Nat,v=(k:Int):=⟨v.toNat,by omega⟩
    have hk:k<s.data.toList.length:=by omega
    rw [oI (aV hk)]
    by_cases hd:j6 (s.data.toList[k]).toNat=true
    ·left
     have hd2:=hd
     simp only [j6,decide_eq_true_eq] at hd2
     rw [bK (show ¬ ((s.data.toList[k].toNat:Nat):Int)<48 by omega)]
     simp only [Bool.not_false,cx,Bool.false_or]
     rw [oI (aV hk),bK (show ¬ 57<((s.data.toList[k].toNat:Nat):Int) by omega)]
     simp only [bI]
     rw [cH (by omega) (by omega)]
     refine ⟨_,rfl,⟨by omega,by omega,fun j h1 h2=>?_⟩,by omega⟩
     by_cases hj:j=k
     ·subst hj;exact hd
     exact a3 j h1 (by omega)
    right
    refine ⟨.inr 0,?_,.inr ⟨rfl,?_⟩⟩
    ·have hd2:=hd
     simp only [j6,decide_eq_true_eq] at hd2
     by_cases h48:((s.data.toList[k].toNat:Nat):Int)<48
     ·rw [det h48];rfl
     rw [bK h48]
     simp only [Bool.not_false,cx,Bool.false_or]
     rw [oI (aV hk),det (show 57<((s.data.toList[k].toNat:Nat):Int) by omega)];rfl
    cases ha:kN s
    ·rfl
    exfalso;apply hd
    unfold kN bl at ha
    exact List.all_eq_true.1 ha _ (List.getElem_mem hk)
   right
   rw [bK hl]
   refine ⟨.inl (),rfl,.inl ⟨rfl,?_⟩⟩
   unfold kN bl
   rw [List.all_eq_true]
   intro c hc
   obtain ⟨j,hj,rfl⟩:=List.getElem_of_mem hc
   exact a3 j hj (by omega))
  FUEL 0 ⟨by omega,by omega,fun j _ h=>by omega⟩ (jT (by omega))
 rw [oI h5]
 unfold dL
 rcases h6 with ⟨rfl,h⟩ | ⟨rfl,h⟩
 ·simp only [h,and_true]
  by_cases h8:(8:Int)<(s.size:Int)
  ·rw [det h8,if_neg (by omega)];rfl
  rw [bK h8]
  simp only [Bool.false_or]
  have e:Int.tmod (s.size:Int) 2=(s.size:Int) % 2:=Int.tmod_eq_emod_of_nonneg (by omega)
  rw [e]
  by_cases hp:(s.size:Int) % 2=1
  ·rw [hp,if_neg (by omega)];rfl
  have:((s.size:Int) % 2 == 1)=false:=by simpa using hp
  rw [this]
  by_cases h0:s.size=0
  ·rw [if_neg (by omega),h0];rfl
  rw [if_pos (by omega)];rfl
 simp [h]
theorem sE (s:ByteArray):s.size=s.data.toList.length:=by rw [Array.length_toList];rfl
def rj (c:UInt8):Bool:=decide (97≤c.toNat)&&decide (c.toNat≤122)
def gJ (s:ByteArray):Bool:=decide (1≤s.size)&&decide (s.size≤12)&&s.data.toList.all rj
theorem zt (s:ByteArray) (hs:s.size≤140737488355328):kI s=some (gJ s):=by
 unfold kI gJ
 have hz:=sE s
 rw [hz] at hs ⊢
 generalize s.data.toList=l at hs ⊢
 refine (bJ (l:=l) (by omega) (fun _ c=>cond (rj c) none (some (.inr false))) (.inl ()) (fun k hk=>?_) (by simp only [cR,bI])).trans ?_
 ·simp only [ik hk,bY,aV hk,bg,bR hk (show l.length≤4611686018427387904 by omega),rj]
  generalize l[k]=c
  by_cases h1:c.toNat<97
  ·rw [show decide ((c.toNat:Int)<97)=true from det (by omega),show decide (97≤c.toNat)=false from bK (by omega)];rfl
  rw [show decide ((c.toNat:Int)<97)=false from bK (by omega),show decide (97≤c.toNat)=true from det (by omega)]
  simp only [Bool.not_false,cx,bg,Bool.false_or,Bool.true_and]
  by_cases h2:122<c.toNat
  ·rw [show decide ((122:Int)<(c.toNat:Int))=true from det (by omega),show decide (c.toNat≤122)=false from bK (by omega)];rfl
  rw [show decide ((122:Int)<(c.toNat:Int))=false from bK (by omega),show decide (c.toNat≤122)=true from det (by omega)];rfl
 rw [qo]
 have i1:decide ((1:Int)≤(l.length:Int))=decide (1≤l.length):=decide_eq_decide.2 (by omega)
 have i2:decide ((l.length:Int)≤(12:Int))=decide (l.length≤12):=decide_eq_decide.2 (by omega)
 cases l.all rj
 ·simp
 simp [i1,i2]
theorem CQ (s:ByteArray) (hs:s.size≤140737488355328):j7 s=some (gJ s):=by
 unfold j7 gJ
 have i1:decide ((s.size:Int)<1) = !decide (1≤s.size):=by rw [← decide_not];exact decide_eq_decide.2 (by omega)
 have i2:decide ((12:Int)<(s.size:Int)) = !decide (s.size≤12):=by rw [← decide_not];exact decide_eq_decide.2 (by omega)
 rw [i1,i2]
 cases h1:decide (1≤s.size)
 ·rfl
 cases h2:decide (s.size≤12)
 ·rfl
 simp only [Bool.not_true,Bool.or_self,bI,Bool.true_and]
 have key:∀ n pos N,s.size - pos=n→pos≤s.size→n<N→aW (jE s) N pos=some ((s.data.toList.drop pos).all rj):=by
  intro n
  induction n with
  | zero =>
   intro pos N hn hp hN
   obtain ⟨N,rfl⟩:∃ M,N=M+1:=⟨N - 1,by omega⟩
   have:Nat.blt pos s.size=false:=by cases hb:Nat.blt pos s.size;rfl;simp [Nat.blt] at hb;omega
   rw [fu,jE,this]
   rw [List.drop_of_length_le (by rw [← sE];omega)];rfl
  | succ n ih =>
   intro pos N hn hp hN
   obtain ⟨N,rfl⟩:∃ M,N=M+1:=⟨N - 1,by omega⟩
   have hlt:pos<s.size:=by omega
   have hb:Nat.blt pos s.size=true:=by simp [Nat.blt];omega
   have hlt2:pos<s.data.toList.length:=by rw [← sE];exact hlt
   have hget:s[pos]=s.data.toList[pos]:=by
    rw [Array.getElem_toList];rfl
   rw [fu,jE,hb,List.drop_eq_getElem_cons hlt2,List.all_cons,← hget]
   by_cases ha:(s[pos]'hlt).toNat<128
   ·rw [decode_ascii s pos hlt ha]
    simp only [bY,rj]
    by_cases h1:(s[pos]'hlt).toNat<97
    ·rw [show decide (((s[pos]'hlt).toNat:Int)<97)=true from det (by omega),show decide (97≤(s[pos]'hlt).toNat)=false from bK (by omega)];rfl
    by_cases h2:122<(s[pos]'hlt).toNat
    ·rw [show decide ((122:Int)<((s[pos]'hlt).toNat:Int))=true from det (by omega),show decide ((s[pos]'hlt).toNat≤122)=false from bK (by omega),Bool.or_true,Bool.and_false];rfl
    rw [bK (by omega),bK (by omega),det (Nat.not_lt.1 h1),det (Nat.not_lt.1 h2)]
    exact ih (pos+1) N (by omega) (by omega) (by omega)
   have hh:=decode_high s pos hlt (by omega)
   have h122:¬ (s[pos]'hlt).toNat≤122:=by omega
   have:decide (122<((Utf8.decode s pos).1:Int))=true:=det (by omega)
   simp [this,rj,h122]
 have:=key s.size 0 FUEL (by omega) (by omega) (jT (by omega))
 rw [this,List.drop_zero]
def kl (lt:ByteArray→ByteArray→Bool):List ByteArray→Bool
 | []=>true
 | [_]=>true
 | a::b::l=>lt a b&&kl lt (b::l)
def mR (p:ByteArray→Bool) (l:List ByteArray) (k:Nat) (x:ByteArray):Bool:=p x&&(!decide (0<k)||iN (l.getD (k - 1) x) x)
theorem zu (p:ByteArray→Bool) (l:List ByteArray):(∀ i x,l[i]?=some x→mR p l i x=true)↔(l.all p&&kl iN l)=true:=by
 have key:∀ (l:List ByteArray),(∀ i,(h:i+1<l.length)→iN l[i] l[i+1]=true)↔kl iN l=true:=by
  intro l
  induction l with
  | nil=>simp [kl]
  | cons a l ih =>
   cases l with
   | nil=>simp [kl]
   | cons b l =>
    rw [kl,Bool.and_eq_true,← ih]
    constructor
    ·intro h;exact ⟨h 0 (by simp),fun i hi=>h (i+1) (by simpa using hi)⟩
    rintro ⟨h1,h2⟩ i hi
    cases i with
    | zero=>exact h1
    | succ i=>exact h2 i (by simpa using hi)
 rw [Bool.and_eq_true,← key,List.all_eq_true]
 constructor
 ·intro h
  refine ⟨fun x hx=>?_,fun i hi=>?_⟩
  ·obtain ⟨i,hi,rfl⟩:=List.getElem_of_mem hx
   have:=h i _ (List.getElem?_eq_getElem hi)
   simp only [mR,Bool.and_eq_true] at this
   exact this.1
  have:=h (i+1) _ (List.getElem?_eq_getElem hi)
  simp only [mR,Bool.and_eq_true,Nat.zero_lt_succ,decide_true,Bool.not_true,Bool.false_or,Nat.add_sub_cancel] at this
  rw [fF (by omega)] at this
  exact this.2
 rintro ⟨h1,h2⟩ i x hx
 obtain ⟨hi,rfl⟩:=List.getElem?_eq_some_iff.1 hx
 simp only [mR,h1 _ (List.getElem_mem hi),Bool.true_and]
 by_cases h0:0<i
 ·rw [det h0,Bool.not_true,Bool.false_or,fF (by omega)]
  obtain ⟨j,rfl⟩:∃ j,i=j+1:=⟨i - 1,by omega⟩
  exact h2 j hi
 simp [h0]
theorem ms {T:Type} (p:ByteArray→Bool) (l:List ByteArray) (t:T):cE (fun k x=>cond (mR p l k x) none (some t)) l 0=cond (l.all p&&kl iN l) none (some t):=by
 have hn:=mC (g:=fun k x=>cond (mR p l k x) none (some t)) (l:=l) (k:=0)
 cases h:(l.all p&&kl iN l)
 ·cases hf:cE (fun k x=>cond (mR p l k x) none (some t)) l 0 with
  | none =>
   exfalso
   have:(l.all p&&kl iN l)=true:=by
    rw [← zu]
    intro i x hx
    have:=hn.1 hf i x hx
    rw [Nat.zero_add] at this
    cases hk:mR p l i x
    ·rw [hk] at this;cases this
    rfl
   rw [h] at this;cases this
  | some u =>
   have:∀ (m:List ByteArray) (k:Nat) (u:T),cE (fun k x=>cond (mR p l k x) none (some t)) m k=some u→u=t:=by
    intro m
    induction m with
    | nil=>intro k u h;cases h
    | cons x m ih =>
     intro k u h
     rw [cE] at h
     cases hk:mR p l k x
     ·rw [hk] at h;injection h with h;exact h.symm
     rw [hk] at h;exact ih _ _ h
   rw [this _ _ _ hf];rfl
 rw [bY,hn]
 intro i x hx
 rw [Nat.zero_add,(zu p l).2 h i x hx];rfl
def j9 (l:List ByteArray):Bool:=decide (l.length≤8)&&(l.all gJ&&kl iN l)
def StrsOk (l:List ByteArray):Prop:=l.length≤140737488355328∧∀ s∈l,s.size≤140737488355328
theorem rk (l:List ByteArray) (hl:StrsOk l):dM l=some (j9 l):=by
 obtain ⟨hl,hs⟩:=hl
 unfold dM j9
 have i2:decide ((8:Int)<(l.length:Int)) = !decide (l.length≤8):=by rw [← decide_not];exact decide_eq_decide.2 (by omega)
 rw [i2]
 cases decide (l.length≤8)
 ·rfl
 simp only [Bool.not_true,bI,Bool.true_and]
 refine (bJ (l:=l) (by omega) (fun k x=>cond (mR gJ l k x) none (some (.inr false))) (.inl ()) (fun k hk=>?_) (by simp only [cR,bI])).trans ?_
 ·have h62:l.length≤4611686018427387904:=by omega
  simp only [ik hk,bY,aV hk,bg,CQ _ (hs _ (List.getElem_mem hk)),BL,bR hk h62,mR]
  cases hw:gJ l[k]
  ·rfl
  by_cases h0:0<k
  ·simp only [h0,decide_true,Bool.not_true,Bool.not_false,Bool.and_true,Bool.true_and,Bool.false_or,cx,f0 h0 hk h62,bg,fF (show k - 1<l.length by omega),iN,tQ]
   cases Op.bytesLess (l[k-1]'(by omega)).toList l[k].toList <;> rfl
  simp only [h0,decide_false,Bool.and_false,jx,bg,Bool.not_true,Bool.false_or,Bool.false_and,bI,Bool.not_false,Bool.true_and,Bool.true_or,Bool.or_false];rfl
 rw [ms]
 cases (l.all gJ&&kl iN l) <;> rfl
mutual
def tS:Zd→Nat
 | ⟨_,_,_,_,_,_,l⟩=>1+zw l
def zw:List Zd→Nat
 | []=>0
 | a::l=>max (tS a) (zw l)
end
mutual
def qD:Zd→Nat
 | ⟨_,_,_,_,_,_,l⟩=>1+nq l
def nq:List Zd→Nat
 | []=>0
 | a::l=>qD a+nq l
end
theorem lE (r:Zd):tS r=1+zw r.Args:=by cases r;rw [tS]
theorem pM (r:Zd):qD r=1+nq r.Args:=by cases r;rw [qD]
theorem BQ:∀ {l:List Zd} {a:Zd},a∈l→tS a≤zw l
 | b::l,a,h=>by
  rw [zw]
  rcases List.mem_cons.1 h with rfl | h
  ·omega
  have:=BQ h;omega
theorem ka {r a:Zd} (h:a∈r.Args):tS a<tS r:=by rw [lE r];have:=BQ h;omega
mutual
theorem rM:∀ r:Zd,tS r≤qD r
 | ⟨_,_,_,_,_,_,l⟩=>by rw [tS,qD];have:=wG l;omega
theorem wG:∀ l:List Zd,zw l≤nq l
 | []=>by rw [zw,nq];exact Nat.le_refl _
 | a::l=>by rw [zw,nq];have h1:=rM a;have h2:=wG l;omega
end
inductive ROk:Zd→Prop
 | mk (r:Zd) (h1:StrsOk r.Except) (h2:r.Name.size≤140737488355328) (h3:r.Args.length≤140737488355328) (h4:∀ a∈r.Args,ROk a):ROk r
theorem ROk.ex {r:Zd} (h:ROk r):StrsOk r.Except:=by cases h;assumption
theorem ROk.nm {r:Zd} (h:ROk r):r.Name.size≤140737488355328:=by cases h;assumption
theorem ROk.len {r:Zd} (h:ROk r):r.Args.length≤140737488355328:=by cases h;assumption
theorem ROk.arg {r:Zd} (h:ROk r) {a:Zd} (ha:a∈r.Args):ROk a:=by cases h with | mk _ _ _ _ h4=>exact h4 a ha
theorem nodes_F (n:Nat):∀ (r:Zd) (lim:Nat),ROk r→tS r≤n→1≤lim→lim≤1000→lX n r (lim:Int)=some ((min (qD r) lim:Nat):Int):=by
 induction n with
 | zero=>intro r lim _ hd;rw [lE] at hd;omega
 | succ n ih =>
  intro r lim hr hd h1 h2
  have hl:=hr.len
  show jX (lX n) r (lim:Int)=_
  unfold jX
  refine (jU (l:=r.Args) (by omega) (fun i (a:Nat)=>((a:Int),i)) (fun _ x a=>cond (Nat.ble lim a) (.inr ()) (.inl (min (a+qD x) lim))) (fun (a:Nat)=>.inl (a:Int)) (fun (_:Unit)=>.inr (lim:Int)) (fun _ a=>a≤lim) 1 h1 (fun k hk a ha=>⟨?_,fun a' h=>?_⟩) (fun a ha=>?_)).trans ?_
  ·simp only [ik hk,bY,aV hk,bg]
   cases hb:Nat.ble lim a
   ·have hlt:a<lim:=by rcases Nat.lt_or_ge a lim with h | h;exact h;rw [Nat.ble_eq_true_of_le h] at hb;cases hb
    rw [show decide ((lim:Int)≤(a:Int))=false from bK (by omega),cH (by omega) (by omega),show (lim:Int) - (a:Int)=((lim - a:Nat):Int) by omega,
     ih _ (lim - a) (hr.arg (List.getElem_mem hk)) (by have:=ka (List.getElem_mem hk);omega) (by omega) (by omega)]
    simp only [bI,bg,bR hk (show r.Args.length≤4611686018427387904 by omega),zi]
    rw [cH (by omega) (by omega),show (a:Int)+((min (qD r.Args[k]) (lim - a):Nat):Int)=((min (a+qD r.Args[k]) lim:Nat):Int) by omega]
   have hle:=Nat.le_of_ble_eq_true hb
   rw [show decide ((lim:Int)≤(a:Int))=true from det (by omega)];rfl
  ·cases hb:Nat.ble lim a
   ·rw [hb] at h;injection h with h;omega
   rw [hb] at h;cases h
  ·simp only [cR,bI]
  have key:∀ (l:List Zd) (i a:Nat),a≤lim→vL (fun (a:Nat)=>(a:Int)) (fun (_:Unit)=>(lim:Int)) (run (fun _ x a=>cond (Nat.ble lim a) (.inr ()) (.inl (min (a+qD x) lim))) l i a)=((min (a+nq l) lim:Nat):Int):=by
   intro l
   induction l with
   | nil=>intro i a ha;rw [nq];show (a:Int)=_;omega
   | cons x l ihl =>
    intro i a ha
    rw [iX,nq]
    cases hb:Nat.ble lim a
    ·exact (ihl _ _ (by omega)).trans (by omega)
    have hle:=Nat.le_of_ble_eq_true hb
    show (lim:Int)=_;omega
  have k2:∀ (o:Nat⊕Unit),(match (vL (fun (a:Nat)=>.inl (a:Int)) (fun (_:Unit)=>.inr (lim:Int)) o:Int⊕Int) with | .inl v4=>some v4 | .inr e=>some e)=some (vL (fun (a:Nat)=>(a:Int)) (fun (_:Unit)=>(lim:Int)) o):=fun o=>by cases o <;> rfl
  rw [pM]
  exact (k2 _).trans (congrArg some (key _ _ _ h1))
theorem AN (n:Nat):∀ (r:Zd),ROk r→tS r≤n→kV n r=some ((min (qD r) 33:Nat):Int):=by
 induction n with
 | zero=>intro r _ hd;rw [lE] at hd;omega
 | succ n ih =>
  intro r hr hd
  have hl:=hr.len
  show i6 (kV n) r=_
  unfold i6
  refine (jU (l:=r.Args) (by omega) (fun i (a:Nat)=>((a:Int),i)) (fun _ x a=>cond (Nat.ble a 32) (.inl (a+min (qD x) 33)) (.inr a)) (fun a=>(a:Int)) (fun (a:Nat)=>(a:Int)) (fun _ a=>a≤1000) 1 (by omega) (fun k hk a ha=>⟨?_,fun a' h=>?_⟩) (fun a ha=>?_)).trans ?_
  ·simp only [ik hk,Bool.true_and,aV hk,bg]
   cases hb:Nat.ble a 32
   ·have hlt:32<a:=by rcases Nat.lt_or_ge 32 a with h | h;exact h;rw [Nat.ble_eq_true_of_le h] at hb;cases hb
    rw [show decide ((a:Int)≤32)=false from bK (by omega)];rfl
   have hle:=Nat.le_of_ble_eq_true hb
   rw [show decide ((a:Int)≤32)=true from det (by omega),ih _ (hr.arg (List.getElem_mem hk)) (by have:=ka (List.getElem_mem hk);omega)]
   simp only [bY,bg,bR hk (show r.Args.length≤4611686018427387904 by omega),zi]
   rw [cH (by omega) (by omega),show (a:Int)+((min (qD r.Args[k]) 33:Nat):Int)=((a+min (qD r.Args[k]) 33:Nat):Int) by omega]
  ·cases hb:Nat.ble a 32
   ·rw [hb] at h;cases h
   have hle:=Nat.le_of_ble_eq_true hb
   rw [hb] at h;injection h with h;omega
  ·simp only [cR,Bool.false_and,bI]
  have key:∀ (l:List Zd) (i a:Nat),∃ q:Nat,vL (fun (a:Nat)=>(a:Int)) (fun (a:Nat)=>(a:Int)) (run (fun _ x a=>cond (Nat.ble a 32) (.inl (a+min (qD x) 33)) (.inr a)) l i a)=(q:Int)∧min q 33=min (a+nq l) 33:=by
   intro l
   induction l with
   | nil=>intro i a;exact ⟨a,rfl,by rw [nq];omega⟩
   | cons x l ihl =>
    intro i a
    rw [iX,nq]
    cases hb:Nat.ble a 32
    ·have hlt:32<a:=by rcases Nat.lt_or_ge 32 a with h | h;exact h;rw [Nat.ble_eq_true_of_le h] at hb;cases hb
     exact ⟨a,rfl,by omega⟩
    obtain ⟨q,h1,h2⟩:=ihl (i+1) (a+min (qD x) 33)
    exact ⟨q,h1,by omega⟩
  obtain ⟨q,h1,h2⟩:=key r.Args 0 1
  rw [pM,← h2,h1]
  congr 1;unfold oP;split <;> omega
def BR (s:ByteArray):Bool := !(dL s == 0)
def kQ (l:List ByteArray):Bool:=decide (l.length≤6)&&(l.all BR&&kl iN l)
def EN (n:Int):Bool:=decide (0≤n)&&decide (n≤1000000)
def kb (r:Zd):Bool:=(r.Kind == 2||(r.Digits == 0&&r.Except.isEmpty&&r.Tolerance == 0))&&(r.Kind == 3||r.Limit == 0)&&(r.Kind == 4||decide (r.Name=⟨#[]⟩))&&(r.Kind == 5||r.Kind == 6||r.Args.isEmpty)
def jG (r:Zd):Bool:=cond (r.Kind == 1) true (cond (r.Kind == 2) ((r.Digits == 2||r.Digits == 4||r.Digits == 6)&&kQ r.Except&&EN r.Tolerance) (cond (r.Kind == 3) (EN r.Limit) (cond (r.Kind == 4) (gJ r.Name) false)))
mutual
def dY:Zd→Bool
 | ⟨k,d,e,t,m,n,l⟩=>kb ⟨k,d,e,t,m,n,l⟩&&cond (k == 5||k == 6) (decide (2≤l.length)&&decide (l.length≤6)&&ou k l) (jG ⟨k,d,e,t,m,n,l⟩)
def ou (k:Int):List Zd→Bool
 | []=>true
 | a::l=>(!(a.Kind == k)&&dY a)&&ou k l
end
theorem vc (k:Int):∀ l:List Zd,ou k l=l.all fun a => !(a.Kind == k)&&dY a
 | []=>by rw [ou];rfl
 | a::l=>by rw [ou,vc k l];rfl
theorem gG (r:Zd):dY r=(kb r&&cond (r.Kind == 5||r.Kind == 6) (decide (2≤r.Args.length)&&decide (r.Args.length≤6)&&r.Args.all fun a => !(a.Kind == r.Kind)&&dY a) (jG r)):=by
 cases r;rw [dY,vc]
theorem len0 {α:Type} (l:List α):((l.length:Int) == 0)=l.isEmpty:=by cases l <;> rfl
theorem len0' {α:Type} (l:List α):decide (0<(l.length:Int)) = !l.isEmpty:=by cases l with
 | nil=>rfl
 | cons a l=>exact det (by rw [List.length_cons];omega)
theorem AO (r:Zd):mF r=some (kb r):=by
 unfold mF kb
 rw [len0,len0']
 simp only [bne]
 cases (r.Kind == 2) <;> cases (r.Digits == 0) <;> cases r.Except.isEmpty <;> cases (r.Tolerance == 0) <;> cases (r.Kind == 3) <;> cases (r.Limit == 0) <;> cases (r.Kind == 4) <;> cases decide (r.Name=⟨#[]⟩) <;> rfl
theorem CR (r:Zd):ln r=some (kb r):=by
 unfold ln kb
 rw [len0,len0']
 simp only [bne]
 cases (r.Kind == 2) <;> cases (r.Digits == 0) <;> cases r.Except.isEmpty <;> cases (r.Tolerance == 0) <;> cases (r.Kind == 3) <;> cases (r.Limit == 0) <;> cases (r.Kind == 4) <;> cases decide (r.Name=⟨#[]⟩) <;> rfl
theorem AP (l:List ByteArray) (hl:StrsOk l):hU l=some (kQ l):=by
 obtain ⟨hl,hs⟩:=hl
 unfold hU kQ
 have i2:decide ((6:Int)<(l.length:Int)) = !decide (l.length≤6):=by rw [← decide_not];exact decide_eq_decide.2 (by omega)
 rw [i2]
 cases decide (l.length≤6)
 ·rfl
 simp only [Bool.not_true,bI,Bool.true_and]
 refine (bJ (l:=l) (by omega) (fun k x=>cond (mR BR l k x) none (some (.inr false))) (.inl ()) (fun k hk=>?_) (by simp only [cR,bI])).trans ?_
 ·have h62:l.length≤4611686018427387904:=by omega
  simp only [ik hk,bY,aV hk,bg,show ∀ s,dH s=some (dL s) from fun _=>rfl,BL,bR hk h62,mR,BR]
  cases hw:(dL l[k] == 0)
  ·by_cases h0:0<k
   ·simp only [h0,decide_true,Bool.not_true,Bool.not_false,Bool.and_true,Bool.true_and,Bool.false_or,cx,f0 h0 hk h62,bg,fF (show k - 1<l.length by omega),iN,tQ]
    cases Op.bytesLess (l[k-1]'(by omega)).toList l[k].toList <;> rfl
   simp only [h0,decide_false,Bool.and_false,jx,bg,Bool.not_true,Bool.false_or,Bool.false_and,bI,Bool.not_false,Bool.true_and,Bool.true_or,Bool.or_false];rfl
  rfl
 rw [ms]
 cases (l.all BR&&kl iN l) <;> rfl
theorem CS (l:List ByteArray) (hl:StrsOk l) {β:Type} (k:Unit⊕Bool→Option β):Option.bind (aW (S:=Int) (T:=(Unit)⊕(_)) (fun v6=>cond (decide (v6<(l.length:Int))) (Option.bind (idx l v6) (fun m10=>Option.bind (gg m10) (fun x11=>Option.bind (gd ((!(x11 == 0))&&(decide (0<v6))) (idx l (IntKind.i64.wrap (v6 - 1)))) (fun m12=>Option.bind (gd ((!(x11 == 0))&&(decide (0<v6))) (idx l v6)) (fun m13=>cond ((x11 == 0)||((decide (0<v6))&&(!Op.bytesLess m12.toList m13.toList))) (some (.inr (.inr false))) (some (.inl (IntKind.i64.wrap (v6+1))))))))) (some (.inr (.inl ())))) FUEL 0) k=k (cond (l.all BR&&kl iN l) (.inl ()) (.inr false)):=by
 obtain ⟨hl,hs⟩:=hl
 refine (bJ (l:=l) (by omega) (fun k x=>cond (mR BR l k x) none (some (.inr false))) (.inl ()) (fun k hk=>?_) (by simp only [cR,bI])).trans ?_
 ·have h62:l.length≤4611686018427387904:=by omega
  simp only [ik hk,bY,aV hk,bg,sD _ (hs _ (List.getElem_mem hk)),BL,bR hk h62,mR,BR]
  cases hw:(dL l[k] == 0)
  ·by_cases h0:0<k
   ·simp only [h0,decide_true,Bool.not_true,Bool.not_false,Bool.and_true,Bool.true_and,Bool.false_or,cx,f0 h0 hk h62,bg,fF (show k - 1<l.length by omega),iN]
    cases Op.bytesLess (l[k-1]'(by omega)).toList l[k].toList <;> rfl
   simp only [h0,decide_false,Bool.and_false,jx,bg,Bool.not_true,Bool.false_or,Bool.false_and,bI,Bool.not_false,Bool.true_and,Bool.true_or,Bool.or_false];rfl
  rfl
 rw [ms]
 cases (l.all BR&&kl iN l) <;> rfl
theorem EO (s:ByteArray) (hs:s.size≤140737488355328):dM [s]=some (gJ s):=by
 rw [rk [s] ⟨by simp,by simpa using hs⟩]
 simp [j9,kl]
theorem valid_F (n:Nat):∀ (r:Zd),ROk r→tS r≤n→mi n r=some (dY r):=by
 induction n with
 | zero=>intro r _ hd;rw [lE] at hd;omega
 | succ n ih =>
  intro r hr hd
  have hl:=hr.len
  show j8 (mi n) r=_
  unfold j8
  rw [AO,gG,bg]
  cases kb r
  ·rfl
  simp only [Bool.not_true,bI,Bool.true_and]
  cases e1:(r.Kind == 1)
  rotate_left
  ·have:=eq_of_beq e1
   simp only [jG,e1,this];rfl
  cases e2:(r.Kind == 2)
  rotate_left
  ·have:=eq_of_beq e2
   simp only [jG,e1,e2,this,bY,bI]
   rw [AP _ hr.ex]
   show _=some (_&&kQ r.Except&&EN r.Tolerance)
   cases (r.Digits == 2||r.Digits == 4||r.Digits == 6)
   ·rfl
   simp only [cx,Bool.true_and,bg]
   cases kQ r.Except <;> rfl
  cases e3:(r.Kind == 3)
  rotate_left
  ·have:=eq_of_beq e3
   simp only [jG,e1,e2,e3,this,bY,bI];rfl
  cases e4:(r.Kind == 4)
  rotate_left
  ·have:=eq_of_beq e4
   simp only [jG,e1,e2,e3,e4,this,bY,bI]
   rw [EO _ hr.nm];rfl
  simp only [jG,e1,e2,e3,e4,bI]
  have e56:(cond (r.Kind == 5) (some (r.Kind == 5)) (some (r.Kind == 6)):Option Bool)=some (r.Kind == 5||r.Kind == 6):=by cases (r.Kind == 5) <;> rfl
  rw [e56,bg]
  cases (r.Kind == 5||r.Kind == 6)
  ·rfl
  simp only [bY]
  have i1:decide ((r.Args.length:Int)<2) = !decide (2≤r.Args.length):=by rw [← decide_not];exact decide_eq_decide.2 (by omega)
  have i2:decide ((6:Int)<(r.Args.length:Int)) = !decide (r.Args.length≤6):=by rw [← decide_not];exact decide_eq_decide.2 (by omega)
  rw [i1,i2]
  cases decide (2≤r.Args.length)
  ·rfl
  cases decide (r.Args.length≤6)
  ·rfl
  simp only [Bool.not_true,Bool.or_self,bI,Bool.true_and]
  refine (bJ (l:=r.Args) (by omega) (fun _ a=>cond (!(a.Kind == r.Kind)&&dY a) none (some (.inr false))) (.inl ()) (fun k hk=>?_) (by simp only [cR,bI])).trans ?_
  ·simp only [ik hk,bY,aV hk,bg,bR hk (show r.Args.length≤4611686018427387904 by omega)]
   have h2:=ih _ (hr.arg (List.getElem_mem hk)) (by have:=ka (List.getElem_mem hk);omega)
   cases (r.Args[k].Kind == r.Kind)
   ·simp only [Bool.not_false,cx,h2,bg,Bool.true_and,Bool.false_or]
    cases dY r.Args[k] <;> rfl
   rfl
  rw [qo]
  cases (r.Args.all fun a => !(a.Kind == r.Kind)&&dY a) <;> rfl
theorem right_F (n:Nat):∀ (r:Zd),ROk r→tS r≤n→kW n r=some (dY r):=by
 induction n with
 | zero=>intro r _ hd;rw [lE] at hd;omega
 | succ n ih =>
  intro r hr hd
  have hl:=hr.len
  show i7 (kW n) r=_
  unfold i7
  rw [CR,gG,bg]
  cases kb r
  ·rfl
  simp only [Bool.not_true,bI,Bool.true_and]
  cases e1:(r.Kind == 1)
  rotate_left
  ·have:=eq_of_beq e1
   simp only [jG,e1,this];rfl
  cases e2:(r.Kind == 2)
  rotate_left
  ·have:=eq_of_beq e2
   simp only [jG,e1,e2,this,bY,bI]
   rw [CS _ hr.ex]
   show _=some (_&&kQ r.Except&&EN r.Tolerance)
   unfold kQ EN
   have i2:decide ((r.Except.length:Int)≤6)=decide (r.Except.length≤6):=decide_eq_decide.2 (by omega)
   rw [i2]
   cases (r.Except.all BR&&kl iN r.Except)
   ·cases (r.Digits == 2||r.Digits == 4||r.Digits == 6) <;> cases decide (r.Except.length≤6) <;> rfl
   cases (r.Digits == 2||r.Digits == 4||r.Digits == 6) <;> cases decide (r.Except.length≤6) <;> rfl
  cases e3:(r.Kind == 3)
  rotate_left
  ·have:=eq_of_beq e3
   simp only [jG,e1,e2,e3,this,bY,bI];rfl
  cases e4:(r.Kind == 4)
  rotate_left
  ·have:=eq_of_beq e4
   simp only [jG,e1,e2,e3,e4,this,bY,bI]
   rw [zt _ hr.nm];rfl
  simp only [jG,e1,e2,e3,e4,bI]
  have e56:(cond (r.Kind == 5) (some (r.Kind == 5)) (some (r.Kind == 6)):Option Bool)=some (r.Kind == 5||r.Kind == 6):=by cases (r.Kind == 5) <;> rfl
  rw [e56,bg]
  cases (r.Kind == 5||r.Kind == 6)
  ·rfl
  simp only [bY]
  have i1:decide ((2:Int)≤(r.Args.length:Int))=decide (2≤r.Args.length):=decide_eq_decide.2 (by omega)
  have i2:decide ((r.Args.length:Int)≤(6:Int))=decide (r.Args.length≤6):=decide_eq_decide.2 (by omega)
  rw [i1,i2]
  refine (bJ (l:=r.Args) (by omega) (fun _ a=>cond (!(a.Kind == r.Kind)&&dY a) none (some (.inr false))) (.inl ()) (fun k hk=>?_) (by simp only [cR,bI])).trans ?_
  ·simp only [ik hk,bY,aV hk,bg,bR hk (show r.Args.length≤4611686018427387904 by omega)]
   have h2:=ih _ (hr.arg (List.getElem_mem hk)) (by have:=ka (List.getElem_mem hk);omega)
   cases (r.Args[k].Kind == r.Kind)
   ·simp only [Bool.not_false,cx,h2,bg,Bool.true_and,Bool.false_or]
    cases dY r.Args[k] <;> rfl
   rfl
  rw [qo]
  cases (r.Args.all fun a => !(a.Kind == r.Kind)&&dY a)
  ·simp
  simp
def lP (r:Zd):Int:=cond (decide (qD r≤32)) (cond (dY r) 0 1) 8
theorem qp (r:Zd) (hr:ROk r) (hd:tS r≤1000):fi r=some (lP r):=by
 unfold fi qS re lP
 have hf:FUEL=1267650600228229401496703205376:=rfl
 have h1:=nodes_F FUEL r 33 hr (by rw [hf];omega) (by omega) (by omega)
 rw [show ((33:Nat):Int)=33 from rfl] at h1
 rw [h1,bg,valid_F FUEL r hr (by rw [hf];omega)]
 by_cases h:qD r≤32
 ·rw [bK (by omega),det h]
  cases dY r <;> rfl
 rw [det (by omega),bK h];rfl
theorem EP (r:Zd) (hr:ROk r) (hd:tS r≤1000):kK r=some (lP r):=by
 unfold kK po pq lP
 have hf:FUEL=1267650600228229401496703205376:=rfl
 rw [AN FUEL r hr (by rw [hf];omega),bg,right_F FUEL r hr (by rw [hf];omega)]
 by_cases h:qD r≤32
 ·rw [bK (by omega),det h]
  cases dY r <;> rfl
 rw [det (by omega),bK h];rfl
theorem mM (r:Zd):lP r=0↔qD r≤32∧dY r=true:=by
 unfold lP
 by_cases h:qD r≤32
 ·rw [det h];cases dY r <;> simp [h]
 rw [bK h];simp [h]
structure RFOk (x:Zi):Prop where
 pre:x.Prefix.size≤140737488355328
 rule:ROk x.Rule
 deep:tS x.Rule≤1000
structure AOk (a:Zb):Prop where
 par:StrsOk a.Parties
 len:a.Rules.length≤140737488355328
 rules:∀ x∈a.Rules,RFOk x
structure ASOk (l:List Zb):Prop where
 len:l.length≤140737488355328
 all:∀ a∈l,AOk a
def ke (l:List ByteArray):Bool:=l.all qC&&kl iN l
def nL (l:List Zi) (k:Nat) (x:Zi):Option Int:=cond (BR x.Prefix) (cond (decide (0<k) && !iN (l.getD (k - 1) x).Prefix x.Prefix) (some 9) (cond (lP x.Rule == 0) none (some (lP x.Rule)))) (some 1)
def rulesE (l:List Zi):Int:=(cE (nL l) l 0).getD 0
def xR (l:List Zb) (k:Nat) (a:Zb):Option Int :=
 cond (decide (a.ID<1)||decide (1000<a.ID)||decide (a.Kind<1)||decide (3<a.Kind)) (some 2) (cond (decide (0<k)&&decide (a.ID≤(l.getD (k - 1) a).ID)) (some 9) (cond (decide (12<a.Parties.length)||decide (12<a.Rules.length)) (some 8)
  (cond (ke a.Parties) (cond (rulesE a.Rules == 0) none (some (rulesE a.Rules))) (some 1))))
def CT (l:List Zb):Int:=cond (decide (l.length≤8)) ((cE (xR l) l 0).getD 0) 8
theorem xS (l:List ByteArray) (hl:StrsOk l):dK l=some (ke l):=by
 obtain ⟨hl,hs⟩:=hl
 unfold dK ke
 refine (bJ (l:=l) (by omega) (fun k x=>cond (mR qC l k x) none (some (.inr false))) (.inl ()) (fun k hk=>?_) (by simp only [cR,bI])).trans ?_
 ·have h62:l.length≤4611686018427387904:=by omega
  simp only [ik hk,bY,aV hk,bg,np,BL,bR hk h62,mR]
  cases hw:qC l[k]
  ·rfl
  by_cases h0:0<k
  ·simp only [h0,decide_true,Bool.not_true,Bool.not_false,Bool.and_true,Bool.true_and,Bool.false_or,cx,f0 h0 hk h62,bg,fF (show k - 1<l.length by omega),iN,tQ]
   cases Op.bytesLess (l[k-1]'(by omega)).toList l[k].toList <;> rfl
  simp only [h0,decide_false,Bool.and_false,jx,bg,Bool.not_true,Bool.false_or,Bool.false_and,bI,Bool.not_false,Bool.true_and,Bool.true_or,Bool.or_false];rfl
 rw [ms]
 cases (l.all qC&&kl iN l) <;> rfl
theorem zx (l:List Zi) (hl:l.length≤140737488355328) (hr:∀ x∈l,RFOk x):dz l=some (rulesE l):=by
 unfold dz rulesE
 have h62:l.length≤4611686018427387904:=by omega
 refine (bJ (l:=l) h62 (fun k x=>(nL l k x).map .inr) (.inl ()) (fun k hk=>?_) (by simp only [cR,bI])).trans ?_
 ·simp only [ik hk,bY,aV hk,bg,show ∀ s,dH s=some (dL s) from fun _=>rfl,BL,bR hk h62,nL,BR]
  cases hw:(dL l[k].Prefix == 0)
  ·have h2:=qp _ (hr _ (List.getElem_mem hk)).rule (hr _ (List.getElem_mem hk)).deep
   by_cases h0:0<k
   ·simp only [h0,decide_true,Bool.true_and,cx,f0 h0 hk h62,bg,fF (show k - 1<l.length by omega),iN,tQ,Bool.not_false,bY,bI]
    cases Op.bytesLess (l[k-1]'(by omega)).Prefix.toList l[k].Prefix.toList
    ·rfl
    simp only [Bool.not_true,bI]
    rw [h2]
    simp only [bne]
    cases hz:(lP l[k].Rule == 0) <;> simp [hz,vM]
   simp only [h0,decide_false,Bool.false_and,jx,bg,bI,Bool.not_false,bY]
   rw [h2]
   simp only [bne]
   cases hz:(lP l[k].Rule == 0) <;> simp [hz,vM]
  rfl
 have key:∀ (g:Nat→Zi→Option Int) (m:List Zi) (i:Nat),cE (fun k x=>(g k x).map (Sum.inr:Int→Unit⊕Int)) m i=(cE g m i).map Sum.inr:=by
  intro g m
  induction m with
  | nil=>intro i;rfl
  | cons x m ih=>intro i;rw [cE,cE];cases g i x with | none=>exact ih _ | some t=>rfl
 rw [key]
 cases cE (nL l) l 0 <;> rfl
theorem qq {α T U:Type} (f:T→U) (g:Nat→α→Option T):∀ (m:List α) (i:Nat),cE (fun k x=>(g k x).map f) m i=(cE g m i).map f
 | [],_=>rfl
 | x::m,i=>by rw [cE,cE];cases g i x with | none=>exact qq f g m _ | some t=>rfl
theorem EQ (l:List Zb) (hl:ASOk l):dn l=some (CT l):=by
 unfold dn CT
 have h62:l.length≤4611686018427387904:=by have:=hl.len;omega
 have i1:decide ((8:Int)<(l.length:Int)) = !decide (l.length≤8):=by rw [← decide_not];exact decide_eq_decide.2 (by omega)
 rw [i1]
 cases decide (l.length≤8)
 ·rfl
 simp only [Bool.not_true,bI,bY]
 refine (bJ (l:=l) h62 (fun k x=>(xR l k x).map .inr) (.inl ()) (fun k hk=>?_) (by simp only [cR,bI])).trans ?_
 ·have ha:=hl.all _ (List.getElem_mem hk)
  simp only [ik hk,bY,aV hk,bg,BL,bR hk h62,xR]
  have j1:decide ((12:Int)<(l[k].Parties.length:Int))=decide (12<l[k].Parties.length):=decide_eq_decide.2 (by omega)
  have j2:decide ((12:Int)<(l[k].Rules.length:Int))=decide (12<l[k].Rules.length):=decide_eq_decide.2 (by omega)
  rw [xS _ ha.par,zx _ ha.len ha.rules,j1,j2]
  cases (decide (l[k].ID<1)||decide (1000<l[k].ID)||decide (l[k].Kind<1)||decide (3<l[k].Kind))
  ·by_cases h0:0<k
   ·simp only [h0,decide_true,Bool.true_and,cx,f0 h0 hk h62,bg,fF (show k - 1<l.length by omega),bI]
    cases decide (l[k].ID≤(l[k-1]'(by omega)).ID)
    ·cases (decide (12<l[k].Parties.length)||decide (12<l[k].Rules.length))
     ·cases ke l[k].Parties
      ·rfl
      simp only [bI,bY,Bool.not_true,bne]
      cases hz:(rulesE l[k].Rules == 0) <;> simp [hz,vM]
     rfl
    rfl
   simp only [h0,decide_false,Bool.false_and,jx,bg,bI]
   cases (decide (12<l[k].Parties.length)||decide (12<l[k].Rules.length))
   ·cases ke l[k].Parties
    ·rfl
    simp only [bI,bY,Bool.not_true,bne]
    cases hz:(rulesE l[k].Rules == 0) <;> simp [hz,vM]
   rfl
  rfl
 rw [qq]
 cases cE (xR l) l 0 <;> rfl
theorem ref_agr (l:List Zb) (hl:ASOk l):ft l=some (CT l):=by
  unfold ft CT
  have h62:l.length≤4611686018427387904:=by have:=hl.len;omega
  have i1:decide ((8:Int)<(l.length:Int)) = !decide (l.length≤8):=by rw [← decide_not];exact decide_eq_decide.2 (by omega)
  rw [i1]
  cases decide (l.length≤8)
  · rfl
  simp only [Bool.not_true,bI,bY]
  refine (bJ (l:=l) h62 (fun k x=>(xR l k x).map .inr) (.inl ()) (fun k hk=>?_) (by simp only [cR,bI])).trans ?_
  · have ha:=hl.all _ (List.getElem_mem hk)
    simp only [ik hk,bY,aV hk,bg,BL,bR hk h62,xR]
    have j1:decide ((12:Int)<(l[k].Parties.length:Int))=decide (12<l[k].Parties.length):=decide_eq_decide.2 (by omega)
    have j2:decide ((12:Int)<(l[k].Rules.length:Int))=decide (12<l[k].Rules.length):=decide_eq_decide.2 (by omega)
    rw [j1,j2]
    have tail:(Option.bind (aW (S:=Int) (T:=(Unit)⊕(Int⊕(Unit⊕Int))) (fun v12=>cond (decide (v12<(l[k].Parties.length:Int))) (Option.bind (idx l[k].Parties v12) (fun m16=>Option.bind (eN m16) (fun x17=>Option.bind (gd ((!(!x17))&&(decide (0<v12))) (idx l[k].Parties (IntKind.i64.wrap (v12 - 1)))) (fun m18=>Option.bind (gd ((!(!x17))&&(decide (0<v12))) (idx l[k].Parties v12)) (fun m19=>cond ((!x17)||((decide (0<v12))&&(!Op.bytesLess m18.toList m19.toList))) (some (.inr (.inr (.inr (.inr 1))))) (some (.inl (IntKind.i64.wrap (v12+1))))))))) (some (.inr (.inl ())))) FUEL 0)
        (fun q=>match q with
          | .inl _=>Option.bind (aW (S:=Int) (T:=(Unit)⊕(Int⊕(Unit⊕Int))) (fun v21=>cond (decide (v21<(l[k].Rules.length:Int))) (Option.bind (idx l[k].Rules v21) (fun m25=>Option.bind (gg m25.Prefix) (fun x26=>cond (x26 == 0) (some (.inr (.inr (.inr (.inr 1))))) (Option.bind (gd (decide (0<v21)) (idx l[k].Rules (IntKind.i64.wrap (v21 - 1)))) (fun m28=>Option.bind (gd (decide (0<v21)) (idx l[k].Rules v21)) (fun m29=>cond ((decide (0<v21))&&(!Op.bytesLess m28.Prefix.toList m29.Prefix.toList)) (some (.inr (.inr (.inr (.inr 9))))) (Option.bind (idx l[k].Rules v21) (fun m31=>Option.bind (kK m31.Rule) (fun x32=>cond (x32 != 0) (some (.inr (.inr (.inr (.inr x32))))) (some (.inl (IntKind.i64.wrap (v21+1))))))))))))) (some (.inr (.inl ())))) FUEL 0) (fun q=>match q with | .inl _=>some (.inl ((k+1:Nat):Int)) | .inr e=>some e)
          | .inr e=>some e):Option (Int⊕(Unit⊕Int)))=some (vM k ((cond (ke l[k].Parties) (cond (rulesE l[k].Rules == 0) none (some (rulesE l[k].Rules))) (some 1)).map .inr)):=by
      obtain ⟨hp,hps⟩:=ha.par
      have hq:=ha.len;have hqr:=ha.rules
      generalize l[k].Parties=P at hp hps
      generalize l[k].Rules=R at hq hqr
      have hP:P.length≤4611686018427387904:=by omega
      have hR:R.length≤4611686018427387904:=by omega
      refine (bJ (l:=P) hP (fun k x=>cond (mR qC P k x) none (some (.inr (.inr (.inr 1))))) (.inl ()) (fun k hk=>?_) (by simp only [cR,bI])).trans ?_
      · simp only [ik hk,bY,aV hk,bg,pK,BL,bR hk hP,mR]
        cases hw:qC P[k]
        · rfl
        by_cases h0:0<k
        · simp only [h0,decide_true,Bool.not_true,Bool.not_false,Bool.and_true,Bool.true_and,Bool.false_or,cx,f0 h0 hk hP,bg,fF (show k - 1<P.length by omega),iN]
          cases Op.bytesLess (P[k-1]'(by omega)).toList P[k].toList <;> rfl
        simp only [h0,decide_false,Bool.and_false,jx,bg,Bool.not_true,Bool.false_or,Bool.false_and,bI,Bool.not_false,Bool.true_and,Bool.true_or,Bool.or_false];rfl
      rw [ms]
      unfold ke
      cases (P.all qC&&kl iN P)
      · rfl
      simp only [bY,Option.getD_none]
      refine (bJ (l:=R) hR (fun k x=>(nL R k x).map fun e=>.inr (.inr (.inr e))) (.inl ()) (fun k hk=>?_) (by simp only [cR,bI])).trans ?_
      · simp only [ik hk,bY,aV hk,bg,sD _ (hqr _ (List.getElem_mem hk)).pre,BL,bR hk hR,nL,BR]
        cases hw:(dL R[k].Prefix == 0)
        · have h2:=EP _ (hqr _ (List.getElem_mem hk)).rule (hqr _ (List.getElem_mem hk)).deep
          by_cases h0:0<k
          · simp only [h0,decide_true,Bool.true_and,cx,f0 h0 hk hR,bg,fF (show k - 1<R.length by omega),iN,Bool.not_false,bY,bI]
            cases Op.bytesLess (R[k-1]'(by omega)).Prefix.toList R[k].Prefix.toList
            · rfl
            simp only [Bool.not_true,bI]
            rw [h2]
            simp only [bne]
            cases hz:(lP R[k].Rule == 0) <;> simp [hz,vM]
          simp only [h0,decide_false,Bool.false_and,jx,bg,bI,Bool.not_false,bY]
          rw [h2]
          simp only [bne]
          cases hz:(lP R[k].Rule == 0) <;> simp [hz,vM]
        rfl
      rw [qq]
      unfold rulesE
      have hne:∀ e,cE (nL R) R 0=some e→(e == 0)=false:=by
        have:∀ (m:List Zi) (i:Nat) (e:Int),cE (nL R) m i=some e→(e == 0)=false:=by
          intro m
          induction m with
          | nil=>intro i e h;cases h
          | cons x m ih =>
            intro i e h
            rw [cE] at h
            cases hg:nL R i x with
            | none=>rw [hg] at h;exact ih _ _ h
            | some t =>
              rw [hg] at h;injection h with h;subst h
              unfold nL at hg
              cases hb:BR x.Prefix
              · rw [hb] at hg;injection hg with hg;subst hg;rfl
              rw [hb] at hg
              cases h9:(decide (0<i) && !iN (R.getD (i - 1) x).Prefix x.Prefix)
              · rw [h9] at hg
                cases hz:(lP x.Rule == 0)
                · rw [hz] at hg;injection hg with hg;subst hg;exact hz
                rw [hz] at hg;cases hg
              rw [h9] at hg;injection hg with hg;subst hg;rfl
        exact this R 0
      cases hf:cE (nL R) R 0 with
      | none=>rfl
      | some e=>simp [hne e hf,vM]
    cases (decide (l[k].ID<1)||decide (1000<l[k].ID)||decide (l[k].Kind<1)||decide (3<l[k].Kind))
    · by_cases h0:0<k
      · simp only [h0,decide_true,Bool.true_and,cx,f0 h0 hk h62,bg,fF (show k - 1<l.length by omega),bI]
        cases decide (l[k].ID≤(l[k-1]'(by omega)).ID)
        · cases (decide (12<l[k].Parties.length)||decide (12<l[k].Rules.length))
          · exact tail
          rfl
        rfl
      simp only [h0,decide_false,Bool.false_and,jx,bg,bI]
      cases (decide (12<l[k].Parties.length)||decide (12<l[k].Rules.length))
      · exact tail
      rfl
    rfl
  rw [qq]
  cases cE (xR l) l 0 <;> rfl
def Y {α:Type} (x:Option α) (P:α→Prop):Prop:=∃ a,x=some a∧P a
section
variable {α β S T:Type} {x y:Option α} {P P':α→Prop} {Q:β→Prop} {f:α→Option β} {a:α} {c:Bool}
theorem Y.bind (h:Y x P) (k:∀ a,P a→Y (f a) Q):Y (x.bind f) Q:=by
 obtain ⟨a,h1,h2⟩:=h;rw [h1];exact k a h2
theorem Y.ret (h:P a):Y (some a) P:=⟨a,rfl,h⟩
theorem Y.mono (h:Y x P) (k:∀ a,P a→P' a):Y x P':=by obtain ⟨a,h1,h2⟩:=h;exact ⟨a,h1,k a h2⟩
theorem Y.cond (h:c=true→Y x P) (k:c=false→Y y P):Y (cond c x y) P:=by cases c;exact k rfl;exact h rfl
theorem Y.eq {r:α} (h:x=some r) (k:Y (f r) Q):Y (x.bind f) Q:=by rw [h];exact k
theorem Y.loop {body:S→Option (S⊕T)} {R:T→Prop} {s:S} (I:S→Prop) (μ:S→Nat) (h0:I s) (hm:μ s≤1267650600228229401496703205000) (step:∀ s,I s→Y (body s) (fun o=>match o with | .inl s'=>I s'∧μ s'<μ s | .inr t=>R t)):Y (aW body FUEL s) R:=by
 obtain ⟨t,h1,h2⟩:=mr (body:=body) I μ R (fun s hs=>by
  obtain ⟨o,k1,k2⟩:=step s hs
  cases o with
  | inl s'=>exact .inl ⟨s',k1,k2⟩
  | inr t=>exact .inr ⟨t,k1,k2⟩) FUEL s h0 (jT hm)
 exact ⟨t,h1,h2⟩
theorem Y.idx {xs:List α} {i:Int} {n:Nat} (h:i=(n:Int)) (hn:n<xs.length) (k:Y (f xs[n]) Q):Y ((idx xs i).bind f) Q:=by subst h;rw [aV hn];exact k
theorem Y.gdp [Inhabited α] {z:Option (α×β)} {m:β} {R:α×β→Prop} (h:c=true→Y z R) (k:c=false→R (default,m)):Y (gdp c z m) R:=by
 cases c
 ·exact ⟨_,rfl,k rfl⟩
 exact h rfl
end
theorem wH (a n:Int) (h1:1≤n) (h2:n≤4611686018427387904):∃ r,ir a n=some r∧0≤r∧r<n:=by
 have hl:=Int.tmod_lt_of_pos a (show 0<n by omega)
 have hl2:=Int.tmod_lt_of_pos (-a) (show 0<n by omega)
 rw [Int.neg_tmod] at hl2
 unfold ir nz lb
 rw [if_neg (by omega),cH (by omega) (by omega)]
 exact ⟨_,rfl,Int.tmod_nonneg _ (by omega),Int.tmod_lt_of_pos _ (by omega)⟩
def SOK (p:Zj):Prop:=0≤p.I∧p.I≤p.L.length∧p.L.length≤1000000000000000
theorem next_ok {p:Zj} (hp:SOK p) (n:Int) (h1:1≤n) (h2:n≤4611686018427387904):∃ r q,aT p n=some (r,q)∧0≤r∧r<n∧SOK q:=by
 obtain ⟨a1,a2,a3⟩:=hp
 unfold aT
 by_cases h:(p.L.length:Int)≤p.I
 ·rw [det h];exact ⟨_,_,rfl,by omega,by omega,a1,a2,a3⟩
 rw [bK h,cH (r:=p.I+1) (by omega) (by omega),cH (by omega) (by omega)]
 simp only [bI]
 have e:idx p.L (p.I+1 - 1)=some (p.L[p.I.toNat]'(by omega)):=by
  unfold idx;rw [if_pos (by omega)]
  have:(p.I+1 - 1).toNat=p.I.toNat:=by omega
  rw [this];exact List.getElem?_eq_getElem _
 rw [oI e]
 obtain ⟨r,h3,h4,h5⟩:=wH (p.L[p.I.toNat]'(by omega)) n h1 h2
 rw [oI h3]
 exact ⟨_,_,rfl,h4,h5,by simp only;omega,by simp only;omega,a3⟩
theorem cut_ok (l:List Int) (n:Int) (h:0≤n) (h2:n≤1000):∃ m,mE l n=some m∧(m.length:Int)≤n:=by
 unfold mE
 by_cases h1:n<(l.length:Int)
 ·rw [det h1]
  have e:sub l 0 n=some ((l.take n.toNat).drop 0):=by unfold sub;rw [if_pos (by omega)];rfl
  simp only [bY];rw [oI e];exact ⟨_,rfl,by simp;omega⟩
 rw [bK h1];exact ⟨_,rfl,by omega⟩
theorem ER (a n:Int) (h1:1≤n) (h2:n≤4611686018427387904):Y (ir a n) (fun r=>0≤r∧r<n):=wH a n h1 h2
theorem eE {p:Zj} (hp:SOK p) (n:Int) (h1:1≤n) (h2:n≤4611686018427387904):Y (aT p n) (fun r=>0≤r.1∧r.1<n∧SOK r.2):=by
 obtain ⟨r,q,h3,h4,h5,h6⟩:=next_ok hp n h1 h2;exact ⟨(r,q),h3,h4,h5,h6⟩
theorem cut_Y (l:List Int) (n:Int) (h:0≤n) (h2:n≤1000):Y (mE l n) (fun m=>SOK ⟨m,0⟩):=by
 obtain ⟨m,h3,h4⟩:=cut_ok l n h h2
 exact ⟨m,h3,by dsimp only;omega,by dsimp only;omega,by dsimp only;omega⟩
theorem ES {p:Zj} (hp:SOK p):Y (fm p) (fun r=>EN r.1=true∧SOK r.2):=by
 unfold fm
 refine (eE hp 4 (by omega) (by omega)).bind fun a ⟨h1,h2,h3⟩=>?_
 refine Y.cond (fun _=>?_) (fun _=>?_)
 ·refine (eE h3 101 (by omega) (by omega)).bind fun b ⟨k1,k2,k3⟩=>Y.ret ⟨?_,k3⟩
  rw [cH (by omega) (by omega)];simp only [EN,Bool.and_eq_true,decide_eq_true_eq];omega
 refine (eE h3 1000001 (by omega) (by omega)).bind fun b ⟨k1,k2,k3⟩=>Y.ret ⟨?_,k3⟩
 simp only [EN,Bool.and_eq_true,decide_eq_true_eq];omega
structure Good (r:Zd) (m:Nat):Prop where
 ok:ROk r
 valid:dY r=true
 size:qD r≤m
theorem zy:StrsOk []:=⟨by simp,by simp⟩
theorem ET {r:Zd} (h1:StrsOk r.Except) (h2:r.Name.size≤140737488355328) (h3:r.Args=[]):ROk r:=⟨r,h1,h2,by rw [h3];simp,by rw [h3];simp⟩
theorem EU {r:Zd} (h:r.Args=[]):qD r=1:=by rw [pM,h];rfl
def nM:Nat→Nat
 | 0=>1
 | d+1=>1+3*nM d
theorem EV (d:Nat):1≤nM d:=by cases d <;> simp [nM]
theorem BS {m:Nat}:∀ {l:List Zd},(∀ a∈l,qD a≤m)→nq l≤l.length*m
 | [],_=>by rw [nq];omega
 | a::l,h=>by
  rw [nq,List.length_cons,Nat.add_mul,Nat.one_mul]
  have h1:=h a (by simp);have h2:=BS (l:=l) fun b hb=>h b (by simp [hb]);omega
theorem xU {but:Int} (hb:but=0∨but=5∨but=6) {r:Zd} {q:Zj} {m:Nat} (hm:1≤m) (hq:SOK q) (h1:StrsOk r.Except) (h2:r.Name.size≤140737488355328) (h3:r.Args=[]) (hk:1≤r.Kind∧r.Kind≤4) (hv:dY r=true):Good r m∧r.Kind≠but∧SOK q :=
 ⟨⟨ET h1 h2 h3,hv,by rw [EU h3];exact hm⟩,by omega,hq⟩
theorem wI {d n:Nat} {p:Zj} {but:Int} (hp:SOK p) (hb:but=0∨but=5∨but=6) (hn:d<n) (hd:d≤10)
    (ih:∀ d',d=d'+1→∀ (q:Zj) (but':Int),SOK q→(but'=0∨but'=5∨but'=6)→Y (eA (n - 1) q but' (d':Int)) (fun r=>Good r.1 (nM d')∧r.1.Kind≠but'∧SOK r.2)) :
    Y (eA n p but (d:Int)) (fun r=>Good r.1 (nM d)∧r.1.Kind≠but∧SOK r.2):=by
  obtain ⟨n,rfl⟩:∃ m,n=m+1:=⟨n - 1,by omega⟩
  rw [Nat.add_sub_cancel] at ih
  show Y (fw (eA n) p but (d:Int)) _
  unfold fw
  refine (eE hp 8 (by omega) (by omega)).bind fun a ⟨h1,h2,h3⟩=>?_
  refine Y.cond (fun hc=>?_) (fun hc=>?_)
  · simp only [Bool.and_eq_true,decide_eq_true_eq] at hc
    obtain ⟨d',rfl⟩:∃ d',d=d'+1:=⟨d - 1,by omega⟩
    have ih:=ih d' rfl
    have hm1:0≤Int.tmod a.1 2:=Int.tmod_nonneg _ (by omega)
    have hm2:Int.tmod a.1 2<2:=Int.tmod_lt_of_pos _ (by omega)
    refine Y.bind (P:=fun k=>(k=5∨k=6)∧k≠but) ?_ fun k ⟨hk,hkb⟩=>?_
    · rw [cH (by omega) (by omega)]
      refine Y.cond (fun hc=>Y.ret ?_) (fun hc=>Y.ret ?_)
      · have:=eq_of_beq hc;rw [cH (by omega) (by omega)];omega
      have:¬ 5+Int.tmod a.1 2=but:=by intro h;rw [h] at hc;simp at hc
      omega
    refine (eE h3 2 (by omega) (by omega)).bind fun b ⟨k1,k2,k3⟩=>?_
    rw [cH (r:=2+b.1) (by omega) (by omega)]
    refine Y.bind (P:=fun t:List Int×Int×List Zd=>SOK ⟨t.1,t.2.1⟩∧(2≤t.2.2.length∧t.2.2.length≤3)∧∀ x∈t.2.2,Good x (nM d')∧x.Kind≠k) ?_ fun t ⟨t1,t2,t3⟩=>?_
    · refine Y.loop (fun s:Int×List Int×Int×List Zd=>(0≤s.1∧s.1+s.2.2.2.length=2+b.1)∧SOK ⟨s.2.1,s.2.2.1⟩∧∀ x∈s.2.2.2,Good x (nM d')∧x.Kind≠k) (fun s=>s.1.toNat) ⟨⟨by dsimp only;omega,by simp⟩,k3,by simp⟩ (by dsimp only;omega) fun s hs=>?_
      obtain ⟨v,l,i,m⟩:=s
      obtain ⟨⟨s1,s2⟩,s3,s4⟩:=hs
      dsimp only at s1 s2 s3 s4 ⊢
      refine Y.cond (fun hc=>?_) (fun hc=>Y.ret ⟨s3,?_,s4⟩)
      · have hc:=of_decide_eq_true hc
        rw [cH (by omega) (by omega),show ((d'+1:Nat):Int) - 1=(d':Int) by omega]
        refine (ih _ k s3 (by omega)).bind fun x ⟨x1,x2,x3⟩=>?_
        rw [cS (by simp;omega) (by simp;omega),bg,cH (by omega) (by omega)]
        refine Y.ret ⟨⟨⟨by dsimp only;omega,by simp;omega⟩,x3,fun z hz=>?_⟩,by dsimp only;omega⟩
        rcases List.mem_append.1 hz with hz | hz
        · exact s4 z hz
        rw [List.mem_singleton.1 hz];exact ⟨x1,x2⟩
      have hc:=of_decide_eq_false hc
      dsimp only;omega
    obtain ⟨l,i,m⟩:=t
    dsimp only at t1 t2 t3 ⊢
    refine Y.ret ⟨⟨⟨_,zy,by simp,by dsimp only;omega,fun z hz=>(t3 z hz).1.ok⟩,?_,?_⟩,hkb,t1⟩
    · rw [gG]
      have e1:(k == 5||k == 6)=true:=by rcases hk with rfl | rfl <;> rfl
      have e2:kb ⟨k,0,[],0,0,ByteArray.empty,m⟩=true:=by rcases hk with rfl | rfl <;> rfl
      rw [e2]
      simp only [e1,bY,Bool.true_and,Bool.and_eq_true,decide_eq_true_eq,List.all_eq_true,Bool.not_eq_true',beq_eq_false_iff_ne,ne_eq]
      exact ⟨by omega,fun z hz=>⟨(t3 z hz).2,(t3 z hz).1.valid⟩⟩
    rw [pM]
    have:=BS fun z hz=>(t3 z hz).1.size
    have h3:m.length*nM d'≤3*nM d':=Nat.mul_le_mul_right _ t2.2
    dsimp only [nM];omega
  have hpos:=EV d
  refine Y.bind (P:=fun q:(List Int×Int)⊕(Zd×Zj)=>match q with | .inl s=>SOK ⟨s.1,s.2⟩ | .inr r=>Good r.1 (nM d)∧r.1.Kind≠but∧SOK r.2) ?_ fun q hq=>?_
  · refine Y.cond (fun _=>?_) fun _=>Y.cond (fun _=>?_) fun _=>Y.cond (fun _=>?_) fun _=>Y.ret h3
    · refine (ES h3).bind fun b ⟨k1,k2⟩=>Y.ret (xU hb hpos k2 zy (by simp) rfl ⟨by simp,by simp⟩ ?_)
      rw [gG];simp only [kb,jG,k1];rfl
    · refine (eE h3 5 (by omega) (by omega)).bind fun b ⟨k1,k2,k3⟩=>?_
      obtain ⟨j,hj⟩:∃ j:Nat,b.1=(j:Int):=⟨b.1.toNat,by omega⟩
      have hj5:j<5:=by omega
      refine Y.idx hj hj5 (Y.ret ?_)
      have hw:∀ j:Nat,(h:j<5)→gJ [(⟨#[97,110,100]⟩:ByteArray),(⟨#[99,117,116]⟩:ByteArray),(⟨#[111,114]⟩:ByteArray),(⟨#[115,101,119]⟩:ByteArray),(⟨#[115,112,105,110]⟩:ByteArray)][j]=true:=by
        intro j h
        match j,h with
        | 0,_=>rfl
        | 1,_=>rfl
        | 2,_=>rfl
        | 3,_=>rfl
        | 4,_=>rfl
      have hw2:=hw j hj5
      refine xU hb hpos k3 zy ?_ rfl ⟨by simp,by simp⟩ ?_
      · have h12:=hw2
        simp only [gJ,Bool.and_eq_true,decide_eq_true_eq] at h12
        dsimp only;omega
      rw [gG];simp only [kb,jG,hw2];rfl
    refine (eE h3 3 (by omega) (by omega)).bind fun b ⟨k1,k2,k3⟩=>Y.cond (fun _=>Y.ret (xU hb hpos k3 zy (by simp) rfl ⟨by simp,by simp⟩ ?_)) fun _=>Y.ret k3
    rw [gG];rfl
  cases q with
  | inr r=>exact Y.ret hq
  | inl s =>
    obtain ⟨l,i⟩:=s
    dsimp only at hq ⊢
    refine (eE hq 3 (by omega) (by omega)).bind fun b ⟨k1,k2,k3⟩=>?_
    refine (eE k3 3 (by omega) (by omega)).bind fun c ⟨c1,c2,c3⟩=>?_
    refine Y.bind (P:=fun t:List Int×Int×List ByteArray=>SOK ⟨t.1,t.2.1⟩∧StrsOk t.2.2∧kQ t.2.2=true) ?_ fun t ⟨t1,t2,t3⟩=>?_
    · refine Y.cond (fun _=>?_) fun _=>Y.ret ⟨c3,zy,rfl⟩
      refine (eE c3 2 (by omega) (by omega)).bind fun e ⟨e1,e2,e3⟩=>?_
      obtain he | he:e.1=0∨e.1=1:=by omega
      · rw [he];exact Y.ret ⟨e3,(show StrsOk [(⟨#[57,52,48,49]⟩:ByteArray),(⟨#[57,53,48,50]⟩:ByteArray)] from ⟨by decide,by decide⟩),(show kQ [(⟨#[57,52,48,49]⟩:ByteArray),(⟨#[57,53,48,50]⟩:ByteArray)]=true by kernel_rfl)⟩
      rw [he];exact Y.ret ⟨e3,(show StrsOk [(⟨#[57,53,48,50]⟩:ByteArray)] from ⟨by decide,by decide⟩),(show kQ [(⟨#[57,53,48,50]⟩:ByteArray)]=true by kernel_rfl)⟩
    obtain ⟨l2,i2,ex⟩:=t
    dsimp only at t1 t2 t3 ⊢
    refine (eE t1 3 (by omega) (by omega)).bind fun e ⟨e1,e2,e3⟩=>?_
    refine Y.bind (P:=fun t:List Int×Int×Int=>SOK ⟨t.1,t.2.1⟩∧EN t.2.2=true) (Y.cond (fun _=>(ES e3).bind fun f ⟨f1,f2⟩=>Y.ret ⟨f2,f1⟩) fun _=>Y.ret ⟨e3,rfl⟩) fun u ⟨u1,u2⟩=>?_
    obtain ⟨l3,i3,tol⟩:=u
    dsimp only at u1 u2 ⊢
    refine Y.ret (xU hb hpos u1 t2 (by simp) rfl ⟨by simp,by simp⟩ ?_)
    rw [cH (r:=2*b.1) (by omega) (by omega),cH (by omega) (by omega),gG]
    simp only [kb,jG,t3,u2]
    obtain hb0 | hb0 | hb0:b.1=0∨b.1=1∨b.1=2:=by omega
    · rw [hb0];rfl
    · rw [hb0];rfl
    rw [hb0];rfl
theorem rule_Y (d:Nat):∀ (n:Nat) (p:Zj) (but:Int),d<n→d≤10→SOK p→(but=0∨but=5∨but=6)→Y (eA n p but (d:Int)) (fun r=>Good r.1 (nM d)∧r.1.Kind≠but∧SOK r.2):=by
  induction d with
  | zero=>exact fun n p but h1 h2 hp hb=>wI hp hb h1 (by omega) (fun d h=>absurd h (by omega))
  | succ d ih=>exact fun n p but h1 h2 hp hb=>wI hp hb h1 (by omega) (fun d' h q but' hq hb'=>by
      obtain rfl:d'=d:=by omega
      exact ih _ q but' (by omega) (by omega) hq hb')
theorem EW (x y z:ByteArray) (h1:iN x y=true) (h2:iN y z=true):iN x z=true:=by
 rw [pz] at *;exact det (List.lt_trans (of_decide_eq_true h1) (of_decide_eq_true h2))
theorem BT (x:ByteArray):iN x x=false:=by rw [pz];exact bK (List.lt_irrefl _)
theorem lu:∀ l:List ByteArray,kl iN l=true↔l.Pairwise (fun a b=>iN a b=true)
 | []=>by simp [kl]
 | [a]=>by simp [kl]
 | a::b::l=>by
  rw [kl,Bool.and_eq_true,lu (b::l)]
  constructor
  ·rintro ⟨h1,h2⟩
   refine List.pairwise_cons.2 ⟨fun c hc=>?_,h2⟩
   rcases List.mem_cons.1 hc with rfl | hc
   ·exact h1
   exact EW _ _ _ h1 ((List.pairwise_cons.1 h2).1 c hc)
  intro h;obtain ⟨h1,h2⟩:=List.pairwise_cons.1 h;exact ⟨h1 b (by simp),h2⟩
theorem ow {α:Type} {l C:List α} {v:Nat} (h:l.Sublist (C.take v)) (hv:v<C.length):(l++[C[v]]).Sublist (C.take (v+1))∧l.Sublist (C.take (v+1)):=by
 have e:C.take (v+1)=C.take v++[C[v]]:=by rw [List.take_add_one,List.getElem?_eq_getElem hv];rfl
 rw [e]
 exact ⟨h.append (List.Sublist.refl _),h.trans (List.sublist_append_left _ _)⟩
def C6:List ByteArray:=[(⟨#[65,65]⟩:ByteArray),(⟨#[66,66]⟩:ByteArray),(⟨#[67,67]⟩:ByteArray),(⟨#[68,68]⟩:ByteArray),(⟨#[69,69]⟩:ByteArray),(⟨#[70,70]⟩:ByteArray)]
def P5:List ByteArray:=[(⟨#[57,52]⟩:ByteArray),(⟨#[57,52,48,49]⟩:ByteArray),(⟨#[57,52,48,49,48,50]⟩:ByteArray),(⟨#[57,53]⟩:ByteArray),(⟨#[57,53,48,50]⟩:ByteArray)]
theorem C6_ok:C6.all qC=true∧kl iN C6=true∧(C6.all fun s=>decide (s.size≤100))=true:=⟨by kernel_rfl,by kernel_rfl,by kernel_rfl⟩
theorem P5_ok:P5.all BR=true∧kl iN P5=true∧(P5.all fun s=>decide (s.size≤100))=true:=⟨by kernel_rfl,by kernel_rfl,by kernel_rfl⟩
structure MA (i:Nat) (a:Zb):Prop where
 id:a.ID=2+5*(i:Int)
 kind:1≤a.Kind∧a.Kind≤3
 par:a.Parties.Sublist C6
 pre:(a.Rules.map (·.Prefix)).Sublist P5
 good:∀ x∈a.Rules,Good x.Rule (nM 1)
 ne:a.Rules≠[]
structure MAs (l:List Zb):Prop where
 len:1≤l.length∧l.length≤4
 all:∀ (i:Nat) (a:Zb),l[i]?=some a→MA i a
theorem P5_len {a:Zb} (h:(a.Rules.map (·.Prefix)).Sublist P5):a.Rules.length≤5:=by have:=h.length_le;simpa [P5] using this
theorem MA.strs {i:Nat} {a:Zb} (h:MA i a):StrsOk a.Parties:=by
 refine ⟨?_,fun s hs=>?_⟩
 ·have:=h.par.length_le;have h6:C6.length=6:=rfl;omega
 have:=of_decide_eq_true (List.all_eq_true.1 C6_ok.2.2 s (h.par.subset hs));omega
theorem MA.aok {i:Nat} {a:Zb} (h:MA i a):AOk a:=by
 refine ⟨h.strs,by have:=P5_len h.pre;omega,fun x hx=>?_⟩
 have hp:=of_decide_eq_true (List.all_eq_true.1 P5_ok.2.2 x.Prefix (h.pre.subset (List.mem_map_of_mem hx)))
 have hg:=h.good x hx
 exact ⟨by omega,hg.ok,by have h1:=rM x.Rule;have h2:=hg.size;simp only [nM] at h2;omega⟩
theorem MAs.ok {l:List Zb} (h:MAs l):ASOk l:=⟨by have:=h.len;omega,fun a ha=>by
 obtain ⟨i,hi,rfl⟩:=List.getElem_of_mem ha;exact (h.all i _ (List.getElem?_eq_getElem hi)).aok⟩
theorem MA.parties {i:Nat} {a:Zb} (h:MA i a):ke a.Parties=true:=by
 unfold ke
 rw [Bool.and_eq_true]
 refine ⟨List.all_eq_true.2 fun s hs=>List.all_eq_true.1 C6_ok.1 s (h.par.subset hs),?_⟩
 rw [lu];exact List.Pairwise.sublist h.par ((lu _).1 C6_ok.2.1)
theorem MA.rulesE {i:Nat} {a:Zb} (h:MA i a):rulesE a.Rules=0:=by
 have:cE (nL a.Rules) a.Rules 0=none:=by
  rw [mC]
  intro k x hx
  obtain ⟨hk,rfl⟩:=List.getElem?_eq_some_iff.1 hx
  have hmem:a.Rules[k]∈a.Rules:=List.getElem_mem hk
  have h1:=List.all_eq_true.1 P5_ok.1 _ (h.pre.subset (List.mem_map_of_mem hmem))
  have hg:=h.good _ hmem
  have h2:lP a.Rules[k].Rule=0:=(mM _).2 ⟨by have:=hg.size;simp only [nM] at this;omega,hg.valid⟩
  unfold nL
  rw [Nat.zero_add,h1,h2]
  have hpw:=List.Pairwise.sublist h.pre ((lu _).1 P5_ok.2.1)
  by_cases h0:0<k
  ·rw [fF (show k - 1<a.Rules.length by omega)]
   have:=(List.pairwise_iff_getElem.1 (List.pairwise_map.1 hpw)) (k - 1) k (by omega) hk (by omega)
   rw [this];simp
  simp [h0]
 unfold SX.rulesE;rw [this];rfl
theorem MAs.valid {l:List Zb} (h:MAs l):CT l=0:=by
 have:cE (xR l) l 0=none:=by
  rw [mC]
  intro k x hx
  obtain ⟨hk,rfl⟩:=List.getElem?_eq_some_iff.1 hx
  have hm:=h.all k _ hx
  have hl:=h.len
  unfold xR
  rw [Nat.zero_add,hm.parties,hm.rulesE]
  have i1:(decide (l[k].ID<1)||decide (1000<l[k].ID)||decide (l[k].Kind<1)||decide (3<l[k].Kind))=false:=by
   have e1:=hm.id;have e2:=hm.kind
   rw [bK (by omega),bK (by omega),bK (by omega),bK (by omega)];rfl
  have i2:(decide (12<l[k].Parties.length)||decide (12<l[k].Rules.length))=false:=by
   have e1:=hm.par.length_le;have e2:=P5_len hm.pre;have h6:C6.length=6:=rfl
   rw [bK (by omega),bK (by omega)];rfl
  rw [i1,i2]
  by_cases h0:0<k
  ·rw [fF (show k - 1<l.length by omega)]
   have hm2:=h.all (k - 1) _ (List.getElem?_eq_getElem (by omega))
   have e1:=hm.id;have e2:=hm2.id
   rw [bK (show ¬ l[k].ID≤(l[k-1]'(by omega)).ID by omega)];simp
  simp [h0]
 unfold CT
 rw [det (by have:=h.len;omega),this];rfl
theorem rN:gB=some C6:=rfl
def bitI (m:Int) (v:Int):Bool:=dw .i64 (cu .i64 m v) 1 == 1
theorem EX:((List.range 31).all fun m=>(List.range 5).any fun v=>bitI ((m+1:Nat):Int) (v:Int))=true:=by kernel_rfl
theorem has_bit {m:Int} (h1:1≤m) (h2:m≤31):∃ v:Nat,v<5∧bitI m (v:Int)=true:=by
 have:=List.all_eq_true.1 EX (m.toNat - 1) (List.mem_range.2 (by omega))
 obtain ⟨v,hv,h⟩:=List.any_eq_true.1 this
 rw [show ((m.toNat - 1+1:Nat):Int)=m by omega] at h
 exact ⟨v,List.mem_range.1 hv,h⟩
theorem ox (v:Nat):lf (v:Int)=some ():=by unfold lf;rw [if_pos (by omega)]
theorem CU {c:Int→Bool}:Y (aW (S:=Int×(List ByteArray)) (T:=((List ByteArray))) (fun (v22,l24)=>cond (decide (v22<6)) (Option.bind (Option.bind (lf v22) (fun _=>cond (c v22) (Option.bind (gB) (fun x44=>Option.bind (idx x44 v22) (fun m45=>Option.bind (app 16 l24 [m45]) (fun l48=>some l48)))) (some l24))) (fun l40=>some (.inl ((IntKind.i64.wrap (v22+1)),l40)))) (some (.inr l24))) FUEL (0,([]:List ByteArray))) (fun l=>l.Sublist C6):=by
 refine Y.loop (fun s=>∃ v:Nat,s.1=(v:Int)∧v≤6∧s.2.Sublist (C6.take v)) (fun s=>(6 - s.1).toNat) ⟨0,rfl,by omega,List.Sublist.refl _⟩ (by dsimp only;omega) fun s hs=>?_
 obtain ⟨i,l⟩:=s
 obtain ⟨v,rfl,h1,h2⟩:=hs
 dsimp only at h2 ⊢
 have hlen:l.length≤6:=by have:=h2.length_le;have h6:C6.length=6:=rfl;rw [List.length_take] at this;omega
 refine Y.cond (fun hc=>?_) (fun hc=>Y.ret (h2.trans (List.take_sublist _ _)))
 have hv:v<6:=by have:=of_decide_eq_true hc;omega
 have hs:=ow h2 (show v<C6.length from hv)
 refine Y.bind (P:=fun m:List ByteArray=>m.Sublist (C6.take (v+1))) (Y.eq (ox v) (Y.cond (fun _=>?_) fun _=>Y.ret hs.2)) fun m hm=>Y.ret ⟨⟨v+1,?_,by omega,hm⟩,?_⟩
 ·refine Y.eq rN (Y.idx rfl (show v<C6.length from hv) ?_)
  rw [cS (by simp;omega) (by simp;omega)];exact Y.ret hs.1
 ·show IntKind.i64.wrap ((v:Int)+1)=_;rw [cH (by omega) (by omega)];omega
 show (6 - IntKind.i64.wrap ((v:Int)+1)).toNat<(6 - (v:Int)).toNat;rw [cH (by omega) (by omega)];omega
theorem xV (p0:List Int):Y (gW p0) MAs:=by
 unfold gW
 refine (cut_Y p0 200 (by omega) (by omega)).bind fun x1 hx1=>?_
 refine (eE hx1 4 (by omega) (by omega)).bind fun x3 ⟨a1,a2,a3⟩=>?_
 rw [cH (r:=1+x3.1) (by omega) (by omega)]
 refine Y.bind (P:=MAs) ?_ fun l hl=>Y.ret hl
 refine Y.loop (fun s:List Zb×Int×List Int×Int=>(s.2.1=(s.1.length:Int)∧s.2.1≤1+x3.1)∧SOK ⟨s.2.2.1,s.2.2.2⟩∧∀ i a,s.1[i]?=some a→MA i a) (fun s=>(1+x3.1 - s.2.1).toNat) ⟨⟨rfl,by dsimp only;omega⟩,a3,by simp⟩ (by dsimp only;omega) fun s hs=>?_
 obtain ⟨l5,v8,l9,v10⟩:=s
 obtain ⟨⟨h1,h2⟩,h3,h4⟩:=hs
 dsimp only at h1 h2 h3 h4 ⊢
 refine Y.cond (fun hc=>?_) (fun hc=>Y.ret ⟨?_,h4⟩)
 rotate_left
 ·have hc:=of_decide_eq_false hc;omega
 have hc:=of_decide_eq_true hc
 refine (eE h3 3 (by omega) (by omega)).bind fun x19 ⟨b1,b2,b3⟩=>?_
 refine (eE b3 64 (by omega) (by omega)).bind fun x21 ⟨c1,c2,c3⟩=>?_
 refine (CU (c:=fun v=>dw .i64 (cu .i64 (nQ .i64 x21.1 3) v) 1 == 1)).bind fun l31 hl31=>?_
 refine Y.bind (P:=fun r:Int×Zj=>SOK r.2) (Y.gdp (fun _=>(eE c3 2 (by omega) (by omega)).mono fun r hr=>hr.2.2) fun _=>c3) fun x53 hx53=>?_
 refine Y.bind (P:=fun t:List Int×Int×List Zi=>SOK ⟨t.1,t.2.1⟩∧(t.2.2.map (·.Prefix)).Sublist P5∧(∀ x∈t.2.2,Good x.Rule (nM 1))∧t.2.2≠[]) ?_ fun t ⟨t1,t2,t3,t4⟩=>?_
 ·refine Y.cond (fun hc2=>?_) fun hc2=>?_
  ·simp only [Bool.and_eq_true,decide_eq_true_eq] at hc2
   obtain ⟨j,hj⟩:∃ j:Nat,v8 - 1=(j:Int):=⟨(v8 - 1).toNat,by omega⟩
   refine Y.idx (n:=j) (by rw [cH (by omega) (by omega)];exact hj) (show j<l5.length by omega) ?_
   have:=h4 j _ (List.getElem?_eq_getElem (by omega))
   exact Y.ret ⟨hx53,this.pre,this.good,this.ne⟩
  refine (eE hx53 31 (by omega) (by omega)).bind fun x64 ⟨d1,d2,d3⟩=>?_
  refine Y.bind (P:=fun t:List Int×Int×List Zi=>SOK ⟨t.1,t.2.1⟩∧(t.2.2.map (·.Prefix)).Sublist P5∧(∀ x∈t.2.2,Good x.Rule (nM 1))∧t.2.2≠[]) ?_ fun t ht=>Y.ret ht
  refine Y.loop (fun s:Int×List Int×Int×List Zi=>∃ v:Nat,s.1=(v:Int)∧v≤5∧SOK ⟨s.2.1,s.2.2.1⟩∧(s.2.2.2.map (·.Prefix)).Sublist (P5.take v)∧(∀ x∈s.2.2.2,Good x.Rule (nM 1))∧(s.2.2.2≠[]∨∀ u:Nat,u<v→bitI (1+x64.1) (u:Int)=false)) (fun s=>(5 - s.1).toNat) ⟨0,rfl,by omega,d3,List.Sublist.refl _,by simp,.inr (fun u hu=>absurd hu (Nat.not_lt_zero _))⟩ (by dsimp only;omega) fun s hs=>?_
  obtain ⟨i,l,k,m⟩:=s
  obtain ⟨v,rfl,e1,e2,e3,e4,e5⟩:=hs
  dsimp only at e2 e3 e4 e5 ⊢
  have hlen:m.length≤5:=by have:=e3.length_le;have h6:P5.length=5:=rfl;rw [List.length_take,List.length_map] at this;omega
  refine Y.cond (fun hc3=>?_) (fun hc3=>Y.ret ⟨e2,e3.trans (List.take_sublist _ _),e4,?_⟩)
  rotate_left
  ·have h5:v=5:=by have:=of_decide_eq_false hc3;omega
   rcases e5 with e5 | e5
   ·exact e5
   obtain ⟨u,hu,hb⟩:=has_bit (m:=1+x64.1) (by omega) (by omega)
   rw [e5 u (by omega)] at hb;cases hb
  have hv:v<5:=by have:=of_decide_eq_true hc3;omega
  have hs:=ow e3 (show v<P5.length from hv)
  refine Y.bind (P:=fun t:List Int×Int×List Zi=>SOK ⟨t.1,t.2.1⟩∧(t.2.2.map (·.Prefix)).Sublist (P5.take (v+1))∧(∀ x∈t.2.2,Good x.Rule (nM 1))∧(t.2.2≠[]∨∀ u:Nat,u<v+1→bitI (1+x64.1) (u:Int)=false)) (Y.eq (ox v) (Y.cond (fun _=>?_) fun hbit=>Y.ret ⟨e2,hs.2,e4,?_⟩)) fun t ⟨t1,t2,t3,t4⟩=>Y.ret ⟨⟨v+1,?_,by omega,t1,t2,t3,t4⟩,?_⟩
  ·refine Y.idx (xs:=P5) rfl (show v<P5.length from hv) ?_
   refine (rule_Y 1 FUEL ⟨l,k⟩ 0 (jT (by omega)) (by omega) e2 (.inl rfl)).bind fun r ⟨r1,r2,r3⟩=>?_
   rw [cS (by simp;omega) (by simp;omega)]
   refine Y.ret ⟨r3,by rw [List.map_append];exact hs.1,fun z hz=>?_,.inl (by simp)⟩
   rcases List.mem_append.1 hz with hz | hz
   ·exact e4 z hz
   rw [List.mem_singleton.1 hz];exact r1
  ·rcases e5 with e5 | e5
   ·exact .inl e5
   refine .inr fun u hu=>?_
   rcases Nat.lt_or_ge u v with h | h
   ·exact e5 u h
   obtain rfl:u=v:=by omega
   rw [cH (by omega) (by omega)] at hbit;exact hbit
  ·show IntKind.i64.wrap ((v:Int)+1)=_;rw [cH (by omega) (by omega)];omega
  show (5 - IntKind.i64.wrap ((v:Int)+1)).toNat<(5 - (v:Int)).toNat;rw [cH (by omega) (by omega)];omega
 obtain ⟨l55,v56,l58⟩:=t
 dsimp only at t1 t2 t3 ⊢
 rw [cS (by simp;omega) (by simp;omega),bg,cH (r:=v8+1) (by omega) (by omega),cH (r:=1+x19.1) (by omega) (by omega),cH (r:=5*v8) (by omega) (by omega),cH (by omega) (by omega)]
 refine Y.ret ⟨⟨⟨by simp;omega,by dsimp only;omega⟩,t1,fun i a ha=>?_⟩,by dsimp only;omega⟩
 rw [List.getElem?_append] at ha
 split at ha
 ·exact h4 i a ha
 rename_i hi
 have hi0:i - l5.length=0:=by have:=(List.getElem?_eq_some_iff.1 ha).1;simp at this;omega
 rw [hi0] at ha
 simp only [List.getElem?_cons_zero,ey] at ha
 subst ha
 exact ⟨by dsimp only;omega,⟨by dsimp only;omega,by dsimp only;omega⟩,hl31,t2,t3,t4⟩
structure RawA (a:Zb):Prop where
 par:StrsOk a.Parties
 len:a.Rules.length≤140737488355328
 rules:∀ x∈a.Rules,x.Prefix.size≤140737488355328∧ROk x.Rule
theorem js {α:Type} {b:Nat} {l:List α} (h:l.length≤1000000000) (hb:b≤1000):app b ([]:List α) l=some l:=by
 have:=Nat.mul_le_mul h hb
 exact cS (by simpa using (by omega:l.length*b≤140737488355328)) (by simp;omega)
def k0 (W:World):Kr:=⟨W,fun b=>b<W.heap.size⟩
theorem gq {t:Nat} {z:Value} {s b:Nat} (h:fY t=some (z,s,b)):Tryz.prog.cellsOf t=s∧Tryz.prog.bytesOf t=b:=by
 obtain ⟨i,h1,h2,h3,h4⟩:=qi h
 constructor
 ·simp [Program.cellsOf,h1,h3]
 simp [Program.bytesOf,h1,h4]
def Light {H:Type} (t:Nat) (d:DataW H):Prop:=∀ n∈d.weights Tryz.prog t,n≤reachBytes
theorem EY {H:Type} (d:DataW H):1≤Rows.uptoBulk d:=by
 cases d with
 | lit l=>cases l <;> simp [Rows.uptoBulk]
 | nil=>simp [Rows.uptoBulk]
 | ptr d=>simp [Rows.uptoBulk]
 | slice elems spare=>simp [Rows.uptoBulk]
 | agg parts=>simp [Rows.uptoBulk]
 | iface t d=>simp [Rows.uptoBulk]
 | map entries=>simp [Rows.uptoBulk]
 | held h=>simp [Rows.uptoBulk]
theorem CV {H:Type} {d:DataW H} {l:List (DataW H)} (h:d∈l):Rows.uptoBulk d≤Rows.uptoBulkAll l:=by
 induction l with
 | nil=>cases h
 | cons x r ih =>
  simp only [Rows.uptoBulkAll]
  cases List.mem_cons.1 h with
  | inl e=>subst e;omega
  | inr e=>have:=ih e;omega
theorem EZ {H:Type} (l:List (DataW H)):l.length≤Rows.uptoBulkAll l:=by
 induction l with
 | nil=>simp [Rows.uptoBulkAll]
 | cons x r ih=>have:=EY x;simp only [Rows.uptoBulkAll,List.length_cons];omega
def Opens {H:Type} (eh:TypeId×Value→H) {α:Type} (n:Nat) (t:Nat) (e:α→List PV) (B:α→Prop):Prop :=
 ∀ (W:World) (fuel:Nat) (cs:List Value) (x:DataW H×List MemPlace),DataW.trod eh Tryz.prog W 0 (fun _=>true) true fuel t cs=some x→Light t x.1→Rows.uptoBulk x.1≤n→∃ m,Rps (k0 W) (e m) cs∧One cs∧B m
section
variable {H:Type} {eh:TypeId×Value→H} {nb:Nat}
theorem one1 {v:Value} (h:v.oneCell'=true):One [v]:=fun u hu=>by rw [List.mem_singleton.1 hu];exact h
theorem CW {t:Nat} {k:IntKind} (h:eO t=some (.int k)):Opens eh nb t (fun x:Int=>[.v (.int k x)]) (fun _=>True):=fun W fuel cs x hx _ _=>by
 obtain ⟨n,rfl,_,_⟩:=DataW.trod_int (bB h) hx
 exact ⟨n,.cons (.v rfl) .nil,one1 rfl,trivial⟩
theorem pR {e:Nat}:∀ {l:List (DataW H)} {d:DataW H} {n:Nat},d∈l→n∈d.weights Tryz.prog e→n∈DataW.weightsAll Tryz.prog e l
 | d'::l,d,n,hd,hn=>by
  simp only [DataW.weightsAll,List.mem_append]
  rcases List.mem_cons.1 hd with rfl | hd
  ·exact .inl hn
  exact .inr (pR hd hn)
theorem BU {α β:Type} {R:α→β→Prop}:∀ (l:List β),(∀ b∈l,∃ a,R a b)→∃ la:List α,la.length=l.length∧∀ (i:Nat) (b:β),l[i]?=some b→∃ a,la[i]?=some a∧R a b
 | [],_=>⟨[],rfl,fun i b h=>by simp at h⟩
 | b::l,h=>by
  obtain ⟨a,ha⟩:=h b (by simp)
  obtain ⟨la,h1,h2⟩:=BU l fun b hb=>h b (by simp [hb])
  refine ⟨a::la,by simp [h1],fun i b' hb=>?_⟩
  cases i with
  | zero=>simp only [List.getElem?_cons_zero,ey] at hb;subst hb;exact ⟨a,rfl,ha⟩
  | succ i=>simp only [List.getElem?_cons_succ] at hb ⊢;exact h2 i b' hb
def OpensN {H:Type} (eh:TypeId×Value→H) {α:Type} (N n:Nat) (t:Nat) (e:α→List PV) (B:α→Prop):Prop :=
 ∀ (W:World) (fuel:Nat) (cs:List Value) (x:DataW H×List MemPlace),fuel<N→DataW.trod eh Tryz.prog W 0 (fun _=>true) true fuel t cs=some x→Light t x.1→Rows.uptoBulk x.1≤n→∃ m,Rps (k0 W) (e m) cs∧One cs∧B m
theorem xW {α:Type} {N t E sz by':Nat} {z:Value} {e:α→List PV} {B:α→Prop} (hu:eO t=some (.slice E)) (hi:fY E=some (z,sz,by')) (h0:Nat.blt 0 sz=true) (hb0:Nat.blt 0 by'=true) (hE:OpensN eh N nb E e B):OpensN eh (N+1) nb t (eL e) (fun l=>l.length*by'≤140737488355328∧l.length≤nb∧∀ x∈l,B x):=fun W fuel cs x hfu hx hw hbk=>by
 obtain ⟨hcz,hby⟩:=gq hi
 have hsz:0<sz:=by have:=h0;simp [Nat.blt] at this;omega
 have hbp:0<by':=by have:=hb0;simp [Nat.blt] at this;omega
 rcases DataW.trod_slice (bB hu) hx with ⟨rfl,_⟩ | ⟨a,len,cap,elems,rest,n,rfl,rfl,rfl,_,hl,hm,hlen,hel,_,_⟩
 ·exact ⟨[],.cons (.slc (sz:=sz) (css:=[]) Sl.nil (Nat.zero_le _) (fun _ h=>by cases h) .nil) .nil,one1 rfl,by simp,Nat.zero_le _,fun _ h=>by cases h⟩
 rw [hcz] at hel
 have hwl:(elems.length+rest.length)*by'≤reachBytes:=by
  have:=hw ((elems.length+rest.length)*by') (by simp only [DataW.weights,bB hu,hby,List.length_map];exact List.mem_cons_self)
  exact this
 have hn:len≤140737488355328:=by
  unfold reachBytes at hwl
  have:elems.length*1≤(elems.length+rest.length)*by':=Nat.mul_le_mul (by omega) (by omega)
  omega
 have hcells:∀ i∈List.range len,∃ p:α×List Value,W.cells? 0 (a.add (i*sz)) sz=some p.2∧Rps (k0 W) (e p.1) p.2∧One p.2∧B p.1:=fun i hi'=>by
  have hi':i<len:=List.mem_range.1 hi'
  have h1:=hel i hi'
  have hlt:i<elems.length:=by omega
  rw [List.getElem?_eq_getElem hlt] at h1
  obtain ⟨cs,h2,h3⟩:=Option.bind_eq_some_iff.1 h1
  obtain ⟨m,k1,k2,k3⟩:=hE W n cs _ (by omega) h3 (fun q hq=>hw q (by
   simp only [DataW.weights,bB hu]
   exact List.mem_cons_of_mem _ (List.mem_append.2 (.inl (pR (List.mem_map.2 ⟨_,List.getElem_mem hlt,rfl⟩) hq))))) (by
   have h9:=CV (l:=elems.map (·.1)) (List.mem_map.2 ⟨_,List.getElem_mem hlt,rfl⟩)
   simp only [Rows.uptoBulk] at hbk
   omega)
  exact ⟨(m,cs),h2,k1,k2,k3⟩
 obtain ⟨ps,g1,g2⟩:=BU (R:=fun (p:α×List Value) i=>W.cells? 0 (a.add (i*sz)) sz=some p.2∧Rps (k0 W) (e p.1) p.2∧One p.2∧B p.1) (List.range len) hcells
 rw [List.length_range] at g1
 have g3:∀ (i:Nat) (p:α×List Value),ps[i]?=some p→W.cells? 0 (a.add (i*sz)) sz=some p.2∧Rps (k0 W) (e p.1) p.2∧One p.2∧B p.1:=fun i p hp=>by
  have hlt:=(List.getElem?_eq_some_iff.1 hp).1
  obtain ⟨p',h1,h2⟩:=g2 i i (by rw [List.getElem?_range (by omega)])
  rw [hp] at h1;injection h1 with h1;subst h1;exact h2
 have hps:(ps.map (·.1)).length=len:=by simp [g1]
 refine ⟨ps.map (·.1),?_,one1 rfl,?_,?_,?_⟩
 rotate_left
 ·rw [hps]
  have h9:len*by'≤(elems.length+rest.length)*by':=Nat.mul_le_mul_right _ (by omega)
  unfold reachBytes at hwl
  omega
 ·rw [hps]
  have h9:=EZ (elems.map (·.1))
  rw [List.length_map] at h9
  simp only [Rows.uptoBulk] at hbk
  omega
 ·intro x hx
  obtain ⟨p,hp,rfl⟩:=List.mem_map.1 hx
  obtain ⟨i,hi',rfl⟩:=List.getElem_of_mem hp
  exact (g3 i _ (List.getElem?_eq_getElem hi')).2.2.2
 unfold eL;rw [hps]
 refine .cons (.slc (sz:=sz) (css:=ps.map (·.2)) ⟨by simp [g1],hl,?_,?_⟩ hn ?_ ?_) .nil
 ·intro c hc
  obtain ⟨p,hp,rfl⟩:=List.mem_map.1 hc
  obtain ⟨i,hi',rfl⟩:=List.getElem_of_mem hp
  exact (World.cells?_some (g3 i _ (List.getElem?_eq_getElem hi')).1).2.1
 ·intro hpos
  have hp0:0<ps.length:=by omega
  have hc0:=(World.cells?_some (g3 0 _ (List.getElem?_eq_getElem hp0)).1)
  have hread:=hc0.2.2 0 hsz
  have hspot:a.spot=none:=by
   have hlt:0<(ps[0]).2.length:=by rw [hc0.2.1];exact hsz
   rw [List.getElem?_eq_getElem hlt] at hread
   unfold World.cell? at hread
   cases hs:a.spot with
   | none=>rfl
   | some q =>
    have hsp:((a.add (0*sz)).add 0).spot.isSome=true:=by simp [Addr.add,hs]
    split at hread
    ·rw [if_pos hsp] at hread;cases hread
    cases hread
  obtain ⟨ab,ao,asp⟩:=a
  simp only at hspot;subst hspot
  refine ⟨ab,ao,rfl,fun j c hj=>?_⟩
  rw [List.getElem?_map] at hj
  cases hpj:ps[j]? with
  | none=>rw [hpj] at hj;cases hj
  | some p =>
   rw [hpj] at hj;simp only [Option.map_some,ey] at hj;subst hj
   have hcj:=World.cells?_some (g3 j p hpj).1
   refine ⟨?_,fun i u hu'=>?_⟩
   ·have h1:=hcj.2.2 0 hsz
    have hlt:0<p.2.length:=by rw [hcj.2.1];exact hsz
    rw [List.getElem?_eq_getElem hlt,gS,gS] at h1
    unfold World.cell? at h1
    split at h1
    ·rename_i heq
     have:=nZ heq
     exact this
    cases h1
   have hlt:i<sz:=by have:=(List.getElem?_eq_some_iff.1 hu').1;omega
   have h1:=hcj.2.2 i hlt
   rw [gS,gS] at h1
   rw [← hu'];exact h1
 ·intro c hc
  obtain ⟨p,hp,rfl⟩:=List.mem_map.1 hc
  obtain ⟨i,hi',rfl⟩:=List.getElem_of_mem hp
  exact (g3 i _ (List.getElem?_eq_getElem hi')).2.2.1
 have:∀ (l:List (α×List Value)),(∀ p∈l,Rps (k0 W) (e p.1) p.2)→Rpss (k0 W) ((l.map (·.1)).map e) (l.map (·.2)):=fun l=>by
  induction l with
  | nil=>exact fun _=>.nil
  | cons p l ih=>exact fun h=>.cons (h p (by simp)) (ih fun q hq=>h q (by simp [hq]))
 refine this ps fun p hp=>?_
 obtain ⟨i,hi',rfl⟩:=List.getElem_of_mem hp
 exact (g3 i _ (List.getElem?_eq_getElem hi')).2.1
theorem pT {α:Type} {t E sz by':Nat} {z:Value} {e:α→List PV} {B:α→Prop} (hu:eO t=some (.slice E)) (hi:fY E=some (z,sz,by')) (h0:Nat.blt 0 sz=true) (hb0:Nat.blt 0 by'=true) (hE:Opens eh nb E e B):Opens eh nb t (eL e) (fun l=>l.length*by'≤140737488355328∧l.length≤nb∧∀ x∈l,B x):=fun W fuel cs x hx hw =>
 xW (N:=fuel) hu hi h0 hb0 (fun W' f' cs' x' _=>hE W' f' cs' x') W fuel cs x (Nat.lt_succ_self _) hx hw
theorem pV {κ:Kr} {cs:List Value} {off sz:Nat} {ps qs:List PV} (h:Rps κ ps ((cs.drop off).take sz)) (h2:Rps κ qs (cs.drop (off+sz))):Rps κ (ps++qs) (cs.drop off):=by
 have e:cs.drop off=(cs.drop off).take sz++cs.drop (off+sz):=by rw [← List.drop_drop,List.take_append_drop]
 rw [e];exact h.app h2
theorem pW {cs:List Value} {off sz:Nat} (h:One ((cs.drop off).take sz)) (h2:One (cs.drop (off+sz))):One (cs.drop off):=by
 have e:cs.drop off=(cs.drop off).take sz++cs.drop (off+sz):=by rw [← List.drop_drop,List.take_append_drop]
 rw [e];exact fun u hu=>(List.mem_append.1 hu).elim (h u) (h2 u)
theorem BV {κ:Kr} {cs:List Value} {off:Nat} (h:cs.length=off):Rps κ [] (cs.drop off):=by rw [List.drop_of_length_le (by omega)];exact .nil
theorem BW {cs:List Value} {off:Nat} (h:cs.length=off):One (cs.drop off):=by rw [List.drop_of_length_le (by omega)];exact fun _ h=>by cases h
end
end SX
end Go.Proofs.YtgmbmepakpcpaaaGreatDoor
set_option maxRecDepth 100000
namespace Go.Proofs.YtgmbmepakpcpaaaGreatDoor
open Go Go.ChangeShapes Go.WideShapes Go.RowKit
namespace SX
theorem own_ok:ownKnob Tryz.prog.godebug=none:=by kernel_rfl
theorem AQ:laidOutB Tryz.prog=true:=by kernel_rfl
def wJ:List (String×DataW Unit):=[("unicode/utf8.acceptRanges",Rows.laid_unicode_utf8_acceptRanges),("customs/nomenclature.lengths",Rows.laid_customs_nomenclature_lengths),("unicode/utf8.first",Rows.laid_unicode_utf8_first)]
mutual
def AR:DataW Unit→List Value
 | .lit (.int k n)=>[.int k n]
 | .agg ds=>BX ds
 | _=>[]
def BX:List (DataW Unit)→List Value
 | []=>[]
 | d::r=>AR d++BX r
end
def c_acc:Array Value:=(AR Rows.laid_unicode_utf8_acceptRanges).toArray
def zA:Array Value:=#[.int .i64 2,.int .i64 4,.int .i64 6,.int .i64 8]
def BY:Array Value:=(AR Rows.laid_unicode_utf8_first).toArray
def E0 (h:Array Obj) (g:Nat) (cs:Array Value):Array Obj:=h.modify g fun | .cells _ t frozen=>.cells cs t frozen | o=>o
noncomputable def laidWorld (os:Os):World :=
 { World.holding Tryz.prog os ⟨#[],#[],[]⟩ with heap:=E0 (E0 (E0 (World.holding Tryz.prog os ⟨#[],#[],[]⟩).heap 4 c_acc) 0 zA) 3 BY }
theorem vd:(wJ.filter fun x=>x.2.handleName?.isSome)=[]:=by kernel_rfl
def E3 (w:World):MemPlace→Bool
 | .cell b off=>match w.heap[b]? with
  | some (.cells c _ (0,0))=>match c[off]? with | some (.iface _ _)=>false | _=>true
  | _=>false
 | _=>true
theorem AS {w:World} {ps:List MemPlace} (h:ps.all (E3 w)=true):∀ b off,MemPlace.cell b off∈ps→(∃ c t,w.heap[b]?=some (.cells c t (0,0)))∧∀ u v,w.cell? ⟨b,off,none⟩=some (.iface u v)→Value.okWide Tryz.prog w .any 0 u v:=fun b off hm=>by
 have:=List.all_eq_true.1 h _ hm
 unfold E3 at this
 split at this
 ·rename_i b' off' e
  injection e with e1 e2;subst e1;subst e2
  split at this
  ·rename_i c t heq
   refine ⟨⟨c,t,heq⟩,fun u v hc=>?_⟩
   simp only [World.cell?,heq] at hc
   split at this
   ·cases this
   rename_i hno;exact absurd hc (by simpa using hno u v)
  cases this
 rename_i hno;exact absurd rfl (hno b off)
theorem vW (os:Os) (args:Array Value):laidMetH Tryz.prog wJ ((laidWorld os).forCall (fun _ _=>0) ⟨#[],args,[]⟩).memory:=by
 unfold laidMetH
 rw [vd]
 refine ⟨_,⟨4,275,c_acc,8,[],_,by kernel_rfl,by kernel_rfl,by kernel_rfl,by kernel_rfl,⟨0,213,zA,8,[],_,by kernel_rfl,by kernel_rfl,by kernel_rfl,by kernel_rfl,⟨3,272,BY,8,[],_,by kernel_rfl,by kernel_rfl,by kernel_rfl,by kernel_rfl,rfl,rfl⟩,rfl⟩,rfl⟩,?_,?_⟩
 ·exact of_decide_eq_true (by kernel_rfl)
 exact AS (by kernel_rfl)
theorem mY {H:Type} {eh:TypeId×Value→H} {P:Program} {w:World} {base:Nat} {sp:Nat→Bool} {held:Bool} {fuel:Nat} {t:TypeId} {k:IntKind} {c:Value} {y:DataW H×List MemPlace} (ht:P.underlying t=some (.int k)) (h:DataW.trod eh P w base sp held fuel t [c]=some y):∃ n,c=.int k n∧y=(.lit (.int k n),[]):=by
 obtain ⟨n,h1,h2,_⟩:=DataW.trod_int ht h
 injection h1 with h1 _
 exact ⟨n,h1,h2⟩
theorem zB {W:World} (h:laidMetH Tryz.prog wJ W):GOK (k0 W):=by
 unfold laidMetH at h
 rw [vd] at h
 obtain ⟨ps,⟨_,_,_,_,_,_,_,_,_,_,⟨g,t,cs,fuel,p,q,hg,ht,hvar,hd,_,_⟩,_⟩,_⟩:=h
 obtain rfl:=Option.some.inj ((show Tryz.prog.globalNamed "customs/nomenclature.lengths" = some 0 by kernel_rfl).symm.trans hg)
 obtain rfl:=Option.some.inj ((show (Tryz.prog.globals[0]?).map (·.type)=some 213 by kernel_rfl).symm.trans ht)
 have hcs:cs=zA:=by
  obtain ⟨l⟩:=cs
  cases fuel with
  | zero=>simp [DataW.trod] at hd
  | succ fuel =>
   have hc1:=(gq (t:=213) rfl).1
   have hc2:=(gq (t:=3) rfl).1
   have hu1:Tryz.prog.underlying 213=some (.array 4 3):=bB rfl
   simp only [DataW.trod,hu1,hc1,hc2] at hd
   split at hd
   ·rename_i hl
    obtain ⟨c0,c1,c2,c3,rfl⟩:∃ c0 c1 c2 c3,l=[c0,c1,c2,c3]:=by
     match l,hl with
     | [a,b,c,d],_=>exact ⟨a,b,c,d,rfl⟩
    have e:List.range 4=[0,1,2,3]:=rfl
    rw [e] at hd
    simp only [Option.map_eq_some_iff,List.mapM_cons,List.mapM_nil,Option.bind_eq_bind,Option.bind_eq_some_iff,Option.pure_def,ey] at hd
    obtain ⟨xs,⟨y0,h0,_,⟨y1,h1,_,⟨y2,h2,_,⟨y3,h3,_,rfl,rfl⟩,rfl⟩,rfl⟩,rfl⟩,hx⟩:=hd
    have hui:Tryz.prog.underlying 3=some (.int .i64):=bB rfl
    obtain ⟨n0,rfl,rfl⟩:=mY hui h0
    obtain ⟨n1,rfl,rfl⟩:=mY hui h1
    obtain ⟨n2,rfl,rfl⟩:=mY hui h2
    obtain ⟨n3,rfl,rfl⟩:=mY hui h3
    simp [Rows.laid_customs_nomenclature_lengths] at hx
    obtain ⟨⟨rfl,rfl,rfl,rfl⟩,_⟩:=hx
    rfl
   cases hd
 subst hcs
 have hcell:∀ j u,zA[j]?=some u→W.cell? ⟨0,j,none⟩=some u:=fun j u hu=>by
  have:=World.var?_cell hg hvar j
  rw [this];exact hu
 refine ⟨?_,fun j u hu=>?_⟩
 ·have h0:=hcell 0 _ rfl
  unfold World.cell? at h0
  split at h0
  ·rename_i heq;exact nZ heq
  cases h0
 rw [Nat.zero_add];exact hcell j u (by simpa [zA] using hu)
end SX
end Go.Proofs.YtgmbmepakpcpaaaGreatDoor
set_option maxRecDepth 100000
namespace Go.Proofs.YtgmbmepakpcpaaaGreatDoor
open Go Go.ChangeShapes Go.WideShapes Go.RowKit
namespace SX
theorem inv0 (W:World):Zp ⟨k0 W,[]⟩ [] (k0 W):=⟨.refl _ _,fun _ h=>h,(fun _ h=>by cases h),(fun _ h=>by cases h),.nil⟩
theorem E4 {W:World} {ρ:List Res} {κ:Kr} (h:Zp ⟨k0 W,[]⟩ ρ κ):Below W.heap.size W κ.w:=⟨h.le.os,h.le.tape,h.le.output,h.le.kle.size,fun k hk=>h.le.same k hk (by simp)⟩
section
variable {H:Type} {eh:TypeId×Value→H}
theorem vX {W W':World} (hb:Below W.heap.size W W') {ts:List TypeId} (hr:∀ t∈ts,Tryz.prog.readableRec t=true∧t<Tryz.prog.types.size):∀ {vs:List Value} {ds:List (DataW H)} {ps:List MemPlace},DataW.TrodAll eh Tryz.prog W 0 (fun _=>true) true ts vs ds ps→(∀ p∈ps,p.block<W.heap.size)→DataW.TrodAll eh Tryz.prog W' 0 (fun b=>decide (b<W.heap.size)) true ts vs ds ps:=by
 induction ts with
 | nil=>intro vs ds ps h _;cases vs <;> cases ds <;> first | exact h | cases h
 | cons t ts ih =>
  intro vs ds ps h hlt
  cases vs with
  | nil=>cases h
  | cons v vs =>
   cases ds with
   | nil=>cases h
   | cons d ds =>
    obtain ⟨p,q,h1,h2,e⟩:=h
    have ht:=hr t (by simp)
    exact ⟨p,q,Below.trod AQ ht.1 ht.2 h1 hb (fun x hx=>hlt x (by rw [e];simp [hx])),ih (fun u hu=>hr u (by simp [hu])) h2 (fun x hx=>hlt x (by rw [e];simp [hx])),e⟩
theorem readB {ts:List TypeId} (h:(ts.all fun t=>Tryz.prog.readableRec t&&Nat.blt t Tryz.prog.types.size)=true):∀ t∈ts,Tryz.prog.readableRec t=true∧t<Tryz.prog.types.size:=fun t ht=>by
 have:=List.all_eq_true.1 h t ht
 rw [Bool.and_eq_true] at this
 exact ⟨this.1,by have h2:=this.2;exact Nat.le_of_ble_eq_true h2⟩
theorem E5 {f tb:Nat} {fn:Func} {s:ChangeSpec} {W:World} {args:Array Value} {ds gs:List (DataW H)} {before:List MemPlace} {pargs:List PV}
    (hrd:∀ t∈fn.params.toList,Tryz.prog.readableRec t=true∧t<Tryz.prog.types.size) (hres:fn.resultTypes=#[tb]) (hub:Tryz.prog.underlying tb=some .bool) (hvars:s.vars=[])
    (hspec:s.fn H ds={ results:=[.lit (.bool true)],args:=ds }) (hW:DataW.Whole eh Tryz.prog fn.params.toList s.vars false W args.toList ds gs before) (hG:GOK (k0 W)) (hargs:Rps (k0 W) pargs args.toList) (hPF:PF f pargs (.v (.bool true))) :
    Calls Tryz.prog f args W fun e W'=>∃ v,e=.returned v∧s.post eh Tryz.prog fn false true false false W args v W':=by
  have hc:=(hPF (k0 W) args.toList hG hargs).2 (inv0 W)
  have e:args.toList.toArray=args:=by simp
  rw [e] at hc
  refine Calls.mono hc fun en W' ⟨v,ρ',κ',h1,h2,h3,h4,h5⟩=>⟨v,h1,?_⟩
  subst h2
  have hv:=h5.val
  subst hv
  have hb:=E4 h3
  have hW':=hW
  obtain ⟨p,q,hA,hV,rfl,hfz,hnd⟩:=hW
  rw [hvars] at hV
  obtain ⟨rfl,rfl⟩:gs=[]∧q=[]:=by
    cases gs with
    | nil=>exact ⟨rfl,hV⟩
    | cons g r=>exact absurd hV (by intro h;cases h)
  refine ⟨ds,[],_,[],p,[],hW',?_,?_,?_,hb.frame _,fun h=>by cases h⟩
  · rw [List.append_nil,hspec,hres];exact trodAll_mk1 (shut_bool hub true)
  · rw [List.append_nil,hspec];exact vX hb hrd hA (DataW.TrodAll.lt hA)
  rw [hvars,List.append_nil,hspec];rfl
theorem trodAll_cons {W:World} {t:TypeId} {ts:List TypeId} {vs:List Value} {ds:List (DataW H)} {ps:List MemPlace} (h:DataW.TrodAll eh Tryz.prog W 0 (fun _=>true) true (t::ts) vs ds ps):∃ v vs' d ds' p q,vs=v::vs'∧ds=d::ds'∧DataW.Trod eh Tryz.prog W 0 (fun _=>true) true t v d p∧DataW.TrodAll eh Tryz.prog W 0 (fun _=>true) true ts vs' ds' q:=by
 cases vs with
 | nil=>cases h
 | cons v vs =>
  cases ds with
  | nil=>cases h
  | cons d ds=>obtain ⟨p,q,h1,h2,_⟩:=h;exact ⟨v,vs,d,ds,p,q,rfl,rfl,h1,h2⟩
theorem trodAll_nil {W:World} {vs:List Value} {ds:List (DataW H)} {ps:List MemPlace} (h:DataW.TrodAll eh Tryz.prog W 0 (fun _=>true) true [] vs ds ps):vs=[]∧ds=[]:=by
 cases vs <;> cases ds <;> first | exact ⟨rfl,rfl⟩ | cases h
theorem zC {l:Array TypeId} (h:(l.toList.all fun t => !Tryz.prog.wantsStandIn t)=true) {j:Nat} {t:TypeId} (ht:l[j]?=some t):Tryz.prog.wantsStandIn t=false:=by
 have:=List.all_eq_true.1 h t (by have:=Array.mem_of_getElem? ht;simpa using this)
 simpa using this
theorem light_head {t:Nat} {ts:List Nat} {d:DataW H} {ds:List (DataW H)} (h:(DataW.weightsEach Tryz.prog (t::ts) (d::ds)).all (· ≤ reachBytes)=true):Light t d∧(DataW.weightsEach Tryz.prog ts ds).all (· ≤ reachBytes)=true:=by
 simp only [DataW.weightsEach,List.all_append,Bool.and_eq_true] at h
 exact ⟨fun n hn=>by simpa using List.all_eq_true.1 h.1 n hn,h.2⟩
def vf:TypeDesc→Bool
 | .int _ | .bool | .string | .slice _=>true
 | _=>false
theorem not_agg {W:World} {r:Reach} {base t:Nat} {v:Value} {D:TypeDesc} (hu:eO t=some D) (hD:vf D=true) (h:Value.okWide Tryz.prog W r base t v):∀ cs,v.cells.toList=[cs]→v=cs:=fun cs he=>by
 cases v with
 | agg arr =>
  exfalso
  unfold Value.okWide at h
  rw [bB hu] at h
  cases D <;> first | (revert hD;simp [vf];done) | (simp only at h;unfold Cell.okWide at h;rw [bB hu] at h;simp only at h;unfold Cell.ok at h;rw [bB hu] at h;simp at h)
 | _=>simpa [Value.cells] using he
theorem tT {nb:Nat} {W:World} {r:Reach} {base t:Nat} {v:Value} {D:TypeDesc} {α:Type} {e:α→List PV} {B:α→Prop} {d:DataW H} {ps:List MemPlace} (hu:eO t=some D) (hD:vf D=true) (hO:Opens eh nb t e B) (h1:∀ m,∃ p,e m=[p]) (h:Value.okWide Tryz.prog W r base t v) (hd:DataW.Trod eh Tryz.prog W 0 (fun _=>true) true t v d ps) (hl:Light t d) (hn:Rows.uptoBulk d≤nb):∃ m,Rps (k0 W) (e m) [v]∧B m:=by
 obtain ⟨fuel,hf⟩:=hd
 obtain ⟨m,h2,_,h9⟩:=hO W fuel _ _ hf hl hn
 refine ⟨m,?_,h9⟩
 obtain ⟨p,hp⟩:=h1 m
 rw [hp] at h2
 generalize hc:v.cells.toList=cs at h2
 obtain ⟨w,ws,rfl,h3,h4⟩:=h2.cons_inv
 rw [h4.nil_inv] at hc
 rw [not_agg hu hD h w hc,hp]
 exact .cons h3 .nil
end
theorem BZ {κ:Kr} {ps:List PV} {vs:List Value} {k:Nat} {s:ByteArray} (h:Rps κ ps vs) (hk:ps[k]?=some (.v (.string s))):s.size≤140737488355328:=by
 obtain ⟨v,_,h2⟩:=h.get hk
 exact Nat.le_of_ble_eq_true h2.ok
theorem B0 {κ:Kr} {ps:List PV} {vs:List Value} {k mm:Nat} {xs:List (List PV)} (h:Rps κ ps vs) (hk:ps[k]?=some (.slc mm xs)):xs.length≤140737488355328:=by
 obtain ⟨v,_,h2⟩:=h.get hk
 cases h2 with
 | slc hs hb _ hss=>rw [hss.len,hs.len];exact hb
theorem zD {κ:Kr} {ps:List PV} {vs:List Value} {k mm:Nat} {xs:List (List PV)} {x:List PV} (h:Rps κ ps vs) (hk:ps[k]?=some (.slc mm xs)) (hx:x∈xs):∃ ds,Rps κ x ds:=by
 obtain ⟨v,_,h2⟩:=h.get hk
 cases h2 with
 | slc hs hb _ hss =>
  obtain ⟨i,hi,rfl⟩:=List.getElem_of_mem hx
  obtain ⟨ds,_,h3⟩:=hss.get (List.getElem?_eq_getElem hi)
  exact ⟨ds,h3⟩
end SX
end Go.Proofs.YtgmbmepakpcpaaaGreatDoor
namespace Go.Proofs.YtgmbmepakpcpaaaGreatDoor
namespace SX
open Go
theorem strs_of {κ:Kr} {ps:List PV} {vs:List Value} {k:Nat} {l:List ByteArray} (h:Rps κ ps vs) (hk:ps[k]?=some (pL eS l)):StrsOk l:=by
 refine ⟨by have:=B0 h hk;simpa using this,fun s hs=>?_⟩
 obtain ⟨ds,hd⟩:=zD h hk (List.mem_map_of_mem (f:=eS) hs)
 exact BZ (k:=0) hd rfl
mutual
theorem rok_of {κ:Kr}:∀ (r:Zd) (ds:List Value),Rps κ (Zd.enc r) ds→ROk r
 | ⟨k,d,e,t,m,n,l⟩,ds,h=>by
  rw [Zd.enc_eq] at h
  have hl:l.length≤140737488355328:=by have:=B0 (k:=6) h rfl;simpa using this
  exact ⟨_,strs_of (k:=2) h rfl,BZ (k:=5) h rfl,hl,B1 l (fun a ha=>zD (k:=6) h rfl (List.mem_map_of_mem (f:=Zd.enc) ha))⟩
theorem B1 {κ:Kr}:∀ (l:List Zd),(∀ a∈l,∃ ds,Rps κ (Zd.enc a) ds)→∀ a∈l,ROk a
 | [],_,_,h=>by cases h
 | b::l,h,a,ha=>by
  rcases List.mem_cons.1 ha with e | ha
  ·obtain ⟨ds,hd⟩:=h b (by simp)
   rw [e];exact rok_of b ds hd
  exact B1 l (fun a ha=>h a (by simp [ha])) a ha
end
def hY (s p:ByteArray):Bool:=decide (p.size≤s.size)&&decide (s.extract 0 p.size=p)
theorem zF (s p:ByteArray):Option.bind (gd (decide ((p.size:Int)≤(s.size:Int))) (jR s 0 (p.size:Int))) (fun s1=>some ((decide ((p.size:Int)≤(s.size:Int)))&&(decide (s1=p))))=some (hY s p):=by
 unfold hY
 by_cases h:p.size≤s.size
 ·rw [det h,show decide ((p.size:Int)≤(s.size:Int))=true from det (by omega),cx]
  unfold jR;rw [if_pos (by omega)];rfl
 rw [bK h,show decide ((p.size:Int)≤(s.size:Int))=false from bK (by omega)];rfl
theorem sF (s p:ByteArray):dq s p=some (hY s p):=by
 unfold dq fH;rw [zF];rfl
theorem zG (s p:ByteArray):gO s p=some (hY s p):=by unfold gO;exact zF s p
def jg (l:List Zi) (code:ByteArray) (k:Nat) (x:Zi) (b:Option Nat):Option Nat :=
 cond (hY code x.Prefix&&(match b with | none=>true | some j=>decide ((l.getD j x).Prefix.size<x.Prefix.size))) (some k) b
def noE {α:Type} (e:Empty):α:=nomatch e
def rO (l:List Zi) (code:ByteArray):Option Nat:=vL (fun b=>b) noE (run (fun k x b=>(.inl (jg l code k x b):Option Nat⊕Empty)) l 0 none)
def tH:Option Nat→Int
 | none => -1
 | some j=>(j:Int)
theorem rP (b:Option Nat):decide (tH b<0)=b.isNone:=by
 cases b with
 | none=>rfl
 | some j=>exact bK (by simp only [tH];omega)
def inB (n:Nat) (b:Option Nat):Prop:=∀ j,b=some j→j<n
theorem xX {l:List Zi} {code:ByteArray} {k:Nat} {x:Zi} {b:Option Nat} (h:inB k b):inB (k+1) (jg l code k x b):=by
 intro j hj
 unfold jg at hj
 split at hj
 all_goals (cases hc:(hY code x.Prefix&&_) <;> rw [hc] at hj <;> simp only [bY,bI] at hj)
 all_goals first | (injection hj with hj;omega) | (have:=h j hj;omega) | (cases hj)
theorem E6 (l:List Zi) (code:ByteArray):inB l.length (rO l code):=by
 have key:∀ (m:List Zi) (i:Nat) (b:Option Nat),inB i b→inB (i+m.length) (vL (fun b=>b) noE (run (fun k x b=>(.inl (jg l code k x b):Option Nat⊕Empty)) m i b)):=by
  intro m
  induction m with
  | nil=>intro i b h;exact h
  | cons x m ih =>
   intro i b h
   rw [iX,List.length_cons,show i+(m.length+1)=(i+1)+m.length by omega]
   exact ih _ _ (xX h)
 have:=key l 0 none (fun j h=>by cases h)
 rwa [Nat.zero_add] at this
theorem CX (l:List Zi) (code:ByteArray) (hl:l.length≤140737488355328) {β:Type} (K:Int→Option β):Option.bind (aW (S:=Int×Int) (T:=(Int)) (fun (v3,v4)=>cond (decide (v4<(l.length:Int))) (Option.bind (Option.bind (idx l v4) (fun m11=>Option.bind (dq code m11.Prefix) (fun x13=>Option.bind (gd (x13&&(!(decide (v3<0)))) (idx l v3)) (fun m14=>cond (x13&&((decide (v3<0))||(decide ((m14.Prefix.size:Int)<(m11.Prefix.size:Int))))) (some v4) (some v3))))) (fun v9=>some (.inl (v9,(IntKind.i64.wrap (v4+1)))))) (some (.inr v3))) FUEL ((-1),0)) K=K (tH (rO l code)):=by
 have h62:l.length≤4611686018427387904:=by omega
 refine (jU (l:=l) h62 (fun i (b:Option Nat)=>(tH b,i)) (fun k x b=>(.inl (jg l code k x b):Option Nat⊕Empty)) tH noE (fun k b=>inB k b) none (fun j h=>by cases h) (fun k hk b hb=>⟨?_,fun b' h=>by injection h with h;rw [← h];exact xX hb⟩) (fun b hb=>by simp only [cR,bI])).trans ?_
 ·simp only [ik hk,bY,aV hk,bg,sF,bR hk h62,zi,rP]
  unfold jg
  cases hp:hY code l[k].Prefix
  ·rfl
  cases b with
  | none=>rfl
  | some j =>
   have hj:=hb j rfl
   simp only [Option.isNone_some,Bool.not_false,Bool.and_true,cx,tH,aV (show j<l.length by omega),bg,Bool.true_and,Bool.false_or,fF (show j<l.length by omega)]
   have e:decide (((l[j]'(by omega)).Prefix.size:Int)<(l[k].Prefix.size:Int))=decide ((l[j]'(by omega)).Prefix.size<l[k].Prefix.size):=decide_eq_decide.2 (by omega)
   rw [e]
   cases decide ((l[j]'(by omega)).Prefix.size<l[k].Prefix.size) <;> rfl
 unfold rO
 congr 1
 cases run (fun k x b=>(.inl (jg l code k x b):Option Nat⊕Empty)) l 0 none with
 | inl b=>rfl
 | inr e=>nomatch e
theorem E7 (l:List Zi) (code:ByteArray) (hl:l.length≤140737488355328) {β:Type} (K:Int→Option β):Option.bind (aW (S:=Int×Int) (T:=(Int)) (fun (v3,v4)=>cond (decide (v4<(l.length:Int))) (Option.bind (Option.bind (idx l v4) (fun m11=>Option.bind (gO code m11.Prefix) (fun x12=>Option.bind (gd (x12&&(!(decide (v3<0)))) (idx l v4)) (fun m13=>Option.bind (gd (x12&&(!(decide (v3<0)))) (idx l v3)) (fun m14=>cond (x12&&((decide (v3<0))||(decide ((m14.Prefix.size:Int)<(m13.Prefix.size:Int))))) (some v4) (some v3)))))) (fun v9=>some (.inl (v9,(IntKind.i64.wrap (v4+1)))))) (some (.inr v3))) FUEL ((-1),0)) K=K (tH (rO l code)):=by
 have h62:l.length≤4611686018427387904:=by omega
 refine (jU (l:=l) h62 (fun i (b:Option Nat)=>(tH b,i)) (fun k x b=>(.inl (jg l code k x b):Option Nat⊕Empty)) tH noE (fun k b=>inB k b) none (fun j h=>by cases h) (fun k hk b hb=>⟨?_,fun b' h=>by injection h with h;rw [← h];exact xX hb⟩) (fun b hb=>by simp only [cR,bI])).trans ?_
 ·simp only [ik hk,bY,aV hk,bg,zG,bR hk h62,zi,rP]
  unfold jg
  cases hp:hY code l[k].Prefix
  ·rfl
  cases b with
  | none=>rfl
  | some j =>
   have hj:=hb j rfl
   simp only [Option.isNone_some,Bool.not_false,Bool.and_true,cx,tH,aV (show j<l.length by omega),bg,Bool.true_and,Bool.false_or,fF (show j<l.length by omega)]
   have e:decide (((l[j]'(by omega)).Prefix.size:Int)<(l[k].Prefix.size:Int))=decide ((l[j]'(by omega)).Prefix.size<l[k].Prefix.size):=decide_eq_decide.2 (by omega)
   rw [e]
   cases decide ((l[j]'(by omega)).Prefix.size<l[k].Prefix.size) <;> rfl
 unfold rO
 congr 1
 cases run (fun k x b=>(.inl (jg l code k x b):Option Nat⊕Empty)) l 0 none with
 | inl b=>rfl
 | inr e=>nomatch e
def hZ {α:Type} (z:α):Option α→α×Bool
 | some r=>(r,true)
 | none=>(z,false)
def zH:Zd:=⟨0,0,[],0,0,ByteArray.empty,[]⟩
def eZ (a:Zb) (code:ByteArray):Option Zd:=(rO a.Rules code).bind fun j=>(a.Rules[j]?).map (·.Rule)
theorem oy (a:Zb) (code:ByteArray):(rO a.Rules code=none∧eZ a code=none)∨∃ j,∃ h:j<a.Rules.length,rO a.Rules code=some j∧eZ a code=some a.Rules[j].Rule:=by
 cases hb:rO a.Rules code with
 | none=>left;exact ⟨rfl,by unfold eZ;rw [hb];rfl⟩
 | some j =>
  have hj:=E6 a.Rules code j hb
  right;exact ⟨j,hj,rfl,by unfold eZ;rw [hb,bg,List.getElem?_eq_getElem hj];rfl⟩
theorem rl (a:Zb) (code:ByteArray) (hl:a.Rules.length≤140737488355328):gb a code=some (hZ zH (eZ a code)):=by
 unfold gb
 rw [E7 _ _ hl]
 rcases oy a code with ⟨h1,h2⟩ | ⟨j,hj,h1,h2⟩
 ·rw [h1,h2];rfl
 rw [h1,h2,rP];simp only [Option.isNone_some,bI,tH,aV hj,bg];rfl
theorem mt {r:Zd} (h:dY r=true):r.Args.length≤6∧(∀ a∈r.Args,dY a=true)∧r.Except.length≤6:=by
 rw [gG,Bool.and_eq_true] at h
 obtain ⟨h1,h2⟩:=h
 unfold kb at h1
 simp only [Bool.and_eq_true,Bool.or_eq_true] at h1
 obtain ⟨⟨⟨p1,p2⟩,p3⟩,p4⟩:=h1
 have hE:r.Except.length≤6:=by
  rcases p1 with p1 | ⟨⟨_,p1⟩,_⟩
  ·have hk:=eq_of_beq p1
   rw [hk] at h2
   simp only [jG,hk] at h2
   have h3:kQ r.Except=true:=by
    cases hc:kQ r.Except
    ·rw [hc] at h2;simp at h2
    rfl
   unfold kQ at h3
   simp only [Bool.and_eq_true,decide_eq_true_eq] at h3
   exact h3.1
  have:=List.isEmpty_iff.1 p1;rw [this];simp
 cases h56:(r.Kind == 5||r.Kind == 6)
 ·rw [Bool.or_eq_false_iff] at h56
  rcases p4 with (p4 | p4) | p4
  ·rw [h56.1] at p4;cases p4
  ·rw [h56.2] at p4;cases p4
  have:=List.isEmpty_iff.1 p4;rw [this];exact ⟨by simp,by simp,hE⟩
 rw [h56] at h2
 simp only [bY,Bool.and_eq_true,decide_eq_true_eq,List.all_eq_true] at h2
 exact ⟨h2.1.2,fun a ha=>(h2.2 a ha).2,hE⟩
theorem clone_F (n:Nat):∀ (r:Zd),dY r=true→tS r≤n→fg n r=some r:=by
 induction n with
 | zero=>intro r _ hd;rw [lE] at hd;omega
 | succ n ih =>
  intro r hr hd
  obtain ⟨h1,h2,h3⟩:=mt hr
  show dT (fg n) r=_
  unfold dT bP
  rw [js (by omega) (by omega),bg,AK (by omega) (by omega),bg]
  refine (cb (l:=r.Args) (by omega) (fun i (a:List Zd)=>(a,i)) (fun a x=>a++[x]) (fun a=>a) (fun k a=>a.length=k) [] rfl (fun k hk a ha=>⟨?_,by simp [ha]⟩) (fun a ha=>by simp only [cR,bI])).1.trans ?_
  ·simp only [ik hk,bY,aV hk,bg,bR hk (show r.Args.length≤4611686018427387904 by omega)]
   rw [ih _ (h2 _ (List.getElem_mem hk)) (by have:=ka (List.getElem_mem hk);omega),bg,cS (by simp;omega) (by simp;omega)];rfl
  have:∀ (m acc:List Zd),m.foldl (fun a x=>a++[x]) acc=acc++m:=by
   intro m
   induction m with
   | nil=>intro acc;simp
   | cons x m ih=>intro acc;rw [List.foldl_cons,ih];simp
  rw [this,List.nil_append];cases r;rfl
theorem AT (r:Zd) (h:dY r=true) (hd:tS r≤1000):iv r=some r:=clone_F FUEL r h (by have hf:FUEL=1267650600228229401496703205376:=rfl;omega)
structure VA (a:Zb):Prop where
 ok:AOk a
 rules:∀ x∈a.Rules,lP x.Rule=0
 len:a.Rules.length≤12∧a.Parties.length≤12
theorem td (a:Zb) (code:ByteArray) (ha:VA a):dr a code=some (hZ zH (eZ a code)):=by
 unfold dr
 rw [CX _ _ ha.ok.len]
 rcases oy a code with ⟨h1,h2⟩ | ⟨j,hj,h1,h2⟩
 ·rw [h1,h2];rfl
 have hm:=List.getElem_mem hj
 have hr:=ha.ok.rules _ hm
 have hv:=ha.rules _ hm
 rw [h1,h2,rP]
 simp only [Option.isNone_some,Bool.not_false,cx,tH,aV hj,bg,qp _ hr.rule hr.deep,hv,bne_self_eq_false,Bool.or_self,bI,AT _ ((mM _).1 hv).2 hr.deep]
 rfl
theorem MA.va {i:Nat} {a:Zb} (h:MA i a):VA a:=⟨h.aok,fun x hx=>(mM _).2 ⟨by have:=(h.good x hx).size;simp only [nM] at this;omega,(h.good x hx).valid⟩,by have:=P5_len h.pre;omega,by have:=h.par.length_le;have h6:C6.length=6:=rfl;omega⟩
theorem pX {α T:Type} (p:α→Bool) (f:Nat→T):∀ (l:List α) (i:Nat),(cE (fun k x=>cond (p x) (some (f k)) none) l i=none∧l.find? p=none)∨∃ j,∃ h:j<l.length,cE (fun k x=>cond (p x) (some (f k)) none) l i=some (f (i+j))∧l.find? p=some l[j]
 | [],_=>.inl ⟨rfl,rfl⟩
 | x::xs,i=>by
  rw [cE,List.find?_cons]
  cases hp:p x
  ·rcases pX p f xs (i+1) with ⟨h1,h2⟩ | ⟨j,hj,h1,h2⟩
   ·exact .inl ⟨h1,h2⟩
   exact .inr ⟨j+1,by simpa using hj,by rw [show i+(j+1)=i+1+j by omega];exact h1,h2⟩
  exact .inr ⟨0,by simp,rfl,rfl⟩
def lF (l:List ByteArray) (s:ByteArray):Bool:=l.any fun x=>decide (x=s)
theorem E8 (l:List ByteArray) (s:ByteArray):lF l s=true↔s∈l:=by
 unfold lF;simp
theorem rQ (l:List ByteArray) (s:ByteArray) (hl:l.length≤140737488355328):bG l s=some (lF l s):=by
 unfold bG
 have e:cY l s=some (match cE (fun k x=>cond (decide (x=s)) (some (Sum.inr (k:Int):Unit⊕Int)) none) l 0 with | some (.inr k)=>k | _ => -1):=by
  unfold cY
  refine (bJ (l:=l) (by omega) (fun k x=>cond (decide (x=s)) (some (.inr (k:Int))) none) (.inl ()) (fun k hk=>?_) (by simp only [cR,bI])).trans ?_
  ·simp only [ik hk,bY,aV hk,bg,bR hk (show l.length≤4611686018427387904 by omega)]
   have e:decide (s=l[k])=decide (l[k]=s):=decide_eq_decide.2 eq_comm
   rw [e];cases decide (l[k]=s) <;> rfl
  cases cE (fun k x=>cond (decide (x=s)) (some (Sum.inr (k:Int):Unit⊕Int)) none) l 0 with
  | none=>rfl
  | some t=>cases t <;> rfl
 rw [e,bg]
 rcases pX (fun x=>decide (x=s)) (fun k=>(Sum.inr (k:Int):Unit⊕Int)) l 0 with ⟨h1,h2⟩ | ⟨j,hj,h1,h2⟩
 ·rw [h1]
  have:lF l s=false:=by unfold lF;rw [List.any_eq_false];exact fun x hx=>by have:=List.find?_eq_none.1 h2 x hx;simpa using this
  rw [this];rfl
 rw [h1]
 have:lF l s=true:=by
  have:=List.find?_some h2
  rw [E8];rw [← of_decide_eq_true this];exact List.getElem_mem hj
 rw [this]
 show some (decide (0≤((0+j:Nat):Int)))=_
 rw [det (by omega)]
theorem qr (l:List ByteArray) (s:ByteArray) (hl:l.length≤140737488355328):ic l s=some (lF l s):=by
 unfold ic
 refine (bJ (l:=l) (by omega) (fun _ x=>cond (decide (x=s)) (some (.inr true)) none) (.inl ()) (fun k hk=>?_) (by simp only [cR,bI])).trans ?_
 ·simp only [ik hk,bY,aV hk,bg,bR hk (show l.length≤4611686018427387904 by omega)]
  cases decide (l[k]=s) <;> rfl
 rw [qn (fun x=>decide (x=s))]
 unfold lF;cases (l.any fun x=>decide (x=s)) <;> rfl
def lQ (l:List Zb) (id:Int):Option Zb:=l.find? fun a=>a.ID == id
def CY:Zb:=⟨0,0,[],[]⟩
theorem sG (l:List Zb) (id:Int) (hl:l.length≤140737488355328):e9 l id=some (hZ CY (lQ l id)):=by
 unfold e9 lQ
 refine (bJ (l:=l) (by omega) (fun _ x=>cond (x.ID == id) (some (.inr (x,true))) none) (.inl ()) (fun k hk=>?_) (by simp only [cR,bI])).trans ?_
 ·simp only [ik hk,bY,aV hk,bg,bR hk (show l.length≤4611686018427387904 by omega)]
  cases (l[k].ID == id) <;> rfl
 rw [kC (fun x:Zb=>x.ID == id) (fun x=>(Sum.inr (x,true):Unit⊕(Zb×Bool)))]
 cases l.find? (fun x:Zb=>x.ID == id) <;> rfl
theorem rm (l:List Zb) (id:Int) (hl:l.length≤140737488355328):ef l id=some (hZ CY (lQ l id)):=by
 unfold ef lQ
 have e:bC l (fun y3=>ga y3 id)=some (match cE (fun k (x:Zb)=>cond (x.ID == id) (some (Sum.inr (k:Int):Unit⊕Int)) none) l 0 with | some (.inr k)=>k | _ => -1):=by
  unfold bC ga
  refine (bJ (l:=l) (by omega) (fun k x=>cond (x.ID == id) (some (.inr (k:Int))) none) (.inl ()) (fun k hk=>?_) (by simp only [cR,bI])).trans ?_
  ·simp only [ik hk,bY,aV hk,bg,bR hk (show l.length≤4611686018427387904 by omega)]
   cases (l[k].ID == id) <;> rfl
  cases cE (fun k (x:Zb)=>cond (x.ID == id) (some (Sum.inr (k:Int):Unit⊕Int)) none) l 0 with
  | none=>rfl
  | some t=>cases t <;> rfl
 rw [e,bg]
 rcases pX (fun x:Zb=>x.ID == id) (fun k=>(Sum.inr (k:Int):Unit⊕Int)) l 0 with ⟨h1,h2⟩ | ⟨j,hj,h1,h2⟩
 ·rw [h1,h2];rfl
 rw [h1,h2]
 show cond (decide (((0+j:Nat):Int)<0)) _ (Option.bind (idx l ((0+j:Nat):Int)) _)=_
 rw [bK (by omega),Nat.zero_add,aV hj];rfl
def vY {α:Type} (R:α→α→Bool):List α→List α→Bool
 | [],_=>true
 | _::_,[]=>true
 | x::a,y::b=>R x y&&vY R a b
def km {α:Type} (R:α→α→Bool) (a b:List α):Bool:=a.length == b.length&&vY R a b
theorem wK {α T:Type} (R:α→α→Bool) (t:T) (B:List α):∀ (a b:List α) (i:Nat),B.drop i=b→a.length=b.length→cE (fun k x=>cond (R x (B.getD k x)) none (some t)) a i=cond (vY R a b) none (some t)
 | [],b,_,_,_=>by cases b <;> rfl
 | x::a,[],_,_,h=>by simp at h
 | x::a,y::b,i,hd,h=>by
  have hi:i<B.length:=by
   rcases Nat.lt_or_ge i B.length with h | h
   ·exact h
   rw [List.drop_of_length_le h] at hd;cases hd
  rw [List.drop_eq_getElem_cons hi] at hd
  injection hd with h1 h2
  rw [cE,vY,fF hi,h1,wK R t B a b (i+1) h2 (by simpa using h)]
  cases R x y <;> rfl
theorem vg {α:Type} {R:α→α→Bool}:∀ {a b:List α},(∀ x∈a,∀ y∈b,R x y=true↔x=y)→(km R a b=true↔a=b)
 | [],[],_=>by simp [km,vY]
 | [],y::b,_=>by simp [km]
 | x::a,[],_=>by simp [km]
 | x::a,y::b,h=>by
  have ih:=vg (R:=R) (a:=a) (b:=b) fun u hu v hv=>h u (by simp [hu]) v (by simp [hv])
  have h0:=h x (by simp) y (by simp)
  unfold km at ih ⊢
  rw [vY]
  simp only [List.length_cons,Bool.and_eq_true,beq_iff_eq,Nat.add_right_cancel_iff,List.cons.injEq] at ih ⊢
  constructor
  ·rintro ⟨h1,h2,h3⟩;exact ⟨h0.1 h2,ih.1 ⟨h1,h3⟩⟩
  rintro ⟨h1,h2⟩;exact ⟨(ih.2 h2).1,h0.2 h1,(ih.2 h2).2⟩
theorem qt {α:Type} (a b:List α):((a.length:Int) != (b.length:Int)) = !(a.length == b.length):=by
 by_cases h:a.length=b.length
 ·rw [h];simp
 have h2:¬ (a.length:Int)=(b.length:Int):=by omega
 have e1:(a.length == b.length)=false:=by simpa using h
 have e2:((a.length:Int) == (b.length:Int))=false:=by simpa using h2
 rw [e1,bne,e2]
theorem qu {α:Type} {a b:List α} (ha:a.length≤140737488355328) (R:α→α→Bool) {body:Int→Option (Int⊕(Unit⊕Bool))} {k:Unit⊕Bool→Option Bool} (hk:k (.inl ())=some true∧k (.inr false)=some false) (hab:a.length=b.length)
    (hstep:∀ (k:Nat) (hk:k<a.length) (hk2:k<b.length),body (k:Int)=some (vM k (cond (R a[k] b[k]) none (some (.inr false))))) (hend:body (a.length:Int)=some (.inr (.inl ()))):Option.bind (aW body FUEL 0) k=some (vY R a b):=by
  refine (bJ (l:=a) (by omega) (fun i x=>cond (R x (b.getD i x)) none (some (.inr false))) (.inl ()) (fun i hi=>?_) hend).trans ?_
  · rw [hstep i hi (by omega),fF (show i<b.length by omega)]
  rw [wK R (Sum.inr false:Unit⊕Bool) b a b 0 rfl hab]
  cases vY R a b
  · exact hk.2
  exact hk.1
theorem pZ (a b:List ByteArray) (ha:a.length≤140737488355328):gf a b=some (decide (a=b)):=by
 have hiff:km (fun x y=>decide (x=y)) a b=decide (a=b):=by
  have:=vg (R:=fun x y:ByteArray=>decide (x=y)) (a:=a) (b:=b) (fun x _ y _=>by simp)
  cases h:km (fun x y=>decide (x=y)) a b
  ·rw [h] at this;exact (bK fun e=>by have:=this.2 e;cases this).symm
  exact (det (this.1 h)).symm
 rw [← hiff]
 unfold gf km
 rw [qt]
 cases h:(a.length == b.length)
 ·rfl
 simp only [Bool.not_true,bI,Bool.true_and]
 refine qu ha _ ⟨rfl,rfl⟩ (eq_of_beq h) (fun k hk hk2=>?_) (by simp only [cR,bI])
 simp only [ik hk,bY,aV hk,aV hk2,bg,bR hk (show a.length≤4611686018427387904 by omega)]
 cases decide (a[k]=b[k]) <;> rfl
theorem tI (a b:List ByteArray) (ha:a.length≤140737488355328):dU a b=some (decide (a=b)):=by
 rw [← pZ a b ha];rfl
theorem qJ (a b:List Za) (ha:a.length≤140737488355328):fp a b=some (decide (a=b)):=by
 have hiff:km Za.eqb a b=decide (a=b):=by
  have:=vg (R:=Za.eqb) (a:=a) (b:=b) (fun x _ y _=>Za.eqb_iff)
  cases h:km Za.eqb a b
  ·rw [h] at this;exact (bK fun e=>by have:=this.2 e;cases this).symm
  exact (det (this.1 h)).symm
 rw [← hiff]
 unfold fp km
 rw [qt]
 cases h:(a.length == b.length)
 ·rfl
 simp only [Bool.not_true,bI,Bool.true_and]
 refine qu ha _ ⟨rfl,rfl⟩ (eq_of_beq h) (fun k hk hk2=>?_) (by simp only [cR,bI])
 simp only [ik hk,bY,aV hk,aV hk2,bg,bR hk (show a.length≤4611686018427387904 by omega)]
 cases Za.eqb a[k] b[k] <;> rfl
mutual
def gQ:Zd→Zd→Bool
 | ⟨k,d,e,t,m,n,l⟩,⟨k',d',e',t',m',n',l'⟩=>k == k'&&d == d'&&t == t'&&m == m'&&decide (n=n')&&decide (e=e')&&jk l l'
def jk:List Zd→List Zd→Bool
 | [],[]=>true
 | [],_::_=>false
 | _::_,[]=>false
 | a::l,b::m=>gQ a b&&jk l m
end
mutual
theorem AU:∀ a b:Zd,gQ a b=true↔a=b
 | ⟨k,d,e,t,m,n,l⟩,⟨k',d',e',t',m',n',l'⟩=>by
  rw [gQ]
  simp only [Bool.and_eq_true,beq_iff_eq,decide_eq_true_eq,te l l',Zd.mk.injEq]
  constructor
  ·rintro ⟨⟨⟨⟨⟨⟨h1,h2⟩,h3⟩,h4⟩,h5⟩,h6⟩,h7⟩;exact ⟨h1,h2,h6,h3,h4,h5,h7⟩
  rintro ⟨h1,h2,h6,h3,h4,h5,h7⟩;exact ⟨⟨⟨⟨⟨⟨h1,h2⟩,h3⟩,h4⟩,h5⟩,h6⟩,h7⟩
theorem te:∀ a b:List Zd,jk a b=true↔a=b
 | [],[]=>by simp [jk]
 | [],_::_=>by simp [jk]
 | _::_,[]=>by simp [jk]
 | a::l,b::m=>by rw [jk,Bool.and_eq_true,AU a b,te l m,List.cons.injEq]
end
theorem tf:∀ a b:List Zd,jk a b=km gQ a b
 | [],[]=>by simp [jk,km,vY]
 | [],_::_=>by simp [jk,km]
 | _::_,[]=>by simp [jk,km]
 | a::l,b::m=>by
  rw [jk,tf l m]
  unfold km
  rw [vY,List.length_cons,List.length_cons]
  have:(l.length+1 == m.length+1)=(l.length == m.length):=by
   cases h:(l.length == m.length)
   ·have:=(beq_eq_false_iff_ne).1 h;exact beq_eq_false_iff_ne.2 (by omega)
   have:=eq_of_beq h;rw [this];simp
  rw [this]
  cases gQ a b <;> cases (l.length == m.length) <;> rfl
theorem vh (a b:Zd):gQ a b=(a.Kind == b.Kind&&a.Digits == b.Digits&&a.Tolerance == b.Tolerance&&a.Limit == b.Limit&&decide (a.Name=b.Name)&&decide (a.Except=b.Except)&&km gQ a.Args b.Args):=by
 cases a;cases b;rw [gQ,tf]
theorem AV (n:Nat):∀ (a b:Zd),ROk a→tS a≤n→iJ n a b=some (gQ a b):=by
 induction n with
 | zero=>intro a b _ hd;rw [lE] at hd;omega
 | succ n ih =>
  intro a b ha hd
  show gD (iJ n) a b=_
  unfold gD
  rw [pZ _ _ ha.ex.1,vh,qt]
  simp only [bne]
  have hl:=ha.len
  cases (a.Kind == b.Kind)
  ·rfl
  cases (a.Digits == b.Digits)
  ·rfl
  cases (a.Tolerance == b.Tolerance)
  ·rfl
  cases (a.Limit == b.Limit)
  ·rfl
  cases decide (a.Name=b.Name)
  ·rfl
  simp only [Bool.not_true,Bool.or_self,Bool.not_false,cx,bg,Bool.false_or,Bool.and_self,Bool.true_and]
  cases decide (a.Except=b.Except)
  ·rfl
  unfold km
  cases h:(a.Args.length == b.Args.length)
  ·rfl
  simp only [Bool.not_true,Bool.or_self,bI,Bool.true_and]
  refine qu hl _ ⟨rfl,rfl⟩ (eq_of_beq h) (fun k hk hk2=>?_) (by simp only [cR,bI])
  simp only [ik hk,bY,aV hk,aV hk2,bg,bR hk (show a.Args.length≤4611686018427387904 by omega)]
  rw [ih _ _ (ha.arg (List.getElem_mem hk)) (by have:=ka (List.getElem_mem hk);omega),bg]
  cases gQ a.Args[k] b.Args[k] <;> rfl
theorem zI (n:Nat):∀ (a b:Zd),ROk a→tS a≤n→dW n a b=some (gQ a b):=by
 induction n with
 | zero=>intro a b _ hd;rw [lE] at hd;omega
 | succ n ih =>
  intro a b ha hd
  have hl:=ha.len
  have hA:bp a.Args b.Args (fun y4 y5=>dW n y4 y5)=some (km gQ a.Args b.Args):=by
   unfold bp km
   rw [qt]
   cases h:(a.Args.length == b.Args.length)
   ·rfl
   simp only [Bool.not_true,bI,Bool.true_and]
   refine qu hl _ ⟨rfl,rfl⟩ (eq_of_beq h) (fun k hk hk2=>?_) (by simp only [cR,bI])
   simp only [ik hk,bY,aV hk,aV hk2,bg,bR hk (show a.Args.length≤4611686018427387904 by omega)]
   rw [ih _ _ (ha.arg (List.getElem_mem hk)) (by have:=ka (List.getElem_mem hk);omega),bg]
   cases gQ a.Args[k] b.Args[k] <;> rfl
  show dV (dW n) a b=_
  unfold dV
  rw [tI _ _ ha.ex.1,vh,hA]
  cases (a.Kind == b.Kind&&a.Digits == b.Digits&&a.Tolerance == b.Tolerance&&a.Limit == b.Limit&&decide (a.Name=b.Name))
  ·rfl
  cases decide (a.Except=b.Except)
  ·rfl
  cases km gQ a.Args b.Args <;> rfl
def zJ (x y:Zi):Bool:=decide (x.Prefix=y.Prefix)&&gQ x.Rule y.Rule
theorem vZ (a b:List Zi) (ha:a.length≤140737488355328) (hr:∀ x∈a,RFOk x):gZ a b=some (km zJ a b):=by
 unfold gZ km
 rw [qt]
 cases h:(a.length == b.length)
 ·rfl
 simp only [Bool.not_true,bI,Bool.true_and]
 refine qu ha _ ⟨rfl,rfl⟩ (eq_of_beq h) (fun k hk hk2=>?_) (by simp only [cR,bI])
 have hx:=hr _ (List.getElem_mem hk)
 simp only [ik hk,bY,aV hk,aV hk2,bg,bR hk (show a.length≤4611686018427387904 by omega),zJ]
 cases decide (a[k].Prefix=b[k].Prefix)
 ·rfl
 have e:mI a[k].Rule b[k].Rule=some (gQ a[k].Rule b[k].Rule):=AV FUEL _ _ hx.rule (by have hf:FUEL=1267650600228229401496703205376:=rfl;have:=hx.deep;omega)
 simp only [Bool.not_true,Bool.not_false,cx,bg,e,Bool.false_or,Bool.true_and]
 cases gQ a[k].Rule b[k].Rule <;> rfl
theorem vi (a b:List Zi) (ha:a.length≤140737488355328) (hr:∀ x∈a,RFOk x) (hv:∀ x∈a,lP x.Rule=0):eu a b=some (km zJ a b):=by
 unfold eu bj km
 rw [qt]
 cases h:(a.length == b.length)
 ·rfl
 simp only [Bool.not_true,bI,Bool.true_and]
 rw [qu ha zJ ⟨rfl,rfl⟩ (eq_of_beq h) (fun k hk hk2=>?_) (by simp only [cR,bI])]
 ·rfl
 have hx:=hr _ (List.getElem_mem hk)
 have hxv:=hv _ (List.getElem_mem hk)
 simp only [ik hk,bY,aV hk,aV hk2,bg,bR hk (show a.length≤4611686018427387904 by omega),zJ]
 unfold eW
 cases decide (a[k].Prefix=b[k].Prefix)
 ·rfl
 have e:iw a[k].Rule b[k].Rule=some (gQ a[k].Rule b[k].Rule):=zI FUEL _ _ hx.rule (by have hf:FUEL=1267650600228229401496703205376:=rfl;have:=hx.deep;omega)
 simp only [cx,qp _ hx.rule hx.deep,hxv,bg,beq_self_eq_true,Bool.and_self,e,Bool.true_and]
 cases gQ a[k].Rule b[k].Rule <;> rfl
def Digs (l:List Int):Prop:=∀ x∈l,48≤x∧x≤57
theorem code_Y {p:Zj} (hp:SOK p) (n:Nat) (hn:n=6∨n=8):Y (gA p (n:Int)) (fun r=>(∃ l:List Int,r.1=strOfNums l∧l.length=n∧Digs l)∧SOK r.2):=by
 unfold gA
 refine (eE hp 2 (by omega) (by omega)).bind fun a ⟨a1,a2,a3⟩=>?_
 rw [cH (by omega) (by omega),xm (by omega)]
 refine Y.bind (P:=fun t:List Int×List Int×Int=>t.1.length=n∧Digs t.1∧SOK ⟨t.2.1,t.2.2⟩) ?_ fun t ⟨t1,t2,t3⟩=>?_
 ·refine Y.loop (fun s:List Int×List Int×Int=>(s.1.length % 2=0∧s.1.length≤n)∧Digs s.1∧SOK ⟨s.2.1,s.2.2⟩) (fun s=>n - s.1.length) ⟨⟨by simp,by simp;omega⟩,fun x hx=>by simp at hx;omega,a3⟩ (by dsimp only;omega) fun s hs=>?_
  obtain ⟨l,m,i⟩:=s
  obtain ⟨⟨s0,s1⟩,s2,s3⟩:=hs
  dsimp only at s0 s1 s2 s3 ⊢
  refine Y.cond (fun hc=>?_) (fun hc=>Y.ret ⟨by have:=of_decide_eq_false hc;dsimp only;omega,s2,s3⟩)
  have hc:=of_decide_eq_true hc
  refine (eE s3 3 (by omega) (by omega)).bind fun x ⟨x1,x2,x3⟩=>?_
  rw [cS (by simp;omega) (by simp;omega),bg,cH (by omega) (by omega),xm (by omega)]
  refine Y.ret ⟨⟨⟨by simp;omega,by simp;omega⟩,fun z hz=>?_,x3⟩,by simp;omega⟩
  rcases List.mem_append.1 hz with hz | hz
  ·exact s2 z hz
  simp only [List.mem_cons,List.not_mem_nil,or_false] at hz;omega
 obtain ⟨l,m,i⟩:=t
 exact Y.ret ⟨⟨l,rfl,t1,t2⟩,t3⟩
theorem E9 {l:List Int} {n:Nat} (hn:n=6∨n=8) (h1:l.length=n) (h2:Digs l):dL (strOfNums l)=(n:Int)∧(strOfNums l).size=n:=by
 have hs:(strOfNums l).size=n:=by
  unfold strOfNums
  show (Array.mk _).size=n
  simp [h1]
 have hd:kN (strOfNums l)=true:=by
  unfold kN bl strOfNums
  rw [List.all_eq_true]
  intro c hc
  simp only [List.mem_map] at hc
  obtain ⟨x,hx,rfl⟩:=hc
  have:=h2 x hx
  have h3:(UInt8.ofNat x.toNat).toNat=x.toNat:=by
   rw [UInt8.toNat_ofNat'];omega
  simp only [j6,h3,decide_eq_true_eq]
  omega
 refine ⟨?_,hs⟩
 unfold dL
 rw [if_pos ⟨by omega,hd⟩,hs]
def W5:List ByteArray:=[(⟨#[97,110,100]⟩:ByteArray),(⟨#[99,117,116]⟩:ByteArray),(⟨#[111,114]⟩:ByteArray),(⟨#[115,101,119]⟩:ByteArray),(⟨#[115,112,105,110]⟩:ByteArray)]
theorem W5_ok:W5.all gJ=true∧kl iN W5=true∧(W5.all fun s=>decide (s.size≤100))=true:=⟨by kernel_rfl,by kernel_rfl,by kernel_rfl⟩
theorem zK {p:Zj} (hp:SOK p):Y (eo p) (fun r=>r.1.Sublist W5∧SOK r.2):=by
 unfold eo
 refine (eE hp 32 (by omega) (by omega)).bind fun a ⟨a1,a2,a3⟩=>?_
 refine Y.bind (P:=fun l:List ByteArray=>l.Sublist W5) ?_ fun l hl=>Y.ret ⟨hl,a3⟩
 refine Y.loop (fun s=>∃ v:Nat,s.2=(v:Int)∧v≤5∧s.1.Sublist (W5.take v)) (fun s=>(5 - s.2).toNat) ⟨0,rfl,by omega,List.Sublist.refl _⟩ (by dsimp only;omega) fun s hs=>?_
 obtain ⟨l,i⟩:=s
 obtain ⟨v,rfl,h1,h2⟩:=hs
 dsimp only at h2 ⊢
 have hlen:l.length≤5:=by have:=h2.length_le;have h6:W5.length=5:=rfl;rw [List.length_take] at this;omega
 refine Y.cond (fun hc=>?_) (fun hc=>Y.ret (h2.trans (List.take_sublist _ _)))
 have hv:v<5:=by have:=of_decide_eq_true hc;omega
 have hs:=ow h2 (show v<W5.length from hv)
 refine Y.bind (P:=fun m:List ByteArray=>m.Sublist (W5.take (v+1))) (Y.eq (ox v) (Y.cond (fun _=>?_) fun _=>Y.ret hs.2)) fun m hm=>Y.ret ⟨⟨v+1,?_,by omega,hm⟩,?_⟩
 ·refine Y.idx (xs:=W5) rfl (show v<W5.length from hv) ?_
  rw [cS (by simp;omega) (by simp;omega)];exact Y.ret hs.1
 ·show IntKind.i64.wrap ((v:Int)+1)=_;rw [cH (by omega) (by omega)];omega
 show (5 - IntKind.i64.wrap ((v:Int)+1)).toNat<(5 - (v:Int)).toNat;rw [cH (by omega) (by omega)];omega
theorem codeN {x:Int} (h1:0≤x) (h2:x<2):∃ n:Nat,(n=6∨n=8)∧IntKind.i64.wrap (6+IntKind.i64.wrap (2*x))=(n:Int):=by
 rw [cH (r:=2*x) (by omega) (by omega),cH (by omega) (by omega)]
 exact ⟨(6+2*x).toNat,by omega,by omega⟩
structure MProd (n:Nat) (i:Nat) (p:Zc):Prop where
 id:p.ID=3*((i:Int)+1)
 lvl:(dL p.Code=6∨dL p.Code=8)∧6≤p.Code.size∧p.Code.size≤8
 ctr:p.Country∈C6
 price:1≤p.Price∧p.Price≤200
 proc:p.Processes.Sublist W5
 few:p.Inputs.length≤4
 asc:p.Inputs.Pairwise fun a b=>a.Product<b.Product
 inp:∀ x∈p.Inputs,(∃ k:Nat,k<n∧x.Product=3*((k:Int)+1))∧0≤x.Value∧x.Value<100
 obt:p.Obtained=true→p.Inputs=[]
structure MPs (l:List Zc):Prop where
 len:1≤l.length∧l.length≤10
 all:∀ (i:Nat) (p:Zc),l[i]?=some p→MProd l.length i p
theorem plan_Y (p0:List Int):Y (nD p0) MPs:=by
 unfold nD
 refine (cut_Y p0 300 (by omega) (by omega)).bind fun x1 hx1=>?_
 refine (eE hx1 10 (by omega) (by omega)).bind fun x3 ⟨a1,a2,a3⟩=>?_
 rw [cH (r:=1+x3.1) (by omega) (by omega)]
 obtain ⟨n,hn⟩:∃ n:Nat,1+x3.1=(n:Int):=⟨(1+x3.1).toNat,by omega⟩
 rw [hn]
 have hn1:1≤n∧n≤10:=by omega
 refine Y.bind (P:=MPs) ?_ fun l hl=>Y.ret hl
 refine Y.loop (fun s:List Zc×Int×List Int×Int=>(s.2.1=(s.1.length:Int)+1∧s.1.length≤n)∧SOK ⟨s.2.2.1,s.2.2.2⟩∧∀ i p,s.1[i]?=some p→MProd n i p) (fun s=>n - s.1.length) ⟨⟨rfl,by simp⟩,a3,by simp⟩ (by dsimp only;omega) fun s hs=>?_
 obtain ⟨l5,v8,l9,v10⟩:=s
 obtain ⟨⟨h1,h2⟩,h3,h4⟩:=hs
 dsimp only at h1 h2 h3 h4 ⊢
 refine Y.cond (fun hc=>?_) (fun hc=>Y.ret ?_)
 rotate_left
 ·have hc:=of_decide_eq_false hc
  have e:l5.length=n:=by omega
  exact ⟨by omega,by rw [e];exact h4⟩
 have hc:=of_decide_eq_true hc
 refine (eE h3 2 (by omega) (by omega)).bind fun x19 ⟨b1,b2,b3⟩=>?_
 obtain ⟨w,hw,e⟩:=codeN b1 b2
 rw [e]
 refine (code_Y b3 w hw).bind fun x20 ⟨⟨cl,hc1,hc2,hc3⟩,hx20⟩=>?_
 have hcode:=E9 hw hc2 hc3
 refine Y.eq rN ?_
 refine (eE hx20 4 (by omega) (by omega)).bind fun x22 ⟨c1,c2,c3⟩=>?_
 obtain ⟨j,hj⟩:∃ j:Nat,x22.1=(j:Int):=⟨x22.1.toNat,by omega⟩
 refine Y.idx hj (show j<C6.length by have h6:C6.length=6:=rfl;omega) ?_
 refine (eE c3 200 (by omega) (by omega)).bind fun x24 ⟨d1,d2,d3⟩=>?_
 refine (zK d3).bind fun x25 ⟨hpr,hx25⟩=>?_
 refine (eE hx25 4 (by omega) (by omega)).bind fun x26 ⟨_,_,h26⟩=>?_
 refine (eE h26 1024 (by omega) (by omega)).bind fun x28 ⟨_,_,h28⟩=>?_
 refine Y.bind (P:=fun t:List Int×Int×List Zh=>SOK ⟨t.1,t.2.1⟩∧t.2.2.length≤4∧(t.2.2.Pairwise fun a b=>a.Product<b.Product)∧(∀ x∈t.2.2,(∃ k:Nat,k<n∧x.Product=3*((k:Int)+1))∧0≤x.Value∧x.Value<100)∧((x26.1 == 1)=true→t.2.2=[])) ?_ fun t ⟨t1,t2,t3,t4,t5⟩=>?_
 ·refine Y.loop (fun s:Int×List Int×Int×List Zh=>∃ v:Nat,s.1=(v:Int)+1∧v≤n∧SOK ⟨s.2.1,s.2.2.1⟩∧s.2.2.2.length≤4∧(s.2.2.2.Pairwise fun a b=>a.Product<b.Product)∧(∀ x∈s.2.2.2,(∃ k:Nat,k<v∧x.Product=3*((k:Int)+1))∧0≤x.Value∧x.Value<100)∧((x26.1 == 1)=true→s.2.2.2=[])) (fun s=>(n+1 - s.1).toNat) ⟨0,rfl,by omega,h28,by simp,List.Pairwise.nil,by simp,fun _=>rfl⟩ (by dsimp only;omega) fun s hs=>?_
  obtain ⟨i,l,k,m⟩:=s
  obtain ⟨v,rfl,s1,s2,s3,s4,s5,s6⟩:=hs
  dsimp only at s2 s3 s4 s5 s6 ⊢
  refine Y.cond (fun hc3=>?_) (fun hc3=>Y.ret ⟨s2,s3,s4,fun x hx=>?_,s6⟩)
  rotate_left
  ·obtain ⟨⟨k,h5,h6⟩,h7⟩:=s5 x hx;exact ⟨⟨k,by omega,h6⟩,h7⟩
  simp only [Bool.and_eq_true,decide_eq_true_eq,Bool.not_eq_true'] at hc3
  obtain ⟨⟨hc4,hc5⟩,hc6⟩:=hc3
  rw [cH (r:=(v:Int)+1 - 1) (by omega) (by omega),cH (r:=(v:Int)+1+1) (by omega) (by omega),cH (r:=3*((v:Int)+1)) (by omega) (by omega)]
  refine Y.bind (P:=fun t:List Int×Int×List Zh=>SOK ⟨t.1,t.2.1⟩∧t.2.2.length≤4∧(t.2.2.Pairwise fun a b=>a.Product<b.Product)∧(∀ x∈t.2.2,(∃ k:Nat,k<v+1∧x.Product=3*((k:Int)+1))∧0≤x.Value∧x.Value<100)) ?_ fun t ⟨t1,t2,t3,t4⟩=>Y.ret ⟨⟨v+1,by dsimp only;omega,by omega,t1,t2,t3,t4,fun h=>by rw [hc6] at h;cases h⟩,by dsimp only;omega⟩
  rw [show (v:Int)+1 - 1=(v:Int) by omega]
  refine Y.eq (ox v) ?_
  refine Y.bind (P:=fun r:Int×Zj=>SOK r.2) (Y.gdp (fun _=>(eE s2 3 (by omega) (by omega)).mono fun r hr=>hr.2.2) fun _=>s2) fun x56 hx56=>?_
  refine Y.cond (fun _=>?_) (fun _=>Y.ret ⟨hx56,s3,s4,fun x hx=>?_⟩)
  rotate_left
  ·obtain ⟨⟨k,h5,h6⟩,h7⟩:=s5 x hx;exact ⟨⟨k,by omega,h6⟩,h7⟩
  refine (eE hx56 100 (by omega) (by omega)).bind fun x58 ⟨e1,e2,e3⟩=>?_
  rw [cS (by simp;omega) (by simp;omega),bg]
  refine Y.ret ⟨e3,by simp;omega,?_,fun x hx=>?_⟩
  ·rw [List.pairwise_append]
   refine ⟨s4,List.pairwise_singleton _ _,fun a ha b hb=>?_⟩
   rw [List.mem_singleton.1 hb]
   obtain ⟨⟨k,h5,h6⟩,_⟩:=s5 a ha
   dsimp only;omega
  rcases List.mem_append.1 hx with hx | hx
  ·obtain ⟨⟨k,h5,h6⟩,h7⟩:=s5 x hx;exact ⟨⟨k,by omega,h6⟩,h7⟩
  rw [List.mem_singleton.1 hx];exact ⟨⟨v,by omega,rfl⟩,e1,e2⟩
 obtain ⟨l37,v38,l42⟩:=t
 dsimp only at t1 t2 t3 t4 t5 ⊢
 rw [cS (by simp;omega) (by simp;omega),bg,cH (r:=v8+1) (by omega) (by omega),cH (r:=1+x24.1) (by omega) (by omega),cH (r:=3*v8) (by omega) (by omega)]
 refine Y.ret ⟨⟨⟨by simp;omega,by simp;omega⟩,t1,fun i p hp=>?_⟩,by simp;omega⟩
 rw [List.getElem?_append] at hp
 split at hp
 ·exact h4 i p hp
 rename_i hi
 have hi0:i - l5.length=0:=by have:=(List.getElem?_eq_some_iff.1 hp).1;simp at this;omega
 rw [hi0] at hp
 simp only [List.getElem?_cons_zero,ey] at hp
 subst hp
 refine ⟨by dsimp only;omega,?_,List.getElem_mem _,⟨by dsimp only;omega,by dsimp only;omega⟩,hpr,t2,t3,t4,t5⟩
 dsimp only;rw [hc1,hcode.1,hcode.2];omega
structure Sorted (l:List Zc):Prop where
 len:l.length≤1000000
 asc:l.Pairwise fun a b=>a.ID<b.ID
 small:∀ p∈l,p.Processes.length≤1000000∧p.Inputs.length≤1000000
def da (l:List Zc) (id:Int):Option Zc:=l.find? fun p=>p.ID == id
def Fa:Zc:=⟨0,ByteArray.empty,ByteArray.empty,0,false,[],[]⟩
theorem wL (l:List Zc) (id:Int) (hl:l.length≤140737488355328):fA l id=some (hZ Fa (da l id)):=by
 unfold fA da
 refine (bJ (l:=l) (by omega) (fun _ x=>cond (x.ID == id) (some (.inr (x,true))) none) (.inl ()) (fun k hk=>?_) (by simp only [cR,bI])).trans ?_
 ·simp only [ik hk,bY,aV hk,bg,bR hk (show l.length≤4611686018427387904 by omega)]
  cases (l[k].ID == id) <;> rfl
 rw [kC (fun x:Zc=>x.ID == id) (fun x=>(Sum.inr (x,true):Unit⊕(Zc×Bool)))]
 cases l.find? (fun x:Zc=>x.ID == id) <;> rfl
theorem half_u (x:Nat) (h:x≤10000000):IntKind.i64.wrap (cu .u64 (IntKind.u64.wrap (IntKind.i64.wrap (x:Int))) 1)=((x / 2:Nat):Int):=by
 rw [cH (r:=(x:Int)) (by omega) (by omega),u64s (by omega) (by omega)]
 have:cu .u64 (x:Int) 1=(x:Int) / 2:=Int.fdiv_eq_ediv_of_nonneg _ (by decide)
 rw [this,cH (by omega) (by omega)];omega
theorem CZ (l:List Zc) (id:Int) (h:Sorted l):∃ j:Nat,f8 l id=some ((j:Int),(da l id).isSome)∧(∀ p,da l id=some p→∃ hj:j<l.length,l[j]=p):=by
 have hl:=h.len
 have cmp:∀ p:Zc,dZ p id=some (if p.ID<id then -1 else if id<p.ID then 1 else 0):=fun p=>by unfold dZ;rw [EL];rfl
 unfold f8 bF
 have hloop:Y (aW (S:=Int×Int) (T:=(Int×Int)) (fun (v1,v2)=>cond (decide (v1<v2)) (lb ((IntKind.i64.wrap (cu .u64 (IntKind.u64.wrap (IntKind.i64.wrap (v1+v2))) 1))) (fun w8=>Option.bind (idx l w8) (fun m9=>Option.bind (dZ m9 id) (fun x10=>cond (decide (x10<0)) (some (.inl ((IntKind.i64.wrap (w8+1)),v2))) (some (.inl (v1,w8))))))) (some (.inr (id,v1)))) FUEL (0,(l.length:Int))) (fun t=>t.1=id∧∃ j:Nat,t.2=(j:Int)∧j≤l.length∧(∀ (k:Nat) (p:Zc),l[k]?=some p→k<j→p.ID<id)∧(∀ (k:Nat) (p:Zc),l[k]?=some p→j≤k→id≤p.ID)):=by
  refine Y.loop (fun s:Int×Int=>∃ i j:Nat,s.1=(i:Int)∧s.2=(j:Int)∧i≤j∧j≤l.length∧(∀ (k:Nat) (p:Zc),l[k]?=some p→k<i→p.ID<id)∧(∀ (k:Nat) (p:Zc),l[k]?=some p→j≤k→id≤p.ID)) (fun s=>(s.2 - s.1).toNat) ⟨0,l.length,rfl,rfl,by omega,by omega,fun k p _ hk=>absurd hk (Nat.not_lt_zero _),fun k p hp hk=>by have:=(List.getElem?_eq_some_iff.1 hp).1;omega⟩ (by dsimp only;omega) fun s hs=>?_
  obtain ⟨a,b⟩:=s
  obtain ⟨i,j,rfl,rfl,h1,h2,h3,h4⟩:=hs
  dsimp only
  refine Y.cond (fun hc=>?_) (fun hc=>Y.ret ⟨rfl,i,rfl,by omega,h3,fun k p hp hk=>h4 k p hp (by have:=of_decide_eq_false hc;omega)⟩)
  have hc:i<j:=by have:=of_decide_eq_true hc;omega
  unfold lb
  rw [show (i:Int)+(j:Int)=((i+j:Nat):Int) by omega,half_u _ (by omega)]
  have hm:(i+j) / 2<l.length:=by omega
  have pw:=List.pairwise_iff_getElem.1 h.asc
  refine Y.idx rfl hm (Y.eq (cmp _) ?_)
  by_cases hlt:l[(i+j) / 2].ID<id
  ·rw [if_pos hlt]
   refine Y.ret ⟨⟨(i+j) / 2+1,j,?_,rfl,by omega,h2,fun k p hp hk=>?_,h4⟩,?_⟩
   ·show IntKind.i64.wrap _=_;rw [cH (by omega) (by omega)];omega
   ·obtain ⟨hk2,rfl⟩:=List.getElem?_eq_some_iff.1 hp
    rcases Nat.lt_or_ge k ((i+j) / 2) with h5 | h5
    ·have:=pw k ((i+j) / 2) hk2 hm h5;omega
    have e:k=(i+j) / 2:=by omega
    subst e;exact hlt
   show ((j:Int) - IntKind.i64.wrap _).toNat<_;rw [cH (by omega) (by omega)];omega
  rw [if_neg hlt]
  have hd:decide ((if id<l[(i+j) / 2].ID then (1:Int) else 0)<0)=false:=by split <;> rfl
  rw [hd]
  refine Y.ret ⟨⟨i,(i+j) / 2,rfl,rfl,by omega,by omega,h3,fun k p hp hk=>?_⟩,by dsimp only;omega⟩
  obtain ⟨hk2,rfl⟩:=List.getElem?_eq_some_iff.1 hp
  rcases Nat.lt_or_ge ((i+j) / 2) k with h5 | h5
  ·have:=pw ((i+j) / 2) k hm hk2 h5;omega
  have e:k=(i+j) / 2:=by omega
  subst e;omega
 obtain ⟨⟨t1,t2⟩,e,rfl,j,hj,h1,h2,h3⟩:=hloop
 dsimp only at hj
 subst hj
 rw [e]
 simp only [bg]
 by_cases hjl:j<l.length
 ·rw [det (show (j:Int)<(l.length:Int) by omega),cx,aV hjl,bg,cx,cmp,bg]
  have h4:=h3 j _ (List.getElem?_eq_getElem hjl) (Nat.le_refl _)
  rw [if_neg (by omega)]
  by_cases heq:t1<l[j].ID
  ·have hn:da l t1=none:=by
    unfold da;rw [List.find?_eq_none]
    intro p hp
    obtain ⟨k,hk,rfl⟩:=List.getElem_of_mem hp
    have:l[k].ID≠t1:=by
     rcases Nat.lt_or_ge k j with h5 | h5
     ·have:=h2 k _ (List.getElem?_eq_getElem hk) h5;omega
     rcases Nat.lt_or_ge j k with h6 | h6
     ·have:=List.pairwise_iff_getElem.1 h.asc j k hjl hk h6;omega
     have e:k=j:=by omega
     subst e;omega
    simpa using this
   rw [if_pos heq,hn];exact ⟨j,rfl,fun p hp=>by cases hp⟩
  ·have hid:l[j].ID=t1:=by omega
   have hs:da l t1=some l[j]:=by
    unfold da
    rw [List.find?_eq_some_iff_getElem]
    refine ⟨by simpa using hid,j,hjl,rfl,fun k hk=>?_⟩
    have:=h2 k _ (List.getElem?_eq_getElem (by omega)) hk
    have:l[k].ID≠t1:=by omega
    simpa using this
   rw [if_neg heq,hs];exact ⟨j,rfl,fun p hp=>by injection hp with hp;exact ⟨hjl,hp⟩⟩
 rw [bK (show ¬ (j:Int)<(l.length:Int) by omega),jx,bg,jx,bg]
 have hn:da l t1=none:=by
  unfold da;rw [List.find?_eq_none]
  intro p hp
  obtain ⟨k,hk,rfl⟩:=List.getElem_of_mem hp
  have:=h2 k _ (List.getElem?_eq_getElem hk) (by omega)
  have:l[k].ID≠t1:=by omega
  simpa using this
 rw [hn];exact ⟨j,rfl,fun p hp=>by cases hp⟩
theorem vj (l:List Zc) (id:Int) (h:Sorted l):cK l id=some (hZ Fa (da l id)):=by
 unfold cK
 obtain ⟨j,e,hj⟩:=CZ l id h
 rw [e,bg]
 cases hf:da l id with
 | none=>rfl
 | some p =>
  obtain ⟨hjl,rfl⟩:=hj p hf
  have hs:=h.small _ (List.getElem_mem hjl)
  simp only [Option.isSome_some,Bool.not_true,bI,aV hjl,bg]
  unfold bP bX
  rw [js (by omega) (by omega),bg,js (by omega) (by omega),bg];rfl
theorem MPs.sorted {l:List Zc} (h:MPs l):Sorted l:=by
 refine ⟨by have:=h.len;omega,?_,fun p hp=>?_⟩
 ·rw [List.pairwise_iff_getElem]
  intro i j hi hj hij
  have h1:=(h.all i _ (List.getElem?_eq_getElem hi)).id
  have h2:=(h.all j _ (List.getElem?_eq_getElem hj)).id
  omega
 obtain ⟨i,hi,rfl⟩:=List.getElem_of_mem hp
 have hm:=h.all i _ (List.getElem?_eq_getElem hi)
 have h1:=hm.proc.length_le;have h2:=hm.few;have h6:W5.length=5:=rfl
 omega
end SX
end Go.Proofs.YtgmbmepakpcpaaaGreatDoor
