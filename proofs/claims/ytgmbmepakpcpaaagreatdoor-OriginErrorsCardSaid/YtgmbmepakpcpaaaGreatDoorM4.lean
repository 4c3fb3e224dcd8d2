/- A part of the proof: texts of the walk and of the plain laws, merged. No condition. -/
import Derived.Test.YtgmbmepakpcpaaaGreatDoorM3
set_option linter.unusedVariables false
set_option linter.unusedSimpArgs false
set_option maxHeartbeats 4000000
set_option maxRecDepth 100000
namespace Go.Proofs.YtgmbmepakpcpaaaGreatDoor
namespace SX
open Go
attribute [local irreducible] PWL PWC PWD POpL POpQ PEv PGuardIs PSub PPick PUpd PSplice PFill PLit PF PFV PCall FOk eK ey lK nH iW mA Cov PHolds aW idx app mk gd lb nz ll DM sub jY dc nY wc fu cx ol we IntKind.wrap Int.tmod Int.tdiv Op.bytesLess strOfNums
def fp (p0:Zt) (p1:Zn):Option ((List Int)×Bool):=(rule_holds p0.rule p1).bind fun x3=>some ([],x3)
theorem oy {p0:Zt} {p1:Zn} {r:((List Int)×Bool)}  (h:fp p0 p1=some r):PF 249 [.agg (au p0.rule),.agg (bz p1)] (.tup [pL eI r.1,pB r.2]):=by
 unfold fp at h
 refine bd ?_
 refine dm Tryz.func249 rfl Tryz.ntmps249 Tryz.results249 rfl (cU rfl (bg (cs:=(au p0.rule)) rfl rfl (fun b1=>al rfl (bg (cs:=(bz p1)) rfl rfl (fun b2=>ba [4,5] (by kernel_rfl) (cO h fun x3 hx3 h=>an [1,0] [6,7,8,9] [(4,pN),(5,pB x3)] (bi 3 (wq hx3) bh) (by kernel_rfl) (aN (gg 4 rfl (bB ?_)))))))))
 obtain rfl:=osi h
 exact aR (cH (aT rfl) (aT rfl)) bv ⟨rfl,rfl⟩
def Irule_test_witness_B (rec:Zi→Zn→Option ((List Int)×Bool)) (x:Zi) (y0:Zn):Option ((List Int)×Bool):=match x with | .single_ a=>fp a y0 | .every_ a=>eY rec a y0 | .some_ a=>fm rec a y0
theorem Irule_test_witness_B_ok {rec:Zi→Zn→Option ((List Int)×Bool)} (hrec:∀ {x:Zi} {y0:Zn} {w:((List Int)×Bool)},rec x y0=some w→PFI x.pv "customs/rule.witness" [.agg (bz y0)] (.tup [pL eI w.1,pB w.2])) {x:Zi} {y0:Zn} {w:((List Int)×Bool)} (h:Irule_test_witness_B rec x y0=some w):PFI x.pv "customs/rule.witness" [.agg (bz y0)] (.tup [pL eI w.1,pB w.2]):=by
 cases x with
 | single_ a=>rw [Zi.pv_single_];exact uU ⟨fun _ _=>by kernel_rfl⟩ (oy h)
 | every_ a=>rw [Zi.pv_every_];exact uU ⟨fun _ _=>by kernel_rfl⟩ (nS hrec h)
 | some_ a=>rw [Zi.pv_some_];exact uU ⟨fun _ _=>by kernel_rfl⟩ (ox hrec h)
def Irule_test_witness_F (n:Nat):Zi→Zn→Option ((List Int)×Bool):=Nat.rec (motive:=fun _=>Zi→Zn→Option ((List Int)×Bool)) (fun _ _=>none) (fun _ ih=>Irule_test_witness_B ih) n
def Irule_test_witness (x:Zi) (y0:Zn):Option ((List Int)×Bool):=Irule_test_witness_F FUEL x y0
theorem Irule_test_witness_Fok (n:Nat):∀ {x:Zi} {y0:Zn} {w:((List Int)×Bool)},Irule_test_witness_F n x y0=some w→PFI x.pv "customs/rule.witness" [.agg (bz y0)] (.tup [pL eI w.1,pB w.2]):=by
 induction n with
 | zero=>intros;rename_i h;exact nomatch h
 | succ n ih=>intros;rename_i h;exact Irule_test_witness_B_ok (fun hr=>ih hr) h
theorem Irule_test_witness_ok {x:Zi} {y0:Zn} {w:((List Int)×Bool)} (h:Irule_test_witness x y0=some w):PFI x.pv "customs/rule.witness" [.agg (bz y0)] (.tup [pL eI w.1,pB w.2]):=Irule_test_witness_Fok FUEL h
def cr (p0:(List Zf)) (p1:(Zf→Option Bool)):Option Int:=(aW (S:=Int) (T:=(Unit)⊕(_)) (fun v1=>cond (decide (v1<(p0.length:Int))) ((idx p0 v1).bind fun m5=>(p1 m5).bind fun x6=>cond x6 (some (.inr (.inr v1))) (some (.inl (IntKind.i64.wrap (v1+1))))) (some (.inr (.inl ())))) FUEL 0).bind fun q=>match q with | .inl _=>some (-1) | .inr e=>some e
theorem fF {p0:(List Zf)} {p1:(Zf→Option Bool)} {r:Int} {g1:PV} (hg1:∀ {y0:Zf} {w:Bool},p1 y0=some w→PFV g1 [.agg (gH y0)] (pB w)) (h:cr p0 p1=some r):PF 128 [pL Zf.enc p0,g1] (pI r):=by
 unfold cr at h
 refine bd ?_
 refine dm Tryz.func128 rfl Tryz.ntmps128 Tryz.results128 rfl (aS [4] (by kernel_rfl) (cq (ai [6] [(7,pI (p0.length:Int)),(8,pI 0)] (by kernel_rfl) (eZ h fun q3 hq3 h=>?_))))
 refine am (Y:=Unit×Unit) (fun (_,_)=>[]) (fun (_,_)=>[]) (fun (_,_)=>q3=Sum.inl ()) ?_ ?_
 ·refine az ?_
  refine aC (Y:=Unit) (S:=Int) _ hq3 (fun _ v1=>[(0,pL Zf.enc p0),(1,g1),(7,pI (p0.length:Int)),(8,pI v1)]) (fun _ v1=>[]) () (hY rfl) bv ?_
  rintro _ v1 o τ hb2;(try dsimp only at hb2);dsimp only [aw]
  refine ae (aj [(9,pB (decide (v1<(p0.length:Int))))] (by kernel_rfl) (bX (i4 rfl hb2 (fun hc4 hb2=>?_) fun hc4 hb2=>?_)))
  ·refine ah ?_
   refine du (ai [10] [(5,pI v1)] (by kernel_rfl) (cO hb2 fun m5 hm5 hb2=>aa hb2 fun x6 hx6 hb2=>an [] (rg 11 5) [(16,pB x6)] (cJ 3 Zf.enc hm5 (A2 5 (hg1 hx6) bh)) (by kernel_rfl) (cR rfl hb2 (fun hc7 hb2=>?_) fun hc7 hb2=>?_)))
   ·refine ae ?_
    refine ai [17] [(4,pI v1)] (by kernel_rfl) (dj (dR ?_))
    refine aA hb2 (fun ht=>?_);subst ht
    refine cS ?_
    exact zz r h rfl
   refine ah ?_
   refine dt (ai [18] [(8,pI (IntKind.i64.wrap (v1+1)))] (by kernel_rfl) ?_)
   exact aP hb2 () (hY rfl) bv
  refine aG ?_
  refine cb hb2 (fun ht=>ak rfl ?_)
  exact av ((),()) nG bv ht.symm
 rintro ⟨_,_⟩ τ hz;(try dsimp only at hz);subst q3;(try dsimp only at h);dsimp only [aw]
 refine ae (da [(4,pI (-1))] (by kernel_rfl) ?_)
 exact zz r h rfl
def ca (p0:(List Zf)) (p1:(Zf→Option Bool)):Option Bool:=(cr p0 p1).bind fun x1=>some (decide (0≤x1))
theorem fi {p0:(List Zf)} {p1:(Zf→Option Bool)} {r:Bool} {g1:PV} (hg1:∀ {y0:Zf} {w:Bool},p1 y0=some w→PFV g1 [.agg (gH y0)] (pB w)) (h:ca p0 p1=some r):PF 85 [pL Zf.enc p0,g1] (pB r):=by
 unfold ca at h
 refine bd ?_
 refine dm Tryz.func85 rfl Tryz.ntmps85 Tryz.results85 rfl (aS [4] (by kernel_rfl) (cO h fun x1 hx1 h=>an [] [5,6,7,8] [(4,pB (decide (0≤x1)))] (bi 2 (fF hg1 hx1) bh) (by kernel_rfl) (dj ?_)))
 exact zz r h rfl
def oz (p0:Zf) (p1:Za):Option Bool:=some (Za.eqb p0.Claim p1)
theorem tU {p0:Zf} {p1:Za} {r:Bool}  (h:oz p0 p1=some r):PF 86 [.agg (gH p0),.ref [pI p1.Product,pI p1.Agreement] 0] (pB r):=by
 unfold oz at h
 refine bd ?_
 refine dm Tryz.func86 rfl Tryz.ntmps86 Tryz.results86 rfl (cU rfl (bg (cs:=(gH p0)) rfl rfl (fun b1=>ba [3] (by kernel_rfl) (bX (an [0] [4,5,6,7] [(3,pB (Za.eqb p0.Claim p1))] (A1 3 Za.eqok28 bh) (by kernel_rfl) (dj ?_))))))
 exact zz r h rfl
def oA (p0:(List Zf)) (p1:Za):Option Bool:=(ca p0 (fun y2=>oz y2 p1)).bind fun x3=>some x3
theorem qM {p0:(List Zf)} {p1:Za} {r:Bool}  (h:oA p0 p1=some r):PF 37 [pL Zf.enc p0,.agg [pI p1.Product,pI p1.Agreement]] (pB r):=by
 unfold oA at h
 refine bd ?_
 refine dm Tryz.func37 rfl Tryz.ntmps37 Tryz.results37 rfl (cU rfl (bg (cs:=[pI p1.Product,pI p1.Agreement]) rfl rfl (fun b1=>ba [4] (by kernel_rfl) (bX (af (aB 1 [(5,pL Zf.enc p0)] (by kernel_rfl) ?_))))))
 refine oj 3 rfl (by exact aJ) ?_
 refine aa h fun x3 hx3 h=>jr [] [6,7] [(4,pB x3)] (bi 1 (fi (fun hr=>qQ (tU hr)) hx3) bh) (by kernel_rfl) (dj ?_)
 exact zz r h rfl
def mO (p0:(List Int)) (p1:(List Int)):Option Bool:=cond ((p0.length:Int) != (p1.length:Int)) (some false) ((aW (S:=Int) (T:=(Unit)⊕(_)) (fun v2=>cond (decide (v2<(p0.length:Int))) ((idx p0 v2).bind fun m6=>(idx p1 v2).bind fun m7=>cond (m6 != m7) (some (.inr (.inr false))) (some (.inl (IntKind.i64.wrap (v2+1))))) (some (.inr (.inl ())))) FUEL 0).bind fun q=>match q with | .inl _=>some true | .inr e=>some e)
theorem wr {p0:(List Int)} {p1:(List Int)} {r:Bool}  (h:mO p0 p1=some r):PF 80 [pL eI p0,pL eI p1] (pB r):=by
 unfold mO at h
 refine bd ?_
 refine dm Tryz.func80 rfl Tryz.ntmps80 Tryz.results80 rfl (aS [4] (by kernel_rfl) (cq (bI [6,7,8,9] [(10,pB ((p0.length:Int) != (p1.length:Int)))] (by kernel_rfl) rfl h (fun hc1 h=>?_) fun hc1 h=>?_)))
 ·refine ae ?_
  refine da [(4,pB false)] (by kernel_rfl) (aq ?_)
  exact zz r h rfl
 refine ah ?_
 refine cq (aj [(5,pI 0)] (by kernel_rfl) (eZ h fun q4 hq4 h=>?_))
 refine am (Y:=Unit×Unit) (fun (_,_)=>[]) (fun (_,_)=>[]) (fun (_,_)=>q4=Sum.inl ()) ?_ ?_
 ·refine az ?_
  refine aC (Y:=Unit) (S:=Int) _ hq4 (fun _ v2=>[(0,pL eI p0),(1,pL eI p1),(5,pI v2)]) (fun _ v2=>[]) () (mq rfl) bv ?_
  rintro _ v2 o τ hb3;(try dsimp only at hb3);dsimp only [aw]
  refine cN (bI [11,12,13] [(14,pB (decide (v2<(p0.length:Int))))] (by kernel_rfl) rfl hb3 (fun hc5 hb3=>?_) fun hc5 hb3=>?_)
  ·refine ah ?_
   refine du (bo (ρd:=[]) [(0,0),(1,0),(2,0),(3,0),(4,0),(5,0),(6,0),(7,0),(8,0)] _ (List.Perm.refl _) (by kernel_rfl) rfl (aa hb3 fun m6 hm6 hb3=>aa hb3 fun m7 hm7 hb3=>bx 9 [] (rg 17 8) [(25,pB (m6 != m7))] (cJ 2 eI hm6 (cJ 6 eI hm7 bh)) (by kernel_rfl) (bG (cR rfl hb3 (fun hc8 hb3=>?_) fun hc8 hb3=>?_))))
   ·refine ae ?_
    refine da [(4,pB false)] (by kernel_rfl) (dR ?_)
    refine aA hb3 (fun ht=>?_);subst ht
    refine cS ?_
    exact zz r h rfl
   refine ah ?_
   refine dt (ai [15,16] [(5,pI (IntKind.i64.wrap (v2+1)))] (by kernel_rfl) ?_)
   exact aP hb3 () (mq rfl) bv
  refine aG ?_
  refine cb hb3 (fun ht=>ak rfl ?_)
  exact av ((),()) nG bv ht.symm
 rintro ⟨_,_⟩ τ hz;(try dsimp only at hz);subst q4;(try dsimp only at h);dsimp only [aw]
 refine ae (da [(4,pB true)] (by kernel_rfl) ?_)
 exact zz r h rfl
def kO (p0:(List Zf)) (p1:(List Zf)):Option Bool:=cond ((p0.length:Int) != (p1.length:Int)) (some false) ((aW (S:=Int) (T:=(Unit)⊕(_)) (fun v2=>cond (decide (v2<(p0.length:Int))) ((idx p0 v2).bind fun m6=>(idx p1 v2).bind fun m7=>(gd (!(!(Za.eqb m6.Claim m7.Claim))) (idx p0 v2)).bind fun m8=>(gd (!(!(Za.eqb m6.Claim m7.Claim))) (idx p1 v2)).bind fun m9=>(gd (!(!(Za.eqb m6.Claim m7.Claim))) (mO m8.Path m9.Path)).bind fun x10=>(gd (!((!(Za.eqb m6.Claim m7.Claim))||(!x10))) (idx p0 v2)).bind fun m11=>(gd (!((!(Za.eqb m6.Claim m7.Claim))||(!x10))) (idx p1 v2)).bind fun m12=>(gd (!((!(Za.eqb m6.Claim m7.Claim))||(!x10))) (gP m11.Premises m12.Premises)).bind fun x13=>cond (((!(Za.eqb m6.Claim m7.Claim))||(!x10))||(!x13)) (some (.inr (.inr false))) (some (.inl (IntKind.i64.wrap (v2+1))))) (some (.inr (.inl ())))) FUEL 0).bind fun q=>match q with | .inl _=>some true | .inr e=>some e)
theorem wv {p0:(List Zf)} {p1:(List Zf)} {r:Bool}  (h:kO p0 p1=some r):PF 31 [pL Zf.enc p0,pL Zf.enc p1] (pB r):=by
 unfold kO at h
 refine bd ?_
 refine dm Tryz.func31 rfl Tryz.ntmps31 Tryz.results31 rfl (aS [4] (by kernel_rfl) (cq (bI [6,7,8,9] [(10,pB ((p0.length:Int) != (p1.length:Int)))] (by kernel_rfl) rfl h (fun hc1 h=>?_) fun hc1 h=>?_)))
 ·refine ae ?_
  refine da [(4,pB false)] (by kernel_rfl) (aq ?_)
  exact zz r h rfl
 refine ah ?_
 refine cq (aj [(5,pI 0)] (by kernel_rfl) (eZ h fun q4 hq4 h=>?_))
 refine am (Y:=Unit×Unit) (fun (_,_)=>[]) (fun (_,_)=>[]) (fun (_,_)=>q4=Sum.inl ()) ?_ ?_
 ·refine az ?_
  refine aC (Y:=Unit) (S:=Int) _ hq4 (fun _ v2=>[(0,pL Zf.enc p0),(1,pL Zf.enc p1),(5,pI v2)]) (fun _ v2=>[]) () (mq rfl) bv ?_
  rintro _ v2 o τ hb3;(try dsimp only at hb3);dsimp only [aw]
  refine cN (bI [11,12,13] [(14,pB (decide (v2<(p0.length:Int))))] (by kernel_rfl) rfl hb3 (fun hc5 hb3=>?_) fun hc5 hb3=>?_)
  ·refine ah ?_
   refine du (bo (ρd:=[]) [(0,0),(1,0),(2,0),(3,0),(4,0),(5,0),(6,0),(7,0),(8,0),(9,0),(10,0),(11,0),(12,0),(13,0),(14,0),(15,0),(16,0),(17,0),(18,0),(19,0),(20,0),(21,0),(22,1),(23,0),(24,0),(25,0),(26,0),(27,0),(28,0),(29,0),(30,0),(31,0),(32,0),(33,0),(34,0),(35,0),(36,1),(37,0),(38,0)] _ (List.Perm.refl _) (by kernel_rfl) rfl (aa hb3 fun m6 hm6 hb3=>aa hb3 fun m7 hm7 hb3=>aa hb3 fun m8 hm8 hb3=>aa hb3 fun m9 hm9 hb3=>aa hb3 fun x10 hx10 hb3=>aa hb3 fun m11 hm11 hb3=>aa hb3 fun m12 hm12 hb3=>aa hb3 fun x13 hx13 hb3=>bx 39 [] (rg 17 38) [(55,pB (((!(Za.eqb m6.Claim m7.Claim))||(!x10))||(!x13)))] (cJ 2 Zf.enc hm6 (cJ 7 Zf.enc hm7 (A1 10 Za.eqok28 (eM 14 Zf.enc (cD hm8) (eM 19 Zf.enc (cD hm9) (dT 22 (fun hc=>wr (cD hx10 hc)) (eM 28 Zf.enc (cD hm11) (eM 33 Zf.enc (cD hm12) (dT 36 (fun hc=>qC (cD hx13 hc)) bh))))))))) (by kernel_rfl) (bG (cR rfl hb3 (fun hc14 hb3=>?_) fun hc14 hb3=>?_))))
   ·refine ae ?_
    refine da [(4,pB false)] (by kernel_rfl) (dR ?_)
    refine aA hb3 (fun ht=>?_);subst ht
    refine cS ?_
    exact zz r h rfl
   refine ah ?_
   refine dt (ai [15,16] [(5,pI (IntKind.i64.wrap (v2+1)))] (by kernel_rfl) ?_)
   exact aP hb3 () (mq rfl) bv
  refine aG ?_
  refine cb hb3 (fun ht=>ak rfl ?_)
  exact av ((),()) nG bv ht.symm
 rintro ⟨_,_⟩ τ hz;(try dsimp only at hz);subst q4;(try dsimp only at h);dsimp only [aw]
 refine ae (da [(4,pB true)] (by kernel_rfl) ?_)
 exact zz r h rfl
end SX
namespace SX
open Go
abbrev bl (s:ByteArray):List UInt8:=s.data.toList
theorem bl_hi (s:ByteArray) (k:Nat):bl (s.extract 0 k)=(bl s).take k:=by simp [bl]
theorem bl_lo (s:ByteArray) (k:Nat):bl (s.extract k s.size)=(bl s).drop k:=by
  simp only [bl,ByteArray.data_extract,Array.toList_extract,List.extract_eq_take_drop]
  rw [List.take_of_length_le];simp
theorem mg (s:ByteArray):s.size=(bl s).length:=by simp [bl]
theorem bl_inj {s u:ByteArray} (h:bl s=bl u):s=u:=by
  obtain ⟨⟨x⟩⟩:=s;obtain ⟨⟨y⟩⟩:=u;simp [bl] at h;subst h;rfl
def kb (n:Nat):Bool:=decide (48≤n∧n≤57)
def fM (p:Nat→Bool):List Value:=(List.range 256).map fun i=>.bool (p i)
theorem fx (p:Nat→Bool):(fM p).length=256:=by simp [fM]
theorem mh (p:Nat→Bool) {j:Nat} (h:j<256):(fM p)[j]?=some (.bool (p j)):=by simp [fM,h]
theorem yn (p q:Nat→Bool) {j:Nat} (h:∀ i,q i=(decide (i=j)||p i)):(fM p).set j (.bool true)=fM q:=by
  apply List.ext_getElem?
  intro i
  rw [List.getElem?_set]
  simp only [fx]
  rcases Nat.lt_or_ge i 256 with hi | hi
  · rw [mh q hi,mh p hi,h i]
    by_cases e:j=i
    · subst e;simp [hi]
    · rw [if_neg e];simp [show ¬ i=j from fun h=>e h.symm]
  · rw [List.getElem?_eq_none (by rw [fx];exact hi),List.getElem?_eq_none (by rw [fx];exact hi)]
    split
    · rw [if_neg (by omega)]
    · rfl
section
variable {o:Oper} {σ:Env} {ρ:List Res} {κ:Kr} {c:Bool} {x y:Operand} {K:Value→List Res→Kr→Prop}
theorem Sh.at1 {b k:Nat} {cs:List Value} {v:Value} (h:Sh κ b 0 cs) (hv:cs[k]?=some v):Sh κ b (0+k*1) [v]:=⟨h.1,fun j u hu=>by
  cases j with
  | zero=>simp at hu;subst hu;have:=h.2 k v hv;simpa using this
  | succ j=>simp at hu⟩
theorem zQ {t b T sz by':Nat} {cs:List Value} {z:Value} {d:TypeDesc} (ho:o.op=.load t x) (hx:Ev σ c x (.pointer (some ⟨b,0,none⟩))) (hm:Res.b b T cs∈ρ) (hd:eN t=some d) (ha:lC d=true) (hi:ga t=some (z,sz,by')) (hl:cs.length=sz):OpQ c o σ ρ κ (.agg cs.toArray):=by
  refine wH ho hx hm ?_
  unfold jV
  simp only [hd,hi,ha,cond_true,List.drop_zero]
  rw [Nat.ble_eq_true_of_le (by omega)]
  simp [← hl]
end
attribute [local irreducible] WL WC WD OpL OpQ OpG Ev GuardIs AI lB D3 Call CallP midK uD Holds uo Sub Pick WS Step Lit Upd SetAt SpliceAt FillR Sh LateRun
theorem tm (κ:Kr) (b:Nat) (p:Nat→Bool) (m:Int) (hs:Sh κ b 0 (fM p)) (h0:0≤m) (h1:m≤255):CallP 204 [.pointer (some ⟨b,0,none⟩),.int .u8 m] κ fun v _=>v=.bool (p m.toNat):=by
  (unfold CallP;apply oa Tryz.func204 (F9 Tryz.func204 rfl) rfl Tryz.ntmps204 Tryz.results204 rfl)
  repeat (first | (first | (apply eO rfl rfl rfl;(focus (first | exact bY (v:=(.int _ _)) rfl (.p rfl) | exact bY (v:=(.pointer _)) rfl (.p rfl) | exact cA (v:=(.bool _)) rfl (.p rfl) | exact pm rfl (.p rfl)))) | apply dr) | (first | apply dV | apply bF | apply dS))
  apply eO rfl rfl rfl (wM (j:=m.toNat) rfl rfl rfl (.p rfl) (.p rfl) (fun _=>by omega) (fun _=>by omega))
  apply eO rfl rfl rfl (so rfl (.p rfl) (fun _=>(hs.mono (by (repeat (exact Kle.refl _)))).at1 (mh p (by omega))) rfl)
  repeat (first | (first | (apply eO rfl rfl rfl;(focus (exact cA (v:=(.bool _)) rfl (.p rfl)))) | apply dr) | (first | apply dS | apply mu))
  exact nj (xM (v:=.bool _) rfl) .none ⟨rfl,rfl⟩
def jl:ByteArray:=⟨#[48,49,50,51,52,53,54,55,56,57]⟩
theorem yo:∀ {k:Nat},k<10→((jl.data.toList.getD k 0).toNat:Int)=48+(k:Int):=by decide
theorem E9 (κ:Kr):CallP 180 [.string jl] κ fun v _=>v=.tuple #[.agg (fM kb).toArray,.bool true]:=by
  (unfold CallP;apply oa Tryz.func180 (F9 Tryz.func180 rfl) rfl Tryz.ntmps180 Tryz.results180 rfl)
  repeat (first | (first | (apply eO rfl rfl rfl;(focus (first | exact cA (v:=(.int _ _)) rfl (.p rfl) | exact cA (v:=(.bool _)) rfl (.p rfl)))) | (apply yO rfl rfl rfl;apply wI rfl rfl;intro _ _ _) | apply dr) | (first | apply dV | apply bF | apply jU | apply dS))
  rename_i b2 κ1 _
  have e0:List.replicate 256 (Value.bool false)=fM (fun i=>decide (48≤i∧i<48+0)):=by
    apply List.ext_getElem?
    intro i
    rcases Nat.lt_or_ge i 256 with hi | hi
    · rw [mh _ hi,List.getElem?_replicate,if_pos hi];congr 2;symm;rw [decide_eq_false_iff_not];omega
    · rw [List.getElem?_eq_none (by simpa using hi),List.getElem?_eq_none (by rw [fx];exact hi)]
  rw [e0]
  refine rD (X:=Nat) (fun k=>[(0,.string jl),(2,.pointer (some ⟨b2,0,none⟩)),(4,.int .i64 (k:Int))]) (fun k=>[Res.b b2 243 (fM fun i=>decide (48≤i∧i<48+k))]) (fun k _=>k≤10) (fun k=>10 - k) 0 (by (repeat (first | exact Holds.nil | apply Holds.cons rfl))) (by (repeat (first | exact Sub.nil | (apply Sub.cons;(focus (repeat (exact Pick.h))))))) (by omega) ?_
  intro k τ κ2 _ hk
  simp only [uo]
  repeat (first | (first | (apply eO rfl rfl rfl;(focus (first | exact bY (v:=(.int _ _)) rfl (.p rfl) | exact bY (v:=(.string _)) rfl (.p rfl) | exact n7 rfl (.p rfl) (.p rfl) rfl | exact mW rfl rfl (.p rfl)))) | apply dr) | (first | apply dV | apply bF | apply dS))
  apply xN rfl <;> intro hc
  · have hk10:k<10:=by
      have e:(jl.size:Int)=10:=rfl
      rw [e] at hc;omega
    repeat (first | (apply eO rfl rfl rfl;(focus (first | exact bY (v:=(.int _ _)) rfl (.p rfl) | exact bY (v:=(.string _)) rfl (.p rfl)))) | (first | apply dV | apply bF | apply jU | apply dS | apply jT))
    apply eO rfl rfl rfl (nD (s:=jl) (j:=k) rfl rfl (.p rfl) (.p rfl) (fun _=>rfl) (fun _=>hk10))
    rw [yo hk10]
    repeat (first | (first | (apply eO rfl rfl rfl;(focus (first | exact bY (v:=(.int _ _)) rfl (.p rfl) | exact cA (v:=(.int _ _)) rfl (.p rfl) | exact n7 rfl (.p rfl) (.p rfl) rfl))) | apply dr) | (first | apply dV | apply bF | apply dS))
    apply DV (by have:¬ (128:Int)≤48+(k:Int):=by omega
                 simp [ev,upd,this])
    repeat (first | (apply eO rfl rfl rfl;(focus (exact bY (v:=(.int _ _)) rfl (.p rfl)))) | (first | apply bF | apply dS | apply jT))
    apply eO rfl rfl rfl (wM (j:=48+k) rfl rfl rfl (.p rfl) (.p rfl) (fun _=>by omega) (fun _=>by omega))
    apply BT rfl rfl
    apply CU (v:=.bool true) rfl rfl rfl rfl rfl rfl (by (repeat (exact Upd.h))) (by rw [fx];omega)
    intro κ3 _
    have e1:(fM fun i=>decide (48≤i∧i<48+k)).set (0+(48+k)*1) (.bool true)=fM fun i=>decide (48≤i∧i<48+(k+1)) :=
      yn _ _ fun i=>by rw [Bool.eq_iff_iff];simp;omega
    rw [e1]
    repeat (first | (first | (apply eO rfl rfl rfl;(focus (first | exact bY (v:=(.int _ _)) rfl (.p rfl) | exact cA (v:=(.int _ _)) rfl (.p rfl) | exact n8 rfl (.p rfl) (.p rfl) rfl (fun _=>by omega)))) | apply dr) | (first | apply bF | apply dS | apply qm))
    exact xL (k+1) (by (repeat (first | exact Holds.nil | apply Holds.cons rfl))) (by (repeat (first | exact Sub.nil | (apply Sub.cons;(focus (repeat (exact Pick.h))))))) (by omega) (by omega)
  · have hk10:k=10:=by
      have e:(jl.size:Int)=10:=rfl
      rw [e] at hc;omega
    subst hk10
    have e2:(fun i=>decide (48≤i∧i<48+10))=kb:=by funext i;simp only [kb];rw [Bool.eq_iff_iff];simp;omega
    rw [e2]
    apply n5;apply kz;apply jE;apply kA rfl;apply dS;apply dV;apply bF
    apply eO rfl rfl rfl (zQ rfl (.p rfl) (by (repeat (exact List.Mem.head _))) rfl rfl rfl (fx _))
    apply BT rfl rfl
    apply wJ rfl rfl rfl rfl (fx _) (by simp [fM,Value.oneCell']) (by (repeat (exact Upd.h))) rfl
    intro κ3 _
    repeat (first | (first | (apply eO rfl rfl rfl;(focus (exact cA (v:=(.bool _)) rfl (.p rfl)))) | apply dr) | (first | apply dS | apply mu))
    refine nj (rv_2 (RV1.cell rfl (by (repeat (exact List.Mem.head _))) ?_) (rv1_t (v:=.bool _) rfl)) .none ⟨rfl,rfl⟩
    unfold jV
    simp only [show eN 243=some (.array 256 4) from rfl,show ga 243=some (.agg (List.replicate 256 (.bool false)).toArray,256,256) from rfl,lC,cond_true,List.drop_zero,fx]
    rw [List.take_of_length_le (by rw [fx];omega)];rfl
theorem uk {l:List UInt8} {j:Nat} (h:j<l.length):l.getD j 0=l[j]:=by simp [List.getD_eq_getElem?_getD,h]
theorem yp (κ:Kr) (b:Nat) (s:ByteArray) (hs:Sh κ b 0 (fM kb)) (hz:s.size≤1000000000):CallP 182 [.string s,.pointer (some ⟨b,0,none⟩)] κ fun v _=>∃ u k,v=.string u∧bl u=(bl s).take k∧k≤(bl s).length∧(∀ c∈(bl s).drop k,kb c.toNat=true)∧(∀ c,(bl u).getLast?=some c→kb c.toNat=false):=by
  (unfold CallP;apply oa Tryz.func182 (F9 Tryz.func182 rfl) rfl Tryz.ntmps182 Tryz.results182 rfl)
  repeat (first | (first | (apply eO rfl rfl rfl;(focus (exact cA (v:=(.string _)) rfl (.p rfl)))) | apply dr) | (first | apply dV | apply bF | apply jU | apply dS))
  refine rD (X:=ByteArray×Nat) (fun z=>[(0,.string z.1),(1,.pointer (some ⟨b,0,none⟩))]) (fun _=>[]) (fun z _=>bl z.1=(bl s).take z.2∧z.2≤(bl s).length∧∀ c∈(bl s).drop z.2,kb c.toNat=true) (fun z=>z.2) (s,(bl s).length) (by (repeat (first | exact Holds.nil | apply Holds.cons rfl))) (by (repeat (exact Sub.nil))) ⟨(List.take_length).symm,Nat.le_refl _,by rw [List.drop_length];simp⟩ ?_
  rw [mg] at hz
  rintro ⟨u,k⟩ τ κ2 _ ⟨h1,h2,h3⟩
  dsimp only at h1 h2 h3
  have hsz:u.size=k:=by rw [mg,h1,List.length_take];omega
  simp only [uo]
  repeat (first | (first | (apply eO rfl rfl rfl;(focus (first | exact bY (v:=(.string _)) rfl (.p rfl) | exact n7 rfl (.p rfl) (.p rfl) rfl | exact mW rfl rfl (.p rfl)))) | apply dr) | (first | apply dV | apply bF | apply dS))
  apply xN rfl <;> intro hc
  · have hk0:0<k:=by omega
    repeat (first | (apply eO rfl rfl rfl;(focus (first | exact bY (v:=(.pointer _)) rfl (.p rfl) | exact bY (v:=(.string _)) rfl (.p rfl) | exact n8 rfl (.p rfl) (.p rfl) rfl (fun _=>by omega) | exact mW rfl rfl (.p rfl)))) | (first | apply dV | apply bF | apply jU | apply dS | apply jT))
    apply eO rfl rfl rfl (nD (j:=k - 1) rfl rfl (.p rfl) (.p rfl) (fun _=>by omega) (fun _=>by omega))
    have hlast:(bl u).getLast?=some ((bl u).getD (k - 1) 0):=by
      rw [List.getLast?_eq_getElem?,← mg,hsz,uk (by rw [← mg];omega),List.getElem?_eq_getElem]
    apply yO rfl rfl rfl;apply mv rfl rfl (tm _ b kb ((u.data.toList.getD (k - 1) 0).toNat:Int) (hs.mono (by (repeat (assumption)))) (by omega) (by have:=(u.data.toList.getD (k - 1) 0).toNat_lt;omega))
    rintro v κ3 _ rfl
    repeat (first | (first | (apply eO rfl rfl rfl;(focus (exact AK rfl (.p rfl)))) | apply dr) | (apply dS))
    rw [Int.toNat_natCast]
    apply lR rfl <;> intro hb
    · repeat (first | (first | (apply eO rfl rfl rfl;(focus (first | exact bY (v:=(.string _)) rfl (.p rfl) | exact cA (v:=(.string _)) rfl (.p rfl)))) | apply dr) | (first | apply dV | apply bF | apply dS | apply mu | apply n5 | apply kz | apply kA rfl | apply uC rfl | apply jE))
      refine nj (xM (v:=.string _) rfl) .none ⟨rfl,u,k,rfl,h1,h2,h3,fun c hc=>?_⟩
      rw [hlast] at hc;injection hc with hc;subst hc;simpa using hb
    · repeat (first | (apply eO rfl rfl rfl;(focus (first | exact bY (v:=(.string _)) rfl (.p rfl) | exact n8 rfl (.p rfl) (.p rfl) rfl (fun _=>by omega) | exact mW rfl rfl (.p rfl)))) | (first | apply bF | apply dS | apply jT))
      apply eO rfl rfl rfl (s9 (h:=k - 1) rfl rfl (.p rfl) (.p rfl) (fun _=>by omega) (fun _=>by omega))
      repeat (first | (first | (apply eO rfl rfl rfl;(focus (exact cA (v:=(.string _)) rfl (.p rfl)))) | apply dr) | (apply qm))
      refine xL (u.extract 0 (k - 1),k - 1) (by (repeat (first | exact Holds.nil | apply Holds.cons rfl))) (by (repeat (exact Sub.nil))) ⟨?_,by ((try dsimp only at *) <;> omega),?_⟩ (by ((try dsimp only at *) <;> omega))
      · rw [bl_hi,h1,List.take_take];congr 1;omega
      · intro c hc
        rw [List.drop_eq_getElem_cons (by omega)] at hc
        rcases List.mem_cons.1 hc with rfl | hc
        · have e:(bl u).getD (k - 1) 0=(bl s)[k - 1]'(by omega):=by
            rw [uk (by rw [← mg];omega)];simp [h1]
          rw [← e];simpa using hb
        · rw [show k - 1+1=k by omega] at hc;exact h3 c hc
  · repeat (first | (first | (apply eO rfl rfl rfl;(focus (first | exact bY (v:=(.string _)) rfl (.p rfl) | exact cA (v:=(.string _)) rfl (.p rfl)))) | apply dr) | (first | apply dV | apply bF | apply dS | apply mu | apply n5 | apply kz | apply kA rfl | apply jE))
    refine nj (xM (v:=.string _) rfl) .none ⟨rfl,u,k,rfl,h1,h2,h3,fun c hc'=>?_⟩
    have:bl u=[]:=List.eq_nil_of_length_eq_zero (by rw [← mg];omega)
    rw [this] at hc';cases hc'
end SX
namespace SX
open Go
attribute [local irreducible] WL WC WD OpL OpQ OpG Ev GuardIs AI lB D3 Call CallP midK uD Holds uo Sub Pick WS Step Lit Upd SetAt SpliceAt FillR Sh LateRun
theorem zR (κ:Kr) (b:Nat) (s:ByteArray) (hs:Sh κ b 0 (fM kb)):CallP 181 [.string s,.pointer (some ⟨b,0,none⟩)] κ fun v _=>∃ u k,v=.string u∧bl u=(bl s).drop k∧k≤(bl s).length∧(∀ c∈(bl s).take k,kb c.toNat=true)∧(∀ c,(bl u).head?=some c→kb c.toNat=false):=by
  (unfold CallP;apply oa Tryz.func181 (F9 Tryz.func181 rfl) rfl Tryz.ntmps181 Tryz.results181 rfl)
  repeat (first | (first | (apply eO rfl rfl rfl;(focus (exact cA (v:=(.string _)) rfl (.p rfl)))) | apply dr) | (first | apply dV | apply bF | apply jU | apply dS))
  refine rD (X:=ByteArray×Nat) (fun z=>[(0,.string z.1),(1,.pointer (some ⟨b,0,none⟩))]) (fun _=>[]) (fun z _=>bl z.1=(bl s).drop z.2∧z.2≤(bl s).length∧∀ c∈(bl s).take z.2,kb c.toNat=true) (fun z=>(bl s).length - z.2) (s,0) (by (repeat (first | exact Holds.nil | apply Holds.cons rfl))) (by (repeat (exact Sub.nil))) ⟨rfl,Nat.zero_le _,by simp⟩ ?_
  rintro ⟨u,k⟩ τ κ2 _ ⟨h1,h2,h3⟩
  dsimp only at h1 h2 h3
  have hsz:u.size=(bl s).length - k:=by rw [mg,h1,List.length_drop]
  simp only [uo]
  repeat (first | (first | (apply eO rfl rfl rfl;(focus (first | exact bY (v:=(.string _)) rfl (.p rfl) | exact n7 rfl (.p rfl) (.p rfl) rfl | exact mW rfl rfl (.p rfl)))) | apply dr) | (first | apply dV | apply bF | apply dS))
  apply xN rfl <;> intro hc
  · have hk0:k<(bl s).length:=by omega
    have hu0:0<(bl u).length:=by rw [← mg];omega
    repeat (first | (apply eO rfl rfl rfl;(focus (first | exact bY (v:=(.pointer _)) rfl (.p rfl) | exact bY (v:=(.string _)) rfl (.p rfl)))) | (first | apply dV | apply bF | apply jU | apply dS | apply jT))
    apply eO rfl rfl rfl (nD (j:=0) rfl rfl (.p rfl) (.p rfl) (fun _=>by omega) (fun _=>by omega))
    have hhead:(bl u).head?=some ((bl u).getD 0 0):=by
      rw [List.head?_eq_getElem?,uk hu0,List.getElem?_eq_getElem hu0]
    apply yO rfl rfl rfl;apply mv rfl rfl (tm _ b kb ((u.data.toList.getD 0 0).toNat:Int) (hs.mono (by (repeat (assumption)))) (by omega) (by have:=(u.data.toList.getD 0 0).toNat_lt;omega))
    rintro v κ3 _ rfl
    repeat (first | (first | (apply eO rfl rfl rfl;(focus (exact AK rfl (.p rfl)))) | apply dr) | (apply dS))
    rw [Int.toNat_natCast]
    apply lR rfl <;> intro hb
    · repeat (first | (first | (apply eO rfl rfl rfl;(focus (first | exact bY (v:=(.string _)) rfl (.p rfl) | exact cA (v:=(.string _)) rfl (.p rfl)))) | apply dr) | (first | apply dV | apply bF | apply dS | apply mu | apply n5 | apply kz | apply kA rfl | apply uC rfl | apply jE))
      refine nj (xM (v:=.string _) rfl) .none ⟨rfl,u,k,rfl,h1,h2,h3,fun c hc=>?_⟩
      rw [hhead] at hc;injection hc with hc;subst hc;simpa using hb
    · repeat (first | (apply eO rfl rfl rfl;(focus (exact bY (v:=(.string _)) rfl (.p rfl)))) | (first | apply bF | apply dS | apply jT))
      apply eO rfl rfl rfl (tc (l:=1) rfl rfl (.p rfl) (.p rfl) (fun _=>by omega) (fun _=>by omega))
      repeat (first | (first | (apply eO rfl rfl rfl;(focus (exact cA (v:=(.string _)) rfl (.p rfl)))) | apply dr) | (apply qm))
      refine xL (u.extract 1 u.size,k+1) (by (repeat (first | exact Holds.nil | apply Holds.cons rfl))) (by (repeat (exact Sub.nil))) ⟨?_,by ((try dsimp only at *) <;> omega),?_⟩ (by ((try dsimp only at *) <;> omega))
      · rw [bl_lo,h1,List.drop_drop]
      · intro c hc
        rw [List.take_add_one] at hc
        rcases List.mem_append.1 hc with hc | hc
        · exact h3 c hc
        · have e:(bl u).getD 0 0=(bl s)[k]'hk0:=by rw [uk hu0];simp [h1]
          rw [List.getElem?_eq_getElem hk0] at hc
          simp only [Option.toList_some,List.mem_cons,List.not_mem_nil,or_false] at hc
          subst hc;rw [← e];simpa using hb
  · repeat (first | (first | (apply eO rfl rfl rfl;(focus (first | exact bY (v:=(.string _)) rfl (.p rfl) | exact cA (v:=(.string _)) rfl (.p rfl)))) | apply dr) | (first | apply dV | apply bF | apply dS | apply mu | apply n5 | apply kz | apply kA rfl | apply jE))
    refine nj (xM (v:=.string _) rfl) .none ⟨rfl,u,k,rfl,h1,h2,h3,fun c hc'=>?_⟩
    have:bl u=[]:=List.eq_nil_of_length_eq_zero (by rw [← mg];omega)
    rw [this] at hc';cases hc'
def kQ (s:ByteArray):Bool:=(bl s).all fun c=>kb c.toNat
theorem xa {s:ByteArray}:s=⟨#[]⟩↔bl s=[]:=⟨fun h=>by rw [h],fun h=>bl_inj (by rw [h])⟩
theorem trim_ok (κ:Kr) (s:ByteArray) (hz:s.size≤1000000000):CallP 156 [.string s,.string jl] κ fun v _=>∃ u,v=.string u∧(u=⟨#[]⟩↔kQ s=true):=by
  (unfold CallP;apply oa Tryz.func156 (F9 Tryz.func156 rfl) rfl Tryz.ntmps156 Tryz.results156 rfl)
  repeat (first | (first | (apply eO rfl rfl rfl;(focus (first | exact bY (v:=(.bool _)) rfl (.p rfl) | exact bY (v:=(.string _)) rfl (.p rfl) | exact cA (v:=(.string _)) rfl (.p rfl) | exact oq_or rfl (.p rfl) (.p rfl) (.g rfl) | exact xE rfl (.p rfl) (.p rfl) rfl))) | (apply ur;(focus (exact BS rfl rfl rfl));rfl;rfl;(focus (first | (apply bY (v:=(.string _)) rfl;(focus (exact Ev.p rfl))) | (apply xE rfl (by (focus (exact Ev.g rfl))) (by (focus (exact Ev.p rfl)));rfl)))) | apply dr) | (first | apply dV | apply bF | apply dS))
  apply lR rfl <;> intro hb
  · repeat (first | (first | (apply eO rfl rfl rfl;(focus (first | exact bY (v:=(.string _)) rfl (.p rfl) | exact cA (v:=(.string _)) rfl (.p rfl)))) | apply dr) | (first | apply dV | apply bF | apply dS | apply mu | apply sr))
    have:s=⟨#[]⟩:=by simpa [jl] using hb
    refine nj (xM (v:=.string _) rfl) .none ⟨rfl,s,rfl,?_⟩
    subst this;simp [kQ,bl]
  · have hne:¬ bl s=[]:=fun h=>by rw [xa.2 h] at hb;simp at hb
    repeat (first | (first | (apply eO rfl rfl rfl;(focus (first | exact bY (v:=(.bool _)) rfl (.p rfl) | exact bY (v:=(.string _)) rfl (.p rfl) | exact n7 rfl (.p rfl) (.p rfl) rfl | exact mW rfl rfl (.p rfl)))) | (apply ur;(focus (exact n4 rfl rfl rfl));rfl;rfl;(focus (apply bY (v:=(.string _)) rfl;(focus (exact Ev.p rfl)))))) | (first | apply dV | apply bF | apply dS | apply jT))
    apply ur;(focus (exact n4 rfl rfl rfl));rfl;rfl;exact nD (s:=jl) (j:=0) rfl rfl (.g rfl) (.p rfl) (fun _=>rfl) (fun _=>by decide)
    repeat (first | (first | (apply eO rfl rfl rfl;(focus (exact AJ rfl (.p rfl) (.p rfl) (.g rfl)))) | (apply ur;(focus (exact n4 rfl rfl rfl));rfl;rfl;(focus (apply n7 rfl (by (focus (exact Ev.g rfl))) (by (focus (exact Ev.p rfl)));rfl))) | apply dr) | (apply dS))
    apply lR rfl <;> intro hb2
    · have e:(jl.size:Int)=10:=rfl
      rw [e] at hb2;simp at hb2
    repeat (first | (apply eO rfl rfl rfl;(focus (exact bY (v:=(.string _)) rfl (.p rfl)))) | (first | apply dV | apply bF | apply dS | apply jT))
    refine wl_fun rfl rfl rfl rfl rfl (E9 _) fun κ1 _=>?_
    repeat (first | (first | (apply eO rfl rfl rfl;(focus (first | exact bY (v:=(.bool _)) rfl (.p rfl) | exact bY (v:=(.tuple _)) rfl (.p rfl) | exact cA (v:=(.bool _)) rfl (.p rfl) | exact us rfl (.p rfl) rfl))) | (apply yO rfl rfl rfl;apply wI rfl rfl;intro _ _ _) | (apply BT rfl rfl;apply wJ rfl rfl rfl rfl rfl rfl;(focus (repeat (exact Upd.h)));rfl;intro _ _) | apply dr) | (first | apply dV | apply bF | apply dS))
    rename_i b5 _ _ _ _
    apply wc_pub (b:=b5) Pick.h rfl;intro κ3 _ hS hsays
    have hset:=Eg hS hsays
    apply DU rfl
    repeat (first | (apply eO rfl rfl rfl;(focus (exact bY (v:=(.string _)) rfl (.p rfl)))) | (first | apply dV | apply bF))
    apply yO rfl rfl rfl;apply mv rfl rfl (yp _ b5 s (hset.mono (by (repeat (exact Kle.refl _)))) hz)
    rintro v κ4 _ ⟨u,k,rfl,h1,h2,h3,h4⟩
    apply yO rfl rfl rfl;apply mv rfl rfl (zR _ b5 u (hset.mono (by (repeat (assumption)))))
    rintro v κ5 _ ⟨u2,k2,rfl,g1,g2,g3,g4⟩
    repeat (first | (first | (apply eO rfl rfl rfl;(focus (exact cA (v:=(.string _)) rfl (.p rfl)))) | apply dr) | (first | apply dS | apply mu | apply sr))
    refine nj (xM (v:=.string _) rfl) .none ⟨rfl,u2,rfl,?_⟩
    rw [xa]
    unfold kQ
    rw [List.all_eq_true]
    constructor
    · intro h
      have hk2:k2=(bl u).length:=by
        have:=congrArg List.length (g1.symm.trans h);simp only [List.length_drop,List.length_nil] at this;omega
      intro c hc
      rw [← List.take_append_drop k (bl s)] at hc
      rcases List.mem_append.1 hc with hc | hc
      · rw [← h1] at hc;rw [hk2,List.take_length] at g3;exact g3 c hc
      · exact h3 c hc
    · intro h
      have hu:bl u=[]:=by
        rcases List.eq_nil_or_concat (bl u) with hu | ⟨l,c,hu⟩
        · exact hu
        · have hc:=h4 c (by rw [hu];simp)
          have hm:c∈bl s:=List.mem_of_mem_take (i:=k) (by rw [← h1,hu];simp)
          rw [h c hm] at hc;cases hc
      rw [g1,hu];simp
def Glob (κ:Kr):Prop:=Sh κ 0 0 [.int .i64 2,.int .i64 4,.int .i64 6,.int .i64 8]
theorem Glob.mono {κ κ':Kr} (h:Glob κ) (k:Kle κ κ'):Glob κ':=Sh.mono h k
def cM (s:ByteArray):Int:=if (s.size=2∨s.size=4∨s.size=6∨s.size=8)∧kQ s=true then (s.size:Int) else 0
theorem gv_some {c:Bool} {v:Value} {P:ByteArray→Prop} (h:c=true→∃ u,v=.string u∧P u):∃ u,gv c v=gv c (.string u)∧(c=true→P u):=by
  cases c
  · exact ⟨⟨#[]⟩,by rw [iz,iz],fun h=>by cases h⟩
  · obtain ⟨u,rfl,h2⟩:=h rfl;exact ⟨u,rfl,fun _=>h2⟩
theorem Fa (κ:Kr) (s:ByteArray) (hg:Glob κ):CallP 109 [.string s] κ fun v _=>v=.int .i64 (cM s):=by
  (unfold CallP;apply oa Tryz.func109 (F9 Tryz.func109 rfl) rfl Tryz.ntmps109 Tryz.results109 rfl)
  repeat (first | (first | (apply eO rfl rfl rfl;(focus (exact cA (v:=(.int _ _)) rfl (.p rfl)))) | apply dr) | (first | apply dV | apply bF | apply dS))
  apply eO rfl rfl rfl (so rfl (.p rfl) (fun _=>hg) rfl)
  repeat (first | (first | (apply eO rfl rfl rfl;(focus (exact bY (v:=(.int _ _)) rfl (.p rfl)))) | apply dr) | (first | apply jU | apply dS))
  refine rD (X:=Nat) (fun k=>[(0,.string s),(5,.agg #[.int .i64 2,.int .i64 4,.int .i64 6,.int .i64 8]),(6,.int .i64 (k:Int))]) (fun _=>[]) (fun k _=>k≤4∧∀ j,j<k→¬ (s.size=2*(j+1)∧kQ s=true)) (fun k=>4 - k) 0 (by (repeat (first | exact Holds.nil | apply Holds.cons rfl))) (by (repeat (exact Sub.nil))) ⟨by omega,by omega⟩ ?_
  rintro k τ κ1 _ ⟨hk,hno⟩
  simp only [uo]
  repeat (first | (first | (apply eO rfl rfl rfl;(focus (exact n7 rfl (.p rfl) (.p rfl) rfl))) | apply dr) | (first | apply dV | apply bF | apply dS))
  apply xN rfl <;> intro hc
  · have hk4:k<4:=by omega
    repeat (first | apply dV | apply bF | apply jU | apply dS | apply jT)
    apply eO rfl rfl rfl (CT (cs:=[.int .i64 2,.int .i64 4,.int .i64 6,.int .i64 8]) (v:=.int .i64 (2*((k:Int)+1))) (j:=k) rfl rfl rfl rfl rfl (.p rfl) (.p rfl) (fun _=>rfl) (fun _=>hk4) (fun _=>by
      have:k=0∨k=1∨k=2∨k=3:=by omega
      rcases this with rfl | rfl | rfl | rfl <;> rfl))
    repeat (first | (first | (apply eO rfl rfl rfl;(focus (first | exact bY (v:=(.int _ _)) rfl (.p rfl) | exact bY (v:=(.bool _)) rfl (.p rfl) | exact bY (v:=(.string _)) rfl (.p rfl) | exact cA (v:=(.int _ _)) rfl (.p rfl) | exact n7 rfl (.p rfl) (.p rfl) rfl | exact mW rfl rfl (.p rfl)))) | (apply ur;(focus (exact n4 rfl rfl rfl));rfl;rfl;(focus (apply bY (v:=(.string _)) rfl;(focus (exact Ev.p rfl))))) | apply dr) | (first | apply dV | apply bF | apply dS))
    apply wl_g;(focus (exact n4 rfl rfl rfl));rfl;rfl
    refine yT rfl (ar2 (.g rfl) (.p rfl)) (fun hcc=>trim_ok _ s (by simp at hcc;omega)) fun v κ2 _ hv=>?_
    obtain ⟨u,hu,hP⟩:=gv_some hv
    rw [hu]
    repeat (first | (first | (apply eO rfl rfl rfl;(focus (exact AJ rfl (.p rfl) (.p rfl) (.g rfl)))) | (apply ur;(focus (exact n4 rfl rfl rfl));rfl;rfl;(focus (apply xE rfl (by (focus (exact Ev.g rfl))) (by (focus (exact Ev.p rfl)));rfl))) | apply dr) | (apply dS))
    apply lR rfl <;> intro hb
    · simp only [Bool.and_eq_true,beq_iff_eq,decide_eq_true_eq] at hb
      have hd:kQ s=true:=(hP (by simpa using hb.1)).1 hb.2
      repeat (first | (first | (apply eO rfl rfl rfl;(focus (first | exact bY (v:=(.int _ _)) rfl (.p rfl) | exact cA (v:=(.int _ _)) rfl (.p rfl)))) | apply dr) | (first | apply dV | apply bF | apply dS | apply mu | apply sr | apply y7 | apply AM))
      refine nj (xM (v:=.int _ _) rfl) .none ⟨rfl,?_⟩
      show Value.int .i64 (2*((k:Int)+1))=.int .i64 (cM s)
      unfold cM
      rw [if_pos ⟨by omega,hd⟩,← hb.1]
    · repeat (first | (first | (apply eO rfl rfl rfl;(focus (first | exact bY (v:=(.int _ _)) rfl (.p rfl) | exact n8 rfl (.p rfl) (.p rfl) rfl (fun _=>by omega)))) | apply dr) | (first | apply bF | apply dS | apply jT | apply qm))
      refine xL (k+1) (by (repeat (first | exact Holds.nil | apply Holds.cons rfl))) (by (repeat (exact Sub.nil))) ⟨by omega,fun j hj=>?_⟩ (by omega)
      rcases Nat.lt_or_ge j k with h | h
      · exact hno j h
      · have:j=k:=by omega
        subst this
        rintro ⟨h1,h2⟩
        have hcc:((s.size:Int) == 2*((j:Int)+1))=true:=by simp;omega
        have:=(hP (by simpa using hcc)).2 h2
        subst this
        rw [hcc] at hb;simp at hb
  · repeat (first | (first | (apply eO rfl rfl rfl;(focus (exact cA (v:=(.int _ _)) rfl (.p rfl)))) | apply dr) | (first | apply dV | apply bF | apply dS | apply mu | apply n5 | apply kz | apply kA rfl | apply jE))
    refine nj (xM (v:=.int _ _) rfl) .none ⟨rfl,?_⟩
    show Value.int .i64 0=.int .i64 (cM s)
    unfold cM
    rw [if_neg]
    rintro ⟨h1,h2⟩
    have:k=4:=by omega
    subst this
    rcases h1 with h1 | h1 | h1 | h1
    · exact hno 0 (by omega) ⟨h1,h2⟩
    · exact hno 1 (by omega) ⟨h1,h2⟩
    · exact hno 2 (by omega) ⟨h1,h2⟩
    · exact hno 3 (by omega) ⟨h1,h2⟩
end SX
namespace SX
open Go
def dK (p0:ByteArray):Option Int:=some (cM p0)
theorem fR {p0:ByteArray} {r:Int} (h:dK p0=some r):PF 109 [.v (.string p0)] (.v (.int .i64 r)):=fun κ args g ha=>by
 obtain ⟨v,ws,rfl,h1,h2⟩:=ha.cons_inv
 rw [h2.nil_inv,h1.val]
 have h:=Option.some.inj h;subst h
 exact (Fa κ p0 g).mono fun v κ' _ hv=>by subst hv;exact .v rfl
def itr (b:Nat) (s:ByteArray) (pos:Nat):Res:=⟨some b,fun o=>o=some (.stringIter s pos)⟩
theorem Fb {o:Oper} {σ:PEnv} {ρ:List PRes} {x:Operand} {t:Nat} {s:ByteArray} {K:PV→List PRes→Prop} (ho:o.op=.range t x) (hu:eN t=some .string) (hx:bt σ x=.v (.string s)) (h:∀ b,K (.v (.pointer (some ⟨b,0,none⟩))) (.raw (itr b s 0)::ρ)):POpL o σ ρ K:=fun κ σ' ρ' g hs hr β hi Nx hk=>by
 have e1:=hs.v1 hx
 have h1:=run_underlying (w:=κ.w) (bp hu)
 have hrun:(execOp (ev σ') o).run Tryz.prog κ.w=.ok (.value (.pointer (some ⟨κ.w.heap.size,0,none⟩))) (κ.w.alloc (.stringIter s 0)):=by
  simp [execOp,ho,e1,Instr.range,h1,run_newObj_alloc]
 rw [hrun]
 exact hk _ _ ⟨κ.w.alloc (.stringIter s 0),κ.S⟩ (hi.alloc _ (itr κ.w.heap.size s 0) rfl rfl) (e9 hi.fin _) ⟨_,_,.v rfl,.cons .raw (hr.mono (e9 hi.fin _)),h _⟩
theorem pl_next {o:Oper} {σ:PEnv} {ρ ρ1:List PRes} {x:Operand} {b pos:Nat} {s:ByteArray} {K:PV→List PRes→Prop} (ho:o.op=.next x true) (hx:bt σ x=.v (.pointer (some ⟨b,0,none⟩))) (hu:PUpd ρ (.raw (itr b s pos)) (.raw (itr b s (pos+(Utf8.decode s pos).2))) ρ1) (h1:pos<s.size→K (.tup [.v (.bool true),.v (.int .i64 (pos:Int)),.v (.int .i32 ((Utf8.decode s pos).1:Int))]) ρ1) (h2:s.size≤pos→K (.tup [.v (.bool false)]) ρ):POpL o σ ρ K:=fun κ σ' ρ' g hs hr β hi Nx hk=>by
 have e1:=hs.v1 hx
 have hr0:=hr
 obtain ⟨r0,l1,l2,rfl,h4,h5⟩:=hr.upd hu
 cases h4 with
 | raw =>
  have hb:κ.w.heap[b]?=some (.stringIter s pos):=hi.own (itr b s pos) (by simp)
  have hg:(getObj b).run Tryz.prog κ.w=.ok (.stringIter s pos) κ.w:=by simp [getObj,Sem.run,hb]
  have hset:∀ ob,(setObj b ob).run Tryz.prog κ.w=.ok () { κ.w with heap:=κ.w.heap.setIfInBounds b ob }:=fun ob=>by simp [setObj,Sem.run,hb]
  rcases Nat.lt_or_ge pos s.size with hlt | hge
  ·have hrun:(execOp (ev σ') o).run Tryz.prog κ.w=.ok (.value (.tuple #[.bool true,goInt pos,.int .i32 ((Utf8.decode s pos).1:Int)])) { κ.w with heap:=κ.w.heap.setIfInBounds b (.stringIter s (pos+(Utf8.decode s pos).2)) }:=by
    simp [execOp,ho,e1,Instr.next,hg,hlt,hset]
   rw [hrun]
   obtain ⟨i1,i2⟩:=hi.turn (r:=itr b s pos) (r':=itr b s (pos+(Utf8.decode s pos).2)) (b:=b) (w':={ κ.w with heap:=κ.w.heap.setIfInBounds b (.stringIter s (pos+(Utf8.decode s pos).2)) }) rfl rfl rfl (fun i hi=>tf hi) (by simp) (tg hb) rfl rfl rfl (Nat.le_refl _)
   exact hk _ _ _ i1 i2 ⟨_,ρ1,.tup (ws:=[_,_,_]) (.cons (.v rfl) (.cons (.v rfl) (.cons (.v rfl) .nil))),h5 _ _ i2 .raw,h1 hlt⟩
  ·have hrun:(execOp (ev σ') o).run Tryz.prog κ.w=.ok (.value (.tuple #[.bool false])) κ.w:=by
    simp [execOp,ho,e1,Instr.next,hg,Nat.not_lt.2 hge]
   rw [hrun]
   exact hk _ _ κ hi (.refl _) ⟨_,ρ,.tup (ws:=[_]) (.cons (.v rfl) .nil),hr0,h2 hge⟩
def jM (s:ByteArray) (pos:Nat):Option (Nat⊕Bool):=cond (Nat.blt pos s.size) (cond (decide (((Utf8.decode s pos).1:Int)<97)||decide (122<((Utf8.decode s pos).1:Int))) (some (.inr false)) (some (.inl (pos+(Utf8.decode s pos).2)))) (some (.inr true))
def ke (p0:ByteArray):Option Bool:=cond (decide ((p0.size:Int)<1)||decide (12<(p0.size:Int))) (some false) (aW (jM p0) FUEL 0)
attribute [local irreducible] PWL PWC PWD POpL POpQ PEv PGuardIs PSub PPick PUpd PSplice PFill PLit PF PFV PCall FOk eK ey lK nH iW mA Cov PHolds aW jM
theorem tV {p0:ByteArray} {r:Bool} (h:ke p0=some r):PF 110 [pS p0] (pB r):=by
 unfold ke at h
 refine bd ?_
 refine kX Tryz.func110 rfl Tryz.ntmps110 Tryz.results110 rfl ?_
 (repeat refine ae ?_)
 refine an [] [2] [] bh (by kernel_rfl) ?_
 (repeat (first | apply aF | apply aN))
 (repeat refine ae ?_)
 refine an [] [5,6,7,8,9,10,11] [(12,pB (decide ((p0.size:Int)<1)||decide (12<(p0.size:Int))))] bh (by kernel_rfl) ?_
 (repeat (first | apply aF | apply aN))
 (repeat refine ae ?_)
 refine iA rfl (fun hc=>?_) (fun hc=>?_)
 ·replace h:=AU hc h
  (repeat refine ae ?_)
  refine an [] [] [(2,pB false)] bh (by kernel_rfl) ?_
  (repeat (first | apply aF | apply aN))
  (repeat refine ae ?_)
  refine bB ?_
  (repeat (first | apply aq | apply cT | apply mz | apply gx))
  obtain rfl:=Option.some.inj h
  exact aR (dA (aT rfl)) bv ⟨rfl,rfl⟩
 replace h:=AV hc h
 refine ah ?_
 (repeat (first | apply aF | apply aN))
 (repeat refine ae ?_)
 refine af ?_
 refine aY 1 [] [] [(13,pS p0)] bh (by kernel_rfl) ?_
 refine Em rfl rfl rfl (Fb rfl rfl rfl fun b=>?_)
 refine aH ?_
 (repeat (first | apply aF | apply aN))
 (repeat refine ae ?_)
 refine am (Y:=Unit) (fun _=>[]) (fun _=>[]) (fun _=>r=true) ?_ ?_
 ·refine az ?_
  refine aC (Y:=Unit) (S:=Nat) _ h (fun _ _=>[(14,pP b 0)]) (fun _ pos=>[PRes.raw (itr b p0 pos)]) () (by (repeat (first | exact nG | apply dQ rfl))) (by (repeat (first | exact bv | (apply aZ;(focus (repeat (first | exact aJ | apply ar))))))) ?_
  rintro _ pos o τ hb;dsimp only [aw]
  unfold jM at hb
  (repeat refine ae ?_)
  refine af ?_
  refine Em rfl rfl rfl (pl_next rfl rfl co (fun hlt=>?_) (fun hge=>?_))
  ·have hlt':Nat.blt pos p0.size=true:=by simp [Nat.blt];omega
   rw [hlt'] at hb;simp only [bQ] at hb
   refine jr [] [] [(16,pB true)] bh (by kernel_rfl) ?_
   (repeat (first | apply aF | apply aN))
   (repeat refine ae ?_)
   refine iA (p:=true) rfl (fun _=>?_) (fun hf=>by cases hf)
   refine ah ?_
   (repeat (first | apply aF | apply aN))
   (repeat refine ae ?_)
   refine az ?_
   (repeat refine ae ?_)
   refine an [] [17] [(4,.v (.int .i32 ((Utf8.decode p0 pos).1:Int)))] bh (by kernel_rfl) ?_
   (repeat (first | apply aF | apply aN))
   (repeat refine ae ?_)
   refine an [] [18,19,20,21,22] [(23,pB (decide (((Utf8.decode p0 pos).1:Int)<97)||decide (122<((Utf8.decode p0 pos).1:Int))))] bh (by kernel_rfl) ?_
   (repeat (first | apply aF | apply aN))
   (repeat refine ae ?_)
   refine iA rfl (fun hc2=>?_) (fun hc2=>?_)
   ·replace hb:=AU hc2 hb
    (repeat refine ae ?_)
    refine an [] [] [(2,pB false)] bh (by kernel_rfl) ?_
    (repeat (first | apply aF | apply aN))
    (repeat refine ae ?_)
    refine bB ?_
    (repeat (first | apply aq | apply cT | apply mz | apply gx))
    refine aA hb (fun ht=>?_);subst ht
    (repeat (first | apply aq | apply cT | apply mz | apply gx))
    exact aR (dA (aT rfl)) bv ⟨rfl,rfl⟩
   replace hb:=AV hc2 hb
   refine ah ?_
   (repeat apply aF)
   exact aP hb () (by (repeat (first | exact nG | apply dQ rfl))) (by (repeat (first | exact bv | (apply aZ;(focus (repeat (first | exact aJ | apply ar)))))))
  have hge':Nat.blt pos p0.size=false:=by cases e:Nat.blt pos p0.size;rfl;exact absurd (Nat.le_of_ble_eq_true e) (by omega)
  rw [hge'] at hb;simp only [bu] at hb
  refine jr [] [] [(16,pB false)] bh (by kernel_rfl) ?_
  (repeat (first | apply aF | apply aN))
  (repeat refine ae ?_)
  refine iA (p:=false) rfl (fun hf=>by cases hf) (fun _=>?_)
  refine aG ?_
  (repeat (first | apply gV | apply zh | apply zi | apply pn rfl))
  refine lT hb (fun ht=>?_)
  refine ak rfl ?_
  exact av () nG bv ht.symm
 rintro _ τ hz;subst hz;dsimp only [aw]
 (repeat refine ae ?_)
 refine an [] [] [(2,pB true)] bh (by kernel_rfl) ?_
 (repeat (first | apply aF | apply aN))
 (repeat refine ae ?_)
 refine bB ?_
 (repeat (first | apply aq | apply cT | apply mz | apply gx))
 exact aR (dA (aT rfl)) bv ⟨rfl,rfl⟩
end SX
end Go.Proofs.YtgmbmepakpcpaaaGreatDoor
namespace Go.Proofs
open Go.Shelf
def Tryz.lSF_ren:Go.Shelf.Ren:=⟨fun | 6=>49 | 15=>101 | 14=>100 | 28=>150 | 29=>151 | 20=>142 | 21=>143 | 22=>144 | 23=>145 | 24=>146 | 25=>147 | 26=>148 | 27=>149 | 46=>173 | 47=>174 | 48=>175 | 49=>176 | 50=>177 | 57=>203 | n=>n,fun | 22=>31 | 24=>28 | 25=>109 | 3=>3 | 39=>49 | 0=>0 | 53=>206 | 55=>116 | 4=>4 | 46=>200 | 45=>199 | 50=>144 | 5=>5 | 9=>9 | 66=>235 | 70=>239 | 76=>259 | 77=>260 | n=>n,fun | n=>n⟩
theorem Tryz.lSF:Go.Proofs.SlLaysF0.n6 Tryz.prog Tryz.lSF_ren:={
 mixed:=by kernel_rfl
 f6:=⟨Tryz.f49.name,by decide,Tryz.func49.trans (congrArg some (by kernel_rfl))⟩
 f14:=⟨Tryz.f100.name,by decide,Tryz.func100.trans (congrArg some (by kernel_rfl))⟩
 f15:=Tryz.func101.trans (congrArg some (by kernel_rfl))
 f20:=⟨Tryz.f142.name,by decide,Tryz.func142.trans (congrArg some (by kernel_rfl))⟩
 f21:=⟨Tryz.f143.name,by decide,Tryz.func143.trans (congrArg some (by kernel_rfl))⟩
 f22:=⟨Tryz.f144.name,by decide,Tryz.func144.trans (congrArg some (by kernel_rfl))⟩
 f23:=⟨Tryz.f145.name,by decide,Tryz.func145.trans (congrArg some (by kernel_rfl))⟩
 f24:=⟨Tryz.f146.name,by decide,Tryz.func146.trans (congrArg some (by kernel_rfl))⟩
 f25:=⟨Tryz.f147.name,by decide,Tryz.func147.trans (congrArg some (by kernel_rfl))⟩
 f26:=⟨Tryz.f148.name,by decide,Tryz.func148.trans (congrArg some (by kernel_rfl))⟩
 f27:=⟨Tryz.f149.name,by decide,Tryz.func149.trans (congrArg some (by kernel_rfl))⟩
 f28:=Tryz.func150.trans (congrArg some (by kernel_rfl))
 f29:=Tryz.func151.trans (congrArg some (by kernel_rfl))
 f46:=⟨Tryz.f173.name,by decide,Tryz.func173.trans (congrArg some (by kernel_rfl))⟩
 f47:=Tryz.func174.trans (congrArg some (by kernel_rfl))
 f48:=Tryz.func175.trans (congrArg some (by kernel_rfl))
 f49:=⟨Tryz.f176.name,by decide,Tryz.func176.trans (congrArg some (by kernel_rfl))⟩
 f50:=⟨Tryz.f177.name,by decide,Tryz.func177.trans (congrArg some (by kernel_rfl))⟩
 f57:=⟨Tryz.f203.name,by decide,Tryz.func203.trans (congrArg some (by kernel_rfl))⟩
 t0:=Tryz.underlying0
 a0:=Tryz.isAgg0
 z0:=Tryz.sizeOf0
 v0:=Tryz.zeroValue0
 t3:=Tryz.underlying3
 a3:=Tryz.isAgg3
 z3:=Tryz.sizeOf3
 v3:=Tryz.zeroValue3
 t4:=Tryz.underlying4
 a4:=Tryz.isAgg4
 z4:=Tryz.sizeOf4
 v4:=Tryz.zeroValue4
 t5:=Tryz.underlying5
 a5:=Tryz.isAgg5
 z5:=Tryz.sizeOf5
 v5:=Tryz.zeroValue5
 t9:=Tryz.underlying9
 a9:=Tryz.isAgg9
 z9:=Tryz.sizeOf9
 v9:=Tryz.zeroValue9
 t22:=Tryz.underlying31
 a22:=Tryz.isAgg31
 z22:=Tryz.sizeOf31
 v22:=Tryz.zeroValue31
 t25:=Tryz.underlying109
 a25:=Tryz.isAgg109
 z25:=Tryz.sizeOf109
 v25:=Tryz.zeroValue109
 t39:=Tryz.underlying49
 a39:=Tryz.isAgg49
 z39:=Tryz.sizeOf49
 v39:=Tryz.zeroValue49
 t45:=Tryz.underlying199
 a45:=Tryz.isAgg199
 z45:=Tryz.sizeOf199
 v45:=Tryz.zeroValue199
 t46:=Tryz.underlying200
 a46:=Tryz.isAgg200
 z46:=Tryz.sizeOf200
 v46:=Tryz.zeroValue200
 t50:=Tryz.underlying144
 a50:=Tryz.isAgg144
 z50:=Tryz.sizeOf144
 v50:=Tryz.zeroValue144
 t53:=Tryz.underlying206
 a53:=Tryz.isAgg206
 z53:=Tryz.sizeOf206
 v53:=Tryz.zeroValue206
 t55:=Tryz.underlying116
 a55:=Tryz.isAgg116
 z55:=Tryz.sizeOf116
 v55:=Tryz.zeroValue116
 t66:=Tryz.underlying235
 a66:=Tryz.isAgg235
 z66:=Tryz.sizeOf235
 v66:=Tryz.zeroValue235
 t70:=Tryz.underlying239
 a70:=Tryz.isAgg239
 z70:=Tryz.sizeOf239
 v70:=Tryz.zeroValue239
 t76:=Tryz.underlying259
 a76:=Tryz.isAgg259
 z76:=Tryz.sizeOf259
 v76:=Tryz.zeroValue259
 t77:=Tryz.underlying260
 a77:=Tryz.isAgg260
 z77:=Tryz.sizeOf260
 v77:=Tryz.zeroValue260 }
end Go.Proofs
namespace Go.Proofs
open Go.Shelf
def Tryz.lSs_ren:Go.Shelf.Ren:=⟨fun | 190=>139 | 125=>101 | 258=>170 | 128=>150 | 129=>151 | 302=>191 | 303=>192 | 304=>193 | 305=>194 | 306=>195 | 307=>196 | 308=>197 | 309=>198 | 310=>199 | 333=>209 | 329=>174 | 330=>175 | 334=>210 | 335=>211 | 336=>212 | 344=>217 | n=>n,fun | 31=>33 | 9=>9 | 3=>3 | 46=>49 | 0=>0 | 51=>206 | 53=>116 | 4=>4 | 183=>200 | 182=>199 | 131=>144 | 5=>5 | 218=>235 | 222=>239 | 228=>259 | 229=>260 | n=>n,fun | n=>n⟩
theorem Tryz.lSs:Go.Proofs.Lays.n190 Tryz.prog Tryz.lSs_ren:={
 mixed:=by kernel_rfl
 f125:=Tryz.func101.trans (congrArg some (by kernel_rfl))
 f128:=Tryz.func150.trans (congrArg some (by kernel_rfl))
 f129:=Tryz.func151.trans (congrArg some (by kernel_rfl))
 f190:=Tryz.func139.trans (congrArg some (by kernel_rfl))
 f258:=Tryz.func170.trans (congrArg some (by kernel_rfl))
 f302:=Tryz.func191.trans (congrArg some (by kernel_rfl))
 f303:=Tryz.func192.trans (congrArg some (by kernel_rfl))
 f304:=Tryz.func193.trans (congrArg some (by kernel_rfl))
 f305:=Tryz.func194.trans (congrArg some (by kernel_rfl))
 f306:=Tryz.func195.trans (congrArg some (by kernel_rfl))
 f307:=Tryz.func196.trans (congrArg some (by kernel_rfl))
 f308:=Tryz.func197.trans (congrArg some (by kernel_rfl))
 f309:=Tryz.func198.trans (congrArg some (by kernel_rfl))
 f310:=Tryz.func199.trans (congrArg some (by kernel_rfl))
 f329:=Tryz.func174.trans (congrArg some (by kernel_rfl))
 f330:=Tryz.func175.trans (congrArg some (by kernel_rfl))
 f333:=Tryz.func209.trans (congrArg some (by kernel_rfl))
 f334:=Tryz.func210.trans (congrArg some (by kernel_rfl))
 f335:=Tryz.func211.trans (congrArg some (by kernel_rfl))
 f336:=Tryz.func212.trans (congrArg some (by kernel_rfl))
 f344:=Tryz.func217.trans (congrArg some (by kernel_rfl))
 t0:=Tryz.underlying0
 a0:=Tryz.isAgg0
 z0:=Tryz.sizeOf0
 v0:=Tryz.zeroValue0
 t3:=Tryz.underlying3
 a3:=Tryz.isAgg3
 z3:=Tryz.sizeOf3
 v3:=Tryz.zeroValue3
 t4:=Tryz.underlying4
 a4:=Tryz.isAgg4
 z4:=Tryz.sizeOf4
 v4:=Tryz.zeroValue4
 t5:=Tryz.underlying5
 a5:=Tryz.isAgg5
 z5:=Tryz.sizeOf5
 v5:=Tryz.zeroValue5
 t9:=Tryz.underlying9
 a9:=Tryz.isAgg9
 z9:=Tryz.sizeOf9
 v9:=Tryz.zeroValue9
 t31:=Tryz.underlying33
 a31:=Tryz.isAgg33
 z31:=Tryz.sizeOf33
 v31:=Tryz.zeroValue33
 t46:=Tryz.underlying49
 a46:=Tryz.isAgg49
 z46:=Tryz.sizeOf49
 v46:=Tryz.zeroValue49
 t51:=Tryz.underlying206
 a51:=Tryz.isAgg206
 z51:=Tryz.sizeOf206
 v51:=Tryz.zeroValue206
 t53:=Tryz.underlying116
 a53:=Tryz.isAgg116
 z53:=Tryz.sizeOf116
 v53:=Tryz.zeroValue116
 t131:=Tryz.underlying144
 a131:=Tryz.isAgg144
 z131:=Tryz.sizeOf144
 v131:=Tryz.zeroValue144
 t182:=Tryz.underlying199
 a182:=Tryz.isAgg199
 z182:=Tryz.sizeOf199
 v182:=Tryz.zeroValue199
 t183:=Tryz.underlying200
 a183:=Tryz.isAgg200
 z183:=Tryz.sizeOf200
 v183:=Tryz.zeroValue200
 t218:=Tryz.underlying235
 a218:=Tryz.isAgg235
 z218:=Tryz.sizeOf235
 v218:=Tryz.zeroValue235
 t222:=Tryz.underlying239
 a222:=Tryz.isAgg239
 z222:=Tryz.sizeOf239
 v222:=Tryz.zeroValue239
 t228:=Tryz.underlying259
 a228:=Tryz.isAgg259
 z228:=Tryz.sizeOf259
 v228:=Tryz.zeroValue259
 t229:=Tryz.underlying260
 a229:=Tryz.isAgg260
 z229:=Tryz.sizeOf260
 v229:=Tryz.zeroValue260 }
end Go.Proofs
namespace Go.Proofs.YtgmbmepakpcpaaaGreatDoor
namespace SX
open Go
section
variable {γ:Type} [Inhabited γ]
theorem ww (e:γ→Value) (D:Array γ) (cur:Array Value) (h:D.size≤cur.size):(Sort.putCells e 0 D cur).toList.take D.size=D.toList.map e:=by
 apply List.ext_getElem
 ·simp [Sort.putCells];omega
 intro i h1 h2
 have h3:i<D.size:=by simpa using h2
 simp [Sort.putCells,h3]
theorem zS {e:γ→Value} {w:World} {b:Nat} {D:Array γ} {cur:Array Value} {T:Nat} {fr:Nat×Nat} (h:w.heap[b]?=some (.cells cur T fr)):(Sort.putRow e w b 0 D).heap[b]?=some (.cells (Sort.putCells e 0 D cur) T fr):=by
 simp [Sort.putRow,Sort.mapBlock,Array.getElem?_modify,h,Sort.onCells]
theorem vt {e:γ→Value} {w:World} {b i:Nat} {D:Array γ} (h:i≠b):(Sort.putRow e w b 0 D).heap[i]?=w.heap[i]?:=by
 simp only [Sort.putRow,Sort.mapBlock,Array.getElem?_modify]
 rw [if_neg (fun e=>h e.symm)]
theorem rj {β:Base} {l:List Res} {κ:Kr} {b n c T sz m:Nat} {css css':List (List Value)} {os:Array Obj} {e:γ→Value} {D:Array γ} (hi:Zp β (Res.row (some ⟨b,0,none⟩) n c T sz css::l) κ) (hF:D.toList.map e=css'.flatten) (hl:css'.length=n) (hw:∀ cs∈css',cs.length=sz) :
    Zp β (Res.row (some ⟨b,0,none⟩) n c T sz css'::l) ⟨Sort.grow (Sort.putRow e (Sort.ahead κ.w m) b 0 D) os,κ.S⟩∧Kle κ ⟨Sort.grow (Sort.putRow e (Sort.ahead κ.w m) b 0 D) os,κ.S⟩:=by
  have ho:=hi.own _ (List.mem_cons_self)
  obtain ⟨h1,h2,h3,h4,h5,cur,h6,h7,h8⟩:=ho
  have hD:D.size=n*sz:=by
    have:=congrArg List.length hF
    rw [List.length_map,eV hw,hl] at this
    simpa using this
  have hle:D.size≤cur.size:=by rw [hD,h7];exact Nat.mul_le_mul_right _ h4
  have t1:=hi.turn (r':=Res.row (some ⟨b,0,none⟩) n c T sz css') (l1:=[]) (b:=b) (w':=Sort.putRow e (Sort.ahead κ.w m) b 0 D) rfl rfl rfl (fun i hne=>vt hne) (by simp [Sort.putRow,Sort.mapBlock,Sort.ahead])
    ⟨h1,hl,hw,h4,h5,_,zS (w:=Sort.ahead κ.w m) h6,by simpa [Sort.putCells] using h7,by rw [← hD,ww e D cur hle,hF]⟩ rfl rfl rfl (by simp [Sort.putRow,Sort.mapBlock,Sort.ahead])
  have hh:=t1.1.own _ (List.mem_cons_self)
  have hb2:b<(Sort.putRow e (Sort.ahead κ.w m) b 0 D).heap.size:=by
    have:=(t1.1.blk _ (List.mem_cons_self) b rfl).1;exact this
  have hold:∀ i,i<(Sort.putRow e (Sort.ahead κ.w m) b 0 D).heap.size→(Sort.grow (Sort.putRow e (Sort.ahead κ.w m) b 0 D) os).heap[i]?=(Sort.putRow e (Sort.ahead κ.w m) b 0 D).heap[i]?:=fun i h=>by
    simp only [Sort.grow];rw [Array.getElem?_append_left h]
  have hh2:(Res.row (some ⟨b,0,none⟩) n c T sz css').holds (Sort.grow (Sort.putRow e (Sort.ahead κ.w m) b 0 D) os):=by
    have:(Sort.grow (Sort.putRow e (Sort.ahead κ.w m) b 0 D) os).heap[b]?=(Sort.putRow e (Sort.ahead κ.w m) b 0 D).heap[b]?:=hold b hb2
    unfold Res.holds at hh ⊢
    show (Res.row (some ⟨b,0,none⟩) n c T sz css').says (Sort.grow (Sort.putRow e (Sort.ahead κ.w m) b 0 D) os).heap[b]?
    rw [this];exact hh
  obtain ⟨i3,k3⟩:=t1.1.grow (r':=Res.row (some ⟨b,0,none⟩) n c T sz css') (w':=Sort.grow (Sort.putRow e (Sort.ahead κ.w m) b 0 D) os) ⟨rfl,rfl,rfl,by simp [Sort.grow],fun i h _=>hold i h⟩ (.inr (.inl rfl)) hh2 (AN hh2) (Nat.le_refl _)
  exact ⟨i3,t1.2.trans k3⟩
end
def iM (a b:ByteArray):Bool:=Op.bytesLess a.toList b.toList
theorem pJ (a b:ByteArray):iM a b=decide (a.data.toList<b.data.toList):=by
 unfold iM;rw [bytesLess_eq,ByteArray.toList_eq,ByteArray.toList_eq]
theorem Cf {κ:Kr}:∀ {xs:List ByteArray} {dss:List (List Value)},Rpss κ (xs.map eS) dss→dss=xs.map fun s=>[.string s]
 | [],_,h=>h.nil_inv
 | x::xs,_,h=>by
  obtain ⟨d,ds,rfl,h1,h2⟩:=h.cons_inv
  obtain ⟨v,vs,rfl,h3,h4⟩:=h1.cons_inv
  rw [Cf h2,h4.nil_inv,h3.val];rfl
theorem vu {κ:Kr}:∀ {xs:List ByteArray} {dss:List (List Value)},Rpss κ (xs.map eS) dss→∀ x∈xs,xQ (.string x)=true
 | [],_,_=>by simp
 | x::xs,_,h=>by
  obtain ⟨d,ds,rfl,h1,h2⟩:=h.cons_inv
  obtain ⟨v,vs,rfl,h3,h4⟩:=h1.cons_inv
  intro y hy
  rcases List.mem_cons.1 hy with rfl | hy
  ·cases h3 with | v hq=>exact hq
  exact vu h2 y hy
theorem vw {κ:Kr}:∀ {xs:List ByteArray},(∀ x∈xs,xQ (.string x)=true)→Rpss κ (xs.map eS) (xs.map fun s=>[.string s])
 | [],_=>.nil
 | x::xs,h=>.cons (.cons (.v (h x (by simp))) .nil) (vw fun y hy=>h y (by simp [hy]))
theorem Fc (l:List ByteArray):(l.map fun s=>[Value.string s]).flatten=l.map Value.string:=by
 induction l with
 | nil=>rfl
 | cons x xs ih=>simp [ih]
def iV (l:List ByteArray):Option (List ByteArray):=some (lq iM l)
theorem nT {α:Type} {lt:α→α→Bool} (l:List α):(lq lt l).length=l.length:=kD.length_eq
theorem Be (l:List ByteArray):(l.map fun s=>s.data.toList).mergeSort (fun x y=>decide (x≤y))=(lq iM l).map fun s=>s.data.toList:=by
 have key:∀ x y:List UInt8,decide (x≤y) = !decide (y<x):=fun x y=>by
  rw [← decide_not];exact decide_eq_decide.2 (by rw [List.not_lt])
 refine pu (lt:=fun x y=>decide (x<y)) (fun x y h1 h2=>?_) ?_ ?_ ?_
 ·have h1:=of_decide_eq_false h1;have h2:=of_decide_eq_false h2
  exact List.le_antisymm (List.not_lt.1 h2) (List.not_lt.1 h1)
 ·have h:=List.pairwise_mergeSort (le:=fun x y:List UInt8=>decide (x≤y)) (fun a b c h1 h2=>det (List.le_trans (of_decide_eq_true h1) (of_decide_eq_true h2))) (fun a b=>by
   rcases List.le_total a b with h | h
   ·simp [h]
   simp [h]) (l.map fun s=>s.data.toList)
  exact h.imp fun {a b} hab=>by rw [key] at hab;simpa using hab
 ·rw [List.pairwise_map]
  have h:=lW (lt:=iM) (fun x y z h1 h2=>by
   rw [pJ] at *;exact det (List.lt_trans (of_decide_eq_true h1) (of_decide_eq_true h2))) (fun x y z h1 h2=>by
   rw [pJ] at *;exact cw (List.not_lt.2 (List.le_trans (List.not_lt.1 (of_decide_eq_false h2)) (List.not_lt.1 (of_decide_eq_false h1))))) (fun x=>by rw [pJ];exact cw (List.lt_irrefl _)) l
  exact h.imp fun {a b} hab=>by rw [← pJ];exact hab
 exact (List.mergeSort_perm _ _).trans (kD.symm.map _)
theorem lG {p0 r:List ByteArray} (h:iV p0=some r) {a:Option Addr} {n c:Nat}:PCall 139 [.v (.slice a n c)] [PRes.row a n c 9 1 (List.map eS p0)] (fun pv ρ'=>pv=.tup []∧ρ'=[PRes.row a n c 9 1 (List.map eS r)]):=fun κ args ρ g ha hr=>by
 obtain rfl:=Option.some.inj h
 obtain ⟨v,ws,rfl,ha1,ha2⟩:=ha.cons_inv
 rw [ha2.nil_inv,ha1.val]
 obtain ⟨r0,l',rfl,hr1,hr2⟩:=hr.cons_inv
 have:=hr2.nil_inv;subst this
 refine ⟨(F9 Tryz.func139 rfl),fun hi=>?_⟩
 cases hr1 with
 | row hb ho hc =>
  have hok:=vu hc
  have hd:=Cf hc;subst hd
  have how:=hi.own _ (List.mem_cons_self)
  cases a with
  | none =>
   obtain ⟨rfl,rfl,h3⟩:=how
   have hp:p0=[]:=List.map_eq_nil_iff.1 h3
   subst hp
   refine (Any.slices_Sort_string_none Tryz.lSs none 0 κ.w).mono fun e w' ⟨h1,h2⟩=>?_
   subst h1 h2
   exact ⟨_,_,κ,rfl,rfl,hi,.tup [],_,.tup .nil,.cons (.row hb ho (by exact .nil)) .nil,rfl,rfl⟩
  | some ad =>
   have how2:=how
   obtain ⟨h1,h2,h3,h4,h5,cur,h6,h7,h8⟩:=how
   obtain ⟨b,off,sp⟩:=ad
   injection h1 with h1a h1b h1c
   subst h1b h1c
   have hblk:b<κ.w.heap.size:=(hi.blk _ (List.mem_cons_self) b rfl).1
   have hn:n=(p0.map fun s=>s.data.toList).length:=by rw [← h2];simp
   have hH:Sort.Holds encStr κ.w b 0 (p0.map fun s=>s.data.toList).toArray:=by
    intro j hj
    have hj2:j<p0.length:=by simpa using hj
    rw [Fc,Nat.mul_one] at h8
    have hj3:cur.toList[j]?=some (Value.string p0[j]):=by
     have e:=congrArg (fun l=>l[j]?) h8
     simp only [List.getElem?_take,List.getElem?_map] at e
     rw [if_pos (by rw [← h2];simpa using hj2),List.getElem?_eq_getElem hj2] at e
     exact e
    have hj4:cur[j]?=some (Value.string p0[j]):=by rw [← Array.getElem?_toList];exact hj3
    constructor
    ·simp only [World.cell?,h6,Option.isSome_none,Bool.false_eq_true,if_false,Nat.zero_add]
     rw [hj4]
     congr 1
     simp [getElem!_pos,hj2]
    simp [World.frozen?,h6]
   rw [hn]
   refine (Any.slices_Sort_string Tryz.lSs b 0 c _ κ.w hH hblk (by rw [← hn];unfold maxLen at h5;omega)).mono fun e w' ⟨k1,m,os,k2⟩=>?_
   subst k1 k2
   obtain ⟨i1,i2⟩:=rj (m:=m) (os:=os) (e:=encStr) (css':=(lq iM p0).map fun s=>[Value.string s]) (D:=((p0.map fun s=>s.data.toList).mergeSort fun x y=>decide (x≤y)).toArray) hi (by
    rw [Be]
    generalize lq iM p0=q
    induction q with
    | nil=>rfl
    | cons x xs ih=>simp at ih ⊢;exact ih) (by rw [List.length_map,nT];rw [← h2];simp) (by simp)
   exact ⟨_,_,⟨_,κ.S⟩,rfl,rfl,i1,.tup [],_,.tup .nil,.cons (.row hb (by intro cs hcs;obtain ⟨q,_,rfl⟩:=List.mem_map.1 hcs;intro u hu;rw [List.mem_singleton.1 hu];rfl) (vw fun y hy=>hok y (kD.mem_iff.1 hy))) .nil,rfl,by rw [← hn]⟩
theorem le_grow {κ κ':Kr} (h:Le [] κ κ'):∃ q os',κ'.w=Sort.grow (κ.w.drewN q) os':=by
 refine ⟨κ'.w.drawn - κ.w.drawn,κ'.w.heap.extract κ.w.heap.size κ'.w.heap.size,?_⟩
 have hz:=h.kle.size
 have hd:=h.drawn
 have e1:κ'.w.heap=κ.w.heap++κ'.w.heap.extract κ.w.heap.size κ'.w.heap.size:=by
  apply Array.ext_getElem?
  intro i
  rcases Nat.lt_or_ge i κ.w.heap.size with hi | hi
  ·rw [Array.getElem?_append_left hi];exact h.same i hi (by simp)
  rw [Array.getElem?_append_right hi,Array.getElem?_extract]
  split
  ·congr 1;omega
  rw [Array.getElem?_eq_none (by omega)]
 cases hw:κ'.w with
 | mk heap tape drawn os output =>
  have h2:=h.tape;have h3:=h.os;have h4:=h.output
  rw [hw] at e1 h2 h3 h4 hd
  simp only at e1 h2 h3 h4 hd
  simp only [Sort.grow,World.drewN]
  subst h2 h3 h4
  rw [← e1]
  congr 1;omega
theorem xb {γ:Type} [Inhabited γ] (enc:γ→List Value) (k:Nat) (hk:∀ x,(enc x).length=k):∀ L:List γ,(List.range (L.length*k)).map (fun t=>(enc L[t / k]!)[t % k]!)=(L.map enc).flatten
 | []=>by simp
 | x::xs=>by
  have ih:=xb enc k hk xs
  rcases Nat.eq_zero_or_pos k with h0 | h0
  ·subst h0
   have:∀ M:List γ,(M.map enc).flatten=[]:=fun M=>by
    rw [List.flatten_eq_nil_iff];intro l hl;obtain ⟨y,_,rfl⟩:=List.mem_map.1 hl;exact List.eq_nil_of_length_eq_zero (hk y)
   rw [this];simp
  rw [List.length_cons,Nat.add_mul,Nat.one_mul,Nat.add_comm,List.range_add,List.map_append,List.map_cons,List.flatten_cons,← ih,List.map_map]
  congr 1
  ·apply List.ext_getElem
   ·simp [hk]
   intro i h1 h2
   have hi:i<k:=by simpa using h1
   simp [Nat.div_eq_of_lt hi,Nat.mod_eq_of_lt hi,getElem!_pos,h2]
  apply List.map_congr_left
  intro t _
  simp only [Function.comp,Nat.add_div_left _ h0,Nat.add_mod_left]
  rfl
theorem vx {γ:Type} [Inhabited γ] (enc:γ→List Value) (k:Nat) (hk:∀ x,(enc x).length=k) (d:Array γ):(Sort.flatK enc k d).toList.map id=(d.toList.map enc).flatten:=by
 rw [List.map_id,← xb enc k hk]
 simp only [Sort.flatK,Array.toList_map,Array.toList_range,Array.length_toList]
 apply List.map_congr_left
 intro t _
 congr 2
 simp [getElem!_def]
section
variable {α:Type} {enc:α→List PV} {encV:α→List Value}
theorem zT {κ:Kr} (hinv:∀ x ds,Rps κ (enc x) ds→ds=encV x):∀ {xs:List α} {dss:List (List Value)},Rpss κ (xs.map enc) dss→dss=xs.map encV
 | [],_,h=>h.nil_inv
 | x::xs,_,h=>by
  obtain ⟨d,ds,rfl,h1,h2⟩:=h.cons_inv
  rw [zT hinv h2,hinv _ _ h1];rfl
theorem tn {κ:Kr} (hmk:∀ x,Rps κ (enc x) (encV x)):∀ {xs:List α},Rpss κ (xs.map enc) (xs.map encV)
 | []=>.nil
 | x::xs=>.cons (hmk x) (tn hmk)
theorem callSF [Inhabited α] {f g T k:Nat} {ρs:Shelf.Ren} (L:SlLaysF0.n6 Tryz.prog ρs) (hf:ρs.f 6=f) (fOk:FnOk f) (gOk:FnOk g) (aE:∀ w,(isAgg (ρs.t 24)).run Tryz.prog w=.ok true w) (zE:∀ w,(Go.sizeOf (ρs.t 24)).run Tryz.prog w=.ok k w)
    (hk:∀ x,(encV x).length=k) (h1:∀ x,∀ v∈encV x,v.oneCell'=true) (hinv:∀ κ x ds,Rps κ (enc x) ds→ds=encV x) (hmk:∀ κ x,Rps κ (enc x) (encV x)) (cf:α→α→Int) (hO:Sort.SWO (ltOf cf)) (hT:∀ x y,ltOf cf x y=false→ltOf cf y x=false→x=y)
    (hcmp:∀ x y,PF g [.agg (enc x),.agg (enc y)] (pI (cf x y))) {p0:List α} {a:Option Addr} {n c:Nat}:PCall f [.v (.slice a n c),.fn g []] [PRes.row a n c T k (List.map enc p0)] (fun pv ρ'=>pv=.tup []∧ρ'=[PRes.row a n c T k (List.map enc (lq (ltOf cf) p0))]):=fun κ args ρ gk ha hr=>by
  subst hf
  obtain ⟨v,ws,rfl,ha1,ha2⟩:=ha.cons_inv
  obtain ⟨v2,ws2,rfl,ha3,ha4⟩:=ha2.cons_inv
  rw [ha4.nil_inv,ha1.val]
  have hv2:v2=.func (.func g) #[] #[]:=by
    cases ha3 with
    | fn h=>rw [h.nil_inv]
  subst hv2
  obtain ⟨r0,l',rfl,hr1,hr2⟩:=hr.cons_inv
  have:=hr2.nil_inv;subst this
  refine ⟨fOk,fun hi=>?_⟩
  have hn1:∀ l:List α,∀ cs∈l.map encV,cs.length=k:=fun l cs hcs=>by obtain ⟨q,_,rfl⟩:=List.mem_map.1 hcs;exact hk q
  cases hr1 with
  | row hb ho hc =>
    have hd:=zT (hinv κ) hc;subst hd
    have how:=hi.own _ (List.mem_cons_self)
    cases a with
    | none =>
      obtain ⟨rfl,rfl,h3⟩:=how
      have hp:p0=[]:=List.map_eq_nil_iff.1 h3
      subst hp
      refine (AnyF.slices_SortFunc_none L none 0 _ κ.w).mono fun e w' ⟨h1,h2⟩=>?_
      subst h1 h2
      exact ⟨_,_,κ,rfl,rfl,hi,.tup [],_,.tup .nil,.cons (.row hb ho (by exact .nil)) .nil,rfl,rfl⟩
    | some ad =>
      obtain ⟨q1,h2,h3,h4,h5,cur,h6,h7,h8⟩:=how
      obtain ⟨b,off,sp⟩:=ad
      injection q1 with h1a h1b h1c
      subst h1b h1c
      have hblk:b<κ.w.heap.size:=(hi.blk _ (List.mem_cons_self) b rfl).1
      have hn:n=p0.toArray.size:=by rw [← h2];simp
      have hz:(Sort.flatK encV k p0.toArray).size=n*k:=by rw [Sort.size_flatK,← hn]
      have hft:(Sort.flatK encV k p0.toArray).toList=cur.toList.take (n*k):=by
        rw [h8,← vx encV k hk,List.map_id]
      have hH:Sort.HoldsK encV k κ.w b 0 p0.toArray:=by
        intro j hj
        have hj2:j<n*k:=by rw [← hz];exact hj
        have hj3:(Sort.flatK encV k p0.toArray)[j]?=cur[j]?:=by
          rw [← Array.getElem?_toList,hft,List.getElem?_take,if_pos hj2,Array.getElem?_toList]
        constructor
        · simp only [World.cell?,h6,Option.isSome_none,Bool.false_eq_true,if_false,Nat.zero_add]
          rw [← hj3,Array.getElem?_eq_getElem hj,getElem!_pos _ j hj];rfl
        simp [World.frozen?,h6]
      have hcl:CmpLays Tryz.prog g #[] encV k cf b 0 p0.toArray.size κ.w:=fun m os dk hs x y=>by
        obtain ⟨i1,k1⟩:=rj (m:=m) (os:=os) (e:=id) (D:=Sort.flatK encV k dk) (css':=dk.toList.map encV) hi (vx encV k hk dk) (by rw [List.length_map,Array.length_toList,hs,hn]) (hn1 _)
        have hc2:=hcmp x y ⟨_,κ.S⟩ [.agg (encV x).toArray,.agg (encV y).toArray] (gk.mono k1) (.cons (.agg (h1 x) (hmk _ x)) (.cons (.agg (h1 y) (hmk _ y)) .nil))
        refine (hc2.2 ⟨Le.refl _ _,i1.fin,by simp,by simp,List.Pairwise.nil⟩).mono fun e w' ⟨v,ρ',κ',g1,g2,g3,g4⟩=>?_
        obtain ⟨q,os',hq⟩:=le_grow g3.le
        subst g1 g2
        exact ⟨by rw [g4.2.val],q,os',hq⟩
      rw [hn]
      refine (AnyQ.slices_SortFunc_total L k aE zE encV hk h1 cf hO g #[] b 0 c p0.toArray κ.w (fun args w=>lS gOk args w) hcl hH hblk (by rw [← hn];unfold maxLen at h5;omega) hT).mono fun e w' ⟨k1,m,os,k2⟩=>?_
      have hso:(p0.toArray.toList.mergeSort fun x y => !(ltOf cf) y x)=lq (ltOf cf) p0:=by
        refine pu (lt:=ltOf cf) hT ?_ (lW hO.trans hO.ntrans hO.irrefl p0) ((List.mergeSort_perm _ _).trans kD.symm)
        have h:=List.pairwise_mergeSort (le:=fun x y:α => !(ltOf cf) y x) (fun a b c h1 h2=>by
          simp only [Bool.not_eq_true'] at h1 h2 ⊢;exact hO.ntrans _ _ _ h2 h1) (fun a b=>by
          cases e1:ltOf cf b a
          · simp
          cases e2:ltOf cf a b
          · simp
          have:=hO.trans _ _ _ e1 e2;rw [hO.irrefl] at this;cases this) p0
        exact h.imp fun {a b} hab=>by simpa using hab
      rw [hso] at k2
      subst k1 k2
      obtain ⟨i1,i2⟩:=rj (m:=m) (os:=os) (e:=id) (css':=(lq (ltOf cf) p0).map encV) (D:=Sort.flatK encV k (lq (ltOf cf) p0).toArray) hi (vx encV k hk _) (by rw [List.length_map,nT];rw [← h2];simp) (hn1 _)
      exact ⟨_,_,⟨_,κ.S⟩,rfl,rfl,i1,.tup [],_,.tup .nil,.cons (.row hb (by intro cs hcs;obtain ⟨q,_,rfl⟩:=List.mem_map.1 hcs;exact h1 q) (tn (hmk _))) .nil,rfl,by rw [← hn]⟩
end
theorem cmpI (a b:Int):fg a b=some (if a<b then -1 else if b<a then 1 else 0):=by
 unfold fg jb
 simp only [bne_self_eq_false,be,bu]
 by_cases h:a<b
 ·rw [det h,if_pos h];rfl
 rw [cw h,if_neg h]
 by_cases h2:b<a
 ·rw [det h2,if_pos h2];rfl
 rw [cw h2,if_neg h2];rfl
theorem cmpOr2 (a b:Int):mJ [a,b]=some (if a=0 then b else a):=by
 unfold mJ
 refine (bM (l:=[a,b]) (by simp) (fun _ x=>cond (x != 0) (some (.inr x)) none) (.inl ()) (fun k hk=>?_) (by rw [cP];rfl)).trans ?_
 ·rw [iq hk,bQ,oT (aU hk),bP hk (by simp)]
  cases ([a,b][k] != 0) <;> rfl
 rw [kE (fun x:Int=>x != 0) (fun x=>(Sum.inr x:Unit⊕Int))]
 by_cases ha:a=0
 ·subst ha
  by_cases hb:b=0
  ·subst hb;rfl
  simp [hb]
 simp [ha]
def bL (x y:Za):Bool:=decide (x.Product<y.Product)||(decide (x.Product=y.Product)&&decide (x.Agreement<y.Agreement))
def rQ (x y:Za):Int:=if (if x.Product<y.Product then (-1:Int) else if y.Product<x.Product then 1 else 0)=0 then (if x.Agreement<y.Agreement then -1 else if y.Agreement<x.Agreement then 1 else 0) else (if x.Product<y.Product then -1 else if y.Product<x.Product then 1 else 0)
theorem rk:ltOf rQ=bL:=by
 funext x y
 unfold ltOf rQ bL
 rcases Int.lt_trichotomy x.Product y.Product with h | h | h
 ·rw [if_pos h];simp [h]
 ·simp only [h,Int.lt_irrefl,if_false,if_true,decide_false,decide_true,Bool.false_or,Bool.true_and]
  rcases Int.lt_trichotomy x.Agreement y.Agreement with h2 | h2 | h2
  ·rw [if_pos h2];simp [h2]
  ·simp [h2]
  rw [if_neg (by omega),if_pos h2];simp;omega
 have h1:¬ x.Product<y.Product:=by omega
 have h3:¬ x.Product=y.Product:=by omega
 simp [h,h1,h3]
theorem Df (x y:Za):eR x y=some (rQ x y):=by
 unfold eR rQ
 rw [cmpI,cmpI]
 simp only [be,cmpOr2]
theorem tp (x y:Za):bL x y=true↔x.Product<y.Product∨(x.Product=y.Product∧x.Agreement<y.Agreement):=by simp [bL]
theorem pK (x y:Za):bL x y=false↔¬ (x.Product<y.Product∨(x.Product=y.Product∧x.Agreement<y.Agreement)):=by rw [← tp];simp
theorem tq (x:Za):bL x x=false:=by rw [pK];omega
theorem vy (x y z:Za):bL x y=true→bL y z=true→bL x z=true:=by simp only [tp];omega
theorem tu (x y z:Za):bL x y=false→bL y z=false→bL x z=false:=by simp only [pK];omega
theorem tv (x y:Za):bL x y=false→bL y x=false→x=y:=by
 simp only [pK];intro h1 h2
 cases x;cases y;simp at h1 h2 ⊢;omega
def br (l:List Za):Option (List Za):=some (lq bL l)
theorem cZ {p0 r:List Za} (h:br p0=some r) {a:Option Addr} {n c:Nat}:PCall 49 [.v (.slice a n c),.fn 50 []] [PRes.row a n c 28 2 (List.map Za.enc p0)] (fun pv ρ'=>pv=.tup []∧ρ'=[PRes.row a n c 28 2 (List.map Za.enc r)]):=by
 obtain rfl:=Option.some.inj h
 rw [← rk]
 exact callSF Tryz.lSF rfl (F9 Tryz.func49 rfl) (F9 Tryz.func50 rfl) Tryz.isAgg28 Tryz.sizeOf28 (encV:=fun x=>[.int .i64 x.Product,.int .i64 x.Agreement]) (fun _=>rfl)
  (fun x v hv=>by simp at hv;rcases hv with rfl | rfl <;> rfl) (fun κ x ds h=>by
   obtain ⟨v,ws,rfl,h1,h2⟩:=h.cons_inv
   obtain ⟨v2,ws2,rfl,h3,h4⟩:=h2.cons_inv
   rw [h1.val,h3.val,h4.nil_inv]) (fun κ x=>.cons (.v rfl) (.cons (.v rfl) .nil)) rQ
  (by rw [rk];exact ⟨tq,vy,tu⟩) (by rw [rk];exact tv) (fun x y=>ma (Df x y))

end SX
namespace SX
open Go
attribute [local irreducible] PWL PWC PWD POpL POpQ PEv PGuardIs PSub PPick PUpd PSplice PFill PLit PF PFV PCall FOk eK ey lK nH iW mA Cov PHolds aW idx app mk gd lb nz ll DM sub jY dc nY wc fu cx ol we IntKind.wrap Int.tmod Int.tdiv Op.bytesLess strOfNums
def dO (p0:(List ByteArray)):Option Bool:=cond (decide (8<(p0.length:Int))) (some false) ((aW (S:=Int) (T:=(Unit)⊕(_)) (fun v2=>cond (decide (v2<(p0.length:Int))) ((idx p0 v2).bind fun m6=>(ke m6).bind fun x7=>(gd ((!(!x7))&&(decide (0<v2))) (idx p0 (IntKind.i64.wrap (v2 - 1)))).bind fun m8=>cond ((!x7)||((decide (0<v2))&&(Op.bytesLess m6.toList m8.toList||decide (m6=m8)))) (some (.inr (.inr false))) (some (.inl (IntKind.i64.wrap (v2+1))))) (some (.inr (.inl ())))) FUEL 0).bind fun q=>match q with | .inl _=>some true | .inr e=>some e)
theorem iZ {p0:(List ByteArray)} {r:Bool}  (h:dO p0=some r):PF 63 [pL eS p0] (pB r):=by
 unfold dO at h
 refine bd ?_
 refine dm Tryz.func63 rfl Tryz.ntmps63 Tryz.results63 rfl (aS [2] (by kernel_rfl) (cq (bI [5,6] [(7,pB (decide (8<(p0.length:Int))))] (by kernel_rfl) rfl h (fun hc1 h=>?_) fun hc1 h=>?_)))
 ·refine ae ?_
  refine da [(2,pB false)] (by kernel_rfl) (aq ?_)
  exact zz r h rfl
 refine ah ?_
 refine cq (aj [(8,pL eS p0),(9,pI (p0.length:Int)),(10,pI 0)] (by kernel_rfl) (eZ h fun q4 hq4 h=>?_))
 refine am (Y:=Unit×Unit) (fun (_,_)=>[]) (fun (_,_)=>[]) (fun (_,_)=>q4=Sum.inl ()) ?_ ?_
 ·refine az ?_
  refine aC (Y:=Unit) (S:=Int) _ hq4 (fun _ v2=>[(0,pL eS p0),(8,pL eS p0),(9,pI (p0.length:Int)),(10,pI v2)]) (fun _ v2=>[]) () (hY rfl) bv ?_
  rintro _ v2 o τ hb3;(try dsimp only at hb3);dsimp only [aw]
  refine ae (aj [(11,pB (decide (v2<(p0.length:Int))))] (by kernel_rfl) (bX (i4 rfl hb3 (fun hc5 hb3=>?_) fun hc5 hb3=>?_)))
  ·refine ah ?_
   refine du (aa hb3 fun m6 hm6 hb3=>an [] [12,13,14] [(3,pI v2),(4,pS m6)] (cJ 1 eS hm6 bh) (by kernel_rfl) (cO hb3 fun x7 hx7 hb3=>aa hb3 fun m8 hm8 hb3=>an [] (rg 15 15) [(30,pB ((!x7)||((decide (0<v2))&&(Op.bytesLess m6.toList m8.toList||decide (m6=m8)))))] (bi 1 (tV hx7) (eM 11 eS (cD hm8) bh)) (by kernel_rfl) (cR rfl hb3 (fun hc9 hb3=>?_) fun hc9 hb3=>?_)))
   ·refine ae ?_
    refine da [(2,pB false)] (by kernel_rfl) (dR ?_)
    refine aA hb3 (fun ht=>?_);subst ht
    refine cS ?_
    exact zz r h rfl
   refine ah ?_
   refine dt (ai [31] [(10,pI (IntKind.i64.wrap (v2+1)))] (by kernel_rfl) ?_)
   exact aP hb3 () (hY rfl) bv
  refine aG ?_
  refine cb hb3 (fun ht=>ak rfl ?_)
  exact av ((),()) nG bv ht.symm
 rintro ⟨_,_⟩ τ hz;(try dsimp only at hz);subst q4;(try dsimp only at h);dsimp only [aw]
 refine ae (da [(2,pB true)] (by kernel_rfl) ?_)
 exact zz r h rfl
def il (p0:(List ByteArray)):Option Bool:=cond (decide (6<(p0.length:Int))) (some false) ((aW (S:=Int) (T:=(Unit)⊕(_)) (fun v2=>cond (decide (v2<(p0.length:Int))) ((idx p0 v2).bind fun m6=>(dK m6).bind fun x7=>(gd ((!(x7 == 0))&&(decide (0<v2))) (idx p0 (IntKind.i64.wrap (v2 - 1)))).bind fun m8=>cond ((x7 == 0)||((decide (0<v2))&&(Op.bytesLess m6.toList m8.toList||decide (m6=m8)))) (some (.inr (.inr false))) (some (.inl (IntKind.i64.wrap (v2+1))))) (some (.inr (.inl ())))) FUEL 0).bind fun q=>match q with | .inl _=>some true | .inr e=>some e)
theorem rl {p0:(List ByteArray)} {r:Bool}  (h:il p0=some r):PF 189 [pL eS p0] (pB r):=by
 unfold il at h
 refine bd ?_
 refine dm Tryz.func189 rfl Tryz.ntmps189 Tryz.results189 rfl (aS [2] (by kernel_rfl) (cq (bI [5,6] [(7,pB (decide (6<(p0.length:Int))))] (by kernel_rfl) rfl h (fun hc1 h=>?_) fun hc1 h=>?_)))
 ·refine ae ?_
  refine da [(2,pB false)] (by kernel_rfl) (aq ?_)
  exact zz r h rfl
 refine ah ?_
 refine cq (aj [(8,pL eS p0),(9,pI (p0.length:Int)),(10,pI 0)] (by kernel_rfl) (eZ h fun q4 hq4 h=>?_))
 refine am (Y:=Unit×Unit) (fun (_,_)=>[]) (fun (_,_)=>[]) (fun (_,_)=>q4=Sum.inl ()) ?_ ?_
 ·refine az ?_
  refine aC (Y:=Unit) (S:=Int) _ hq4 (fun _ v2=>[(0,pL eS p0),(8,pL eS p0),(9,pI (p0.length:Int)),(10,pI v2)]) (fun _ v2=>[]) () (hY rfl) bv ?_
  rintro _ v2 o τ hb3;(try dsimp only at hb3);dsimp only [aw]
  refine ae (aj [(11,pB (decide (v2<(p0.length:Int))))] (by kernel_rfl) (bX (i4 rfl hb3 (fun hc5 hb3=>?_) fun hc5 hb3=>?_)))
  ·refine ah ?_
   refine du (aa hb3 fun m6 hm6 hb3=>an [] [12,13,14] [(3,pI v2),(4,pS m6)] (cJ 1 eS hm6 bh) (by kernel_rfl) (cO hb3 fun x7 hx7 hb3=>aa hb3 fun m8 hm8 hb3=>an [] (rg 15 15) [(30,pB ((x7 == 0)||((decide (0<v2))&&(Op.bytesLess m6.toList m8.toList||decide (m6=m8)))))] (bi 1 (fR hx7) (eM 11 eS (cD hm8) bh)) (by kernel_rfl) (cR rfl hb3 (fun hc9 hb3=>?_) fun hc9 hb3=>?_)))
   ·refine ae ?_
    refine da [(2,pB false)] (by kernel_rfl) (dR ?_)
    refine aA hb3 (fun ht=>?_);subst ht
    refine cS ?_
    exact zz r h rfl
   refine ah ?_
   refine dt (ai [31] [(10,pI (IntKind.i64.wrap (v2+1)))] (by kernel_rfl) ?_)
   exact aP hb3 () (hY rfl) bv
  refine aG ?_
  refine cb hb3 (fun ht=>ak rfl ?_)
  exact av ((),()) nG bv ht.symm
 rintro ⟨_,_⟩ τ hz;(try dsimp only at hz);subst q4;(try dsimp only at h);dsimp only [aw]
 refine ae (da [(2,pB true)] (by kernel_rfl) ?_)
 exact zz r h rfl
def kf (rec:Zd→Option Bool) (p0:Zd):Option Bool:=(mH p0).bind fun x2=>cond (!x2) (some false) (cond (p0.Kind == 1) (some true) (cond (p0.Kind == 2) ((gd (((p0.Digits == 2)||(p0.Digits == 4))||(p0.Digits == 6)) (il p0.Except)).bind fun x6=>(gd ((((p0.Digits == 2)||(p0.Digits == 4))||(p0.Digits == 6))&&x6) (js p0.Tolerance)).bind fun x7=>some (((((p0.Digits == 2)||(p0.Digits == 4))||(p0.Digits == 6))&&x6)&&x7)) (cond (p0.Kind == 3) ((js p0.Limit).bind fun x9=>some x9) (cond (p0.Kind == 4) ((dO [p0.Name]).bind fun x13=>some x13) (Option.bind (cond (p0.Kind == 5) (some (p0.Kind == 5)) (some (p0.Kind == 6))) (fun v14=>cond v14 (cond ((decide ((p0.Args.length:Int)<2))||(decide (6<(p0.Args.length:Int)))) (some false) ((aW (S:=Int) (T:=(Unit)⊕(_)) (fun v19=>cond (decide (v19<(p0.Args.length:Int))) ((idx p0.Args v19).bind fun m23=>(gd (!(m23.Kind == p0.Kind)) (rec m23)).bind fun x25=>cond ((m23.Kind == p0.Kind)||(!x25)) (some (.inr (.inr false))) (some (.inl (IntKind.i64.wrap (v19+1))))) (some (.inr (.inl ())))) FUEL 0).bind fun q=>match q with | .inl _=>some true | .inr e=>some e)) (some false)))))))
theorem tW {rec:Zd→Option Bool} (hrec:∀ {p0:Zd} {r:Bool},rec p0=some r→PF 166 [.agg (au p0)] (pB r)) {p0:Zd} {r:Bool} (h:kf rec p0=some r):PF 166 [.agg (au p0)] (pB r):=by
 unfold kf at h
 refine bd ?_
 refine dm Tryz.func166 rfl Tryz.ntmps166 Tryz.results166 rfl (cU rfl (bg (cs:=(au p0)) rfl rfl (fun b1=>ba [2] (by kernel_rfl) (cq (aa h fun x2 hx2 h=>an [0] [6,7] [(8,pB (!x2))] (bi 1 (wk hx2) bh) (by kernel_rfl) (cR rfl h (fun hc3 h=>?_) fun hc3 h=>?_))))))
 ·refine ae ?_
  refine da [(2,pB false)] (by kernel_rfl) (aq ?_)
  exact zz r h rfl
 refine ah ?_
 refine cq (aL [0] [9] [(10,pI p0.Kind)] (by kernel_rfl) (aN (pg (bI [12] [(11,pB (p0.Kind == 1))] (by kernel_rfl) rfl h (fun hc4 h=>?_) fun hc4 h=>?_))))
 ·refine ae ?_
  refine da [(2,pB true)] (by kernel_rfl) (dR ?_)
  exact zz r h rfl
 refine ae ?_
 refine bI [14] [(13,pB (p0.Kind == 2))] (by kernel_rfl) rfl h (fun hc5 h=>?_) fun hc5 h=>?_
 ·refine ae ?_
  refine aL [0,0,0] (rg 15 13) [(3,pB (((p0.Digits == 2)||(p0.Digits == 4))||(p0.Digits == 6)))] (by kernel_rfl) (cO h fun x6 hx6 h=>aa h fun x7 hx7 h=>an [0,0] (rg 28 11) [(2,pB (((((p0.Digits == 2)||(p0.Digits == 4))||(p0.Digits == 6))&&x6)&&x7))] (dT 4 (fun hc=>rl (cD hx6 hc)) (dT 9 (fun hc=>mI (cD hx7 hc)) bh)) (by kernel_rfl) (dj (dR ?_)))
  exact zz r h rfl
 refine ae ?_
 refine bI [40] [(39,pB (p0.Kind == 3))] (by kernel_rfl) rfl h (fun hc8 h=>?_) fun hc8 h=>?_
 ·refine ae ?_
  refine aa h fun x9 hx9 h=>an [0] [41,42,43] [(2,pB x9)] (bi 2 (mI hx9) bh) (by kernel_rfl) (dj (dR ?_))
  exact zz r h rfl
 refine ae ?_
 refine bI [45] [(44,pB (p0.Kind == 4))] (by kernel_rfl) rfl h (fun hc10 h=>?_) fun hc10 h=>?_
 ·refine ae ?_
  refine af (cu 2 [0] [46] [(47,pS p0.Name)] (by kernel_rfl) (al rfl (bA rfl rfl rfl rfl rfl (fU rfl iX) rfl rfl rfl rfl (fun b11=>?_))))
  refine gf (enc:=eS) (xs:=[p0.Name]) 48 rfl (by exact aJ) ?_
  refine aa h fun x13 hx13 h=>jr [] [49] [(2,pB x13)] (bi 0 (iZ hx13) bh) (by kernel_rfl) (dj (dR ?_))
  exact zz r h rfl
 refine ae ?_
 refine ae (ai [51] [(50,pB (p0.Kind == 5))] (by kernel_rfl) (eZ h fun q15 hq15 h=>?_))
 refine am (Y:=Unit×Bool) (fun (_,v14)=>[(1,pP b1 0),(50,pB v14)]) (fun (_,v14)=>[PRes.b b1 84 (au p0)]) (fun (_,v14)=>q15=v14) ?_ ?_
 ·skip
  refine i4 rfl hq15 (fun hc16 hq15=>?_) fun hc16 hq15=>?_
  ·refine ah ?_
   obtain rfl:=osi hq15
   exact av ((),(p0.Kind == 5)) (lL rfl) cE rfl
  refine ai [52] [(50,pB (p0.Kind == 6))] (by kernel_rfl) ?_
  obtain rfl:=osi hq15
  exact av ((),(p0.Kind == 6)) (lL rfl) cE rfl
 rintro ⟨_,v14⟩ τ hz;(try dsimp only at hz);subst q15;(try dsimp only at h);dsimp only [aw]
 refine i4 rfl h (fun hc17 h=>?_) fun hc17 h=>?_
 ·refine ae ?_
  refine ae (aL [0,0] (rg 53 9) [(62,pB ((decide ((p0.Args.length:Int)<2))||(decide (6<(p0.Args.length:Int)))))] (by kernel_rfl) (cR rfl h (fun hc18 h=>?_) fun hc18 h=>?_))
  ·refine ae ?_
   refine da [(2,pB false)] (by kernel_rfl) (aq (dR ?_))
   exact zz r h rfl
  refine ah ?_
  refine cq (aL [0] [63] [(64,pL Zd.enc p0.Args),(65,pI (p0.Args.length:Int)),(66,pI 0)] (by kernel_rfl) (eZ h fun q21 hq21 h=>?_))
  refine am (Y:=Unit×Unit) (fun (_,_)=>[]) (fun (_,_)=>[]) (fun (_,_)=>q21=Sum.inl ()) ?_ ?_
  ·refine az ?_
   refine aC (Y:=Unit) (S:=Int) _ hq21 (fun _ v19=>[(1,pP b1 0),(64,pL Zd.enc p0.Args),(65,pI (p0.Args.length:Int)),(66,pI v19)]) (fun _ v19=>[PRes.b b1 84 (au p0)]) () (hY rfl) cE ?_
   rintro _ v19 o τ hb20;(try dsimp only at hb20);dsimp only [aw]
   refine ae (aj [(67,pB (decide (v19<(p0.Args.length:Int))))] (by kernel_rfl) (bX (i4 rfl hb20 (fun hc22 hb20=>?_) fun hc22 hb20=>?_)))
   ·refine ah ?_
    refine du (aa hb20 fun m23 hm23 hb20=>af (aY 2 [] [68] [(69,.agg (au m23))] (oS 0 Zd.enc (Zd.enc_eq _) hm23 bh) (by kernel_rfl) (al rfl (aM (cs:=[pI 0,pI 0,pN,pI 0,pI 0,pS ByteArray.empty,pN]) rfl rfl rfl rfl (fun b24=>aO rfl rfl (ap (vs:=(au m23)) rfl rfl rfl rfl rfl co mY (aH (cO hb20 fun x25 hx25 hb20=>an [0,1,0] (rg 70 9) [(79,pB ((m23.Kind == p0.Kind)||(!x25)))] (dT 7 (fun hc=>hrec (cD hx25 hc)) bh) (by kernel_rfl) (cR rfl hb20 (fun hc26 hb20=>?_) fun hc26 hb20=>?_)))))))))
    ·refine ae ?_
     refine da [(2,pB false)] (by kernel_rfl) (dR ?_)
     refine aA hb20 (fun ht=>?_);subst ht
     refine cS (dR ?_)
     exact zz r h rfl
    refine ah ?_
    refine dt (ai [80] [(66,pI (IntKind.i64.wrap (v19+1)))] (by kernel_rfl) ?_)
    exact aP hb20 () (hY rfl) (aZ (ar aJ) bv)
   refine aG ?_
   refine cb hb20 (fun ht=>ak rfl ?_)
   exact av ((),()) nG bv ht.symm
  rintro ⟨_,_⟩ τ hz;(try dsimp only at hz);subst q21;(try dsimp only at h);dsimp only [aw]
  refine ae (da [(2,pB true)] (by kernel_rfl) (dR ?_))
  exact zz r h rfl
 refine ah ?_
 refine aF (bX (da [(2,pB false)] (by kernel_rfl) ?_))
 exact zz r h rfl
def mi (n:Nat):Zd→Option Bool:=Nat.rec (motive:=fun _=>Zd→Option Bool) (fun _=>none) (fun _ ih=>kf ih) n
def rm (p0:Zd):Option Bool:=mi FUEL p0
theorem vz (n:Nat):∀ {p0:Zd} {r:Bool},mi n p0=some r→PF 166 [.agg (au p0)] (pB r):=by
 induction n with
 | zero=>intros;rename_i h;exact nomatch h
 | succ n ih=>intros;rename_i h;exact tW (fun hr=>ih hr) h
theorem wx {p0:Zd} {r:Bool} (h:rm p0=some r):PF 166 [.agg (au p0)] (pB r):=vz FUEL h
def fA (p0:Zd):Option Int:=(qX p0 33).bind fun x2=>cond (decide (32<x2)) (some (8:Int)) ((rm p0).bind fun x4=>cond (!x4) (some (1:Int)) (some (0:Int)))
theorem iU {p0:Zd} {r:Int}  (h:fA p0=some r):PF 130 [.agg (au p0)] (pI r):=by
 unfold fA at h
 refine bd ?_
 refine dm Tryz.func130 rfl Tryz.ntmps130 Tryz.results130 rfl (cU rfl (bg (cs:=(au p0)) rfl rfl (fun b1=>ba [2] (by kernel_rfl) (cq (aa h fun x2 hx2 h=>an [0] [3,4] [(5,pB (decide (32<x2)))] (bi 1 (wj hx2) bh) (by kernel_rfl) (cR rfl h (fun hc3 h=>?_) fun hc3 h=>?_))))))
 ·refine ae ?_
  refine da [(2,pI 8)] (by kernel_rfl) (aq ?_)
  exact zz r h rfl
 refine ah ?_
 refine cq (aa h fun x4 hx4 h=>an [0] [6,7] [(8,pB (!x4))] (bi 1 (wx hx4) bh) (by kernel_rfl) (cR rfl h (fun hc5 h=>?_) fun hc5 h=>?_))
 ·refine ae ?_
  refine da [(2,pI 1)] (by kernel_rfl) (aq ?_)
  exact zz r h rfl
 refine ah ?_
 refine bX (da [(2,pI 0)] (by kernel_rfl) ?_)
 exact zz r h rfl
def ed (p0:Zb) (p1:ByteArray):Option (Zd×Bool):=(aW (S:=Int×Int) (T:=(Int)) (fun (v3,v4)=>cond (decide (v4<(p0.Rules.length:Int))) (((idx p0.Rules v4).bind fun m11=>(dw p1 m11.Prefix).bind fun x13=>(gd (x13&&(!(decide (v3<0)))) (idx p0.Rules v3)).bind fun m14=>cond (x13&&((decide (v3<0))||(decide ((m14.Prefix.size:Int)<(m11.Prefix.size:Int))))) (some v4) (some v3)).bind fun v9=>some (.inl (v9,(IntKind.i64.wrap (v4+1))))) (some (.inr v3))) FUEL ((-1),0)).bind fun v5=>(gd (!(decide (v5<0))) (idx p0.Rules v5)).bind fun m16=>(gd (!(decide (v5<0))) (fA m16.Rule)).bind fun x17=>cond ((decide (v5<0))||(x17 != 0)) (some ((⟨0,0,[],0,0,ByteArray.empty,[]⟩:Zd),false)) ((idx p0.Rules v5).bind fun m19=>(iI m19.Rule).bind fun x20=>some (x20,true))
theorem lv {p0:Zb} {p1:ByteArray} {r:(Zd×Bool)}  (h:ed p0 p1=some r):PF 89 [.agg (aD p0),pS p1] (.tup [.agg (au r.1),pB r.2]):=by
 unfold ed at h
 refine bd ?_
 refine dm Tryz.func89 rfl Tryz.ntmps89 Tryz.results89 rfl (cU rfl (bg (cs:=(aD p0)) rfl rfl (fun b1=>al rfl (aM (cs:=[pI 0,pI 0,pN,pI 0,pI 0,pS ByteArray.empty,pN]) rfl rfl rfl rfl (fun b2=>ba [5] (by kernel_rfl) (bX (aj [(6,pI (-1))] (by kernel_rfl) (cq (aL [1] [9] [(10,pL Zh.enc p0.Rules),(11,pI (p0.Rules.length:Int)),(12,pI 0)] (by kernel_rfl) (eZ h fun q7 hq7 h=>?_))))))))))
 refine am (Y:=Unit×Int) (fun (_,v5)=>[(2,pP b1 0),(4,pP b2 0),(6,pI v5)]) (fun (_,v5)=>[PRes.b b1 81 (aD p0),PRes.b b2 84 [pI 0,pI 0,pN,pI 0,pI 0,pS ByteArray.empty,pN]]) (fun (_,v5)=>q7=v5) ?_ ?_
 ·refine az ?_
  refine aC (Y:=Unit) (S:=Int×Int) _ hq7 (fun _ (v3,v4)=>[(1,pS p1),(2,pP b1 0),(4,pP b2 0),(6,pI v3),(10,pL Zh.enc p0.Rules),(11,pI (p0.Rules.length:Int)),(12,pI v4)]) (fun _ (v3,v4)=>[PRes.b b1 81 (aD p0),PRes.b b2 84 [pI 0,pI 0,pN,pI 0,pI 0,pS ByteArray.empty,pN]]) () (qG rfl) (aZ (ar aJ) cE) ?_
  rintro _ ⟨v3,v4⟩ o τ hb6;(try dsimp only at hb6);dsimp only [aw]
  refine ae (aj [(13,pB (decide (v4<(p0.Rules.length:Int))))] (by kernel_rfl) (bX (i4 rfl hb6 (fun hc8 hb6=>?_) fun hc8 hb6=>?_)))
  ·refine ah ?_
   refine cO hb6 fun q10 hq10 hb6=>?_
   refine am (Y:=Unit×Int) (fun (_,v9)=>[(1,pS p1),(2,pP b1 0),(4,pP b2 0),(6,pI v9),(10,pL Zh.enc p0.Rules),(11,pI (p0.Rules.length:Int)),(12,pI v4)]) (fun (_,v9)=>[PRes.b b1 81 (aD p0),PRes.b b2 84 [pI 0,pI 0,pN,pI 0,pI 0,pS ByteArray.empty,pN]]) (fun (_,v9)=>q10=v9) ?_ ?_
   ·skip
    refine pg (aa hq10 fun m11 hm11 hq10=>af (aY 3 [] [15] [(14,pI v4),(16,.agg (dW m11))] (cJ 1 Zh.enc hm11 bh) (by kernel_rfl) (al rfl (aM (cs:=[pS ByteArray.empty,pI 0,pI 0,pN,pI 0,pI 0,pS ByteArray.empty,pN]) rfl rfl rfl rfl (fun b12=>aB 1 [(7,pI v4)] (by kernel_rfl) (aO rfl rfl (ap (vs:=(dW m11)) rfl rfl rfl rfl rfl co zl8 (aH (bX (bo (ρd:=[]) [(0,0),(1,0),(2,0),(3,1),(4,0),(5,0),(6,0),(7,0),(8,0),(9,0),(10,0),(11,0),(12,0),(13,0),(14,0),(15,0),(16,0),(17,0),(18,0),(19,0),(20,0)] _ (List.Perm.refl _) (by kernel_rfl) rfl (aa hq10 fun x13 hx13 hq10=>aa hq10 fun m14 hm14 hq10=>bx 21 [0,0,1] (rg 17 20) [(37,pB (x13&&((decide (v3<0))||(decide ((m14.Prefix.size:Int)<(m11.Prefix.size:Int))))))] (bi 3 (iH hx13) (eM 14 Zh.enc (cD hm14) bh)) (by kernel_rfl) (bG (cR rfl hq10 (fun hc15 hq10=>?_) fun hc15 hq10=>?_)))))))))))))
    ·refine ai [38] [(6,pI v4)] (by kernel_rfl) ?_
     refine aF ?_
     obtain rfl:=osi hq10
     exact av ((),v4) (qG rfl) (aZ (ar aJ) (aZ (ar aJ) bv)) rfl
    refine ah ?_
    refine aF ?_
    obtain rfl:=osi hq10
    exact av ((),v3) (qG rfl) (aZ (ar aJ) (aZ (ar aJ) bv)) rfl
   rintro ⟨_,v9⟩ τ hz;(try dsimp only at hz);subst q10;(try dsimp only at hb6);dsimp only [aw]
   refine ai [39] [(12,pI (IntKind.i64.wrap (v4+1)))] (by kernel_rfl) ?_
   exact aP hb6 () (qG rfl) mR
  refine aG ?_
  refine cb hb6 (fun ht=>ak rfl ?_)
  exact av ((),v3) (mq rfl) mR ht.symm
 rintro ⟨_,v5⟩ τ hz;(try dsimp only at hz);subst q7;(try dsimp only at h);dsimp only [aw]
 refine cN (aa h fun m16 hm16 h=>aa h fun x17 hx17 h=>an [0] (rg 40 11) [(51,pB ((decide (v5<0))||(x17 != 0)))] (eM 6 Zh.enc (cD hm16) (dT 9 (fun hc=>iU (cD hx17 hc)) bh)) (by kernel_rfl) (cR rfl h (fun hc18 h=>?_) fun hc18 h=>?_))
 ·refine ae ?_
  refine af (aB 1 [(52,.agg [pI 0,pI 0,pN,pI 0,pI 0,pS ByteArray.empty,pN])] (by kernel_rfl) (aO rfl rfl (ap (vs:=[pI 0,pI 0,pN,pI 0,pI 0,pS ByteArray.empty,pN]) rfl rfl rfl rfl rfl (db co) mY (aI [(5,pB false)] (by kernel_rfl) (aN (de (k:=2) (b:=b2) rfl (db co) (de (k:=6) (b:=b2) rfl (db co) (bB (aq ?_)))))))))
  obtain rfl:=osi h
  exact aR (cH (dJ rfl wf rfl) (aT rfl)) bv ⟨rfl,rfl⟩
 refine ah ?_
 refine cO h fun m19 hm19 h=>aa h fun x20 hx20 h=>af (aY 7 [0] (rg 53 6) [(59,.agg (au x20))] (cJ 3 Zh.enc hm19 (bi 6 (nN hx20) bh)) (by kernel_rfl) (aO rfl rfl (ap (vs:=(au x20)) rfl rfl rfl rfl rfl (db co) mY (aI [(5,pB true)] (by kernel_rfl) (dj ?_)))))
 obtain rfl:=osi h
 exact aR (cH (dJ rfl wf rfl) (aT rfl)) bv ⟨rfl,rfl⟩
def cF (p0:(List Zc)) (p1:(List Zb)) (p2:ByteArray) (p3:Za):Option Bool:=(di p0 p3.Product).bind fun x2=>cond (!x2.2) (some false) ((eu p1 p3.Agreement).bind fun x5=>(gd (!((!x5.2)||(decide (x2.1.Country=p2)))) (dy x5.1 x2.1.Country p2)).bind fun x7=>cond (((!x5.2)||(decide (x2.1.Country=p2)))||(!x7)) (some false) ((ed x5.1 x2.1.Code).bind fun x9=>some x9.2))
theorem jm {p0:(List Zc)} {p1:(List Zb)} {p2:ByteArray} {p3:Za} {r:Bool}  (h:cF p0 p1 p2 p3=some r):PF 44 [pL Zc.enc p0,pL Zb.enc p1,pS p2,.agg [pI p3.Product,pI p3.Agreement]] (pB r):=by
 unfold cF at h
 refine bd ?_
 refine dm Tryz.func44 rfl Tryz.ntmps44 Tryz.results44 rfl (cU rfl (bg (cs:=[pI p3.Product,pI p3.Agreement]) rfl rfl (fun b1=>ba [8] (by kernel_rfl) (cO h fun x2 hx2 h=>af (aY 7 [0] [13,14,15,16,12] [(17,.agg (aK x2.1)),(18,pB x2.2)] (bi 3 (gY hx2) bh) (by kernel_rfl) (al rfl (aM (cs:=[pI 0,pS ByteArray.empty,pS ByteArray.empty,pI 0,pB false,pN,pN]) rfl rfl rfl rfl (fun b3=>aO rfl rfl (ap (vs:=(aK x2.1)) rfl rfl rfl rfl rfl co mY (aI [(10,pB x2.2)] (by kernel_rfl) (cq (bI [19] [(20,pB (!x2.2))] (by kernel_rfl) rfl h (fun hc4 h=>?_) fun hc4 h=>?_))))))))))))
 ·refine ae ?_
  refine da [(8,pB false)] (by kernel_rfl) (aq ?_)
  exact zz r h rfl
 refine ah ?_
 refine cO h fun x5 hx5 h=>af (aY 7 [1] [22,23,24,25,21] [(26,.agg (aD x5.1)),(27,pB x5.2)] (bi 3 (jA hx5) bh) (by kernel_rfl) (al rfl (aM (cs:=[pI 0,pI 0,pN,pN]) rfl rfl rfl rfl (fun b6=>aO rfl rfl (ap (vs:=(aD x5.1)) rfl rfl rfl rfl rfl co zx (aI [(10,pB x5.2)] (by kernel_rfl) (cq (aa h fun x7 hx7 h=>an [1,0,1] (rg 28 15) [(43,pB (((!x5.2)||(decide (x2.1.Country=p2)))||(!x7)))] (dT 13 (fun hc=>jc (cD hx7 hc)) bh) (by kernel_rfl) (cR rfl h (fun hc8 h=>?_) fun hc8 h=>?_)))))))))
 ·refine ae ?_
  refine da [(8,pB false)] (by kernel_rfl) (aq ?_)
  exact zz r h rfl
 refine ah ?_
 refine cO h fun x9 hx9 h=>an [0,1] [45,46,47,48,44,49,50] [(10,pB x9.2)] (bi 3 (lv hx9) bh) (by kernel_rfl) (bX (ai [51] [(8,pB x9.2)] (by kernel_rfl) (dj ?_)))
 exact zz r h rfl
def fa (p0:Zh) (p1:Zh):Option Bool:=(gd (decide (p0.Prefix=p1.Prefix)) (fA p0.Rule)).bind fun x3=>(gd ((decide (p0.Prefix=p1.Prefix))&&(x3 == 0)) (iJ p0.Rule p1.Rule)).bind fun x4=>some (((decide (p0.Prefix=p1.Prefix))&&(x3 == 0))&&x4)
theorem mP {p0:Zh} {p1:Zh} {r:Bool}  (h:fa p0 p1=some r):PF 135 [.agg (dW p0),.agg (dW p1)] (pB r):=by
 unfold fa at h
 refine bd ?_
 refine dm Tryz.func135 rfl Tryz.ntmps135 Tryz.results135 rfl (cU rfl (bg (cs:=(dW p0)) rfl rfl (fun b1=>al rfl (bg (cs:=(dW p1)) rfl rfl (fun b2=>ba [4] (by kernel_rfl) (cO h fun x3 hx3 h=>aa h fun x4 hx4 h=>an [1,0,1,1,0] (rg 5 18) [(4,pB (((decide (p0.Prefix=p1.Prefix))&&(x3 == 0))&&x4))] (dT 8 (fun hc=>iU (cD hx3 hc)) (dT 16 (fun hc=>nO (cD hx4 hc)) bh)) (by kernel_rfl) (dj ?_)))))))
 exact zz r h rfl
def eD (p0:(List Zh)) (p1:(List Zh)):Option Bool:=(bj p0 p1 (fun y1 y2=>fa y1 y2)).bind fun x3=>some x3
theorem nw {p0:(List Zh)} {p1:(List Zh)} {r:Bool}  (h:eD p0 p1=some r):PF 95 [pL Zh.enc p0,pL Zh.enc p1] (pB r):=by
 unfold eD at h
 refine bd ?_
 refine dm Tryz.func95 rfl Tryz.ntmps95 Tryz.results95 rfl (aS [4] (by kernel_rfl) (cO h fun x3 hx3 h=>an [] [5,6,7] [(4,pB x3)] (bi 2 (dG (fun hr=>qQ (mP hr)) hx3) bh) (by kernel_rfl) (dj ?_)))
 exact zz r h rfl
def eg (p0:(List Zb)) (p1:Int) (p2:ByteArray) (p3:ByteArray):Option (List Int):=(eu p0 p1).bind fun x1=>cond (!x1.2) (some []) (cond (x1.1.Kind != 2) (some [p1]) ((aW (S:=(List Int)×Int) (T:=((List Int))) (fun (l8,v11)=>cond (decide (v11<(p0.length:Int))) (((idx p0 v11).bind fun m24=>(gd (m24.ID != p1) (dy m24 p2 p3)).bind fun x26=>(gd ((m24.ID != p1)&&x26) (eD x1.1.Rules m24.Rules)).bind fun x27=>cond (((m24.ID != p1)&&x26)&&x27) ((app 8 l8 [m24.ID]).bind fun l31=>some l31) (some l8)).bind fun l22=>some (.inl (l22,(IntKind.i64.wrap (v11+1))))) (some (.inr l8))) FUEL ([p1],0)).bind fun l15=>some l15))
theorem oB {p0:(List Zb)} {p1:Int} {p2:ByteArray} {p3:ByteArray} {r:(List Int)}  (h:eg p0 p1 p2 p3=some r):PF 47 [pL Zb.enc p0,pI p1,pS p2,pS p3] (pL eI r):=by
 unfold eg at h
 refine bd ?_
 refine dm Tryz.func47 rfl Tryz.ntmps47 Tryz.results47 rfl (aS [8] (by kernel_rfl) (cO h fun x1 hx1 h=>af (aY 6 [] [15,16,17,14] [(18,.agg (aD x1.1)),(19,pB x1.2)] (bi 2 (jA hx1) bh) (by kernel_rfl) (al rfl (aM (cs:=[pI 0,pI 0,pN,pN]) rfl rfl rfl rfl (fun b2=>aO rfl rfl (ap (vs:=(aD x1.1)) rfl rfl rfl rfl rfl co zx (aI [(10,pB x1.2)] (by kernel_rfl) (cq (bI [20] [(21,pB (!x1.2))] (by kernel_rfl) rfl h (fun hc3 h=>?_) fun hc3 h=>?_))))))))))
 ·refine ae ?_
  refine aj [(8,pN)] (by kernel_rfl) (aN (gg 8 rfl (bB (aq ?_))))
  exact zz r h rfl
 refine ah ?_
 refine bX (af (aB 1 [(22,pI p1)] (by kernel_rfl) (al rfl (bA rfl rfl rfl rfl rfl (fU rfl iX) rfl rfl rfl rfl (fun b4=>aI [(11,pO (some ⟨b4,0,none⟩) 1 1)] (by kernel_rfl) (cq (aL [1] [24,25] [(26,pB (x1.1.Kind != 2))] (by kernel_rfl) (cR rfl h (fun hc6 h=>?_) fun hc6 h=>?_))))))))
 ·refine ae ?_
  refine ai [27] [(8,pO (some ⟨b4,0,none⟩) 1 1)] (by kernel_rfl) (aN ?_)
  refine dB (enc:=eI) (xs:=[p1]) 8 rfl (by exact aJ) ?_
  refine bB (aq ?_)
  exact zz r h rfl
 refine ah ?_
 refine cq (aj [(28,pL Zb.enc p0),(29,pI (p0.length:Int)),(30,pI 0)] (by kernel_rfl) (eZ h fun q17 hq17 h=>?_))
 refine am (Y:=(Option Addr×Nat)×((List Int))) (fun ((a13,c14),l15)=>[(11,pO a13 l15.length c14)]) (fun ((a13,c14),l15)=>[PRes.row a13 l15.length c14 3 1 (List.map eI l15)]) (fun ((a13,c14),l15)=>q17=l15) ?_ ?_
 ·refine az ?_
  refine aC (Y:=Option Addr×Nat) (S:=(List Int)×Int) _ hq17 (fun (a9,c10) (l8,v11)=>[(1,pI p1),(2,pS p2),(3,pS p3),(9,pP b2 0),(11,pO a9 l8.length c10),(28,pL Zb.enc p0),(29,pI (p0.length:Int)),(30,pI v11)]) (fun (a9,c10) (l8,v11)=>[PRes.b b2 81 (aD x1.1),PRes.row a9 l8.length c10 3 1 (List.map eI l8)]) ((some ⟨b4,0,none⟩),1) (qH rfl) (aZ (ar aJ) cE) ?_
  rintro ⟨a9,c10⟩ ⟨l8,v11⟩ o τ hb16;(try dsimp only at hb16);dsimp only [aw]
  refine ae (aj [(31,pB (decide (v11<(p0.length:Int))))] (by kernel_rfl) (bX (i4 rfl hb16 (fun hc18 hb16=>?_) fun hc18 hb16=>?_)))
  ·refine ah ?_
   refine cO hb16 fun q23 hq23 hb16=>?_
   refine am (Y:=(Option Addr×Nat)×((List Int))) (fun ((a20,c21),l22)=>[(1,pI p1),(2,pS p2),(3,pS p3),(9,pP b2 0),(11,pO a20 l22.length c21),(28,pL Zb.enc p0),(29,pI (p0.length:Int)),(30,pI v11)]) (fun ((a20,c21),l22)=>[PRes.b b2 81 (aD x1.1),PRes.row a20 l22.length c21 3 1 (List.map eI l22)]) (fun ((a20,c21),l22)=>q23=l22) ?_ ?_
   ·skip
    refine pg (aa hq23 fun m24 hm24 hq23=>af (aY 2 [] [32] [(33,.agg (aD m24))] (cJ 0 Zb.enc hm24 bh) (by kernel_rfl) (al rfl (aM (cs:=[pI 0,pI 0,pN,pN]) rfl rfl rfl rfl (fun b25=>aO rfl rfl (ap (vs:=(aD m24)) rfl rfl rfl rfl rfl co zx (aH (cO hq23 fun x26 hx26 hq23=>aa hq23 fun x27 hx27 hq23=>an [0,0,1,0] (rg 34 16) [(50,pB (((m24.ID != p1)&&x26)&&x27))] (dT 8 (fun hc=>jc (cD hx26 hc)) (dT 15 (fun hc=>nw (cD hx27 hc)) bh)) (by kernel_rfl) (cR rfl hq23 (fun hc28 hq23=>?_) fun hc28 hq23=>?_)))))))))
    ·refine af ?_
     refine cu 3 [0] [52] [(51,pO a9 l8.length c10),(53,pI m24.ID)] (by kernel_rfl) (al rfl (bA rfl rfl rfl rfl rfl (fU rfl iX) rfl rfl rfl rfl (fun b29=>aa hq23 fun l31 hl31 hq23=>?_)))
     refine al rfl (bV (enc:=eI) rfl rfl rfl rfl rfl rfl rfl rfl rfl fy (by exact ar (ar (ar aJ))) hl31 (fun a32 c33=>?_))
     refine aI [(11,pO a32 l31.length c33)] (by kernel_rfl) (aF ?_)
     obtain rfl:=osi hq23
     exact av ((a32,c33),l31) (qH rfl) (aZ (ar (ar (ar aJ))) cE) rfl
    refine ah ?_
    refine aF ?_
    obtain rfl:=osi hq23
    exact av ((a9,c10),l8) (qH rfl) (aZ (ar aJ) (aZ (ar aJ) bv)) rfl
   rintro ⟨⟨a20,c21⟩,l22⟩ τ hz;(try dsimp only at hz);subst q23;(try dsimp only at hb16);dsimp only [aw]
   refine ai [56] [(30,pI (IntKind.i64.wrap (v11+1)))] (by kernel_rfl) ?_
   exact aP hb16 (a20,c21) (qH rfl) mR
  refine aG ?_
  refine cb hb16 (fun ht=>ak rfl ?_)
  exact av ((a9,c10),l8) (qV rfl) (aZ (ar aJ) bv) ht.symm
 rintro ⟨⟨a13,c14⟩,l15⟩ τ hz;(try dsimp only at hz);subst q17;(try dsimp only at h);dsimp only [aw]
 refine ae (ai [57] [(8,pO a13 l15.length c14)] (by kernel_rfl) (aN ?_))
 refine dB (enc:=eI) (xs:=l15) 8 rfl (by exact aJ) ?_
 refine bB ?_
 exact zz r h rfl
def jN (p0:(List ByteArray)) (p1:(List ByteArray)):Option (List ByteArray):=(cW [p0,p1]).bind fun x3=>(iV x3).bind fun x7=>(dH x7).bind fun x8=>some x8
theorem vA {p0:(List ByteArray)} {p1:(List ByteArray)} {r:(List ByteArray)}  (h:jN p0 p1=some r):PF 97 [pL eS p0,pL eS p1] (pL eS r):=by
 unfold jN at h
 refine bd ?_
 refine dm Tryz.func97 rfl Tryz.ntmps97 Tryz.results97 rfl (aS [4] (by kernel_rfl) (bX (af (aB 2 [(6,pL eS p0),(7,pL eS p1)] (by kernel_rfl) (al rfl (bA rfl rfl rfl rfl rfl (fU rfl (fU rfl iX)) rfl rfl rfl rfl (fun b1=>?_)))))))
 refine gf (enc:=(eL eS)) (xs:=[p0,p1]) 8 rfl (by exact aJ) ?_
 refine aa h fun x3 hx3 h=>?_
 refine al rfl (bf rfl rfl (ρ1:=[]) (List.Perm.refl _) (kF hx3) ?_);rintro _ _ ⟨a4,c5,rfl,rfl⟩
 refine aI [(5,pO a4 x3.length c5)] (by kernel_rfl) (cO h fun x7 hx7 h=>af (aB 1 [(10,pO a4 x3.length c5)] (by kernel_rfl) ?_))
 refine al rfl (bf rfl rfl (ρ1:=[_]) (aX (by exact aJ) (List.Perm.refl _)) (lG hx7) ?_);rintro _ _ ⟨rfl,rfl⟩
 refine aH (cO h fun x8 hx8 h=>af (aB 1 [(12,pO a4 x3.length c5)] (by kernel_rfl) ?_))
 refine al rfl (bf rfl rfl (ρ1:=[_]) (aX (by exact aJ) (List.Perm.refl _)) (kr hx8) ?_);rintro _ _ ⟨a9,c10,rfl,rfl⟩
 refine aI [(4,pO a9 x8.length c10)] (by kernel_rfl) (aN ?_)
 refine dB (enc:=eS) (xs:=x8) 4 rfl (by exact aJ) ?_
 refine bB ?_
 exact zz r h rfl
def fb (p0:(List Zc)) (p1:Zb) (p2:Zc) (p3:Zr):Option ((List Ze)×(List ByteArray)):=(bS p2.Processes).bind fun x4=>(aW (S:=(List Ze)×(List ByteArray)×Int) (T:=((List Ze)×(List ByteArray))) (fun (l9,l12,v13)=>cond (decide (v13<(p2.Inputs.length:Int))) (((idx p2.Inputs v13).bind fun m29=>(di p0 m29.Product).bind fun x31=>(gd (p1.Kind == 3) (bJ p1.Parties x31.1.Country)).bind fun x33=>Option.bind (cond ((p1.Kind == 3)&&x33) ((jN l12 x31.1.Processes).bind fun x38=>some x38) (some l12)) (fun l35=>(cQ p3 x31.1 m29.Value).bind fun x39=>cond (((Ze.is_proved_ x39)||(!((p1.Kind == 3)&&x33)))||((x31.1.Inputs.length:Int) == 0)) ((app 16 l9 [x39]).bind fun l44=>some (l44,l35)) ((aW (S:=(List Ze)×Int) (T:=((List Ze))) (fun (l49,v52)=>cond (decide (v52<(x31.1.Inputs.length:Int))) ((idx x31.1.Inputs v52).bind fun m60=>(di p0 m60.Product).bind fun x62=>(fJ m29.Value m60.Value x31.1.Price).bind fun x64=>(cQ p3 x62.1 x64).bind fun x65=>(app 16 l49 [x65]).bind fun l68=>some (.inl (l68,(IntKind.i64.wrap (v52+1))))) (some (.inr l49))) FUEL (l9,0)).bind fun l56=>some (l56,l35)))).bind fun (l26,l27)=>some (.inl (l26,l27,(IntKind.i64.wrap (v13+1))))) (some (.inr (l9,l12)))) FUEL (([]:List Ze),x4,0)).bind fun (l17,l18)=>(sub l18 0 (ol (l18.length:Int) 8)).bind fun l73=>some (l17,l73)
theorem pM {p0:(List Zc)} {p1:Zb} {p2:Zc} {p3:Zr} {m3_set_:Nat} {r:((List Ze)×(List ByteArray))}  (h:fb p0 p1 p2 p3=some r):PCall 48 [pL Zc.enc p0,.agg (aD p1),.agg (aK p2),.agg [pL eI p3.partners,.v (.map (some m3_set_))]] [PRes.mp (some m3_set_) (i5 Za.key vT p3.set_)] (fun pv ρ'=>pv=.tup [pL Ze.enc r.1,pL eS r.2]∧ρ'=[PRes.mp (some m3_set_) (i5 Za.key vT p3.set_)]):=by
 unfold fb at h
 refine dm Tryz.func48 rfl Tryz.ntmps48 Tryz.results48 rfl (cU rfl (bg (cs:=(aD p1)) rfl rfl (fun b1=>al rfl (bg (cs:=(aK p2)) rfl rfl (fun b2=>al rfl (bg (cs:=[pL eI p3.partners,.v (.map (some m3_set_))]) rfl rfl (fun b3=>ba [8,9] (by kernel_rfl) (bX (aj [(10,pN)] (by kernel_rfl) (cO h fun x4 hx4 h=>af (cu 2 [1] [24] [(25,pL eS p2.Processes)] (by kernel_rfl) ?_)))))))))))
 refine al rfl (bf rfl rfl (ρ1:=[]) (List.Perm.refl _) (eW hx4) ?_);rintro _ _ ⟨a5,c6,rfl,rfl⟩
 refine aI [(11,pO a5 x4.length c6)] (by kernel_rfl) (cq (aL [2] [27] [(28,pL Zg.enc p2.Inputs),(29,pI (p2.Inputs.length:Int)),(30,pI 0)] (by kernel_rfl) (aN (cd 101 1 ?_))))
 refine dB (enc:=eS) (xs:=x4) 11 rfl (by exact ar aJ) ?_
 refine aa h fun q20 hq20 h=>?_
 refine am (Y:=(Option Addr×Nat)×((List Ze)×(List ByteArray))) (fun ((a15,c16),(l17,l18))=>[(10,pO a15 l17.length c16),(11,pL eS l18)]) (fun ((a15,c16),(l17,l18))=>[PRes.mp (some m3_set_) (i5 Za.key vT p3.set_),PRes.row a15 l17.length c16 101 1 (List.map Ze.enc l17)]) (fun ((a15,c16),(l17,l18))=>q20=(l17,l18)) ?_ ?_
 ·refine az ?_
  refine aC (Y:=Option Addr×Nat) (S:=(List Ze)×(List ByteArray)×Int) _ hq20 (fun (a10,c11) (l9,l12,v13)=>[(0,pL Zc.enc p0),(5,pP b1 0),(7,pP b3 0),(10,pO a10 l9.length c11),(11,pL eS l12),(28,pL Zg.enc p2.Inputs),(29,pI (p2.Inputs.length:Int)),(30,pI v13)]) (fun (a10,c11) (l9,l12,v13)=>[PRes.b b1 81 (aD p1),PRes.b b3 96 [pL eI p3.partners,.v (.map (some m3_set_))],PRes.mp (some m3_set_) (i5 Za.key vT p3.set_),PRes.row a10 l9.length c11 101 1 (List.map Ze.enc l9)]) (none,0) (qH rfl) (aZ (ar (ar (ar (ar aJ)))) (aZ (ar (ar aJ)) (aZ (ar (ar (ar aJ))) (aZ (ar aJ) bv)))) ?_
  rintro ⟨a10,c11⟩ ⟨l9,l12,v13⟩ o τ hb19;(try dsimp only at hb19);dsimp only [aw]
  refine ae (aj [(31,pB (decide (v13<(p2.Inputs.length:Int))))] (by kernel_rfl) (bX (i4 rfl hb19 (fun hc22 hb19=>?_) fun hc22 hb19=>?_)))
  ·refine ah ?_
   refine cO hb19 fun q28 hq28 hb19=>?_
   refine am (Y:=(Option Addr×Nat)×((List Ze)×(List ByteArray))) (fun ((a24,c25),(l26,l27))=>[(0,pL Zc.enc p0),(5,pP b1 0),(7,pP b3 0),(10,pO a24 l26.length c25),(11,pL eS l27),(28,pL Zg.enc p2.Inputs),(29,pI (p2.Inputs.length:Int)),(30,pI v13)]) (fun ((a24,c25),(l26,l27))=>[PRes.b b1 81 (aD p1),PRes.b b3 96 [pL eI p3.partners,.v (.map (some m3_set_))],PRes.mp (some m3_set_) (i5 Za.key vT p3.set_),PRes.row a24 l26.length c25 101 1 (List.map Ze.enc l26)]) (fun ((a24,c25),(l26,l27))=>q28=(l26,l27)) ?_ ?_
   ·skip
    refine pg (aa hq28 fun m29 hm29 hq28=>af (aY 2 [] [32] [(33,.agg [pI m29.Product,pI m29.Value])] (cJ 0 Zg.enc hm29 bh) (by kernel_rfl) (al rfl (aM (cs:=[pI 0,pI 0]) rfl rfl rfl rfl (fun b30=>aO rfl rfl (ap (vs:=[pI m29.Product,pI m29.Value]) rfl rfl rfl rfl rfl co sk (aH (cO hq28 fun x31 hx31 hq28=>af (aY 7 [0] [35,36,37,38,34] [(39,.agg (aK x31.1)),(40,pB x31.2)] (bi 3 (gY hx31) bh) (by kernel_rfl) (al rfl (aM (cs:=[pI 0,pS ByteArray.empty,pS ByteArray.empty,pI 0,pB false,pN,pN]) rfl rfl rfl rfl (fun b32=>aO rfl rfl (ap (vs:=(aK x31.1)) rfl rfl rfl rfl rfl co mY (ba [15] (by kernel_rfl) (cO hq28 fun x33 hx33 hq28=>an [2,2,0] (rg 41 10) [(16,pB ((p1.Kind == 3)&&x33))] (dT 8 (fun hc=>cV (cD hx33 hc)) bh) (by kernel_rfl) (cq (aj [(51,pB ((p1.Kind == 3)&&x33))] (by kernel_rfl) (eZ hq28 fun q36 hq36 hq28=>?_))))))))))))))))))
    refine am (Y:=Unit×((List ByteArray))) (fun (_,l35)=>[(0,pL Zc.enc p0),(5,pP b1 0),(7,pP b3 0),(10,pO a10 l9.length c11),(11,pL eS l35),(13,pP b30 0),(14,pP b32 0),(16,pB ((p1.Kind == 3)&&x33)),(28,pL Zg.enc p2.Inputs),(29,pI (p2.Inputs.length:Int)),(30,pI v13)]) (fun (_,l35)=>[PRes.b b1 81 (aD p1),PRes.b b3 96 [pL eI p3.partners,.v (.map (some m3_set_))],PRes.b b30 78 [pI m29.Product,pI m29.Value],PRes.b b32 76 (aK x31.1),PRes.mp (some m3_set_) (i5 Za.key vT p3.set_),PRes.row a10 l9.length c11 101 1 (List.map Ze.enc l9)]) (fun (_,l35)=>q36=l35) ?_ ?_
    ·skip
     refine i4 rfl hq36 (fun hc37 hq36=>?_) fun hc37 hq36=>?_
     ·refine aa hq36 ?_;clear hq36;intro x38 hx38 hq36
      refine an [0] [52,53,54,55] [(11,pL eS x38)] (bi 3 (vA hx38) bh) (by kernel_rfl) ?_
      obtain rfl:=osi hq36
      exact av ((),x38) (dQ rfl (dQ rfl (qI rfl))) (aZ (ar (ar aJ)) (aZ (ar (ar aJ)) (aZ (ar aJ) AD))) rfl
     refine ah ?_
     obtain rfl:=osi hq36
     exact av ((),l12) (dQ rfl (dQ rfl (qI rfl))) (aZ (ar (ar aJ)) (aZ (ar (ar aJ)) (aZ (ar aJ) AD))) rfl
    rintro ⟨_,l35⟩ τ hz;(try dsimp only at hz);subst q36;(try dsimp only at hq28);dsimp only [aw]
    refine ae (aa hq28 fun x39 hx39 hq28=>af (cu 4 [1,3,2] [58] [(56,.agg [pL eI p3.partners,.v (.map (some m3_set_))]),(57,.agg (aK x31.1)),(59,pI m29.Value)] (by kernel_rfl) ?_))
    refine al rfl (bf rfl rfl (ρ1:=[_]) (aX (by exact ar (ar (ar (ar aJ)))) (List.Perm.refl _)) (iw hx39) ?_);rintro _ _ ⟨rfl,rfl⟩
    refine aI [(17,Ze.pv x39)] (by kernel_rfl) (cq (af (aY 5 [] [62,63,61] [(64,.agg [pS ((((Ze.as_proved_ x39)).use).Code),pI ((((Ze.as_proved_ x39)).use).Value),pB ((((Ze.as_proved_ x39)).use).Originating),pI ((((Ze.as_proved_ x39)).premise).Product),pI ((((Ze.as_proved_ x39)).premise).Agreement)]),(65,pB (Ze.is_proved_ x39))] (fota 1 (Ze.ta_proved_ x39) bh) (by kernel_rfl) (al rfl (aM (cs:=[pS ByteArray.empty,pI 0,pB false,pI 0,pI 0]) rfl rfl rfl rfl (fun b40=>aO rfl rfl (ap (vs:=[pS ((((Ze.as_proved_ x39)).use).Code),pI ((((Ze.as_proved_ x39)).use).Value),pB ((((Ze.as_proved_ x39)).use).Originating),pI ((((Ze.as_proved_ x39)).premise).Product),pI ((((Ze.as_proved_ x39)).premise).Agreement)]) rfl rfl rfl rfl rfl co Gc (aI [(19,pB (Ze.is_proved_ x39))] (by kernel_rfl) (bX (aL [5] (rg 66 10) [(76,pB (((Ze.is_proved_ x39)||(!((p1.Kind == 3)&&x33)))||((x31.1.Inputs.length:Int) == 0)))] (by kernel_rfl) (cR rfl hq28 (fun hc41 hq28=>?_) fun hc41 hq28=>?_)))))))))))
    ·refine ae ?_
     refine af (aB 2 [(77,pO a10 l9.length c11),(78,Ze.pv x39)] (by kernel_rfl) (al rfl (bA rfl rfl rfl rfl rfl (fU rfl iX) rfl rfl rfl rfl (fun b42=>aa hq28 fun l44 hl44 hq28=>?_))))
     refine al rfl (bV (enc:=Ze.enc) rfl rfl rfl rfl rfl rfl rfl rfl rfl fy (by exact ar (ar (ar (ar (ar (ar (ar aJ))))))) hl44 (fun a45 c46=>?_))
     refine aI [(10,pO a45 l44.length c46)] (by kernel_rfl) (aN (aG (gV (ak rfl ?_))))
     obtain rfl:=osi hq28
     exact av ((a45,c46),(l44,l35)) (qH rfl) (aZ (ar (ar (ar (ar aJ)))) (aZ (ar (ar (ar (ar aJ)))) (aZ (ar (ar (ar aJ))) cE))) rfl
    refine ah ?_
    refine bX (aL [5] [81] [(82,pL Zg.enc x31.1.Inputs),(83,pI (x31.1.Inputs.length:Int)),(84,pI 0)] (by kernel_rfl) (eZ hq28 fun q58 hq58 hq28=>?_))
    refine iB (Y:=(Option Addr×Nat)×((List Ze))) (fun ((a54,c55),l56)=>[(0,pL Zc.enc p0),(5,pP b1 0),(7,pP b3 0),(10,pO a54 l56.length c55),(11,pL eS l35),(28,pL Zg.enc p2.Inputs),(29,pI (p2.Inputs.length:Int)),(30,pI v13)]) (fun ((a54,c55),l56)=>[PRes.b b1 81 (aD p1),PRes.b b3 96 [pL eI p3.partners,.v (.map (some m3_set_))],PRes.mp (some m3_set_) (i5 Za.key vT p3.set_),PRes.row a54 l56.length c55 101 1 (List.map Ze.enc l56)]) (fun ((a54,c55),l56)=>q58=l56) ?_ ?_
    ·refine az ?_
     refine aC (Y:=Option Addr×Nat) (S:=(List Ze)×Int) _ hq58 (fun (a50,c51) (l49,v52)=>[(0,pL Zc.enc p0),(5,pP b1 0),(7,pP b3 0),(10,pO a50 l49.length c51),(11,pL eS l35),(13,pP b30 0),(14,pP b32 0),(28,pL Zg.enc p2.Inputs),(29,pI (p2.Inputs.length:Int)),(30,pI v13),(82,pL Zg.enc x31.1.Inputs),(83,pI (x31.1.Inputs.length:Int)),(84,pI v52)]) (fun (a50,c51) (l49,v52)=>[PRes.b b1 81 (aD p1),PRes.b b3 96 [pL eI p3.partners,.v (.map (some m3_set_))],PRes.b b30 78 [pI m29.Product,pI m29.Value],PRes.b b32 76 (aK x31.1),PRes.mp (some m3_set_) (i5 Za.key vT p3.set_),PRes.row a50 l49.length c51 101 1 (List.map Ze.enc l49)]) (a10,c11) (dQ rfl (dQ rfl (dQ rfl (dQ rfl (qI rfl))))) (aZ (ar (ar aJ)) (aZ (ar (ar aJ)) (aZ (ar (ar aJ)) (aZ (ar (ar aJ)) (aZ (ar aJ) (aZ (ar aJ) bv)))))) ?_
     rintro ⟨a50,c51⟩ ⟨l49,v52⟩ o τ hb57;(try dsimp only at hb57);dsimp only [aw]
     refine ae (aj [(85,pB (decide (v52<(x31.1.Inputs.length:Int))))] (by kernel_rfl) (bX (i4 rfl hb57 (fun hc59 hb57=>?_) fun hc59 hb57=>?_)))
     ·refine ah ?_
      refine du (aa hb57 fun m60 hm60 hb57=>af (aY 2 [] [86] [(87,.agg [pI m60.Product,pI m60.Value])] (cJ 0 Zg.enc hm60 bh) (by kernel_rfl) (al rfl (aM (cs:=[pI 0,pI 0]) rfl rfl rfl rfl (fun b61=>aO rfl rfl (ap (vs:=[pI m60.Product,pI m60.Value]) rfl rfl rfl rfl rfl co sk (aH (cO hb57 fun x62 hx62 hb57=>af (aY 7 [0] [89,90,91,92,88] [(93,.agg (aK x62.1)),(94,pB x62.2)] (bi 3 (gY hx62) bh) (by kernel_rfl) (al rfl (aM (cs:=[pI 0,pS ByteArray.empty,pS ByteArray.empty,pI 0,pB false,pN,pN]) rfl rfl rfl rfl (fun b63=>aO rfl rfl (ap (vs:=(aK x62.1)) rfl rfl rfl rfl rfl co mY (ba [23] (by kernel_rfl) (aN (bo (ρd:=[PRes.mp (some m3_set_) _,PRes.row a50 _ _ _ _ _]) [(0,0),(1,0),(2,0),(3,0),(4,0),(5,0),(6,0),(7,0),(8,0),(9,1),(10,1),(11,1),(12,1),(13,0)] _ (aX (ar (ar (ar (ar (ar (ar aJ)))))) (aX (ar (ar (ar (ar (ar (ar aJ)))))) (List.Perm.refl _))) (by kernel_rfl) rfl (aa hb57 fun x64 hx64 hb57=>aa hb57 fun x65 hx65 hb57=>bx 10 [3,0,4,1,5] (rg 98 6) [(95,pO a50 l49.length c51),(96,.agg [pL eI p3.partners,.v (.map (some m3_set_))]),(97,.agg (aK x62.1)),(104,pI x64)] (bi 9 (o9 hx64) bh) (by kernel_rfl) ?_)))))))))))))))))
      refine jF rfl rfl rfl (bf rfl rfl (ρ1:=[_]) (aX (by exact aJ) (List.Perm.refl _)) (iw hx65) ?_);rintro _ _ ⟨rfl,rfl⟩
      refine jF rfl rfl rfl (bA rfl rfl rfl rfl rfl (fU rfl iX) rfl rfl rfl rfl (fun b66=>aa hb57 fun l68 hl68 hb57=>?_))
      refine jF rfl rfl rfl (bV (enc:=Ze.enc) rfl rfl rfl rfl rfl rfl rfl rfl rfl fy (by exact ar (ar aJ)) hl68 (fun a69 c70=>?_))
      refine iD 1 [(10,pO a69 l68.length c70)] (by kernel_rfl) (bG (dt (ai [108] [(84,pI (IntKind.i64.wrap (v52+1)))] (by kernel_rfl) ?_)))
      exact aP hb57 (a69,c70) (dQ rfl (dQ rfl (dQ rfl (dQ rfl (qI rfl))))) (aZ (ar (ar (ar (ar (ar aJ))))) (aZ (ar (ar (ar (ar (ar aJ))))) (aZ (ar (ar (ar (ar (ar aJ))))) (aZ (ar (ar (ar (ar (ar aJ))))) (aZ (ar (ar aJ)) cE)))))
     refine aG ?_
     refine cb hb57 (fun ht=>ak rfl ?_)
     exact gE ((a50,c51),l49) (qH rfl) (aZ aJ (aZ aJ (aZ (ar (ar aJ)) (aZ (ar (ar aJ)) bv)))) ht.symm
    rintro ⟨⟨a54,c55⟩,l56⟩ τ ρ1 hsub72 hz;(try dsimp only at hz hsub72);subst q58;(try dsimp only at hq28);dsimp only [aw]
    refine aF ?_
    obtain rfl:=osi hq28
    exact av ((a54,c55),(l56,l35)) (qH rfl) (PSub.trans Gb hsub72) rfl
   rintro ⟨⟨a24,c25⟩,⟨l26,l27⟩⟩ τ hz;(try dsimp only at hz);subst q28;(try dsimp only at hb19);dsimp only [aw]
   refine ai [109] [(30,pI (IntKind.i64.wrap (v13+1)))] (by kernel_rfl) ?_
   exact aP hb19 (a24,c25) (qH rfl) Gb
  refine aG ?_
  refine cb hb19 (fun ht=>ak rfl ?_)
  exact av ((a10,c11),(l9,l12)) (lL rfl) (aZ (ar (ar aJ)) (aZ (ar (ar aJ)) bv)) ht.symm
 rintro ⟨⟨a15,c16⟩,⟨l17,l18⟩⟩ τ hz;(try dsimp only at hz);subst q20;(try dsimp only at h);dsimp only [aw]
 refine ae (bo (ρd:=[]) [(0,0),(1,0),(2,0),(3,0),(4,0),(5,0),(6,0),(7,0)] _ (List.Perm.refl _) (by kernel_rfl) rfl (aa h fun l73 hl73 h=>bx 8 [] (rg 110 6) [(8,pO a15 l17.length c16),(9,pL eS l73)] (yd 5 eS 1 (fun _=>rfl) hl73 bh) (by kernel_rfl) (bG (aN ?_))))
 refine dB (enc:=Ze.enc) (xs:=l17) 8 rfl (by exact ar aJ) ?_
 refine bB ?_
 obtain rfl:=osi h
 exact aR (cH (aT rfl) (aT rfl)) (aZ (ar aJ) bv) ⟨rfl,rfl⟩
def kg (p0:(List Zc)) (p1:(List Zb)) (p2:ByteArray) (p3:Za) (p4:(List Za)):Option (Zn×(List Za)):=(cF p0 p1 p2 p3).bind fun x3=>cond (!x3) (some ((⟨ByteArray.empty,0,false,[],[]⟩:Zn),[])) ((di p0 p3.Product).bind fun x5=>(eu p1 p3.Agreement).bind fun x7=>(eg p1 p3.Agreement x5.1.Country p2).bind fun x9=>(aW (S:=Int×(List (Za×Bool))) (T:=((List (Za×Bool)))) (fun (v12,l13)=>cond (decide (v12<(p4.length:Int))) ((idx p4 v12).bind fun m18=>some (.inl ((IntKind.i64.wrap (v12+1)),(qy l13 m18 true)))) (some (.inr l13))) FUEL (0,([]:List (Za×Bool)))).bind fun l14=>(fb p0 x7.1 x5.1 (⟨x9,l14⟩:Zr)).bind fun x20=>(aW (S:=(List Za)×Int×(List Zl)) (T:=((List Za)×(List Zl))) (fun (l23,v26,l28)=>cond (decide (v26<(x20.1.length:Int))) (((idx x20.1 v26).bind fun m53=>(Icumulation_supply_input m53).bind fun x54=>(app 32 l28 [x54]).bind fun l57=>cond (Ze.is_proved_ m53) ((app 16 l23 [(((Ze.as_proved_ m53)).premise)]).bind fun l65=>some (l65,l57)) (some (l23,l57))).bind fun (l47,l51)=>some (.inl (l47,(IntKind.i64.wrap (v26+1)),l51))) (some (.inr (l23,l28)))) FUEL (([]:List Za),0,([]:List Zl))).bind fun (l34,l38)=>(br l34).bind fun x69=>(bw x69).bind fun x70=>some ((⟨x5.1.Code,x5.1.Price,x5.1.Obtained,x20.2,l38⟩:Zn),x70))
def iN (p0:ByteArray):Option Bool:=(dK p0).bind fun x1=>some (decide (6≤x1))
theorem na {p0:ByteArray} {r:Bool}  (h:iN p0=some r):PF 62 [pS p0] (pB r):=by
 unfold iN at h
 refine bd ?_
 refine dm Tryz.func62 rfl Tryz.ntmps62 Tryz.results62 rfl (aS [2] (by kernel_rfl) (cO h fun x1 hx1 h=>an [] [3,4,5] [(2,pB (decide (6≤x1)))] (bi 1 (fR hx1) bh) (by kernel_rfl) (dj ?_)))
 exact zz r h rfl
def gu (p0:Zn):Option Int:=(iN p0.Code).bind fun x2=>cond (!x2) (some (1:Int)) (cond ((decide (p0.Price<1))||(decide (1000000000000<p0.Price))) (some (2:Int)) ((dO p0.Processes).bind fun x5=>cond (!x5) (some (1:Int)) (cond (decide (100<(p0.Inputs.length:Int))) (some (8:Int)) ((aW (S:=Int) (T:=(Unit)⊕(_)) (fun v8=>cond (decide (v8<(p0.Inputs.length:Int))) ((idx p0.Inputs v8).bind fun m12=>(iN m12.Code).bind fun x14=>cond (!x14) (some (.inr (.inr (1:Int)))) (cond ((decide (m12.Value<0))||(decide (1000000000000<m12.Value))) (some (.inr (.inr (2:Int)))) (some (.inl (IntKind.i64.wrap (v8+1)))))) (some (.inr (.inl ())))) FUEL 0).bind fun q=>match q with | .inl _=>some (0:Int) | .inr e=>some e))))
theorem pR {p0:Zn} {r:Int}  (h:gu p0=some r):PF 21 [.agg (bz p0)] (pI r):=by
 unfold gu at h
 refine bd ?_
 refine dm Tryz.func21 rfl Tryz.ntmps21 Tryz.results21 rfl (cU rfl (bg (cs:=(bz p0)) rfl rfl (fun b1=>ba [2] (by kernel_rfl) (du (aa h fun x2 hx2 h=>an [0] [6,7,8,9] [(5,pB (!x2))] (bi 2 (na hx2) bh) (by kernel_rfl) (cR rfl h (fun hc3 h=>?_) fun hc3 h=>?_))))))
 ·refine ae ?_
  refine da [(2,pI 1)] (by kernel_rfl) (dR ?_)
  exact zz r h rfl
 refine ae ?_
 refine aL [0,0] (rg 11 8) [(10,pB ((decide (p0.Price<1))||(decide (1000000000000<p0.Price))))] (by kernel_rfl) (cR rfl h (fun hc4 h=>?_) fun hc4 h=>?_)
 ·refine ae ?_
  refine da [(2,pI 2)] (by kernel_rfl) (dR ?_)
  exact zz r h rfl
 refine ae ?_
 refine aa h fun x5 hx5 h=>an [0] [20,21,22,23] [(19,pB (!x5))] (bi 2 (iZ hx5) bh) (by kernel_rfl) (cR rfl h (fun hc6 h=>?_) fun hc6 h=>?_)
 ·refine ae ?_
  refine da [(2,pI 1)] (by kernel_rfl) (dR ?_)
  exact zz r h rfl
 refine ae ?_
 refine aL [0] [25,26,27,28] [(24,pB (decide (100<(p0.Inputs.length:Int))))] (by kernel_rfl) (cR rfl h (fun hc7 h=>?_) fun hc7 h=>?_)
 ·refine ae ?_
  refine da [(2,pI 8)] (by kernel_rfl) (dR ?_)
  exact zz r h rfl
 refine ah ?_
 refine aF (cq (aL [0] [29] [(30,pL Zl.enc p0.Inputs),(31,pI (p0.Inputs.length:Int)),(32,pI 0)] (by kernel_rfl) (eZ h fun q10 hq10 h=>?_)))
 refine am (Y:=Unit×Unit) (fun (_,_)=>[]) (fun (_,_)=>[]) (fun (_,_)=>q10=Sum.inl ()) ?_ ?_
 ·refine az ?_
  refine aC (Y:=Unit) (S:=Int) _ hq10 (fun _ v8=>[(30,pL Zl.enc p0.Inputs),(31,pI (p0.Inputs.length:Int)),(32,pI v8)]) (fun _ v8=>[]) () (mq rfl) bv ?_
  rintro _ v8 o τ hb9;(try dsimp only at hb9);dsimp only [aw]
  refine ae (aj [(33,pB (decide (v8<(p0.Inputs.length:Int))))] (by kernel_rfl) (bX (i4 rfl hb9 (fun hc11 hb9=>?_) fun hc11 hb9=>?_)))
  ·refine ah ?_
   refine du (aa hb9 fun m12 hm12 hb9=>af (aY 2 [] [34] [(35,.agg [pS m12.Code,pI m12.Value,pB m12.Originating])] (cJ 0 Zl.enc hm12 bh) (by kernel_rfl) (al rfl (aM (cs:=[pS ByteArray.empty,pI 0,pB false]) rfl rfl rfl rfl (fun b13=>aO rfl rfl (ap (vs:=[pS m12.Code,pI m12.Value,pB m12.Originating]) rfl rfl rfl rfl rfl co zl3 (aH (cq (aa hb9 fun x14 hx14 hb9=>an [0] [36,37,38] [(39,pB (!x14))] (bi 2 (na hx14) bh) (by kernel_rfl) (cR rfl hb9 (fun hc15 hb9=>?_) fun hc15 hb9=>?_))))))))))
   ·refine ae ?_
    refine da [(2,pI 1)] (by kernel_rfl) (aq (dR ?_))
    refine aA hb9 (fun ht=>?_);subst ht
    refine cS ?_
    exact zz r h rfl
   refine ah ?_
   refine bX (aL [0,0] (rg 40 7) [(47,pB ((decide (m12.Value<0))||(decide (1000000000000<m12.Value))))] (by kernel_rfl) (cR rfl hb9 (fun hc16 hb9=>?_) fun hc16 hb9=>?_))
   ·refine ae ?_
    refine da [(2,pI 2)] (by kernel_rfl) (dR ?_)
    refine aA hb9 (fun ht=>?_);subst ht
    refine cS ?_
    exact zz r h rfl
   refine ah ?_
   refine dt (ai [48] [(32,pI (IntKind.i64.wrap (v8+1)))] (by kernel_rfl) ?_)
   exact aP hb9 () (mq rfl) bv
  refine aG ?_
  refine cb hb9 (fun ht=>ak rfl ?_)
  exact av ((),()) nG bv ht.symm
 rintro ⟨_,_⟩ τ hz;(try dsimp only at hz);subst q10;(try dsimp only at h);dsimp only [aw]
 refine ae (da [(2,pI 0)] (by kernel_rfl) ?_)
 exact zz r h rfl
def dE (p0:(List Zh)):Option Int:=(aW (S:=Int) (T:=(Unit)⊕(_)) (fun v1=>cond (decide (v1<(p0.length:Int))) ((idx p0 v1).bind fun m5=>(dK m5.Prefix).bind fun x7=>cond (x7 == 0) (some (.inr (.inr (1:Int)))) ((gd (decide (0<v1)) (idx p0 (IntKind.i64.wrap (v1 - 1)))).bind fun m9=>cond ((decide (0<v1))&&(Op.bytesLess m5.Prefix.toList m9.Prefix.toList||decide (m5.Prefix=m9.Prefix))) (some (.inr (.inr (9:Int)))) ((fA m5.Rule).bind fun x11=>cond (x11 != 0) (some (.inr (.inr x11))) (some (.inl (IntKind.i64.wrap (v1+1))))))) (some (.inr (.inl ())))) FUEL 0).bind fun q=>match q with | .inl _=>some (0:Int) | .inr e=>some e
theorem mj {p0:(List Zh)} {r:Int}  (h:dE p0=some r):PF 112 [pL Zh.enc p0] (pI r):=by
 unfold dE at h
 refine bd ?_
 refine dm Tryz.func112 rfl Tryz.ntmps112 Tryz.results112 rfl (aS [2] (by kernel_rfl) (cq (aj [(6,pL Zh.enc p0),(7,pI (p0.length:Int)),(8,pI 0)] (by kernel_rfl) (eZ h fun q3 hq3 h=>?_))))
 refine am (Y:=Unit×Unit) (fun (_,_)=>[]) (fun (_,_)=>[]) (fun (_,_)=>q3=Sum.inl ()) ?_ ?_
 ·refine az ?_
  refine aC (Y:=Unit) (S:=Int) _ hq3 (fun _ v1=>[(0,pL Zh.enc p0),(6,pL Zh.enc p0),(7,pI (p0.length:Int)),(8,pI v1)]) (fun _ v1=>[]) () (hY rfl) bv ?_
  rintro _ v1 o τ hb2;(try dsimp only at hb2);dsimp only [aw]
  refine ae (aj [(9,pB (decide (v1<(p0.length:Int))))] (by kernel_rfl) (bX (i4 rfl hb2 (fun hc4 hb2=>?_) fun hc4 hb2=>?_)))
  ·refine ah ?_
   refine du (aa hb2 fun m5 hm5 hb2=>af (aY 3 [] [11] [(10,pI v1),(12,.agg (dW m5))] (cJ 1 Zh.enc hm5 bh) (by kernel_rfl) (al rfl (aM (cs:=[pS ByteArray.empty,pI 0,pI 0,pN,pI 0,pI 0,pS ByteArray.empty,pN]) rfl rfl rfl rfl (fun b6=>aB 1 [(3,pI v1)] (by kernel_rfl) (aO rfl rfl (ap (vs:=(dW m5)) rfl rfl rfl rfl rfl co zl8 (aH (cq (aa hb2 fun x7 hx7 hb2=>an [0] [13,14,15] [(16,pB (x7 == 0))] (bi 2 (fR hx7) bh) (by kernel_rfl) (cR rfl hb2 (fun hc8 hb2=>?_) fun hc8 hb2=>?_)))))))))))
   ·refine ae ?_
    refine da [(2,pI 1)] (by kernel_rfl) (aq (dR ?_))
    refine aA hb2 (fun ht=>?_);subst ht
    refine cS ?_
    exact zz r h rfl
   refine ah ?_
   refine cq (bo (ρd:=[]) [(0,0),(1,0),(2,0),(3,0),(4,0),(5,0),(6,0),(7,0),(8,0),(9,0),(10,0),(11,0),(12,0)] _ (List.Perm.refl _) (by kernel_rfl) rfl (aa hb2 fun m9 hm9 hb2=>bx 13 [0] (rg 17 12) [(29,pB ((decide (0<v1))&&(Op.bytesLess m5.Prefix.toList m9.Prefix.toList||decide (m5.Prefix=m9.Prefix))))] (eM 8 Zh.enc (cD hm9) bh) (by kernel_rfl) (bG (cR rfl hb2 (fun hc10 hb2=>?_) fun hc10 hb2=>?_))))
   ·refine ae ?_
    refine da [(2,pI 9)] (by kernel_rfl) (aq (dR ?_))
    refine aA hb2 (fun ht=>?_);subst ht
    refine cS ?_
    exact zz r h rfl
   refine ah ?_
   refine cO hb2 fun x11 hx11 hb2=>an [0] [30,31,32] [(5,pI x11)] (bi 2 (iU hx11) bh) (by kernel_rfl) (bX (bI [33] [(34,pB (x11 != 0))] (by kernel_rfl) rfl hb2 (fun hc12 hb2=>?_) fun hc12 hb2=>?_))
   ·refine ae ?_
    refine ai [35] [(2,pI x11)] (by kernel_rfl) (dj (dR ?_))
    refine aA hb2 (fun ht=>?_);subst ht
    refine cS ?_
    exact zz r h rfl
   refine ah ?_
   refine dt (ai [36] [(8,pI (IntKind.i64.wrap (v1+1)))] (by kernel_rfl) ?_)
   exact aP hb2 () (hY rfl) bv
  refine aG ?_
  refine cb hb2 (fun ht=>ak rfl ?_)
  exact av ((),()) nG bv ht.symm
 rintro ⟨_,_⟩ τ hz;(try dsimp only at hz);subst q3;(try dsimp only at h);dsimp only [aw]
 refine ae (da [(2,pI 0)] (by kernel_rfl) ?_)
 exact zz r h rfl
def el (p0:(List Zb)):Option Int:=cond (decide (8<(p0.length:Int))) (some (8:Int)) ((aW (S:=Int) (T:=(Unit)⊕(_)) (fun v2=>cond (decide (v2<(p0.length:Int))) ((idx p0 v2).bind fun m6=>cond ((((decide (m6.ID<1))||(decide (1000<m6.ID)))||(decide (m6.Kind<1)))||(decide (3<m6.Kind))) (some (.inr (.inr (2:Int)))) ((gd (decide (0<v2)) (idx p0 (IntKind.i64.wrap (v2 - 1)))).bind fun m9=>cond ((decide (0<v2))&&(decide (m6.ID≤m9.ID))) (some (.inr (.inr (9:Int)))) (cond ((decide (12<(m6.Parties.length:Int)))||(decide (12<(m6.Rules.length:Int)))) (some (.inr (.inr (8:Int)))) ((dN m6.Parties).bind fun x12=>cond (!x12) (some (.inr (.inr (1:Int)))) ((dE m6.Rules).bind fun x14=>cond (x14 != 0) (some (.inr (.inr x14))) (some (.inl (IntKind.i64.wrap (v2+1))))))))) (some (.inr (.inl ())))) FUEL 0).bind fun q=>match q with | .inl _=>some (0:Int) | .inr e=>some e)
theorem oC {p0:(List Zb)} {r:Int}  (h:el p0=some r):PF 64 [pL Zb.enc p0] (pI r):=by
 unfold el at h
 refine bd ?_
 refine dm Tryz.func64 rfl Tryz.ntmps64 Tryz.results64 rfl (aS [2] (by kernel_rfl) (cq (bI [6,7] [(8,pB (decide (8<(p0.length:Int))))] (by kernel_rfl) rfl h (fun hc1 h=>?_) fun hc1 h=>?_)))
 ·refine ae ?_
  refine da [(2,pI 8)] (by kernel_rfl) (aq ?_)
  exact zz r h rfl
 refine ah ?_
 refine cq (aj [(9,pL Zb.enc p0),(10,pI (p0.length:Int)),(11,pI 0)] (by kernel_rfl) (eZ h fun q4 hq4 h=>?_))
 refine am (Y:=Unit×Unit) (fun (_,_)=>[]) (fun (_,_)=>[]) (fun (_,_)=>q4=Sum.inl ()) ?_ ?_
 ·refine az ?_
  refine aC (Y:=Unit) (S:=Int) _ hq4 (fun _ v2=>[(0,pL Zb.enc p0),(9,pL Zb.enc p0),(10,pI (p0.length:Int)),(11,pI v2)]) (fun _ v2=>[]) () (hY rfl) bv ?_
  rintro _ v2 o τ hb3;(try dsimp only at hb3);dsimp only [aw]
  refine ae (aj [(12,pB (decide (v2<(p0.length:Int))))] (by kernel_rfl) (bX (i4 rfl hb3 (fun hc5 hb3=>?_) fun hc5 hb3=>?_)))
  ·refine ah ?_
   refine du (aa hb3 fun m6 hm6 hb3=>af (aY 3 [] [14] [(13,pI v2),(15,.agg (aD m6))] (cJ 1 Zb.enc hm6 bh) (by kernel_rfl) (al rfl (aM (cs:=[pI 0,pI 0,pN,pN]) rfl rfl rfl rfl (fun b7=>aB 1 [(3,pI v2)] (by kernel_rfl) (aO rfl rfl (ap (vs:=(aD m6)) rfl rfl rfl rfl rfl co zx (aH (cq (aL [0,0,0,0] (rg 16 17) [(33,pB ((((decide (m6.ID<1))||(decide (1000<m6.ID)))||(decide (m6.Kind<1)))||(decide (3<m6.Kind))))] (by kernel_rfl) (cR rfl hb3 (fun hc8 hb3=>?_) fun hc8 hb3=>?_)))))))))))
   ·refine ae ?_
    refine da [(2,pI 2)] (by kernel_rfl) (aq (dR ?_))
    refine aA hb3 (fun ht=>?_);subst ht
    refine cS ?_
    exact zz r h rfl
   refine ah ?_
   refine cq (bo (ρd:=[]) [(0,0),(1,0),(2,0),(3,0),(4,0),(5,0),(6,0),(7,0),(8,0),(9,0),(10,0),(11,0),(12,0)] _ (List.Perm.refl _) (by kernel_rfl) rfl (aa hb3 fun m9 hm9 hb3=>bx 13 [0] (rg 34 12) [(46,pB ((decide (0<v2))&&(decide (m6.ID≤m9.ID))))] (eM 8 Zb.enc (cD hm9) bh) (by kernel_rfl) (bG (cR rfl hb3 (fun hc10 hb3=>?_) fun hc10 hb3=>?_))))
   ·refine ae ?_
    refine da [(2,pI 9)] (by kernel_rfl) (aq (dR ?_))
    refine aA hb3 (fun ht=>?_);subst ht
    refine cS ?_
    exact zz r h rfl
   refine ah ?_
   refine cq (aL [0,0] (rg 47 9) [(56,pB ((decide (12<(m6.Parties.length:Int)))||(decide (12<(m6.Rules.length:Int)))))] (by kernel_rfl) (cR rfl hb3 (fun hc11 hb3=>?_) fun hc11 hb3=>?_))
   ·refine ae ?_
    refine da [(2,pI 8)] (by kernel_rfl) (aq (dR ?_))
    refine aA hb3 (fun ht=>?_);subst ht
    refine cS ?_
    exact zz r h rfl
   refine ah ?_
   refine cq (aa hb3 fun x12 hx12 hb3=>an [0] [57,58,59] [(60,pB (!x12))] (bi 2 (mM hx12) bh) (by kernel_rfl) (cR rfl hb3 (fun hc13 hb3=>?_) fun hc13 hb3=>?_))
   ·refine ae ?_
    refine da [(2,pI 1)] (by kernel_rfl) (aq (dR ?_))
    refine aA hb3 (fun ht=>?_);subst ht
    refine cS ?_
    exact zz r h rfl
   refine ah ?_
   refine cO hb3 fun x14 hx14 hb3=>an [0] [61,62,63] [(5,pI x14)] (bi 2 (mj hx14) bh) (by kernel_rfl) (bX (bI [64] [(65,pB (x14 != 0))] (by kernel_rfl) rfl hb3 (fun hc15 hb3=>?_) fun hc15 hb3=>?_))
   ·refine ae ?_
    refine ai [66] [(2,pI x14)] (by kernel_rfl) (dj (dR ?_))
    refine aA hb3 (fun ht=>?_);subst ht
    refine cS ?_
    exact zz r h rfl
   refine ah ?_
   refine dt (ai [67] [(11,pI (IntKind.i64.wrap (v2+1)))] (by kernel_rfl) ?_)
   exact aP hb3 () (hY rfl) bv
  refine aG ?_
  refine cb hb3 (fun ht=>ak rfl ?_)
  exact av ((),()) nG bv ht.symm
 rintro ⟨_,_⟩ τ hz;(try dsimp only at hz);subst q4;(try dsimp only at h);dsimp only [aw]
 refine ae (da [(2,pI 0)] (by kernel_rfl) ?_)
 exact zz r h rfl
def dg (p0:Zc):Option Int:=(dK p0.Code).bind fun x2=>(gd (!((x2 != 6)&&(x2 != 8))) (ce p0.Country)).bind fun x3=>(gd (!(((x2 != 6)&&(x2 != 8))||(!x3))) (dO p0.Processes)).bind fun x4=>cond ((((x2 != 6)&&(x2 != 8))||(!x3))||(!x4)) (some (1:Int)) (cond ((decide (p0.Price<1))||(decide (1000000000000<p0.Price))) (some (2:Int)) (cond (decide (8<(p0.Inputs.length:Int))) (some (8:Int)) (cond (p0.Obtained&&(decide (0<(p0.Inputs.length:Int)))) (some (1:Int)) (some (0:Int)))))
theorem lw {p0:Zc} {r:Int}  (h:dg p0=some r):PF 118 [.agg (aK p0)] (pI r):=by
 unfold dg at h
 refine bd ?_
 refine dm Tryz.func118 rfl Tryz.ntmps118 Tryz.results118 rfl (cU rfl (bg (cs:=(aK p0)) rfl rfl (fun b1=>ba [2] (by kernel_rfl) (cO h fun x2 hx2 h=>an [0] [4,5,6] [(3,pI x2)] (bi 2 (fR hx2) bh) (by kernel_rfl) (cq (aa h fun x3 hx3 h=>aa h fun x4 hx4 h=>an [0,0] (rg 7 17) [(24,pB ((((x2 != 6)&&(x2 != 8))||(!x3))||(!x4)))] (dT 9 (fun hc=>fL (cD hx3 hc)) (dT 15 (fun hc=>iZ (cD hx4 hc)) bh)) (by kernel_rfl) (cR rfl h (fun hc5 h=>?_) fun hc5 h=>?_)))))))
 ·refine ae ?_
  refine da [(2,pI 1)] (by kernel_rfl) (aq ?_)
  exact zz r h rfl
 refine ah ?_
 refine cq (aL [0,0] (rg 25 7) [(32,pB ((decide (p0.Price<1))||(decide (1000000000000<p0.Price))))] (by kernel_rfl) (cR rfl h (fun hc6 h=>?_) fun hc6 h=>?_))
 ·refine ae ?_
  refine da [(2,pI 2)] (by kernel_rfl) (aq ?_)
  exact zz r h rfl
 refine ah ?_
 refine cq (aL [0] [33,34,35] [(36,pB (decide (8<(p0.Inputs.length:Int))))] (by kernel_rfl) (cR rfl h (fun hc7 h=>?_) fun hc7 h=>?_))
 ·refine ae ?_
  refine da [(2,pI 8)] (by kernel_rfl) (aq ?_)
  exact zz r h rfl
 refine ah ?_
 refine cq (aL [0,0] (rg 37 7) [(44,pB (p0.Obtained&&(decide (0<(p0.Inputs.length:Int)))))] (by kernel_rfl) (cR rfl h (fun hc8 h=>?_) fun hc8 h=>?_))
 ·refine ae ?_
  refine da [(2,pI 1)] (by kernel_rfl) (aq ?_)
  exact zz r h rfl
 refine ah ?_
 refine bX (da [(2,pI 0)] (by kernel_rfl) ?_)
 exact zz r h rfl
def em (p0:(List Zc)):Option Int:=cond (decide (64<(p0.length:Int))) (some (8:Int)) ((aW (S:=Int) (T:=(Unit)⊕(_)) (fun v2=>cond (decide (v2<(p0.length:Int))) ((idx p0 v2).bind fun m6=>cond ((decide (m6.ID<1))||(decide (1000000<m6.ID))) (some (.inr (.inr (2:Int)))) ((gd (decide (0<v2)) (idx p0 (IntKind.i64.wrap (v2 - 1)))).bind fun m9=>cond ((decide (0<v2))&&(decide (m6.ID≤m9.ID))) (some (.inr (.inr (9:Int)))) ((dg m6).bind fun x11=>cond (x11 != 0) (some (.inr (.inr x11))) ((dn p0 m6.Inputs).bind fun x13=>cond (x13 != 0) (some (.inr (.inr x13))) (some (.inl (IntKind.i64.wrap (v2+1)))))))) (some (.inr (.inl ())))) FUEL 0).bind fun q=>match q with | .inl _=>some (0:Int) | .inr e=>some e)
theorem oD {p0:(List Zc)} {r:Int}  (h:em p0=some r):PF 71 [pL Zc.enc p0] (pI r):=by
 unfold em at h
 refine bd ?_
 refine dm Tryz.func71 rfl Tryz.ntmps71 Tryz.results71 rfl (aS [2] (by kernel_rfl) (cq (bI [7,8] [(9,pB (decide (64<(p0.length:Int))))] (by kernel_rfl) rfl h (fun hc1 h=>?_) fun hc1 h=>?_)))
 ·refine ae ?_
  refine da [(2,pI 8)] (by kernel_rfl) (aq ?_)
  exact zz r h rfl
 refine ah ?_
 refine cq (aj [(10,pL Zc.enc p0),(11,pI (p0.length:Int)),(12,pI 0)] (by kernel_rfl) (eZ h fun q4 hq4 h=>?_))
 refine am (Y:=Unit×Unit) (fun (_,_)=>[]) (fun (_,_)=>[]) (fun (_,_)=>q4=Sum.inl ()) ?_ ?_
 ·refine az ?_
  refine aC (Y:=Unit) (S:=Int) _ hq4 (fun _ v2=>[(0,pL Zc.enc p0),(10,pL Zc.enc p0),(11,pI (p0.length:Int)),(12,pI v2)]) (fun _ v2=>[]) () (hY rfl) bv ?_
  rintro _ v2 o τ hb3;(try dsimp only at hb3);dsimp only [aw]
  refine ae (aj [(13,pB (decide (v2<(p0.length:Int))))] (by kernel_rfl) (bX (i4 rfl hb3 (fun hc5 hb3=>?_) fun hc5 hb3=>?_)))
  ·refine ah ?_
   refine du (aa hb3 fun m6 hm6 hb3=>af (aY 3 [] [15] [(14,pI v2),(16,.agg (aK m6))] (cJ 1 Zc.enc hm6 bh) (by kernel_rfl) (al rfl (aM (cs:=[pI 0,pS ByteArray.empty,pS ByteArray.empty,pI 0,pB false,pN,pN]) rfl rfl rfl rfl (fun b7=>aB 1 [(3,pI v2)] (by kernel_rfl) (aO rfl rfl (ap (vs:=(aK m6)) rfl rfl rfl rfl rfl co mY (aH (cq (aL [0,0] (rg 17 7) [(24,pB ((decide (m6.ID<1))||(decide (1000000<m6.ID))))] (by kernel_rfl) (cR rfl hb3 (fun hc8 hb3=>?_) fun hc8 hb3=>?_)))))))))))
   ·refine ae ?_
    refine da [(2,pI 2)] (by kernel_rfl) (aq (dR ?_))
    refine aA hb3 (fun ht=>?_);subst ht
    refine cS ?_
    exact zz r h rfl
   refine ah ?_
   refine cq (bo (ρd:=[]) [(0,0),(1,0),(2,0),(3,0),(4,0),(5,0),(6,0),(7,0),(8,0),(9,0),(10,0),(11,0),(12,0)] _ (List.Perm.refl _) (by kernel_rfl) rfl (aa hb3 fun m9 hm9 hb3=>bx 13 [0] (rg 25 12) [(37,pB ((decide (0<v2))&&(decide (m6.ID≤m9.ID))))] (eM 8 Zc.enc (cD hm9) bh) (by kernel_rfl) (bG (cR rfl hb3 (fun hc10 hb3=>?_) fun hc10 hb3=>?_))))
   ·refine ae ?_
    refine da [(2,pI 9)] (by kernel_rfl) (aq (dR ?_))
    refine aA hb3 (fun ht=>?_);subst ht
    refine cS ?_
    exact zz r h rfl
   refine ah ?_
   refine cq (aa hb3 fun x11 hx11 hb3=>an [0] [38,39] [(5,pI x11)] (bi 1 (lw hx11) bh) (by kernel_rfl) (bX (bI [40] [(41,pB (x11 != 0))] (by kernel_rfl) rfl hb3 (fun hc12 hb3=>?_) fun hc12 hb3=>?_)))
   ·refine ae ?_
    refine ai [42] [(2,pI x11)] (by kernel_rfl) (dj (aq (dR ?_)))
    refine aA hb3 (fun ht=>?_);subst ht
    refine cS ?_
    exact zz r h rfl
   refine ah ?_
   refine cO hb3 fun x13 hx13 hb3=>an [0] [43,44,45,46] [(6,pI x13)] (bi 3 (lF hx13) bh) (by kernel_rfl) (bX (bI [47] [(48,pB (x13 != 0))] (by kernel_rfl) rfl hb3 (fun hc14 hb3=>?_) fun hc14 hb3=>?_))
   ·refine ae ?_
    refine ai [49] [(2,pI x13)] (by kernel_rfl) (dj (dR ?_))
    refine aA hb3 (fun ht=>?_);subst ht
    refine cS ?_
    exact zz r h rfl
   refine ah ?_
   refine dt (ai [50] [(12,pI (IntKind.i64.wrap (v2+1)))] (by kernel_rfl) ?_)
   exact aP hb3 () (hY rfl) bv
  refine aG ?_
  refine cb hb3 (fun ht=>ak rfl ?_)
  exact av ((),()) nG bv ht.symm
 rintro ⟨_,_⟩ τ hz;(try dsimp only at hz);subst q4;(try dsimp only at h);dsimp only [aw]
 refine ae (da [(2,pI 0)] (by kernel_rfl) ?_)
 exact zz r h rfl
def jt (p0:Zd) (p1:Zn):Option Bool:=(fA p0).bind fun x3=>(gd (x3 == 0) (gu p1)).bind fun x4=>some ((x3 == 0)&&(x4 == 0))
theorem rn {p0:Zd} {p1:Zn} {r:Bool}  (h:jt p0 p1=some r):PF 126 [.agg (au p0),.agg (bz p1)] (pB r):=by
 unfold jt at h
 refine bd ?_
 refine dm Tryz.func126 rfl Tryz.ntmps126 Tryz.results126 rfl (cU rfl (bg (cs:=(au p0)) rfl rfl (fun b1=>al rfl (bg (cs:=(bz p1)) rfl rfl (fun b2=>ba [4] (by kernel_rfl) (cO h fun x3 hx3 h=>aa h fun x4 hx4 h=>an [1,0] (rg 5 8) [(4,pB ((x3 == 0)&&(x4 == 0)))] (bi 1 (iU hx3) (dT 5 (fun hc=>pR (cD hx4 hc)) bh)) (by kernel_rfl) (dj ?_)))))))
 exact zz r h rfl
def gw (p0:(List Zc)) (p1:(List Zb)) (p2:ByteArray) (p3:Za) (p4:(List Za)):Option (Zn×(List Za)):=(cF p0 p1 p2 p3).bind fun x3=>cond (!x3) (some ((⟨ByteArray.empty,0,false,[],[]⟩:Zn),[])) ((di p0 p3.Product).bind fun x5=>(eu p1 p3.Agreement).bind fun x7=>(eg p1 p3.Agreement x5.1.Country p2).bind fun x9=>(aW (S:=Int×(List (Za×Bool))) (T:=((List (Za×Bool)))) (fun (v12,l13)=>cond (decide (v12<((p4.length:Nat):Int))) ((idx p4 v12).bind fun m19=>some (.inl ((IntKind.i64.wrap (v12+1)),(qy l13 m19 true)))) (some (.inr l13))) FUEL (0,([]:List (Za×Bool)))).bind fun l15=>(fb p0 x7.1 x5.1 (⟨x9,l15⟩:Zr)).bind fun x21=>(aW (S:=(List Za)×Int×(List Zl)) (T:=((List Za)×(List Zl))) (fun (l24,v27,l29)=>cond (decide (v27<(x21.1.length:Int))) (((idx x21.1 v27).bind fun m56=>(Icumulation_supply_input m56).bind fun x57=>(app 32 l29 [x57]).bind fun l60=>cond (Ze.is_proved_ m56) ((app 16 l24 [(((Ze.as_proved_ m56)).premise)]).bind fun l68=>some (l68,l60)) (some (l24,l60))).bind fun (l49,l54)=>some (.inl (l49,(IntKind.i64.wrap (v27+1)),l54))) (some (.inr (l24,l29)))) FUEL (([]:List Za),0,([]:List Zl))).bind fun (l35,l40)=>(br l35).bind fun x72=>(bw x72).bind fun x73=>some ((⟨x5.1.Code,x5.1.Price,x5.1.Obtained,x21.2,l40⟩:Zn),x73))
theorem nU {p0:(List Zc)} {p1:(List Zb)} {p2:ByteArray} {p3:Za} {p4:(List Za)} {a_4:Option Addr}  {n_4:Nat}  {c_4:Nat} {r:(Zn×(List Za))}  (h:gw p0 p1 p2 p3 p4=some r):PCall 17 [pL Zc.enc p0,pL Zb.enc p1,pS p2,.agg [pI p3.Product,pI p3.Agreement],.v (.slice a_4 n_4 c_4)] [PRes.row a_4 n_4 c_4 28 2 (List.map Za.enc p4)] (fun pv ρ'=>pv=.tup [.agg (bz r.1),pL Za.enc r.2]∧ρ'=[PRes.row a_4 n_4 c_4 28 2 (List.map Za.enc p4)]):=by
 unfold gw at h
 refine kX Tryz.func17 rfl Tryz.ntmps17 Tryz.results17 rfl ?_
 refine ln (enc:=Za.enc) (xs:=p4) (a:=a_4) fy (fun hl ha=>?_);subst hl;clear ha
 refine ae (cU rfl (bg (cs:=[pI p3.Product,pI p3.Agreement]) rfl rfl (fun b1=>al rfl (aM (cs:=[pS ByteArray.empty,pI 0,pB false,pN,pN]) rfl rfl rfl rfl (fun b2=>ba [11] (by kernel_rfl) (cq (aa h fun x3 hx3 h=>an [1] (rg 27 5) [(32,pB (!x3))] (bi 4 (jm hx3) bh) (by kernel_rfl) (cR rfl h (fun hc4 h=>?_) fun hc4 h=>?_))))))))
 ·refine ae ?_
  refine af (aB 1 [(33,.agg [pS ByteArray.empty,pI 0,pB false,pN,pN])] (by kernel_rfl) (aO rfl rfl (ap (vs:=[pS ByteArray.empty,pI 0,pB false,pN,pN]) rfl rfl rfl rfl rfl co Gc (aI [(11,pN)] (by kernel_rfl) (aN (de (k:=3) (b:=b2) rfl co (de (k:=4) (b:=b2) rfl co (gg 11 rfl (bB (aq ?_))))))))))
  obtain rfl:=osi h
  exact aR (cH (dJ rfl fy rfl) (aT rfl)) (aZ (ar (ar aJ)) bv) ⟨rfl,rfl⟩
 refine ah ?_
 refine cO h fun x5 hx5 h=>af (aY 7 [1] [35,36,37,38,34] [(39,.agg (aK x5.1)),(40,pB x5.2)] (bi 3 (gY hx5) bh) (by kernel_rfl) (al rfl (aM (cs:=[pI 0,pS ByteArray.empty,pS ByteArray.empty,pI 0,pB false,pN,pN]) rfl rfl rfl rfl (fun b6=>aO rfl rfl (ap (vs:=(aK x5.1)) rfl rfl rfl rfl rfl co mY (ba [13] (by kernel_rfl) (cO h fun x7 hx7 h=>af (aY 7 [2] [42,43,44,45,41] [(46,.agg (aD x7.1)),(47,pB x7.2)] (bi 3 (jA hx7) bh) (by kernel_rfl) (al rfl (aM (cs:=[pI 0,pI 0,pN,pN]) rfl rfl rfl rfl (fun b8=>aO rfl rfl (ap (vs:=(aD x7.1)) rfl rfl rfl rfl rfl co zx (ba [15] (by kernel_rfl) (cO h fun x9 hx9 h=>af (aY 7 [3,1] (rg 48 6) [(54,pL eI x9)] (bi 6 (oB hx9) bh) (by kernel_rfl) (al rfl (zM Za.key vT rfl (fun b10=>aB 1 [(56,.agg [pL eI x9,.v (.map (some b10))])] (by kernel_rfl) (al rfl (aM (cs:=[pN,.v (.map none)]) rfl rfl rfl rfl (fun b11=>aO rfl rfl (ap (vs:=[pL eI x9,.v (.map (some b10))]) rfl rfl rfl rfl rfl co sk (aH (cq (aj [(57,pO a_4 p4.length c_4),(58,pI ((p4.length:Nat):Int)),(59,pI 0)] (by kernel_rfl) (eZ h fun q17 hq17 h=>?_))))))))))))))))))))))))))
 refine am (Y:=Unit×((List (Za×Bool)))) (fun (_,l15)=>[(0,pL Zc.enc p0),(10,pP b2 0),(12,pP b6 0),(14,pP b8 0),(16,pP b11 0)]) (fun (_,l15)=>[PRes.mp (some b10) (i5 Za.key vT l15),PRes.b b11 96 [pL eI x9,.v (.map (some b10))],PRes.b b2 36 [pS ByteArray.empty,pI 0,pB false,pN,pN],PRes.b b6 76 (aK x5.1),PRes.b b8 81 (aD x7.1),PRes.row a_4 p4.length c_4 28 2 (List.map Za.enc p4)]) (fun (_,l15)=>q17=l15) ?_ ?_
 ·refine az ?_
  refine aC (Y:=Unit) (S:=Int×(List (Za×Bool))) _ hq17 (fun _ (v12,l13)=>[(0,pL Zc.enc p0),(10,pP b2 0),(12,pP b6 0),(14,pP b8 0),(16,pP b11 0),(57,pO a_4 p4.length c_4),(58,pI ((p4.length:Nat):Int)),(59,pI v12)]) (fun _ (v12,l13)=>[PRes.mp (some b10) (i5 Za.key vT l13),PRes.b b11 96 [pL eI x9,.v (.map (some b10))],PRes.b b2 36 [pS ByteArray.empty,pI 0,pB false,pN,pN],PRes.b b6 76 (aK x5.1),PRes.b b8 81 (aD x7.1),PRes.row a_4 p4.length c_4 28 2 (List.map Za.enc p4)]) () (qH rfl) (aZ (ar aJ) (aZ aJ (aZ (ar (ar aJ)) (aZ (ar aJ) (aZ aJ (aZ (ar aJ) bv)))))) ?_
  rintro _ ⟨v12,l13⟩ o τ hb16;(try dsimp only at hb16);dsimp only [aw]
  refine ae (aj [(60,pB (decide (v12<((p4.length:Nat):Int))))] (by kernel_rfl) (bX (i4 rfl hb16 (fun hc18 hb16=>?_) fun hc18 hb16=>?_)))
  ·refine ah ?_
   refine du (aa hb16 fun m19 hm19 hb16=>af (bN rfl rfl rfl (dx (enc:=Za.enc) (xs:=p4) rfl rfl rfl (.p rfl) zm5 (.p rfl) (fun _=>hm19)) (bN rfl rfl rfl (cY (sz:=2) (p:=.agg [pI m19.Product,pI m19.Agreement]) (enc:=Za.enc) (xs:=p4) (a:=a_4) v12 0 m19 rfl (.p rfl) rfl zm5 (fun _=>hm19) rfl) (al rfl (aM (cs:=[pI 0,pI 0]) rfl rfl rfl rfl (fun b20=>aO rfl rfl (ap (vs:=[pI m19.Product,pI m19.Agreement]) rfl rfl rfl rfl rfl co sk (aH (aN (af (cu 3 [2,0] [63] [(64,.v (.map (some b10))),(65,.agg [pI m19.Product,pI m19.Agreement])] (by kernel_rfl) (aO rfl rfl (yj (xs:=l13) (k:=m19) (ek:=Za.key) (vv:=vT) (v:=true) rfl rfl Za.kenc28 rfl rfl EY rfl (db co) (aH (dt (ai [66] [(59,pI (IntKind.i64.wrap (v12+1)))] (by kernel_rfl) ?_))))))))))))))))
   exact aP hb16 () (qH rfl) (aZ (ar aJ) (aZ (ar aJ) (aZ (ar aJ) (aZ (ar aJ) (aZ (ar aJ) (aZ (ar aJ) bv))))))
  refine aG ?_
  refine cb hb16 (fun ht=>ak rfl ?_)
  exact av ((),l13) (mC rfl) zs6 ht.symm
 rintro ⟨_,l15⟩ τ hz;(try dsimp only at hz);subst q17;(try dsimp only at h);dsimp only [aw]
 refine ae (aa h fun x21 hx21 h=>af (fH 4 [4,3,1] [(68,pL Zc.enc p0),(69,.agg (aD x7.1)),(70,.agg (aK x5.1)),(71,.agg [pL eI x9,.v (.map (some b10))])] (by kernel_rfl) ?_))
 refine al rfl (bf rfl rfl (ρ1:=[_]) (aX (by exact aJ) (List.Perm.refl _)) (pM hx21) ?_);rintro _ _ ⟨rfl,rfl⟩
 refine i9 [67,73,74] [(19,pL Ze.enc x21.1),(20,pL eS x21.2)] (by kernel_rfl) (bX (af (cu 8 [3,3,3] (rg 75 7) [(82,.agg [pS x5.1.Code,pI x5.1.Price,pB x5.1.Obtained,pL eS x21.2,pN])] (by kernel_rfl) (al rfl (aM (cs:=[pS ByteArray.empty,pI 0,pB false,pN,pN]) rfl rfl rfl rfl (fun b22=>aO rfl rfl (ap (vs:=[pS x5.1.Code,pI x5.1.Price,pB x5.1.Obtained,pL eS x21.2,pN]) rfl rfl rfl rfl rfl co Gc (aH (bX (aj [(22,pN)] (by kernel_rfl) (cq (aj [(83,pL Ze.enc x21.1),(84,pI (x21.1.length:Int)),(85,pI 0)] (by kernel_rfl) (aN (cd 28 2 (cd 103 3 (aa h fun q42 hq42 h=>?_))))))))))))))))
 refine am (Y:=(Option Addr×Nat×Option Addr×Nat)×((List Za)×(List Zl))) (fun ((a33,c34,a38,c39),(l35,l40))=>[(10,pP b2 0),(21,pP b22 0),(22,pO a33 l35.length c34)]) (fun ((a33,c34,a38,c39),(l35,l40))=>[PRes.b b2 36 [pS ByteArray.empty,pI 0,pB false,pN,pN],PRes.b b22 36 [pS x5.1.Code,pI x5.1.Price,pB x5.1.Obtained,pL eS x21.2,pO a38 l40.length c39],PRes.row a33 l35.length c34 28 2 (List.map Za.enc l35),PRes.row a_4 p4.length c_4 28 2 (List.map Za.enc p4),PRes.row a38 l40.length c39 103 3 (List.map Zl.enc l40)]) (fun ((a33,c34,a38,c39),(l35,l40))=>q42=(l35,l40)) ?_ ?_
 ·refine az ?_
  refine aC (Y:=Option Addr×Nat×Option Addr×Nat) (S:=(List Za)×Int×(List Zl)) _ hq42 (fun (a25,c26,a30,c31) (l24,v27,l29)=>[(10,pP b2 0),(21,pP b22 0),(22,pO a25 l24.length c26),(83,pL Ze.enc x21.1),(84,pI (x21.1.length:Int)),(85,pI v27)]) (fun (a25,c26,a30,c31) (l24,v27,l29)=>[PRes.b b2 36 [pS ByteArray.empty,pI 0,pB false,pN,pN],PRes.b b22 36 [pS x5.1.Code,pI x5.1.Price,pB x5.1.Obtained,pL eS x21.2,pO a30 l29.length c31],PRes.row a_4 p4.length c_4 28 2 (List.map Za.enc p4),PRes.row a25 l24.length c26 28 2 (List.map Za.enc l24),PRes.row a30 l29.length c31 103 3 (List.map Zl.enc l29)]) (none,0,none,0) (rI rfl) (aZ (ar (ar (ar (ar (ar aJ))))) (aZ (ar (ar aJ)) (aZ (ar (ar (ar (ar (ar (ar aJ)))))) (aZ (ar aJ) cE)))) ?_
  rintro ⟨a25,c26,a30,c31⟩ ⟨l24,v27,l29⟩ o τ hb41;(try dsimp only at hb41);dsimp only [aw]
  refine ae (aj [(86,pB (decide (v27<(x21.1.length:Int))))] (by kernel_rfl) (bX (i4 rfl hb41 (fun hc45 hb41=>?_) fun hc45 hb41=>?_)))
  ·refine ah ?_
   refine cO hb41 fun q55 hq55 hb41=>?_
   refine am (Y:=(Option Addr×Nat×Option Addr×Nat)×((List Za)×(List Zl))) (fun ((a47,c48,a52,c53),(l49,l54))=>[(10,pP b2 0),(21,pP b22 0),(22,pO a47 l49.length c48),(83,pL Ze.enc x21.1),(84,pI (x21.1.length:Int)),(85,pI v27)]) (fun ((a47,c48,a52,c53),(l49,l54))=>[PRes.b b2 36 [pS ByteArray.empty,pI 0,pB false,pN,pN],PRes.b b22 36 [pS x5.1.Code,pI x5.1.Price,pB x5.1.Obtained,pL eS x21.2,pO a52 l54.length c53],PRes.row a47 l49.length c48 28 2 (List.map Za.enc l49),PRes.row a_4 p4.length c_4 28 2 (List.map Za.enc p4),PRes.row a52 l54.length c53 103 3 (List.map Zl.enc l54)]) (fun ((a47,c48,a52,c53),(l49,l54))=>q55=(l49,l54)) ?_ ?_
   ·skip
    refine pg (aa hq55 fun m56 hm56 hq55=>an [] [87,88] [(24,Ze.pv m56)] (cJ 0 Ze.enc hm56 bh) (by kernel_rfl) (cO hq55 fun x57 hx57 hq55=>aa hq55 fun l60 hl60 hq55=>?_))
    refine am (Y:=Option Addr×Nat) (fun (a61,c62)=>[(10,pP b2 0),(21,pP b22 0),(22,pO a25 l24.length c26),(24,Ze.pv m56),(83,pL Ze.enc x21.1),(84,pI (x21.1.length:Int)),(85,pI v27)]) (fun (a61,c62)=>[PRes.b b2 36 [pS ByteArray.empty,pI 0,pB false,pN,pN],PRes.b b22 36 [pS x5.1.Code,pI x5.1.Price,pB x5.1.Obtained,pL eS x21.2,pO a61 l60.length c62],PRes.row a_4 p4.length c_4 28 2 (List.map Za.enc p4),PRes.row a25 l24.length c26 28 2 (List.map Za.enc l24),PRes.row a61 l60.length c62 103 3 (List.map Zl.enc l60)]) (fun _=>True) ?_ ?_
    ·refine nJ (ρd:=[PRes.row a30 _ _ _ _ _,PRes.b b22 _ _]) _ (aX (ar (ar (ar (ar aJ)))) (aX (ar aJ) (List.Perm.refl _))) ?_
     refine dC 0 (by kernel_rfl) rfl rfl rfl rfl (bK rfl rfl rfl rfl rfl (.p rfl)) (dC 2 (by kernel_rfl) rfl rfl rfl rfl (gX (p:=Ze.pv m56) rfl (.p rfl)) ?_)
     refine jZ 1 3 (by kernel_rfl) ?_ ?_
     ·skip
      refine bk rfl rfl rfl rfl (oZ (dl (p:=pO a30 l29.length c31) rfl (.p rfl) wf rfl) (bq 3 (by kernel_rfl) (bk rfl rfl rfl rfl (wU rfl rfl (Icumulation_supply_input_ok hx57) (bq 4 (by kernel_rfl) (bk rfl rfl rfl rfl (bA rfl rfl rfl rfl rfl (fU rfl iX) rfl rfl rfl rfl (fun b58=>bq 5 (by kernel_rfl) ?_))))))))
      refine bk rfl rfl rfl rfl (bV (enc:=Zl.enc) rfl rfl rfl rfl rfl rfl rfl rfl rfl fy (by exact ar aJ) hl60 (fun a61 c62=>?_))
      refine dC 6 (by kernel_rfl) rfl rfl rfl rfl (bK rfl rfl rfl rfl rfl (.p rfl)) (bq 7 (by kernel_rfl) (fk rfl rfl rfl (ap (vs:=[pO a61 l60.length c62]) rfl rfl rfl rfl rfl (db (db co)) (dL (dL (dL (dL nB)))) (fj (by kernel_rfl) ?_))))
      exact av (a61,c62) (qG rfl) (aZ (ar (ar (ar aJ))) (aZ (ar (ar aJ)) (aZ (ar (ar aJ)) (aZ (ar (ar aJ)) cE)))) trivial
     skip
     refine bk rfl rfl rfl rfl (wU rfl rfl (Icumulation_supply_input_ok hx57) ?_)
     refine jZ 1 4 (by kernel_rfl) ?_ ?_
     ·skip
      refine bk rfl rfl rfl rfl (oZ (dl (p:=pO a30 l29.length c31) rfl (.p rfl) wf rfl) (bq 4 (by kernel_rfl) (bk rfl rfl rfl rfl (bA rfl rfl rfl rfl rfl (fU rfl iX) rfl rfl rfl rfl (fun b58=>bq 5 (by kernel_rfl) ?_)))))
      refine bk rfl rfl rfl rfl (bV (enc:=Zl.enc) rfl rfl rfl rfl rfl rfl rfl rfl rfl fy (by exact ar aJ) hl60 (fun a61 c62=>?_))
      refine dC 6 (by kernel_rfl) rfl rfl rfl rfl (bK rfl rfl rfl rfl rfl (.p rfl)) (bq 7 (by kernel_rfl) (fk rfl rfl rfl (ap (vs:=[pO a61 l60.length c62]) rfl rfl rfl rfl rfl (db (db co)) (dL (dL (dL (dL nB)))) (fj (by kernel_rfl) ?_))))
      exact av (a61,c62) (qG rfl) (aZ (ar (ar (ar aJ))) (aZ (ar (ar aJ)) (aZ (ar (ar aJ)) (aZ (ar (ar aJ)) cE)))) trivial
     skip
     refine bk rfl rfl rfl rfl (bA rfl rfl rfl rfl rfl (fU rfl iX) rfl rfl rfl rfl (fun b58=>bq 1 (by kernel_rfl) (bk rfl rfl rfl rfl (oZ (dl (p:=pO a30 l29.length c31) rfl (.p rfl) wb rfl) (bq 5 (by kernel_rfl) ?_)))))
     refine bk rfl rfl rfl rfl (bV (enc:=Zl.enc) rfl rfl rfl rfl rfl rfl rfl rfl rfl fy (by exact ar aJ) hl60 (fun a61 c62=>?_))
     refine dC 6 (by kernel_rfl) rfl rfl rfl rfl (bK rfl rfl rfl rfl rfl (.p rfl)) (bq 7 (by kernel_rfl) (fk rfl rfl rfl (ap (vs:=[pO a61 l60.length c62]) rfl rfl rfl rfl rfl (db (db co)) (dL (dL (dL (dL nB)))) (fj (by kernel_rfl) ?_))))
     exact av (a61,c62) (qG rfl) (aZ (ar (ar (ar aJ))) (aZ (ar (ar aJ)) (aZ (ar (ar aJ)) (aZ (ar (ar aJ)) cE)))) trivial
    rintro ⟨a61,c62⟩ τ _;dsimp only [aw]
    refine ae (af (aY 5 [] [97,98,96] [(99,.agg [pS ((((Ze.as_proved_ m56)).use).Code),pI ((((Ze.as_proved_ m56)).use).Value),pB ((((Ze.as_proved_ m56)).use).Originating),pI ((((Ze.as_proved_ m56)).premise).Product),pI ((((Ze.as_proved_ m56)).premise).Agreement)]),(100,pB (Ze.is_proved_ m56))] (fota 1 (Ze.ta_proved_ m56) bh) (by kernel_rfl) (al rfl (aM (cs:=[pS ByteArray.empty,pI 0,pB false,pI 0,pI 0]) rfl rfl rfl rfl (fun b64=>aO rfl rfl (ap (vs:=[pS ((((Ze.as_proved_ m56)).use).Code),pI ((((Ze.as_proved_ m56)).use).Value),pB ((((Ze.as_proved_ m56)).use).Originating),pI ((((Ze.as_proved_ m56)).premise).Product),pI ((((Ze.as_proved_ m56)).premise).Agreement)]) rfl rfl rfl rfl rfl co Gc (aI [(26,pB (Ze.is_proved_ m56))] (by kernel_rfl) (bX (aj [(101,pB (Ze.is_proved_ m56))] (by kernel_rfl) (cR rfl hq55 (fun hc65 hq55=>?_) fun hc65 hq55=>?_))))))))))
    ·refine af ?_
     refine cu 3 [0] [103] [(102,pO a25 l24.length c26),(104,.agg [pI ((((Ze.as_proved_ m56)).premise).Product),pI ((((Ze.as_proved_ m56)).premise).Agreement)])] (by kernel_rfl) (al rfl (bA rfl rfl rfl rfl rfl (fU rfl iX) rfl rfl rfl rfl (fun b66=>aa hq55 fun l68 hl68 hq55=>?_)))
     refine al rfl (bV (enc:=Za.enc) rfl rfl rfl rfl rfl rfl rfl rfl rfl fy (by exact ar (ar (ar (ar (ar aJ))))) hl68 (fun a69 c70=>?_))
     refine aI [(22,pO a69 l68.length c70)] (by kernel_rfl) (aF ?_)
     obtain rfl:=osi hq55
     exact av ((a69,c70,a61,c62),(l68,l60)) (rI rfl) (aZ (ar (ar (ar aJ))) (aZ (ar (ar (ar aJ))) (aZ aJ (aZ (ar (ar aJ)) (aZ (ar (ar aJ)) bv))))) rfl
    refine ah ?_
    refine aF ?_
    obtain rfl:=osi hq55
    exact av ((a25,c26,a61,c62),(l24,l60)) (rI rfl) (aZ (ar aJ) (aZ (ar aJ) (aZ (ar (ar aJ)) (aZ (ar aJ) (aZ (ar aJ) bv))))) rfl
   rintro ⟨⟨a47,c48,a52,c53⟩,⟨l49,l54⟩⟩ τ hz;(try dsimp only at hz);subst q55;(try dsimp only at hb41);dsimp only [aw]
   refine ai [107] [(85,pI (IntKind.i64.wrap (v27+1)))] (by kernel_rfl) ?_
   exact aP hb41 (a47,c48,a52,c53) (rI rfl) (aZ aJ (aZ aJ (aZ (ar aJ) mR)))
  refine aG ?_
  refine cb hb41 (fun ht=>ak rfl ?_)
  exact av ((a25,c26,a30,c31),(l24,l29)) (mq rfl) (aZ aJ (aZ aJ (aZ (ar aJ) mR))) ht.symm
 rintro ⟨⟨a33,c34,a38,c39⟩,⟨l35,l40⟩⟩ τ hz;(try dsimp only at hz);subst q42;(try dsimp only at h);dsimp only [aw]
 refine ae (aa h fun x72 hx72 h=>af (aB 1 [(108,pO a33 l35.length c34)] (by kernel_rfl) ?_))
 refine al rfl (bf rfl rfl (ρ1:=[_]) (aX (by exact ar (ar aJ)) (List.Perm.refl _)) (cZ hx72) ?_);rintro _ _ ⟨rfl,rfl⟩
 refine aH (bX ?_)
 refine xU (css:=List.map Zl.enc l40) (a:=a38) (by exact ar (ar (ar (ar aJ)))) ?_
 refine wQ (k:=4) (enc:=Zl.enc) (xs:=l40) (b:=b22) (a:=a38) rfl fy (db (db (db co))) (bo (ρd:=[PRes.row a33 _ _ _ _ _,PRes.b b2 _ _]) [(0,0),(1,0),(2,1),(3,1),(4,0)] _ (aX (ar aJ) (aX (ar aJ) (List.Perm.refl _))) (by kernel_rfl) rfl (aa h fun x73 hx73 h=>E8 2 [1] [(110,.agg [pS x5.1.Code,pI x5.1.Price,pB x5.1.Obtained,pL eS x21.2,pL Zl.enc l40]),(111,pO a33 l35.length c34)] (by kernel_rfl) ?_))
 refine jF rfl rfl rfl (bf rfl rfl (ρ1:=[_]) (aX (by exact aJ) (List.Perm.refl _)) (fT hx73) ?_);rintro _ _ ⟨a74,c75,rfl,rfl⟩
 refine xY rfl rfl (ap (vs:=[pS x5.1.Code,pI x5.1.Price,pB x5.1.Obtained,pL eS x21.2,pL Zl.enc l40]) rfl rfl rfl rfl rfl (db co) Gc (iD 1 [(11,pO a74 x73.length c75)] (by kernel_rfl) (bG (aN ?_))))
 refine dB (enc:=Za.enc) (xs:=x73) 11 rfl (by exact aJ) ?_
 refine bB ?_
 obtain rfl:=osi h
 exact aR (cH (dJ rfl wf rfl) (aT rfl)) (aZ (ar (ar (ar (ar aJ)))) bv) ⟨rfl,rfl⟩
def kh (p0:Zd) (p1:Zn):Option ((List Int)×Bool):=(jt p0 p1).bind fun x3=>cond (!x3) (some ([],false)) ((tj p0).bind fun x5=>(Irule_test_witness x5 p1).bind fun x6=>some (x6.1,x6.2))
theorem tX {p0:Zd} {p1:Zn} {r:((List Int)×Bool)}  (h:kh p0 p1=some r):PF 78 [.agg (au p0),.agg (bz p1)] (.tup [pL eI r.1,pB r.2]):=by
 unfold kh at h
 refine bd ?_
 refine dm Tryz.func78 rfl Tryz.ntmps78 Tryz.results78 rfl (cU rfl (bg (cs:=(au p0)) rfl rfl (fun b1=>al rfl (bg (cs:=(bz p1)) rfl rfl (fun b2=>ba [4,5] (by kernel_rfl) (cq (aa h fun x3 hx3 h=>an [1,0] [6,7,8] [(9,pB (!x3))] (bi 2 (rn hx3) bh) (by kernel_rfl) (cR rfl h (fun hc4 h=>?_) fun hc4 h=>?_))))))))
 ·refine ae ?_
  refine aj [(4,pN),(5,pB false)] (by kernel_rfl) (aN (gg 4 rfl (bB (aq ?_))))
  obtain rfl:=osi h
  exact aR (cH (aT rfl) (aT rfl)) bv ⟨rfl,rfl⟩
 refine ah ?_
 refine bX (bo (ρd:=[]) [(0,0),(2,0),(1,1),(3,1),(4,0),(5,0),(6,0),(7,0)] _ (List.Perm.refl _) (by kernel_rfl) rfl (aa h fun x5 hx5 h=>aa h fun x6 hx6 h=>bx 8 [1,0] [10,12,11,13,14,15] [(4,pL eI x6.1),(5,pB x6.2)] (bi 2 (vq hx5) (foci 3 (Irule_test_witness_ok hx6) bh)) (by kernel_rfl) (bG (dj ?_))))
 obtain rfl:=osi h
 exact aR (cH (aT rfl) (aT rfl)) bv ⟨rfl,rfl⟩
def fO (p0:Zj) (p1:(List Zc)) (p2:(List Zb)) (p3:ByteArray) (p4:(List Za)) (p5:(List Zf)):Option (Bool×(List Za)×(List Zf)):=(gw p1 p2 p3 p0.claim p4).bind fun x2=>(kh p0.rule x2.1).bind fun x4=>Option.bind (cond x4.2 ((app 64 p5 [(⟨p0.claim,x4.1,x2.2⟩:Zf)]).bind fun l14=>some l14) (some p5)) (fun l9=>some (x4.2,p4,l9))
theorem rR {p0:Zj} {p1:(List Zc)} {p2:(List Zb)} {p3:ByteArray} {p4:(List Za)} {p5:(List Zf)} {b4:Nat}  {a_4:Option Addr}  {n_4:Nat}  {c_4:Nat}  {b5:Nat}  {a_5:Option Addr}  {n_5:Nat}  {c_5:Nat} {r:(Bool×(List Za)×(List Zf))}  (h:fO p0 p1 p2 p3 p4 p5=some r):PCall 77 [.agg (gI p0),.ref [pL Zc.enc p1] 0,.ref [pL Zb.enc p2] 0,.ref [pS p3] 0,pP b4 0,pP b5 0] [PRes.b b4 31 [.v (.slice a_4 n_4 c_4)],PRes.row a_4 n_4 c_4 28 2 (List.map Za.enc p4),PRes.b b5 45 [.v (.slice a_5 n_5 c_5)],PRes.row a_5 n_5 c_5 61 4 (List.map Zf.enc p5)] (fun pv ρ'=>pv=pB r.1∧∃ (x0:Option Addr) (z0:Nat) (x1:Option Addr) (z1:Nat),ρ'=[PRes.b b4 31 [.v (.slice x0 (r.2.1).length z0)],PRes.row x0 (r.2.1).length z0 28 2 (List.map Za.enc r.2.1),PRes.b b5 45 [.v (.slice x1 (r.2.2).length z1)],PRes.row x1 (r.2.2).length z1 61 4 (List.map Zf.enc r.2.2)]):=by
 unfold fO at h
 refine kX Tryz.func77 rfl Tryz.ntmps77 Tryz.results77 rfl ?_
 refine ln (enc:=Za.enc) (xs:=p4) (a:=a_4) wf (fun hl ha=>?_);subst hl;clear ha
 refine ln (enc:=Zf.enc) (xs:=p5) (a:=a_5) Ga (fun hl ha=>?_);subst hl;clear ha
 refine ae (cU rfl (bg (cs:=(gI p0)) rfl rfl (fun b1=>ba [7] (by kernel_rfl) (cO h fun x2 hx2 h=>af (cu 6 [0,1] [16] [(13,pL Zc.enc p1),(14,pL Zb.enc p2),(15,pS p3),(17,.agg [pI p0.claim.Product,pI p0.claim.Agreement]),(18,pO a_4 p4.length c_4)] (by kernel_rfl) ?_)))))
 refine al rfl (bf rfl rfl (ρ1:=[_]) (aX (by exact ar (ar aJ)) (List.Perm.refl _)) (nU hx2) ?_);rintro _ _ ⟨rfl,rfl⟩
 refine cL 3 [12] [(20,.agg (bz x2.1)),(21,pL Za.enc x2.2)] (by kernel_rfl) (al rfl (aM (cs:=[pS ByteArray.empty,pI 0,pB false,pN,pN]) rfl rfl rfl rfl (fun b3=>aO rfl rfl (ap (vs:=(bz x2.1)) rfl rfl rfl rfl rfl co Gc (aI [(9,pL Za.enc x2.2)] (by kernel_rfl) (cO h fun x4 hx4 h=>an [2,0] [23,24,25,26,22,27,28] [(10,pL eI x4.1),(11,pB x4.2)] (bi 3 (tX hx4) bh) (by kernel_rfl) (cq (aj [(29,pB x4.2)] (by kernel_rfl) (eZ h fun q10 hq10 h=>?_)))))))))
 refine am (Y:=(Option Addr×Nat)×((List Zf))) (fun ((a7,c8),l9)=>[(11,pB x4.2)]) (fun ((a7,c8),l9)=>[PRes.b b4 31 [pO a_4 p4.length c_4],PRes.b b5 45 [pO a7 l9.length c8],PRes.row a_4 p4.length c_4 28 2 (List.map Za.enc p4),PRes.row a7 l9.length c8 61 4 (List.map Zf.enc l9)]) (fun ((a7,c8),l9)=>q10=l9) ?_ ?_
 ·skip
  refine i4 rfl hq10 (fun hc11 hq10=>?_) fun hc11 hq10=>?_
  ·refine af ?_
   refine cu 6 [4,2] [31,32,33,34] [(30,pO a_5 p5.length c_5),(35,.agg [pI p0.claim.Product,pI p0.claim.Agreement,pL eI x4.1,pL Za.enc x2.2])] (by kernel_rfl) (al rfl (bA rfl rfl rfl rfl rfl (fU rfl iX) rfl rfl rfl rfl (fun b12=>aa hq10 fun l14 hl14 hq10=>?_)))
   refine al rfl (bV (enc:=Zf.enc) rfl rfl rfl rfl rfl rfl rfl rfl rfl fy (by exact ar (ar (ar (ar (ar (ar aJ)))))) hl14 (fun a15 c16=>?_))
   refine aO rfl rfl (ap (vs:=[pO a15 l14.length c16]) rfl rfl rfl rfl rfl (db (db (db (db (db (db co)))))) nB (aH ?_))
   obtain rfl:=osi hq10
   exact av ((a15,c16),l14) (qV rfl) (aZ (ar (ar (ar (ar (ar aJ))))) (aZ (ar (ar (ar (ar (ar aJ))))) (aZ (ar (ar (ar aJ))) cE))) rfl
  refine ah ?_
  obtain rfl:=osi hq10
  exact av ((a_5,c_5),p5) (qV rfl) (aZ (ar (ar (ar aJ))) (aZ (ar (ar (ar aJ))) (aZ (ar aJ) (aZ (ar (ar aJ)) bv)))) rfl
 rintro ⟨⟨a7,c8⟩,l9⟩ τ hz;(try dsimp only at hz);subst q10;(try dsimp only at h);dsimp only [aw]
 refine ae (ai [38] [(7,pB x4.2)] (by kernel_rfl) (dj ?_))
 obtain rfl:=osi h
 exact aR (dA (aT rfl)) (aZ aJ (aZ (ar aJ) mR)) ⟨rfl,_,_,_,_,rfl⟩
def ki (p0:(List Zc)) (p1:(List Zb)) (p2:ByteArray):Option (List Zj):=(aW (S:=(List Zj)×Int) (T:=((List Zj))) (fun (l2,v5)=>cond (decide (v5<(p0.length:Int))) ((idx p0 v5).bind fun m14=>(aW (S:=(List Zj)×Int) (T:=((List Zj))) (fun (l17,v20)=>cond (decide (v20<(p1.length:Int))) (((idx p1 v20).bind fun m33=>(ed m33 m14.Code).bind fun x36=>(gd x36.2 (cF p0 p1 p2 (⟨m14.ID,m33.ID⟩:Za))).bind fun x38=>cond (x36.2&&x38) ((app 112 l17 [(⟨(⟨m14.ID,m33.ID⟩:Za),x36.1⟩:Zj)]).bind fun l42=>some l42) (some l17)).bind fun l31=>some (.inl (l31,(IntKind.i64.wrap (v20+1))))) (some (.inr l17))) FUEL (l2,0)).bind fun l24=>some (.inl (l24,(IntKind.i64.wrap (v5+1))))) (some (.inr l2))) FUEL (([]:List Zj),0)).bind fun l9=>some l9
theorem tY {p0:(List Zc)} {p1:(List Zb)} {p2:ByteArray} {r:(List Zj)}  (h:ki p0 p1 p2=some r):PF 79 [pL Zc.enc p0,pL Zb.enc p1,pS p2] (pL Zj.enc r):=by
 unfold ki at h
 refine bd ?_
 refine dm Tryz.func79 rfl Tryz.ntmps79 Tryz.results79 rfl (aS [6] (by kernel_rfl) (bX (aj [(7,pN)] (by kernel_rfl) (cq (aj [(15,pL Zc.enc p0),(16,pI (p0.length:Int)),(17,pI 0)] (by kernel_rfl) (aN (cd 138 9 (aa h fun q11 hq11 h=>?_))))))))
 refine am (Y:=(Option Addr×Nat)×((List Zj))) (fun ((a7,c8),l9)=>[(7,pO a7 l9.length c8)]) (fun ((a7,c8),l9)=>[PRes.row a7 l9.length c8 138 9 (List.map Zj.enc l9)]) (fun ((a7,c8),l9)=>q11=l9) ?_ ?_
 ·refine az ?_
  refine aC (Y:=Option Addr×Nat) (S:=(List Zj)×Int) _ hq11 (fun (a3,c4) (l2,v5)=>[(0,pL Zc.enc p0),(1,pL Zb.enc p1),(2,pS p2),(7,pO a3 l2.length c4),(15,pL Zc.enc p0),(16,pI (p0.length:Int)),(17,pI v5)]) (fun (a3,c4) (l2,v5)=>[PRes.row a3 l2.length c4 138 9 (List.map Zj.enc l2)]) (none,0) (qG rfl) cE ?_
  rintro ⟨a3,c4⟩ ⟨l2,v5⟩ o τ hb10;(try dsimp only at hb10);dsimp only [aw]
  refine ae (aj [(18,pB (decide (v5<(p0.length:Int))))] (by kernel_rfl) (bX (i4 rfl hb10 (fun hc13 hb10=>?_) fun hc13 hb10=>?_)))
  ·refine ah ?_
   refine du (aa hb10 fun m14 hm14 hb10=>af (aY 2 [] [19] [(20,.agg (aK m14))] (cJ 0 Zc.enc hm14 bh) (by kernel_rfl) (al rfl (aM (cs:=[pI 0,pS ByteArray.empty,pS ByteArray.empty,pI 0,pB false,pN,pN]) rfl rfl rfl rfl (fun b15=>aO rfl rfl (ap (vs:=(aK m14)) rfl rfl rfl rfl rfl co mY (aH (bX (aj [(21,pL Zb.enc p1),(22,pI (p1.length:Int)),(23,pI 0)] (by kernel_rfl) (eZ hb10 fun q26 hq26 hb10=>?_))))))))))
   refine iB (Y:=(Option Addr×Nat)×((List Zj))) (fun ((a22,c23),l24)=>[(0,pL Zc.enc p0),(1,pL Zb.enc p1),(2,pS p2),(7,pO a22 l24.length c23),(15,pL Zc.enc p0),(16,pI (p0.length:Int)),(17,pI v5)]) (fun ((a22,c23),l24)=>[PRes.row a22 l24.length c23 138 9 (List.map Zj.enc l24)]) (fun ((a22,c23),l24)=>q26=l24) ?_ ?_
   ·refine az ?_
    refine aC (Y:=Option Addr×Nat) (S:=(List Zj)×Int) _ hq26 (fun (a18,c19) (l17,v20)=>[(0,pL Zc.enc p0),(1,pL Zb.enc p1),(2,pS p2),(7,pO a18 l17.length c19),(9,pP b15 0),(15,pL Zc.enc p0),(16,pI (p0.length:Int)),(17,pI v5),(21,pL Zb.enc p1),(22,pI (p1.length:Int)),(23,pI v20)]) (fun (a18,c19) (l17,v20)=>[PRes.b b15 76 (aK m14),PRes.row a18 l17.length c19 138 9 (List.map Zj.enc l17)]) (a3,c4) (dQ rfl (dQ rfl (qI rfl))) mR ?_
    rintro ⟨a18,c19⟩ ⟨l17,v20⟩ o τ hb25;(try dsimp only at hb25);dsimp only [aw]
    refine ae (aj [(24,pB (decide (v20<(p1.length:Int))))] (by kernel_rfl) (bX (i4 rfl hb25 (fun hc27 hb25=>?_) fun hc27 hb25=>?_)))
    ·refine ah ?_
     refine cO hb25 fun q32 hq32 hb25=>?_
     refine am (Y:=(Option Addr×Nat)×((List Zj))) (fun ((a29,c30),l31)=>[(0,pL Zc.enc p0),(1,pL Zb.enc p1),(2,pS p2),(7,pO a29 l31.length c30),(9,pP b15 0),(15,pL Zc.enc p0),(16,pI (p0.length:Int)),(17,pI v5),(21,pL Zb.enc p1),(22,pI (p1.length:Int)),(23,pI v20)]) (fun ((a29,c30),l31)=>[PRes.b b15 76 (aK m14),PRes.row a29 l31.length c30 138 9 (List.map Zj.enc l31)]) (fun ((a29,c30),l31)=>q32=l31) ?_ ?_
     ·skip
      refine pg (aa hq32 fun m33 hm33 hq32=>af (aY 2 [] [25] [(26,.agg (aD m33))] (cJ 0 Zb.enc hm33 bh) (by kernel_rfl) (al rfl (aM (cs:=[pI 0,pI 0,pN,pN]) rfl rfl rfl rfl (fun b34=>aO rfl rfl (ap (vs:=(aD m33)) rfl rfl rfl rfl rfl co zx (aH (bX (af (cu 5 [1,0] [27,28,29,30] [(31,.agg [pI m14.ID,pI m33.ID])] (by kernel_rfl) (al rfl (aM (cs:=[pI 0,pI 0]) rfl rfl rfl rfl (fun b35=>aO rfl rfl (ap (vs:=[pI m14.ID,pI m33.ID]) rfl rfl rfl rfl rfl co sk (aH (cO hq32 fun x36 hx36 hq32=>af (aY 7 [1,2] [33,34,35,36,32] [(37,.agg (au x36.1)),(38,pB x36.2)] (bi 3 (lv hx36) bh) (by kernel_rfl) (al rfl (aM (cs:=[pI 0,pI 0,pN,pI 0,pI 0,pS ByteArray.empty,pN]) rfl rfl rfl rfl (fun b37=>aO rfl rfl (ap (vs:=(au x36.1)) rfl rfl rfl rfl rfl co mY (aI [(14,pB x36.2)] (by kernel_rfl) (cO hq32 fun x38 hx38 hq32=>an [1] (rg 39 7) [(46,pB (x36.2&&x38))] (dT 6 (fun hc=>jm (cD hx38 hc)) bh) (by kernel_rfl) (cR rfl hq32 (fun hc39 hq32=>?_) fun hc39 hq32=>?_))))))))))))))))))))))))
      ·refine af ?_
       refine cu 4 [1,0] [48,49] [(47,pO a18 l17.length c19),(50,.agg [pI m14.ID,pI m33.ID,pI x36.1.Kind,pI x36.1.Digits,pL eS x36.1.Except,pI x36.1.Tolerance,pI x36.1.Limit,pS x36.1.Name,pL Zd.enc x36.1.Args])] (by kernel_rfl) (al rfl (bA rfl rfl rfl rfl rfl (fU rfl iX) rfl rfl rfl rfl (fun b40=>aa hq32 fun l42 hl42 hq32=>?_)))
       refine al rfl (bV (enc:=Zj.enc) rfl rfl rfl rfl rfl rfl rfl rfl rfl fy (by exact ar (ar (ar (ar (ar aJ))))) hl42 (fun a43 c44=>?_))
       refine aI [(7,pO a43 l42.length c44)] (by kernel_rfl) (aF ?_)
       obtain rfl:=osi hq32
       exact av ((a43,c44),l42) (dQ rfl (dQ rfl (qI rfl))) (aZ (ar (ar (ar (ar (ar aJ))))) cE) rfl
      refine ah ?_
      refine aF ?_
      obtain rfl:=osi hq32
      exact av ((a18,c19),l17) (dQ rfl (dQ rfl (qI rfl))) (aZ (ar (ar (ar aJ))) (aZ (ar (ar (ar aJ))) bv)) rfl
     rintro ⟨⟨a29,c30⟩,l31⟩ τ hz;(try dsimp only at hz);subst q32;(try dsimp only at hb25);dsimp only [aw]
     refine ai [53] [(23,pI (IntKind.i64.wrap (v20+1)))] (by kernel_rfl) ?_
     exact aP hb25 (a29,c30) (dQ rfl (dQ rfl (qI rfl))) mR
    refine aG ?_
    refine cb hb25 (fun ht=>ak rfl ?_)
    exact gE ((a18,c19),l17) (qG rfl) (aZ (ar aJ) bv) ht.symm
   rintro ⟨⟨a22,c23⟩,l24⟩ τ ρ1 hsub46 hz;(try dsimp only at hz hsub46);subst q26;(try dsimp only at hb10);dsimp only [aw]
   refine dt (mX hsub46 (ai [54] [(17,pI (IntKind.i64.wrap (v5+1)))] (by kernel_rfl) ?_))
   exact aP hb10 (a22,c23) (qG rfl) cE
  refine aG ?_
  refine cb hb10 (fun ht=>ak rfl ?_)
  exact av ((a3,c4),l2) (qV rfl) cE ht.symm
 rintro ⟨⟨a7,c8⟩,l9⟩ τ hz;(try dsimp only at hz);subst q11;(try dsimp only at h);dsimp only [aw]
 refine ae (ai [55] [(6,pO a7 l9.length c8)] (by kernel_rfl) (aN ?_))
 refine dB (enc:=Zj.enc) (xs:=l9) 6 rfl (by exact aJ) ?_
 refine bB ?_
 exact zz r h rfl
def eU (p0:(List Zc)) (p1:(List Zb)) (p2:ByteArray):Option ((List Zf)×Int):=(em p0).bind fun x4=>cond (x4 != 0) (some ([],x4)) ((el p1).bind fun x6=>cond (x6 != 0) (some ([],x6)) ((ce p2).bind fun x8=>cond (!x8) (some ([],(1:Int))) ((ki p0 p1 p2).bind fun x12=>(aW (S:=(List Zj)×(List Zf)×(List Za)) (T:=(Unit)⊕(_)) (fun (l13,l15,l19)=>(aW (S:=(List Zj)×Int×(List Zf)×(List Za)) (T:=((List Zj)×(List Zf)×(List Za))) (fun (l27,v30,l32,l36)=>cond (decide (v30<(l13.length:Int))) (((idx l13 v30).bind fun m68=>(fO m68 p0 p1 p2 l36 l32).bind fun x70=>cond (!x70.1) ((app 112 l27 [m68]).bind fun l80=>some (l80,x70.2.2,x70.2.1)) (some (l27,x70.2.2,x70.2.1))).bind fun (l58,l62,l66)=>some (.inl (l58,(IntKind.i64.wrap (v30+1)),l62,l66))) (some (.inr (l27,l32,l36)))) FUEL (([]:List Zj),0,l15,l19)).bind fun (l42,l46,l50)=>cond (((l46.length:Nat):Int) == ((l15.length:Nat):Int)) (some (.inr (.inr (l46,(0:Int))))) ((sub l46 ((l15.length:Nat):Int) (l46.length:Int)).bind fun l85=>(aW (S:=Int×(List Za)) (T:=((List Za))) (fun (v86,l88)=>cond (decide (v86<((l46.length - ((l15.length:Nat):Int).toNat:Nat):Int))) ((ll v86).bind fun u100=>(idx l46 (((l15.length:Nat):Int)+v86)).bind fun m101=>(app 16 l88 [m101.Claim]).bind fun l105=>some (.inl ((IntKind.i64.wrap (v86+1)),l105))) (some (.inr l88))) FUEL (0,l50)).bind fun l96=>some (.inl (l42,l46,l96)))) FUEL (x12,([]:List Zf),([]:List Za))).bind fun q=>match q with | .inl _=>none | .inr e=>some e)))
theorem oX {p0:(List Zc)} {p1:(List Zb)} {p2:ByteArray} {r:((List Zf)×Int)}  (h:eU p0 p1 p2=some r):PF 30 [pL Zc.enc p0,pL Zb.enc p1,pS p2] (.tup [pL Zf.enc r.1,pI r.2]):=by
 unfold eU at h
 refine bd ?_
 refine dm Tryz.func30 rfl Tryz.ntmps30 Tryz.results30 rfl (cU rfl (bg (cs:=[pL Zc.enc p0]) rfl rfl (fun b1=>al rfl (bg (cs:=[pL Zb.enc p1]) rfl rfl (fun b2=>al rfl (bg (cs:=[pS p2]) rfl rfl (fun b3=>ba [6,7] (by kernel_rfl) (cq (aa h fun x4 hx4 h=>an [2] [20,21] [(8,pI x4)] (bi 1 (oD hx4) bh) (by kernel_rfl) (bX (bI [22] [(23,pB (x4 != 0))] (by kernel_rfl) rfl h (fun hc5 h=>?_) fun hc5 h=>?_)))))))))))
 ·refine ae ?_
  refine ai [24] [(6,pN),(7,pI x4)] (by kernel_rfl) (aN (gg 6 rfl (bB (aq ?_))))
  obtain rfl:=osi h
  exact aR (cH (aT rfl) (aT rfl)) bv ⟨rfl,rfl⟩
 refine ah ?_
 refine cq (aa h fun x6 hx6 h=>an [1] [25,26] [(9,pI x6)] (bi 1 (oC hx6) bh) (by kernel_rfl) (bX (bI [27] [(28,pB (x6 != 0))] (by kernel_rfl) rfl h (fun hc7 h=>?_) fun hc7 h=>?_)))
 ·refine ae ?_
  refine ai [29] [(6,pN),(7,pI x6)] (by kernel_rfl) (aN (gg 6 rfl (bB (aq ?_))))
  obtain rfl:=osi h
  exact aR (cH (aT rfl) (aT rfl)) bv ⟨rfl,rfl⟩
 refine ah ?_
 refine cq (aa h fun x8 hx8 h=>an [0] [30,31] [(32,pB (!x8))] (bi 1 (fL hx8) bh) (by kernel_rfl) (cR rfl h (fun hc9 h=>?_) fun hc9 h=>?_))
 ·refine ae ?_
  refine aj [(6,pN),(7,pI 1)] (by kernel_rfl) (aN (gg 6 rfl (bB (aq ?_))))
  obtain rfl:=osi h
  exact aR (cH (aT rfl) (aT rfl)) bv ⟨rfl,rfl⟩
 refine ah ?_
 refine bX (cU rfl (aM (cs:=[pN]) rfl rfl rfl rfl (fun b10=>aH (bX (cU rfl (aM (cs:=[pN]) rfl rfl rfl rfl (fun b11=>aH (bX (af ?_)))))))))
 refine oj 3 rfl (by exact ar (ar (ar (ar aJ)))) ?_
 refine oj 4 rfl (by exact ar (ar (ar (ar aJ)))) ?_
 refine oj 5 rfl (by exact ar (ar (ar (ar aJ)))) ?_
 refine i9 [33] [(12,.fn 77 [.ref [pL Zc.enc p0] 0,.ref [pL Zb.enc p1] 0,.ref [pS p2] 0,pP b11 0,pP b10 0])] (by kernel_rfl) (cO h fun x12 hx12 h=>an [] [34,35,36,37] [(13,pL Zj.enc x12)] (bi 3 (tY hx12) bh) (by kernel_rfl) (aN (cd 61 4 (cd 28 2 (aa h fun q23 hq23 h=>az ?_)))))
 refine aC (Y:=Option Addr×Nat×Option Addr×Nat) (S:=(List Zj)×(List Zf)×(List Za)) _ hq23 (fun (a16,c17,a20,c21) (l13,l15,l19)=>[(10,pP b10 0),(11,pP b11 0),(12,.fn 77 [.ref [pL Zc.enc p0] 0,.ref [pL Zb.enc p1] 0,.ref [pS p2] 0,pP b11 0,pP b10 0]),(13,pL Zj.enc l13)]) (fun (a16,c17,a20,c21) (l13,l15,l19)=>[PRes.b b10 45 [pO a16 l15.length c17],PRes.b b11 31 [pO a20 l19.length c21],PRes.row a16 l15.length c17 61 4 (List.map Zf.enc l15),PRes.row a20 l19.length c21 28 2 (List.map Za.enc l19)]) (none,0,none,0) (hY rfl) (aZ (ar (ar (ar (ar (ar (ar aJ)))))) (aZ (ar (ar (ar (ar (ar aJ))))) (aZ (ar aJ) cE))) ?_
 rintro ⟨a16,c17,a20,c21⟩ ⟨l13,l15,l19⟩ o τ hb22;(try dsimp only at hb22);dsimp only [aw]
 refine pg (aj [(14,pN)] (by kernel_rfl) (bX (aL [0] [38,39] [(15,pI ((l15.length:Nat):Int))] (by kernel_rfl) (cq (aj [(40,pL Zj.enc l13),(41,pI (l13.length:Int)),(42,pI 0)] (by kernel_rfl) (aN (cd 138 9 (aa hb22 fun q52 hq52 hb22=>?_))))))))
 refine am (Y:=(Option Addr×Nat×Option Addr×Nat×Option Addr×Nat)×((List Zj)×(List Zf)×(List Za))) (fun ((a40,c41,a44,c45,a48,c49),(l42,l46,l50))=>[(10,pP b10 0),(11,pP b11 0),(12,.fn 77 [.ref [pL Zc.enc p0] 0,.ref [pL Zb.enc p1] 0,.ref [pS p2] 0,pP b11 0,pP b10 0]),(14,pO a40 l42.length c41),(15,pI ((l15.length:Nat):Int))]) (fun ((a40,c41,a44,c45,a48,c49),(l42,l46,l50))=>[PRes.b b10 45 [pO a44 l46.length c45],PRes.b b11 31 [pO a48 l50.length c49],PRes.row a40 l42.length c41 138 9 (List.map Zj.enc l42),PRes.row a44 l46.length c45 61 4 (List.map Zf.enc l46),PRes.row a48 l50.length c49 28 2 (List.map Za.enc l50)]) (fun ((a40,c41,a44,c45,a48,c49),(l42,l46,l50))=>q52=(l42,l46,l50)) ?_ ?_
 ·refine az ?_
  refine aC (Y:=Option Addr×Nat×Option Addr×Nat×Option Addr×Nat) (S:=(List Zj)×Int×(List Zf)×(List Za)) _ hq52 (fun (a28,c29,a33,c34,a37,c38) (l27,v30,l32,l36)=>[(10,pP b10 0),(11,pP b11 0),(12,.fn 77 [.ref [pL Zc.enc p0] 0,.ref [pL Zb.enc p1] 0,.ref [pS p2] 0,pP b11 0,pP b10 0]),(14,pO a28 l27.length c29),(15,pI ((l15.length:Nat):Int)),(40,pL Zj.enc l13),(41,pI (l13.length:Int)),(42,pI v30)]) (fun (a28,c29,a33,c34,a37,c38) (l27,v30,l32,l36)=>[PRes.b b10 45 [pO a33 l32.length c34],PRes.b b11 31 [pO a37 l36.length c38],PRes.row a28 l27.length c29 138 9 (List.map Zj.enc l27),PRes.row a33 l32.length c34 61 4 (List.map Zf.enc l32),PRes.row a37 l36.length c38 28 2 (List.map Za.enc l36)]) (none,0,a16,c17,a20,c21) (qH rfl) (aZ (ar aJ) (aZ (ar aJ) AD)) ?_
  rintro ⟨a28,c29,a33,c34,a37,c38⟩ ⟨l27,v30,l32,l36⟩ o τ hb51;(try dsimp only at hb51);dsimp only [aw]
  refine ae (aj [(43,pB (decide (v30<(l13.length:Int))))] (by kernel_rfl) (bX (i4 rfl hb51 (fun hc54 hb51=>?_) fun hc54 hb51=>?_)))
  ·refine ah ?_
   refine cO hb51 fun q67 hq67 hb51=>?_
   refine am (Y:=(Option Addr×Nat×Option Addr×Nat×Option Addr×Nat)×((List Zj)×(List Zf)×(List Za))) (fun ((a56,c57,a60,c61,a64,c65),(l58,l62,l66))=>[(10,pP b10 0),(11,pP b11 0),(12,.fn 77 [.ref [pL Zc.enc p0] 0,.ref [pL Zb.enc p1] 0,.ref [pS p2] 0,pP b11 0,pP b10 0]),(14,pO a56 l58.length c57),(15,pI ((l15.length:Nat):Int)),(40,pL Zj.enc l13),(41,pI (l13.length:Int)),(42,pI v30)]) (fun ((a56,c57,a60,c61,a64,c65),(l58,l62,l66))=>[PRes.b b10 45 [pO a60 l62.length c61],PRes.b b11 31 [pO a64 l66.length c65],PRes.row a56 l58.length c57 138 9 (List.map Zj.enc l58),PRes.row a60 l62.length c61 61 4 (List.map Zf.enc l62),PRes.row a64 l66.length c65 28 2 (List.map Za.enc l66)]) (fun ((a56,c57,a60,c61,a64,c65),(l58,l62,l66))=>q67=(l58,l62,l66)) ?_ ?_
   ·skip
    refine pg (aa hq67 fun m68 hm68 hq67=>af (aY 2 [] [44] [(45,.agg (gI m68))] (cJ 0 Zj.enc hm68 bh) (by kernel_rfl) (al rfl (aM (cs:=[pI 0,pI 0,pI 0,pI 0,pN,pI 0,pI 0,pS ByteArray.empty,pN]) rfl rfl rfl rfl (fun b69=>aO rfl rfl (ap (vs:=(gI m68)) rfl rfl rfl rfl rfl co zl9 (aH (cO hq67 fun x70 hx70 hq67=>af (fH 2 [0] [(46,.fn 77 [.ref [pL Zc.enc p0] 0,.ref [pL Zb.enc p1] 0,.ref [pS p2] 0,pP b11 0,pP b10 0]),(47,.agg (gI m68))] (by kernel_rfl) ?_)))))))))
    refine al rfl (De rfl rfl rfl (ρ1:=[_,_,_,_]) (aX (by exact ar (ar aJ)) (aX (by exact ar (ar (ar (ar aJ)))) (aX (by exact ar aJ) (aX (by exact ar (ar aJ)) (List.Perm.refl _))))) (rR hx70) ?_);rintro _ _ ⟨rfl,a71,c72,a73,c74,rfl⟩
    refine aI [(49,pB (!x70.1))] (by kernel_rfl) (cR rfl hq67 (fun hc77 hq67=>?_) fun hc77 hq67=>?_)
    ·refine af ?_
     refine fH 2 [4] [(50,pO a28 l27.length c29),(51,.agg (gI m68))] (by kernel_rfl) (al rfl (bA rfl rfl rfl rfl rfl (fU rfl iX) rfl rfl rfl rfl (fun b78=>aa hq67 fun l80 hl80 hq67=>?_)))
     refine al rfl (bV (enc:=Zj.enc) rfl rfl rfl rfl rfl rfl rfl rfl rfl fy (by exact ar (ar (ar (ar (ar (ar aJ)))))) hl80 (fun a81 c82=>?_))
     refine aI [(14,pO a81 l80.length c82)] (by kernel_rfl) (aF ?_)
     obtain rfl:=osi hq67
     exact av ((a81,c82,a73,c74,a71,c72),(l80,x70.2.2,x70.2.1)) (qH rfl) (aZ (ar (ar (ar (ar aJ)))) (aZ (ar (ar aJ)) (aZ aJ (aZ (ar (ar aJ)) (aZ (ar aJ) bv))))) rfl
    refine ah ?_
    refine aF ?_
    obtain rfl:=osi hq67
    exact av ((a28,c29,a73,c74,a71,c72),(l27,x70.2.2,x70.2.1)) (qH rfl) (aZ (ar (ar aJ)) (aZ aJ (aZ (ar (ar (ar aJ))) (aZ (ar aJ) cE)))) rfl
   rintro ⟨⟨a56,c57,a60,c61,a64,c65⟩,⟨l58,l62,l66⟩⟩ τ hz;(try dsimp only at hz);subst q67;(try dsimp only at hb51);dsimp only [aw]
   refine ai [54] [(42,pI (IntKind.i64.wrap (v30+1)))] (by kernel_rfl) ?_
   exact aP hb51 (a56,c57,a60,c61,a64,c65) (qH rfl) zs5
  refine aG ?_
  refine cb hb51 (fun ht=>ak rfl ?_)
  exact av ((a28,c29,a33,c34,a37,c38),(l27,l32,l36)) (mC rfl) zs5 ht.symm
 rintro ⟨⟨a40,c41,a44,c45,a48,c49⟩,⟨l42,l46,l50⟩⟩ τ hz;(try dsimp only at hz);subst q52;(try dsimp only at hb22);dsimp only [aw]
 refine cN (aL [0] [55,56,57] [(58,pB (((l46.length:Nat):Int) == ((l15.length:Nat):Int)))] (by kernel_rfl) (cR rfl hb22 (fun hc84 hb22=>?_) fun hc84 hb22=>?_))
 ·refine ae ?_
  refine aL [0] [59] [(6,pO a44 l46.length c45),(7,pI 0)] (by kernel_rfl) (aN ?_)
  refine dB (enc:=Zf.enc) (xs:=l46) 6 rfl (by exact ar (ar (ar aJ))) ?_
  refine bB (aq (cT ?_))
  refine aA hb22 (fun ht=>?_);subst ht
  refine cT ?_
  obtain rfl:=osi h
  exact aR (cH (aT rfl) (aT rfl)) bv ⟨rfl,rfl⟩
 refine ah ?_
 refine cq (aa hb22 fun l85 hl85 hb22=>af (fH 2 [0] [(60,pO a44 l46.length c45),(61,pI ((l15.length:Nat):Int))] (by kernel_rfl) (bN rfl rfl rfl (mD (enc:=Zf.enc) (xs:=l46) rfl rfl rfl rfl rfl Ga hl85) (aI [(63,pI ((l46.length - ((l15.length:Nat):Int).toNat:Nat):Int)),(64,pI 0)] (by kernel_rfl) (eZ hb22 fun q98 hq98 hb22=>?_)))))
 refine am (Y:=(Option Addr×Nat)×((List Za))) (fun ((a94,c95),l96)=>[(10,pP b10 0),(11,pP b11 0),(12,.fn 77 [.ref [pL Zc.enc p0] 0,.ref [pL Zb.enc p1] 0,.ref [pS p2] 0,pP b11 0,pP b10 0]),(14,pO a40 l42.length c41)]) (fun ((a94,c95),l96)=>[PRes.b b10 45 [pO a44 l46.length c45],PRes.b b11 31 [pO a94 l96.length c95],PRes.row a40 l42.length c41 138 9 (List.map Zj.enc l42),PRes.row a44 l46.length c45 61 4 (List.map Zf.enc l46),PRes.row a94 l96.length c95 28 2 (List.map Za.enc l96)]) (fun ((a94,c95),l96)=>q98=l96) ?_ ?_
 ·refine az ?_
  refine aC (Y:=Option Addr×Nat) (S:=Int×(List Za)) _ hq98 (fun (a89,c90) (v86,l88)=>[(10,pP b10 0),(11,pP b11 0),(12,.fn 77 [.ref [pL Zc.enc p0] 0,.ref [pL Zb.enc p1] 0,.ref [pS p2] 0,pP b11 0,pP b10 0]),(14,pO a40 l42.length c41),(62,pQ a44 l46.length c45 ((l15.length:Nat):Int).toNat 4),(63,pI ((l46.length - ((l15.length:Nat):Int).toNat:Nat):Int)),(64,pI v86)]) (fun (a89,c90) (v86,l88)=>[PRes.b b10 45 [pO a44 l46.length c45],PRes.b b11 31 [pO a89 l88.length c90],PRes.row a40 l42.length c41 138 9 (List.map Zj.enc l42),PRes.row a44 l46.length c45 61 4 (List.map Zf.enc l46),PRes.row a89 l88.length c90 28 2 (List.map Za.enc l88)]) (a48,c49) (qG rfl) zs5 ?_
  rintro ⟨a89,c90⟩ ⟨v86,l88⟩ o τ hb97;(try dsimp only at hb97);dsimp only [aw]
  refine ae (aj [(65,pB (decide (v86<((l46.length - ((l15.length:Nat):Int).toNat:Nat):Int))))] (by kernel_rfl) (bX (i4 rfl hb97 (fun hc99 hb97=>?_) fun hc99 hb97=>?_)))
  ·refine ah ?_
   refine du (aa hb97 fun u100 hu100 hb97=>aa hb97 fun m101 hm101 hb97=>af (bN rfl rfl rfl (jy (enc:=Zf.enc) (xs:=l46) (i:=((l15.length:Nat):Int)) rfl rfl rfl rfl rfl (gF hl85).1.1 (lm hu100) Ga hm101) (bN rfl rfl rfl (cY (sz:=4) (p:=.agg (gH m101)) (enc:=Zf.enc) (xs:=l46) (a:=a44) (((l15.length:Nat):Int)+v86) 0 m101 rfl (.p rfl) rfl Ga (fun _=>hm101) rfl) (al rfl (aM (cs:=[pI 0,pI 0,pN,pN]) rfl rfl rfl rfl (fun b102=>aO rfl rfl (ap (vs:=(gH m101)) rfl rfl rfl rfl rfl co zx (aH (aN (af (cu 3 [2,0] [69] [(68,pO a89 l88.length c90),(70,.agg [pI m101.Claim.Product,pI m101.Claim.Agreement])] (by kernel_rfl) (al rfl (bA rfl rfl rfl rfl rfl (fU rfl iX) rfl rfl rfl rfl (fun b103=>aa hb97 fun l105 hl105 hb97=>?_))))))))))))))
   refine al rfl (bV (enc:=Za.enc) rfl rfl rfl rfl rfl rfl rfl rfl rfl fy (by exact ar (ar (ar (ar (ar (ar aJ)))))) hl105 (fun a106 c107=>?_))
   refine aO rfl rfl (ap (vs:=[pO a106 l105.length c107]) rfl rfl rfl rfl rfl (db (db (db (db co)))) nB (aH (dt (ai [73] [(64,pI (IntKind.i64.wrap (v86+1)))] (by kernel_rfl) ?_))))
   exact aP hb97 (a106,c107) (qG rfl) (aZ (ar (ar (ar aJ))) (aZ (ar (ar (ar aJ))) (aZ (ar (ar (ar aJ))) (aZ (ar (ar (ar aJ))) cE))))
  refine aG ?_
  refine cb hb97 (fun ht=>ak rfl ?_)
  exact av ((a89,c90),l88) (hY rfl) zs5 ht.symm
 rintro ⟨⟨a94,c95⟩,l96⟩ τ hz;(try dsimp only at hz);subst q98;(try dsimp only at hb22);dsimp only [aw]
 refine ai [74] [(13,pO a40 l42.length c41)] (by kernel_rfl) (aF ?_)
 refine zj (uP (enc:=Zj.enc) (xs:=l42) 13 rfl (by exact ar (ar aJ))) ?_
 exact aP hb22 (a44,c45,a94,c95) (hY rfl) (aZ (ar aJ) (aZ (ar aJ) (aZ (ar aJ) (aZ (ar aJ) bv))))
def lx  : Option Bool:=(eU [(⟨1,(⟨#[57,52,48,49,48,49]⟩:ByteArray),(⟨#[65,65]⟩:ByteArray),10,false,[],[(⟨1,5⟩:Zg)]⟩:Zc),(⟨2,(⟨#[57,52,48,49,48,50]⟩:ByteArray),(⟨#[65,65]⟩:ByteArray),10,false,[],[(⟨1,5⟩:Zg)]⟩:Zc)] [(⟨7,1,[(⟨#[65,65]⟩:ByteArray),(⟨#[67,67]⟩:ByteArray)],[(⟨(⟨#[57,52]⟩:ByteArray),(⟨2,6,[],0,0,ByteArray.empty,[]⟩:Zd)⟩:Zh)]⟩:Zb)] (⟨#[67,67]⟩:ByteArray)).bind fun x14=>(gd ((x14.2 == 0)&&((x14.1.length:Int) == 1)) (oA x14.1 (⟨2,7⟩:Za))).bind fun x15=>(gd (((x14.2 == 0)&&((x14.1.length:Int) == 1))&&x15) (oA x14.1 (⟨1,7⟩:Za))).bind fun x16=>some ((((x14.2 == 0)&&((x14.1.length:Int) == 1))&&x15)&&(!x16))
theorem pT  {r:Bool}  (h:lx  = some r):PF 29 [] (pB r):=by
 unfold lx at h
 refine bd ?_
 refine dm Tryz.func29 rfl Tryz.ntmps29 Tryz.results29 rfl (aS [0] (by kernel_rfl) (bX (af (aB 1 [(6,.agg [pI 2,pI 6,pN,pI 0,pI 0,pS ByteArray.empty,pN])] (by kernel_rfl) (al rfl (aM (cs:=[pI 0,pI 0,pN,pI 0,pI 0,pS ByteArray.empty,pN]) rfl rfl rfl rfl (fun b1=>aO rfl rfl (ap (vs:=[pI 2,pI 6,pN,pI 0,pI 0,pS ByteArray.empty,pN]) rfl rfl rfl rfl rfl co mY (aH (bX (cU rfl (bA rfl rfl rfl rfl rfl (fU rfl (fU rfl iX)) rfl rfl rfl rfl (fun b2=>rG (k:=2) (b:=b1) rfl (db co) (rG (k:=6) (b:=b1) rfl (db co) (cu 2 [1] [8] [(9,.agg [pS (⟨#[57,52]⟩:ByteArray),pI 2,pI 6,pL eS [],pI 0,pI 0,pS ByteArray.empty,pL Zd.enc []])] (by kernel_rfl) (al rfl (bA rfl rfl rfl rfl rfl (fU rfl iX) rfl rfl rfl rfl (fun b4=>?_))))))))))))))))))
 refine gf (enc:=eS) (xs:=[(⟨#[65,65]⟩:ByteArray),(⟨#[67,67]⟩:ByteArray)]) 7 rfl (by exact ar aJ) ?_
 refine gf (enc:=Zh.enc) (xs:=[(⟨(⟨#[57,52]⟩:ByteArray),(⟨2,6,[],0,0,ByteArray.empty,[]⟩:Zd)⟩:Zh)]) 10 rfl (by exact ar aJ) ?_
 refine aB 1 [(11,.agg [pI 7,pI 1,pL eS [(⟨#[65,65]⟩:ByteArray),(⟨#[67,67]⟩:ByteArray)],pL Zh.enc [(⟨(⟨#[57,52]⟩:ByteArray),(⟨2,6,[],0,0,ByteArray.empty,[]⟩:Zd)⟩:Zh)]])] (by kernel_rfl) (al rfl (bA rfl rfl rfl rfl rfl (fU rfl iX) rfl rfl rfl rfl (fun b6=>aI [(2,pO (some ⟨b6,0,none⟩) 1 1)] (by kernel_rfl) (bX (af (aB 1 [(13,.agg [pI 1,pI 5])] (by kernel_rfl) (al rfl (bA rfl rfl rfl rfl rfl (fU rfl iX) rfl rfl rfl rfl (fun b8=>?_)))))))))
 refine gf (enc:=Zg.enc) (xs:=[(⟨1,5⟩:Zg)]) 14 rfl (by exact aJ) ?_
 refine aB 2 [(15,.agg [pI 1,pS (⟨#[57,52,48,49,48,49]⟩:ByteArray),pS (⟨#[65,65]⟩:ByteArray),pI 10,pB false,pN,pL Zg.enc [(⟨1,5⟩:Zg)]]),(16,.agg [pI 1,pI 5])] (by kernel_rfl) (al rfl (bA rfl rfl rfl rfl rfl (fU rfl iX) rfl rfl rfl rfl (fun b10=>?_)))
 refine gf (enc:=Zg.enc) (xs:=[(⟨1,5⟩:Zg)]) 17 rfl (by exact aJ) ?_
 refine aB 1 [(18,.agg [pI 2,pS (⟨#[57,52,48,49,48,50]⟩:ByteArray),pS (⟨#[65,65]⟩:ByteArray),pI 10,pB false,pN,pL Zg.enc [(⟨1,5⟩:Zg)]])] (by kernel_rfl) (uS 15 5 rfl rfl (uS 18 5 rfl rfl (al rfl (bA rfl rfl rfl rfl rfl (fU rfl (fU rfl iX)) rfl rfl rfl rfl (fun b12=>aI [(3,pO (some ⟨b12,0,none⟩) 2 2)] (by kernel_rfl) (bX (af (aB 2 [(21,pO (some ⟨b12,0,none⟩) 2 2),(22,pO (some ⟨b6,0,none⟩) 1 1)] (by kernel_rfl) ?_))))))))
 refine gf (enc:=Zc.enc) (xs:=[(⟨1,(⟨#[57,52,48,49,48,49]⟩:ByteArray),(⟨#[65,65]⟩:ByteArray),10,false,[],[(⟨1,5⟩:Zg)]⟩:Zc),(⟨2,(⟨#[57,52,48,49,48,50]⟩:ByteArray),(⟨#[65,65]⟩:ByteArray),10,false,[],[(⟨1,5⟩:Zg)]⟩:Zc)]) 21 rfl (by exact aJ) ?_
 refine gf (enc:=Zb.enc) (xs:=[(⟨7,1,[(⟨#[65,65]⟩:ByteArray),(⟨#[67,67]⟩:ByteArray)],[(⟨(⟨#[57,52]⟩:ByteArray),(⟨2,6,[],0,0,ByteArray.empty,[]⟩:Zd)⟩:Zh)]⟩:Zb)]) 22 rfl (by exact ar (ar (ar aJ))) ?_
 refine aa h fun x14 hx14 h=>jr [] [23,20,24,25] [(4,pL Zf.enc x14.1),(5,pI x14.2)] (bi 0 (oX hx14) bh) (by kernel_rfl) (cO h fun x15 hx15 h=>aa h fun x16 hx16 h=>an [] (rg 26 18) [(0,pB ((((x14.2 == 0)&&((x14.1.length:Int) == 1))&&x15)&&(!x16)))] (dT 10 (fun hc=>qM (cD hx15 hc)) (dT 15 (fun hc=>qM (cD hx16 hc)) bh)) (by kernel_rfl) (dj ?_))
 exact zz r h rfl
def fP (p0:(List Zc)) (p1:(List Zb)) (p2:ByteArray) (p3:(List Int)) (p4:(List Int)) (p5:Int):Option Bool:=cond ((decide (20<(p0.length:Int)))||(decide (10<(p1.length:Int)))) ((lx).bind fun x2=>some x2) ((eC p1).bind fun x3=>Option.bind (cond ((dc .i64 p5 1) == 1) ((nK p3).bind fun x9=>some (x9,p4,p5)) (some (p0,p4,p5))) (fun (l4,l5,v6)=>Option.bind (cond ((dc .i64 v6 2) == 2) ((ic l5).bind fun x16=>some x16) (some x3)) (fun l13=>Option.bind (cond ((dc .i64 v6 4) == 4) ((ja (cx .i64 v6 3)).bind fun x23=>some x23) (some p2)) (fun v20=>(eU l4 l13 v20).bind fun x24=>(gr l4 l13 v20).bind fun x25=>(gd (x24.2 == x25.2) (kO x24.1 x25.1)).bind fun x26=>(gd ((x24.2 == x25.2)&&x26) (lx)).bind fun x27=>some (((x24.2 == x25.2)&&x26)&&x27)))))
theorem pa {p0:(List Zc)} {p1:(List Zb)} {p2:ByteArray} {p3:(List Int)} {p4:(List Int)} {p5:Int} {r:Bool}  (h:fP p0 p1 p2 p3 p4 p5=some r):PF 6 [pL Zc.enc p0,pL Zb.enc p1,pS p2,pL eI p3,pL eI p4,pI p5] (pB r):=by
 unfold fP at h
 refine bd ?_
 refine dm Tryz.func6 rfl Tryz.ntmps6 Tryz.results6 rfl (aS [12] (by kernel_rfl) (cq (bI (rg 17 7) [(24,pB ((decide (20<(p0.length:Int)))||(decide (10<(p1.length:Int)))))] (by kernel_rfl) rfl h (fun hc1 h=>?_) fun hc1 h=>?_)))
 ·refine ae ?_
  refine aa h fun x2 hx2 h=>an [] [25] [(12,pB x2)] (bi 0 (pT hx2) bh) (by kernel_rfl) (dj (aq ?_))
  exact zz r h rfl
 refine ah ?_
 refine cO h fun x3 hx3 h=>an [] [26,27] [(1,pL Zb.enc x3)] (bi 1 (nu hx3) bh) (by kernel_rfl) (cq (ai [28,29] [(30,pB ((dc .i64 p5 1) == 1))] (by kernel_rfl) (eZ h fun q7 hq7 h=>?_)))
 refine am (Y:=Unit×((List Zc)×(List Int)×Int)) (fun (_,(l4,l5,v6))=>[(0,pL Zc.enc l4),(1,pL Zb.enc x3),(2,pS p2),(4,pL eI l5),(5,pI v6)]) (fun (_,(l4,l5,v6))=>[]) (fun (_,(l4,l5,v6))=>q7=(l4,l5,v6)) ?_ ?_
 ·skip
  refine i4 rfl hq7 (fun hc8 hq7=>?_) fun hc8 hq7=>?_
  ·refine aa hq7 ?_;clear hq7;intro x9 hx9 hq7
   refine af (aB 1 [(31,pL eI p3)] (by kernel_rfl) ?_)
   refine al rfl (bf rfl rfl (ρ1:=[]) (List.Perm.refl _) (yk hx9) ?_);rintro _ _ ⟨a10,c11,rfl,rfl⟩
   refine aI [(0,pO a10 x9.length c11)] (by kernel_rfl) ?_
   refine kC (uP (enc:=Zc.enc) (xs:=x9) 0 rfl (by exact aJ)) ?_
   obtain rfl:=osi hq7
   exact av ((),(x9,p4,p5)) (mC rfl) bv rfl
  refine ah ?_
  obtain rfl:=osi hq7
  exact av ((),(p0,p4,p5)) (mC rfl) bv rfl
 rintro ⟨_,⟨l4,l5,v6⟩⟩ τ hz;(try dsimp only at hz);subst q7;(try dsimp only at h);dsimp only [aw]
 refine cN (ai [33,34] [(35,pB ((dc .i64 v6 2) == 2))] (by kernel_rfl) (eZ h fun q14 hq14 h=>?_))
 refine am (Y:=Unit×((List Zb))) (fun (_,l13)=>[(0,pL Zc.enc l4),(1,pL Zb.enc l13),(2,pS p2),(5,pI v6)]) (fun (_,l13)=>[]) (fun (_,l13)=>q14=l13) ?_ ?_
 ·skip
  refine i4 rfl hq14 (fun hc15 hq14=>?_) fun hc15 hq14=>?_
  ·refine aa hq14 ?_;clear hq14;intro x16 hx16 hq14
   refine af (aB 1 [(36,pL eI l5)] (by kernel_rfl) ?_)
   refine al rfl (bf rfl rfl (ρ1:=[]) (List.Perm.refl _) (qW hx16) ?_);rintro _ _ ⟨a17,c18,rfl,rfl⟩
   refine aI [(1,pO a17 x16.length c18)] (by kernel_rfl) ?_
   refine kC (uP (enc:=Zb.enc) (xs:=x16) 1 rfl (by exact aJ)) ?_
   obtain rfl:=osi hq14
   exact av ((),x16) (hY rfl) bv rfl
  refine ah ?_
  obtain rfl:=osi hq14
  exact av ((),x3) (hY rfl) bv rfl
 rintro ⟨_,l13⟩ τ hz;(try dsimp only at hz);subst q14;(try dsimp only at h);dsimp only [aw]
 refine cN (ai [38,39] [(40,pB ((dc .i64 v6 4) == 4))] (by kernel_rfl) (eZ h fun q21 hq21 h=>?_))
 refine am (Y:=Unit×ByteArray) (fun (_,v20)=>[(0,pL Zc.enc l4),(1,pL Zb.enc l13),(2,pS v20)]) (fun (_,v20)=>[]) (fun (_,v20)=>q21=v20) ?_ ?_
 ·skip
  refine i4 rfl hq21 (fun hc22 hq21=>?_) fun hc22 hq21=>?_
  ·refine aa hq21 ?_;clear hq21;intro x23 hx23 hq21
   refine an [] [41,42,43] [(2,pS x23)] (bi 2 (sE hx23) bh) (by kernel_rfl) ?_
   obtain rfl:=osi hq21
   exact av ((),x23) (mq rfl) bv rfl
  refine ah ?_
  obtain rfl:=osi hq21
  exact av ((),p2) (mq rfl) bv rfl
 rintro ⟨_,v20⟩ τ hz;(try dsimp only at hz);subst q21;(try dsimp only at h);dsimp only [aw]
 refine ae (aa h fun x24 hx24 h=>an [] [45,46,47,48,44,49,50] [(13,pL Zf.enc x24.1),(14,pI x24.2)] (bi 3 (oX hx24) bh) (by kernel_rfl) (cO h fun x25 hx25 h=>an [] [52,53,54,55,51,56,57] [(15,pL Zf.enc x25.1),(16,pI x25.2)] (bi 3 (vp hx25) bh) (by kernel_rfl) (cO h fun x26 hx26 h=>aa h fun x27 hx27 h=>an [] (rg 58 11) [(12,pB (((x24.2 == x25.2)&&x26)&&x27))] (dT 6 (fun hc=>wv (cD hx26 hc)) (dT 9 (fun hc=>pT (cD hx27 hc)) bh)) (by kernel_rfl) (dj ?_))))
 exact zz r h rfl
end SX
namespace SX
open Go
theorem mr {S T:Type} {body:S→Option (S⊕T)} (P:S→Prop) (μ:S→Nat) (Q:T→Prop) (step:∀ s,P s→(∃ s',body s=some (.inl s')∧P s'∧μ s'<μ s)∨∃ t,body s=some (.inr t)∧Q t):∀ (N:Nat) (s:S),P s→μ s<N→∃ t,aW body N s=some t∧Q t:=by
 intro N
 induction N with
 | zero=>intro s _ h;exact absurd h (Nat.not_lt_zero _)
 | succ N ih =>
  intro s hp hm
  rw [fG]
  rcases step s hp with ⟨s',h1,h2,h3⟩ | ⟨t,h1,h2⟩
  ·rw [h1];exact ih s' h2 (by omega)
  rw [h1];exact ⟨t,rfl,h2⟩
theorem ix0 {α:Type} {a b:α}:idx [a,b] 0=some a:=rfl
theorem ix1 {α:Type} {a b:α}:idx [a,b] 1=some b:=rfl
theorem cap_eq (c:Int):eX c=some (decide (65≤c)&&decide (c≤90)):=rfl
def ml (s:ByteArray):Bool:=match s.data.toList with | [a,b]=>decide (65≤(a.toNat:Int))&&decide ((a.toNat:Int)≤90)&&decide (65≤(b.toNat:Int))&&decide ((b.toNat:Int)≤90) | _=>false
theorem zU {s:ByteArray} (h:((s.size:Int) == 2)=true):∃ a b,s.data.toList=[a,b]:=by
 have h2:s.data.toList.length=2:=by
  have:=eq_of_beq h
  rw [Array.length_toList];have e:s.size=s.data.size:=rfl;omega
 match hd:s.data.toList,h2 with
 | [a,b],_=>exact ⟨a,b,rfl⟩
theorem Cg {s:ByteArray} (h:((s.size:Int) == 2)=false):ml s=false:=by
 unfold ml
 split
 ·rename_i a b hd
  have e:s.size=s.data.toList.length:=by rw [Array.length_toList];rfl
  rw [hd] at e
  have e2:(s.size:Int)=2:=by rw [e];rfl
  rw [e2] at h;cases h
 rfl
theorem ld (s:ByteArray):ce s=some (ml s):=by
 unfold ce
 cases h:((s.size:Int) == 2)
 ·rw [Cg h];rfl
 obtain ⟨a,b,hd⟩:=zU h
 simp only [Bool.true_and,cI,cap_eq]
 rw [hd]
 simp only [ml,hd]
 rw [oT ix0]
 simp only [be]
 cases h1:(decide (65≤(a.toNat:Int))&&decide ((a.toNat:Int)≤90))
 ·rfl
 simp only [cI,Bool.true_and];rw [oT ix1];rfl
theorem nc (s:ByteArray):dU s=some (ml s):=by
 unfold dU
 cases h:((s.size:Int) == 2)
 ·rw [Cg h];rfl
 obtain ⟨a,b,hd⟩:=zU h
 simp only [Bool.true_and,cI]
 rw [hd]
 simp only [ml,hd]
 rw [oT ix0]
 cases h1:decide (65≤(a.toNat:Int))
 ·rfl
 simp only [cI,Bool.true_and];rw [oT ix0]
 cases h2:decide ((a.toNat:Int)≤90)
 ·rfl
 simp only [cI,Bool.true_and];rw [oT ix1]
 cases h3:decide (65≤(b.toNat:Int))
 ·rfl
 simp only [cI,Bool.true_and];rw [oT ix1]
theorem sM (s:ByteArray) (hs:s.size≤140737488355328):fz s=some (cM s):=by
 have hz:s.size=s.data.toList.length:=by rw [Array.length_toList];rfl
 unfold fz
 obtain ⟨t,h5,h6⟩:=mr (body:=fun v1=>cond (decide (v1<(s.size:Int))) (Option.bind (idx s.data.toList v1) (fun c5=>Option.bind (gd (!(decide ((c5.toNat:Int)<48))) (idx s.data.toList v1)) (fun c6=>cond ((decide ((c5.toNat:Int)<48))||(decide (57<(c6.toNat:Int)))) (some (.inr (.inr 0))) (some (.inl (IntKind.i64.wrap (v1+1))))))) (some (.inr (.inl ()))))
  (fun v:Int=>0≤v∧v≤s.size∧∀ j,(h:j<s.data.toList.length)→(j:Int)<v→kb (s.data.toList[j]).toNat=true) (fun v=>(s.size:Int).toNat - v.toNat) (fun t:Unit⊕Int=>(t=.inl ()∧kQ s=true)∨(t=.inr 0∧kQ s=false))
  (fun v hv=>by
   obtain ⟨a1,a2,a3⟩:=hv
   by_cases hl:v<(s.size:Int)
   ·rw [det hl];simp only [bQ]
    obtain ⟨k,rfl⟩:∃ k:Nat,v=(k:Int):=⟨v.toNat,by omega⟩
    have hk:k<s.data.toList.length:=by omega
    rw [oT (aU hk)]
    by_cases hd:kb (s.data.toList[k]).toNat=true
    ·left
     have hd2:=hd
     simp only [kb,decide_eq_true_eq] at hd2
     rw [cw (show ¬ ((s.data.toList[k].toNat:Nat):Int)<48 by omega)]
     simp only [Bool.not_false,cI,Bool.false_or]
     rw [oT (aU hk),cw (show ¬ 57<((s.data.toList[k].toNat:Nat):Int) by omega)]
     simp only [bu]
     rw [cK (by omega) (by omega)]
     refine ⟨_,rfl,⟨by omega,by omega,fun j h1 h2=>?_⟩,by omega⟩
     by_cases hj:j=k
     ·subst hj;exact hd
     exact a3 j h1 (by omega)
    right
    refine ⟨.inr 0,?_,.inr ⟨rfl,?_⟩⟩
    ·have hd2:=hd
     simp only [kb,decide_eq_true_eq] at hd2
     by_cases h48:((s.data.toList[k].toNat:Nat):Int)<48
     ·rw [det h48];rfl
     rw [cw h48]
     simp only [Bool.not_false,cI,Bool.false_or]
     rw [oT (aU hk),det (show 57<((s.data.toList[k].toNat:Nat):Int) by omega)];rfl
    cases ha:kQ s
    ·rfl
    exfalso;apply hd
    unfold kQ bl at ha
    exact List.all_eq_true.1 ha _ (List.getElem_mem hk)
   right
   rw [cw hl]
   refine ⟨.inl (),rfl,.inl ⟨rfl,?_⟩⟩
   unfold kQ bl
   rw [List.all_eq_true]
   intro c hc
   obtain ⟨j,hj,rfl⟩:=List.getElem_of_mem hc
   exact a3 j hj (by omega))
  FUEL 0 ⟨by omega,by omega,fun j _ h=>by omega⟩ (i6 (by omega))
 rw [oT h5]
 unfold cM
 rcases h6 with ⟨rfl,h⟩ | ⟨rfl,h⟩
 ·simp only [h,and_true]
  by_cases h8:(8:Int)<(s.size:Int)
  ·rw [det h8,if_neg (by omega)];rfl
  rw [cw h8]
  simp only [Bool.false_or]
  have e:Int.tmod (s.size:Int) 2=(s.size:Int) % 2:=Int.tmod_eq_emod_of_nonneg (by omega)
  rw [e]
  by_cases hp:(s.size:Int) % 2=1
  ·rw [hp,if_neg (by omega)];rfl
  have:((s.size:Int) % 2 == 1)=false:=by simpa using hp
  rw [this]
  by_cases h0:s.size=0
  ·rw [if_neg (by omega),h0];rfl
  rw [if_pos (by omega)];rfl
 simp [h]
theorem sN (s:ByteArray):s.size=s.data.toList.length:=by rw [Array.length_toList];rfl
def ro (c:UInt8):Bool:=decide (97≤c.toNat)&&decide (c.toNat≤122)
def gW (s:ByteArray):Bool:=decide (1≤s.size)&&decide (s.size≤12)&&s.data.toList.all ro
theorem zV (s:ByteArray) (hs:s.size≤140737488355328):kJ s=some (gW s):=by
 unfold kJ gW
 have hz:=sN s
 rw [hz] at hs ⊢
 generalize s.data.toList=l at hs ⊢
 refine (bM (l:=l) (by omega) (fun _ c=>cond (ro c) none (some (.inr false))) (.inl ()) (fun k hk=>?_) (by simp only [cP,bu])).trans ?_
 ·simp only [iq hk,bQ,aU hk,be,bP hk (show l.length≤4611686018427387904 by omega),ro]
  generalize l[k]=c
  by_cases h1:c.toNat<97
  ·rw [show decide ((c.toNat:Int)<97)=true from det (by omega),show decide (97≤c.toNat)=false from cw (by omega)];rfl
  rw [show decide ((c.toNat:Int)<97)=false from cw (by omega),show decide (97≤c.toNat)=true from det (by omega)]
  simp only [Bool.not_false,cI,be,Bool.false_or,Bool.true_and]
  by_cases h2:122<c.toNat
  ·rw [show decide ((122:Int)<(c.toNat:Int))=true from det (by omega),show decide (c.toNat≤122)=false from cw (by omega)];rfl
  rw [show decide ((122:Int)<(c.toNat:Int))=false from cw (by omega),show decide (c.toNat≤122)=true from det (by omega)];rfl
 rw [qp]
 have i1:decide ((1:Int)≤(l.length:Int))=decide (1≤l.length):=decide_eq_decide.2 (by omega)
 have i2:decide ((l.length:Int)≤(12:Int))=decide (l.length≤12):=decide_eq_decide.2 (by omega)
 cases l.all ro
 ·simp
 simp [i1,i2]
theorem Dg (s:ByteArray) (hs:s.size≤140737488355328):ke s=some (gW s):=by
 unfold ke gW
 have i1:decide ((s.size:Int)<1) = !decide (1≤s.size):=by rw [← decide_not];exact decide_eq_decide.2 (by omega)
 have i2:decide ((12:Int)<(s.size:Int)) = !decide (s.size≤12):=by rw [← decide_not];exact decide_eq_decide.2 (by omega)
 rw [i1,i2]
 cases h1:decide (1≤s.size)
 ·rfl
 cases h2:decide (s.size≤12)
 ·rfl
 simp only [Bool.not_true,Bool.or_self,bu,Bool.true_and]
 have key:∀ n pos N,s.size - pos=n→pos≤s.size→n<N→aW (jM s) N pos=some ((s.data.toList.drop pos).all ro):=by
  intro n
  induction n with
  | zero =>
   intro pos N hn hp hN
   obtain ⟨N,rfl⟩:∃ M,N=M+1:=⟨N - 1,by omega⟩
   have:Nat.blt pos s.size=false:=by cases hb:Nat.blt pos s.size;rfl;simp [Nat.blt] at hb;omega
   rw [fG,jM,this]
   rw [List.drop_of_length_le (by rw [← sN];omega)];rfl
  | succ n ih =>
   intro pos N hn hp hN
   obtain ⟨N,rfl⟩:∃ M,N=M+1:=⟨N - 1,by omega⟩
   have hlt:pos<s.size:=by omega
   have hb:Nat.blt pos s.size=true:=by simp [Nat.blt];omega
   have hlt2:pos<s.data.toList.length:=by rw [← sN];exact hlt
   have hget:s[pos]=s.data.toList[pos]:=by
    rw [Array.getElem_toList];rfl
   rw [fG,jM,hb,List.drop_eq_getElem_cons hlt2,List.all_cons,← hget]
   by_cases ha:(s[pos]'hlt).toNat<128
   ·rw [decode_ascii s pos hlt ha]
    simp only [bQ,ro]
    by_cases h1:(s[pos]'hlt).toNat<97
    ·rw [show decide (((s[pos]'hlt).toNat:Int)<97)=true from det (by omega),show decide (97≤(s[pos]'hlt).toNat)=false from cw (by omega)];rfl
    by_cases h2:122<(s[pos]'hlt).toNat
    ·rw [show decide ((122:Int)<((s[pos]'hlt).toNat:Int))=true from det (by omega),show decide ((s[pos]'hlt).toNat≤122)=false from cw (by omega),Bool.or_true,Bool.and_false];rfl
    rw [cw (by omega),cw (by omega),det (Nat.not_lt.1 h1),det (Nat.not_lt.1 h2)]
    exact ih (pos+1) N (by omega) (by omega) (by omega)
   have hh:=decode_high s pos hlt (by omega)
   have h122:¬ (s[pos]'hlt).toNat≤122:=by omega
   have:decide (122<((Utf8.decode s pos).1:Int))=true:=det (by omega)
   simp [this,ro,h122]
 have:=key s.size 0 FUEL (by omega) (by omega) (i6 (by omega))
 rw [this,List.drop_zero]
def ku (lt:ByteArray→ByteArray→Bool):List ByteArray→Bool
 | []=>true
 | [_]=>true
 | a::b::l=>lt a b&&ku lt (b::l)
def mV (p:ByteArray→Bool) (l:List ByteArray) (k:Nat) (x:ByteArray):Bool:=p x&&(!decide (0<k)||iM (l.getD (k - 1) x) x)
theorem zW (p:ByteArray→Bool) (l:List ByteArray):(∀ i x,l[i]?=some x→mV p l i x=true)↔(l.all p&&ku iM l)=true:=by
 have key:∀ (l:List ByteArray),(∀ i,(h:i+1<l.length)→iM l[i] l[i+1]=true)↔ku iM l=true:=by
  intro l
  induction l with
  | nil=>simp [ku]
  | cons a l ih =>
   cases l with
   | nil=>simp [ku]
   | cons b l =>
    rw [ku,Bool.and_eq_true,← ih]
    constructor
    ·intro h;exact ⟨h 0 (by simp),fun i hi=>h (i+1) (by simpa using hi)⟩
    rintro ⟨h1,h2⟩ i hi
    cases i with
    | zero=>exact h1
    | succ i=>exact h2 i (by simpa using hi)
 rw [Bool.and_eq_true,← key,List.all_eq_true]
 constructor
 ·intro h
  refine ⟨fun x hx=>?_,fun i hi=>?_⟩
  ·obtain ⟨i,hi,rfl⟩:=List.getElem_of_mem hx
   have:=h i _ (List.getElem?_eq_getElem hi)
   simp only [mV,Bool.and_eq_true] at this
   exact this.1
  have:=h (i+1) _ (List.getElem?_eq_getElem hi)
  simp only [mV,Bool.and_eq_true,Nat.zero_lt_succ,decide_true,Bool.not_true,Bool.false_or,Nat.add_sub_cancel] at this
  rw [dF (by omega)] at this
  exact this.2
 rintro ⟨h1,h2⟩ i x hx
 obtain ⟨hi,rfl⟩:=List.getElem?_eq_some_iff.1 hx
 simp only [mV,h1 _ (List.getElem_mem hi),Bool.true_and]
 by_cases h0:0<i
 ·rw [det h0,Bool.not_true,Bool.false_or,dF (by omega)]
  obtain ⟨j,rfl⟩:∃ j,i=j+1:=⟨i - 1,by omega⟩
  exact h2 j hi
 simp [h0]
theorem ms {T:Type} (p:ByteArray→Bool) (l:List ByteArray) (t:T):bW (fun k x=>cond (mV p l k x) none (some t)) l 0=cond (l.all p&&ku iM l) none (some t):=by
 have hn:=mE (g:=fun k x=>cond (mV p l k x) none (some t)) (l:=l) (k:=0)
 cases h:(l.all p&&ku iM l)
 ·cases hf:bW (fun k x=>cond (mV p l k x) none (some t)) l 0 with
  | none =>
   exfalso
   have:(l.all p&&ku iM l)=true:=by
    rw [← zW]
    intro i x hx
    have:=hn.1 hf i x hx
    rw [Nat.zero_add] at this
    cases hk:mV p l i x
    ·rw [hk] at this;cases this
    rfl
   rw [h] at this;cases this
  | some u =>
   have:∀ (m:List ByteArray) (k:Nat) (u:T),bW (fun k x=>cond (mV p l k x) none (some t)) m k=some u→u=t:=by
    intro m
    induction m with
    | nil=>intro k u h;cases h
    | cons x m ih =>
     intro k u h
     rw [bW] at h
     cases hk:mV p l k x
     ·rw [hk] at h;injection h with h;exact h.symm
     rw [hk] at h;exact ih _ _ h
   rw [this _ _ _ hf];rfl
 rw [bQ,hn]
 intro i x hx
 rw [Nat.zero_add,(zW p l).2 h i x hx];rfl
def hU (l:List ByteArray):Bool:=decide (l.length≤8)&&(l.all gW&&ku iM l)
def StrsOk (l:List ByteArray):Prop:=l.length≤140737488355328∧∀ s∈l,s.size≤140737488355328
theorem rp (l:List ByteArray) (hl:StrsOk l):dO l=some (hU l):=by
 obtain ⟨hl,hs⟩:=hl
 unfold dO hU
 have i2:decide ((8:Int)<(l.length:Int)) = !decide (l.length≤8):=by rw [← decide_not];exact decide_eq_decide.2 (by omega)
 rw [i2]
 cases decide (l.length≤8)
 ·rfl
 simp only [Bool.not_true,bu,Bool.true_and]
 refine (bM (l:=l) (by omega) (fun k x=>cond (mV gW l k x) none (some (.inr false))) (.inl ()) (fun k hk=>?_) (by simp only [cP,bu])).trans ?_
 ·have h62:l.length≤4611686018427387904:=by omega
  simp only [iq hk,bQ,aU hk,be,Dg _ (hs _ (List.getElem_mem hk)),Ce,bP hk h62,mV]
  cases hw:gW l[k]
  ·rfl
  by_cases h0:0<k
  ·simp only [h0,decide_true,Bool.not_true,Bool.not_false,Bool.and_true,Bool.true_and,Bool.false_or,cI,gi h0 hk h62,be,dF (show k - 1<l.length by omega),iM,ui]
   cases Op.bytesLess (l[k-1]'(by omega)).toList l[k].toList <;> rfl
  simp only [h0,decide_false,Bool.and_false,iC,be,Bool.not_true,Bool.false_or,Bool.false_and,bu,Bool.not_false,Bool.true_and,Bool.true_or,Bool.or_false];rfl
 rw [ms]
 cases (l.all gW&&ku iM l) <;> rfl
mutual
def sO:Zd→Nat
 | ⟨_,_,_,_,_,_,l⟩=>1+tZ l
def tZ:List Zd→Nat
 | []=>0
 | a::l=>max (sO a) (tZ l)
end
mutual
def qE:Zd→Nat
 | ⟨_,_,_,_,_,_,l⟩=>1+nx l
def nx:List Zd→Nat
 | []=>0
 | a::l=>qE a+nx l
end
theorem kj (r:Zd):sO r=1+tZ r.Args:=by cases r;rw [sO]
theorem pV (r:Zd):qE r=1+nx r.Args:=by cases r;rw [qE]
theorem Ch:∀ {l:List Zd} {a:Zd},a∈l→sO a≤tZ l
 | b::l,a,h=>by
  rw [tZ]
  rcases List.mem_cons.1 h with rfl | h
  ·omega
  have:=Ch h;omega
theorem kl {r a:Zd} (h:a∈r.Args):sO a<sO r:=by rw [kj r];have:=Ch h;omega
mutual
theorem rS:∀ r:Zd,sO r≤qE r
 | ⟨_,_,_,_,_,_,l⟩=>by rw [sO,qE];have:=xc l;omega
theorem xc:∀ l:List Zd,tZ l≤nx l
 | []=>by rw [tZ,nx];exact Nat.le_refl _
 | a::l=>by rw [tZ,nx];have h1:=rS a;have h2:=xc l;omega
end
inductive ROk:Zd→Prop
 | mk (r:Zd) (h1:StrsOk r.Except) (h2:r.Name.size≤140737488355328) (h3:r.Args.length≤140737488355328) (h4:∀ a∈r.Args,ROk a):ROk r
theorem ROk.ex {r:Zd} (h:ROk r):StrsOk r.Except:=by cases h;assumption
theorem ROk.nm {r:Zd} (h:ROk r):r.Name.size≤140737488355328:=by cases h;assumption
theorem ROk.len {r:Zd} (h:ROk r):r.Args.length≤140737488355328:=by cases h;assumption
theorem ROk.arg {r:Zd} (h:ROk r) {a:Zd} (ha:a∈r.Args):ROk a:=by cases h with | mk _ _ _ _ h4=>exact h4 a ha
theorem nodes_F (n:Nat):∀ (r:Zd) (lim:Nat),ROk r→sO r≤n→1≤lim→lim≤1000→lX n r (lim:Int)=some ((min (qE r) lim:Nat):Int):=by
 induction n with
 | zero=>intro r lim _ hd;rw [kj] at hd;omega
 | succ n ih =>
  intro r lim hr hd h1 h2
  have hl:=hr.len
  show j6 (lX n) r (lim:Int)=_
  unfold j6
  refine (j0 (l:=r.Args) (by omega) (fun i (a:Nat)=>((a:Int),i)) (fun _ x a=>cond (Nat.ble lim a) (.inr ()) (.inl (min (a+qE x) lim))) (fun (a:Nat)=>.inl (a:Int)) (fun (_:Unit)=>.inr (lim:Int)) (fun _ a=>a≤lim) 1 h1 (fun k hk a ha=>⟨?_,fun a' h=>?_⟩) (fun a ha=>?_)).trans ?_
  ·simp only [iq hk,bQ,aU hk,be]
   cases hb:Nat.ble lim a
   ·have hlt:a<lim:=by rcases Nat.lt_or_ge a lim with h | h;exact h;rw [Nat.ble_eq_true_of_le h] at hb;cases hb
    rw [show decide ((lim:Int)≤(a:Int))=false from cw (by omega),cK (by omega) (by omega),show (lim:Int) - (a:Int)=((lim - a:Nat):Int) by omega,
     ih _ (lim - a) (hr.arg (List.getElem_mem hk)) (by have:=kl (List.getElem_mem hk);omega) (by omega) (by omega)]
    simp only [bu,be,bP hk (show r.Args.length≤4611686018427387904 by omega),zN]
    rw [cK (by omega) (by omega),show (a:Int)+((min (qE r.Args[k]) (lim - a):Nat):Int)=((min (a+qE r.Args[k]) lim:Nat):Int) by omega]
   have hle:=Nat.le_of_ble_eq_true hb
   rw [show decide ((lim:Int)≤(a:Int))=true from det (by omega)];rfl
  ·cases hb:Nat.ble lim a
   ·rw [hb] at h;injection h with h;omega
   rw [hb] at h;cases h
  ·simp only [cP,bu]
  have key:∀ (l:List Zd) (i a:Nat),a≤lim→wi (fun (a:Nat)=>(a:Int)) (fun (_:Unit)=>(lim:Int)) (run (fun _ x a=>cond (Nat.ble lim a) (.inr ()) (.inl (min (a+qE x) lim))) l i a)=((min (a+nx l) lim:Nat):Int):=by
   intro l
   induction l with
   | nil=>intro i a ha;rw [nx];show (a:Int)=_;omega
   | cons x l ihl =>
    intro i a ha
    rw [i7,nx]
    cases hb:Nat.ble lim a
    ·exact (ihl _ _ (by omega)).trans (by omega)
    have hle:=Nat.le_of_ble_eq_true hb
    show (lim:Int)=_;omega
  have k2:∀ (o:Nat⊕Unit),(match (wi (fun (a:Nat)=>.inl (a:Int)) (fun (_:Unit)=>.inr (lim:Int)) o:Int⊕Int) with | .inl v4=>some v4 | .inr e=>some e)=some (wi (fun (a:Nat)=>(a:Int)) (fun (_:Unit)=>(lim:Int)) o):=fun o=>by cases o <;> rfl
  rw [pV]
  exact (k2 _).trans (congrArg some (key _ _ _ h1))
theorem Bf (n:Nat):∀ (r:Zd),ROk r→sO r≤n→kY n r=some ((min (qE r) 33:Nat):Int):=by
 induction n with
 | zero=>intro r _ hd;rw [kj] at hd;omega
 | succ n ih =>
  intro r hr hd
  have hl:=hr.len
  show je (kY n) r=_
  unfold je
  refine (j0 (l:=r.Args) (by omega) (fun i (a:Nat)=>((a:Int),i)) (fun _ x a=>cond (Nat.ble a 32) (.inl (a+min (qE x) 33)) (.inr a)) (fun a=>(a:Int)) (fun (a:Nat)=>(a:Int)) (fun _ a=>a≤1000) 1 (by omega) (fun k hk a ha=>⟨?_,fun a' h=>?_⟩) (fun a ha=>?_)).trans ?_
  ·simp only [iq hk,Bool.true_and,aU hk,be]
   cases hb:Nat.ble a 32
   ·have hlt:32<a:=by rcases Nat.lt_or_ge 32 a with h | h;exact h;rw [Nat.ble_eq_true_of_le h] at hb;cases hb
    rw [show decide ((a:Int)≤32)=false from cw (by omega)];rfl
   have hle:=Nat.le_of_ble_eq_true hb
   rw [show decide ((a:Int)≤32)=true from det (by omega),ih _ (hr.arg (List.getElem_mem hk)) (by have:=kl (List.getElem_mem hk);omega)]
   simp only [bQ,be,bP hk (show r.Args.length≤4611686018427387904 by omega),zN]
   rw [cK (by omega) (by omega),show (a:Int)+((min (qE r.Args[k]) 33:Nat):Int)=((a+min (qE r.Args[k]) 33:Nat):Int) by omega]
  ·cases hb:Nat.ble a 32
   ·rw [hb] at h;cases h
   have hle:=Nat.le_of_ble_eq_true hb
   rw [hb] at h;injection h with h;omega
  ·simp only [cP,Bool.false_and,bu]
  have key:∀ (l:List Zd) (i a:Nat),∃ q:Nat,wi (fun (a:Nat)=>(a:Int)) (fun (a:Nat)=>(a:Int)) (run (fun _ x a=>cond (Nat.ble a 32) (.inl (a+min (qE x) 33)) (.inr a)) l i a)=(q:Int)∧min q 33=min (a+nx l) 33:=by
   intro l
   induction l with
   | nil=>intro i a;exact ⟨a,rfl,by rw [nx];omega⟩
   | cons x l ihl =>
    intro i a
    rw [i7,nx]
    cases hb:Nat.ble a 32
    ·have hlt:32<a:=by rcases Nat.lt_or_ge 32 a with h | h;exact h;rw [Nat.ble_eq_true_of_le h] at hb;cases hb
     exact ⟨a,rfl,by omega⟩
    obtain ⟨q,h1,h2⟩:=ihl (i+1) (a+min (qE x) 33)
    exact ⟨q,h1,by omega⟩
  obtain ⟨q,h1,h2⟩:=key r.Args 0 1
  rw [pV,← h2,h1]
  congr 1;unfold ol;split <;> omega
def AE (s:ByteArray):Bool := !(cM s == 0)
def kR (l:List ByteArray):Bool:=decide (l.length≤6)&&(l.all AE&&ku iM l)
def Fd (n:Int):Bool:=decide (0≤n)&&decide (n≤1000000)
def km (r:Zd):Bool:=(r.Kind == 2||(r.Digits == 0&&r.Except.isEmpty&&r.Tolerance == 0))&&(r.Kind == 3||r.Limit == 0)&&(r.Kind == 4||decide (r.Name=⟨#[]⟩))&&(r.Kind == 5||r.Kind == 6||r.Args.isEmpty)
def jO (r:Zd):Bool:=cond (r.Kind == 1) true (cond (r.Kind == 2) ((r.Digits == 2||r.Digits == 4||r.Digits == 6)&&kR r.Except&&Fd r.Tolerance) (cond (r.Kind == 3) (Fd r.Limit) (cond (r.Kind == 4) (gW r.Name) false)))
mutual
def ee:Zd→Bool
 | ⟨k,d,e,t,m,n,l⟩=>km ⟨k,d,e,t,m,n,l⟩&&cond (k == 5||k == 6) (decide (2≤l.length)&&decide (l.length≤6)&&oE k l) (jO ⟨k,d,e,t,m,n,l⟩)
def oE (k:Int):List Zd→Bool
 | []=>true
 | a::l=>(!(a.Kind == k)&&ee a)&&oE k l
end
theorem vB (k:Int):∀ l:List Zd,oE k l=l.all fun a => !(a.Kind == k)&&ee a
 | []=>by rw [oE];rfl
 | a::l=>by rw [oE,vB k l];rfl
theorem gS (r:Zd):ee r=(km r&&cond (r.Kind == 5||r.Kind == 6) (decide (2≤r.Args.length)&&decide (r.Args.length≤6)&&r.Args.all fun a => !(a.Kind == r.Kind)&&ee a) (jO r)):=by
 cases r;rw [ee,vB]
theorem len0 {α:Type} (l:List α):((l.length:Int) == 0)=l.isEmpty:=by cases l <;> rfl
theorem len0' {α:Type} (l:List α):decide (0<(l.length:Int)) = !l.isEmpty:=by cases l with
 | nil=>rfl
 | cons a l=>exact det (by rw [List.length_cons];omega)
theorem Bg (r:Zd):mH r=some (km r):=by
 unfold mH km
 rw [len0,len0']
 simp only [bne]
 cases (r.Kind == 2) <;> cases (r.Digits == 0) <;> cases r.Except.isEmpty <;> cases (r.Tolerance == 0) <;> cases (r.Kind == 3) <;> cases (r.Limit == 0) <;> cases (r.Kind == 4) <;> cases decide (r.Name=⟨#[]⟩) <;> rfl
theorem Dh (r:Zd):lu r=some (km r):=by
 unfold lu km
 rw [len0,len0']
 simp only [bne]
 cases (r.Kind == 2) <;> cases (r.Digits == 0) <;> cases r.Except.isEmpty <;> cases (r.Tolerance == 0) <;> cases (r.Kind == 3) <;> cases (r.Limit == 0) <;> cases (r.Kind == 4) <;> cases decide (r.Name=⟨#[]⟩) <;> rfl
theorem Bh (l:List ByteArray) (hl:StrsOk l):il l=some (kR l):=by
 obtain ⟨hl,hs⟩:=hl
 unfold il kR
 have i2:decide ((6:Int)<(l.length:Int)) = !decide (l.length≤6):=by rw [← decide_not];exact decide_eq_decide.2 (by omega)
 rw [i2]
 cases decide (l.length≤6)
 ·rfl
 simp only [Bool.not_true,bu,Bool.true_and]
 refine (bM (l:=l) (by omega) (fun k x=>cond (mV AE l k x) none (some (.inr false))) (.inl ()) (fun k hk=>?_) (by simp only [cP,bu])).trans ?_
 ·have h62:l.length≤4611686018427387904:=by omega
  simp only [iq hk,bQ,aU hk,be,show ∀ s,dK s=some (cM s) from fun _=>rfl,Ce,bP hk h62,mV,AE]
  cases hw:(cM l[k] == 0)
  ·by_cases h0:0<k
   ·simp only [h0,decide_true,Bool.not_true,Bool.not_false,Bool.and_true,Bool.true_and,Bool.false_or,cI,gi h0 hk h62,be,dF (show k - 1<l.length by omega),iM,ui]
    cases Op.bytesLess (l[k-1]'(by omega)).toList l[k].toList <;> rfl
   simp only [h0,decide_false,Bool.and_false,iC,be,Bool.not_true,Bool.false_or,Bool.false_and,bu,Bool.not_false,Bool.true_and,Bool.true_or,Bool.or_false];rfl
  rfl
 rw [ms]
 cases (l.all AE&&ku iM l) <;> rfl
theorem Di (l:List ByteArray) (hl:StrsOk l) {β:Type} (k:Unit⊕Bool→Option β):Option.bind (aW (S:=Int) (T:=(Unit)⊕(_)) (fun v6=>cond (decide (v6<(l.length:Int))) (Option.bind (idx l v6) (fun m10=>Option.bind (fz m10) (fun x11=>Option.bind (gd ((!(x11 == 0))&&(decide (0<v6))) (idx l (IntKind.i64.wrap (v6 - 1)))) (fun m12=>Option.bind (gd ((!(x11 == 0))&&(decide (0<v6))) (idx l v6)) (fun m13=>cond ((x11 == 0)||((decide (0<v6))&&(!Op.bytesLess m12.toList m13.toList))) (some (.inr (.inr false))) (some (.inl (IntKind.i64.wrap (v6+1))))))))) (some (.inr (.inl ())))) FUEL 0) k=k (cond (l.all AE&&ku iM l) (.inl ()) (.inr false)):=by
 obtain ⟨hl,hs⟩:=hl
 refine (bM (l:=l) (by omega) (fun k x=>cond (mV AE l k x) none (some (.inr false))) (.inl ()) (fun k hk=>?_) (by simp only [cP,bu])).trans ?_
 ·have h62:l.length≤4611686018427387904:=by omega
  simp only [iq hk,bQ,aU hk,be,sM _ (hs _ (List.getElem_mem hk)),Ce,bP hk h62,mV,AE]
  cases hw:(cM l[k] == 0)
  ·by_cases h0:0<k
   ·simp only [h0,decide_true,Bool.not_true,Bool.not_false,Bool.and_true,Bool.true_and,Bool.false_or,cI,gi h0 hk h62,be,dF (show k - 1<l.length by omega),iM]
    cases Op.bytesLess (l[k-1]'(by omega)).toList l[k].toList <;> rfl
   simp only [h0,decide_false,Bool.and_false,iC,be,Bool.not_true,Bool.false_or,Bool.false_and,bu,Bool.not_false,Bool.true_and,Bool.true_or,Bool.or_false];rfl
  rfl
 rw [ms]
 cases (l.all AE&&ku iM l) <;> rfl
theorem Fe (s:ByteArray) (hs:s.size≤140737488355328):dO [s]=some (gW s):=by
 rw [rp [s] ⟨by simp,by simpa using hs⟩]
 simp [hU,ku]
theorem valid_F (n:Nat):∀ (r:Zd),ROk r→sO r≤n→mi n r=some (ee r):=by
 induction n with
 | zero=>intro r _ hd;rw [kj] at hd;omega
 | succ n ih =>
  intro r hr hd
  have hl:=hr.len
  show kf (mi n) r=_
  unfold kf
  rw [Bg,gS,be]
  cases km r
  ·rfl
  simp only [Bool.not_true,bu,Bool.true_and]
  cases e1:(r.Kind == 1)
  rotate_left
  ·have:=eq_of_beq e1
   simp only [jO,e1,this];rfl
  cases e2:(r.Kind == 2)
  rotate_left
  ·have:=eq_of_beq e2
   simp only [jO,e1,e2,this,bQ,bu]
   rw [Bh _ hr.ex]
   show _=some (_&&kR r.Except&&Fd r.Tolerance)
   cases (r.Digits == 2||r.Digits == 4||r.Digits == 6)
   ·rfl
   simp only [cI,Bool.true_and,be]
   cases kR r.Except <;> rfl
  cases e3:(r.Kind == 3)
  rotate_left
  ·have:=eq_of_beq e3
   simp only [jO,e1,e2,e3,this,bQ,bu];rfl
  cases e4:(r.Kind == 4)
  rotate_left
  ·have:=eq_of_beq e4
   simp only [jO,e1,e2,e3,e4,this,bQ,bu]
   rw [Fe _ hr.nm];rfl
  simp only [jO,e1,e2,e3,e4,bu]
  have e56:(cond (r.Kind == 5) (some (r.Kind == 5)) (some (r.Kind == 6)):Option Bool)=some (r.Kind == 5||r.Kind == 6):=by cases (r.Kind == 5) <;> rfl
  rw [e56,be]
  cases (r.Kind == 5||r.Kind == 6)
  ·rfl
  simp only [bQ]
  have i1:decide ((r.Args.length:Int)<2) = !decide (2≤r.Args.length):=by rw [← decide_not];exact decide_eq_decide.2 (by omega)
  have i2:decide ((6:Int)<(r.Args.length:Int)) = !decide (r.Args.length≤6):=by rw [← decide_not];exact decide_eq_decide.2 (by omega)
  rw [i1,i2]
  cases decide (2≤r.Args.length)
  ·rfl
  cases decide (r.Args.length≤6)
  ·rfl
  simp only [Bool.not_true,Bool.or_self,bu,Bool.true_and]
  refine (bM (l:=r.Args) (by omega) (fun _ a=>cond (!(a.Kind == r.Kind)&&ee a) none (some (.inr false))) (.inl ()) (fun k hk=>?_) (by simp only [cP,bu])).trans ?_
  ·simp only [iq hk,bQ,aU hk,be,bP hk (show r.Args.length≤4611686018427387904 by omega)]
   have h2:=ih _ (hr.arg (List.getElem_mem hk)) (by have:=kl (List.getElem_mem hk);omega)
   cases (r.Args[k].Kind == r.Kind)
   ·simp only [Bool.not_false,cI,h2,be,Bool.true_and,Bool.false_or]
    cases ee r.Args[k] <;> rfl
   rfl
  rw [qp]
  cases (r.Args.all fun a => !(a.Kind == r.Kind)&&ee a) <;> rfl
theorem right_F (n:Nat):∀ (r:Zd),ROk r→sO r≤n→kZ n r=some (ee r):=by
 induction n with
 | zero=>intro r _ hd;rw [kj] at hd;omega
 | succ n ih =>
  intro r hr hd
  have hl:=hr.len
  show jf (kZ n) r=_
  unfold jf
  rw [Dh,gS,be]
  cases km r
  ·rfl
  simp only [Bool.not_true,bu,Bool.true_and]
  cases e1:(r.Kind == 1)
  rotate_left
  ·have:=eq_of_beq e1
   simp only [jO,e1,this];rfl
  cases e2:(r.Kind == 2)
  rotate_left
  ·have:=eq_of_beq e2
   simp only [jO,e1,e2,this,bQ,bu]
   rw [Di _ hr.ex]
   show _=some (_&&kR r.Except&&Fd r.Tolerance)
   unfold kR Fd
   have i2:decide ((r.Except.length:Int)≤6)=decide (r.Except.length≤6):=decide_eq_decide.2 (by omega)
   rw [i2]
   cases (r.Except.all AE&&ku iM r.Except)
   ·cases (r.Digits == 2||r.Digits == 4||r.Digits == 6) <;> cases decide (r.Except.length≤6) <;> rfl
   cases (r.Digits == 2||r.Digits == 4||r.Digits == 6) <;> cases decide (r.Except.length≤6) <;> rfl
  cases e3:(r.Kind == 3)
  rotate_left
  ·have:=eq_of_beq e3
   simp only [jO,e1,e2,e3,this,bQ,bu];rfl
  cases e4:(r.Kind == 4)
  rotate_left
  ·have:=eq_of_beq e4
   simp only [jO,e1,e2,e3,e4,this,bQ,bu]
   rw [zV _ hr.nm];rfl
  simp only [jO,e1,e2,e3,e4,bu]
  have e56:(cond (r.Kind == 5) (some (r.Kind == 5)) (some (r.Kind == 6)):Option Bool)=some (r.Kind == 5||r.Kind == 6):=by cases (r.Kind == 5) <;> rfl
  rw [e56,be]
  cases (r.Kind == 5||r.Kind == 6)
  ·rfl
  simp only [bQ]
  have i1:decide ((2:Int)≤(r.Args.length:Int))=decide (2≤r.Args.length):=decide_eq_decide.2 (by omega)
  have i2:decide ((r.Args.length:Int)≤(6:Int))=decide (r.Args.length≤6):=decide_eq_decide.2 (by omega)
  rw [i1,i2]
  refine (bM (l:=r.Args) (by omega) (fun _ a=>cond (!(a.Kind == r.Kind)&&ee a) none (some (.inr false))) (.inl ()) (fun k hk=>?_) (by simp only [cP,bu])).trans ?_
  ·simp only [iq hk,bQ,aU hk,be,bP hk (show r.Args.length≤4611686018427387904 by omega)]
   have h2:=ih _ (hr.arg (List.getElem_mem hk)) (by have:=kl (List.getElem_mem hk);omega)
   cases (r.Args[k].Kind == r.Kind)
   ·simp only [Bool.not_false,cI,h2,be,Bool.true_and,Bool.false_or]
    cases ee r.Args[k] <;> rfl
   rfl
  rw [qp]
  cases (r.Args.all fun a => !(a.Kind == r.Kind)&&ee a)
  ·simp
  simp
def kn (r:Zd):Int:=cond (decide (qE r≤32)) (cond (ee r) 0 1) 8
theorem qr (r:Zd) (hr:ROk r) (hd:sO r≤1000):fA r=some (kn r):=by
 unfold fA qX rm kn
 have hf:FUEL=1267650600228229401496703205376:=rfl
 have h1:=nodes_F FUEL r 33 hr (by rw [hf];omega) (by omega) (by omega)
 rw [show ((33:Nat):Int)=33 from rfl] at h1
 rw [h1,be,valid_F FUEL r hr (by rw [hf];omega)]
 by_cases h:qE r≤32
 ·rw [cw (by omega),det h]
  cases ee r <;> rfl
 rw [det (by omega),cw h];rfl
theorem Ff (r:Zd) (hr:ROk r) (hd:sO r≤1000):kL r=some (kn r):=by
 unfold kL pD pE kn
 have hf:FUEL=1267650600228229401496703205376:=rfl
 rw [Bf FUEL r hr (by rw [hf];omega),be,right_F FUEL r hr (by rw [hf];omega)]
 by_cases h:qE r≤32
 ·rw [cw (by omega),det h]
  cases ee r <;> rfl
 rw [det (by omega),cw h];rfl
theorem oF (r:Zd):kn r=0↔qE r≤32∧ee r=true:=by
 unfold kn
 by_cases h:qE r≤32
 ·rw [det h];cases ee r <;> simp [h]
 rw [cw h];simp [h]
structure RFOk (x:Zh):Prop where
 pre:x.Prefix.size≤140737488355328
 rule:ROk x.Rule
 deep:sO x.Rule≤1000
structure AOk (a:Zb):Prop where
 par:StrsOk a.Parties
 len:a.Rules.length≤140737488355328
 rules:∀ x∈a.Rules,RFOk x
structure ASOk (l:List Zb):Prop where
 len:l.length≤140737488355328
 all:∀ a∈l,AOk a
def iO (l:List ByteArray):Bool:=l.all ml&&ku iM l
def lP (l:List Zh) (k:Nat) (x:Zh):Option Int:=cond (AE x.Prefix) (cond (decide (0<k) && !iM (l.getD (k - 1) x).Prefix x.Prefix) (some 9) (cond (kn x.Rule == 0) none (some (kn x.Rule)))) (some 1)
def rulesE (l:List Zh):Int:=(bW (lP l) l 0).getD 0
def t6 (l:List Zb) (k:Nat) (a:Zb):Option Int :=
 cond (decide (a.ID<1)||decide (1000<a.ID)||decide (a.Kind<1)||decide (3<a.Kind)) (some 2) (cond (decide (0<k)&&decide (a.ID≤(l.getD (k - 1) a).ID)) (some 9) (cond (decide (12<a.Parties.length)||decide (12<a.Rules.length)) (some 8)
  (cond (iO a.Parties) (cond (rulesE a.Rules == 0) none (some (rulesE a.Rules))) (some 1))))
def rT (l:List Zb):Int:=cond (decide (l.length≤8)) ((bW (t6 l) l 0).getD 0) 8
theorem yq (l:List ByteArray) (hl:StrsOk l):dN l=some (iO l):=by
 obtain ⟨hl,hs⟩:=hl
 unfold dN iO
 refine (bM (l:=l) (by omega) (fun k x=>cond (mV ml l k x) none (some (.inr false))) (.inl ()) (fun k hk=>?_) (by simp only [cP,bu])).trans ?_
 ·have h62:l.length≤4611686018427387904:=by omega
  simp only [iq hk,bQ,aU hk,be,ld,Ce,bP hk h62,mV]
  cases hw:ml l[k]
  ·rfl
  by_cases h0:0<k
  ·simp only [h0,decide_true,Bool.not_true,Bool.not_false,Bool.and_true,Bool.true_and,Bool.false_or,cI,gi h0 hk h62,be,dF (show k - 1<l.length by omega),iM,ui]
   cases Op.bytesLess (l[k-1]'(by omega)).toList l[k].toList <;> rfl
  simp only [h0,decide_false,Bool.and_false,iC,be,Bool.not_true,Bool.false_or,Bool.false_and,bu,Bool.not_false,Bool.true_and,Bool.true_or,Bool.or_false];rfl
 rw [ms]
 cases (l.all ml&&ku iM l) <;> rfl
theorem zX (l:List Zh) (hl:l.length≤140737488355328) (hr:∀ x∈l,RFOk x):dE l=some (rulesE l):=by
 unfold dE rulesE
 have h62:l.length≤4611686018427387904:=by omega
 refine (bM (l:=l) h62 (fun k x=>(lP l k x).map .inr) (.inl ()) (fun k hk=>?_) (by simp only [cP,bu])).trans ?_
 ·simp only [iq hk,bQ,aU hk,be,show ∀ s,dK s=some (cM s) from fun _=>rfl,Ce,bP hk h62,lP,AE]
  cases hw:(cM l[k].Prefix == 0)
  ·have h2:=qr _ (hr _ (List.getElem_mem hk)).rule (hr _ (List.getElem_mem hk)).deep
   by_cases h0:0<k
   ·simp only [h0,decide_true,Bool.true_and,cI,gi h0 hk h62,be,dF (show k - 1<l.length by omega),iM,ui,Bool.not_false,bQ,bu]
    cases Op.bytesLess (l[k-1]'(by omega)).Prefix.toList l[k].Prefix.toList
    ·rfl
    simp only [Bool.not_true,bu]
    rw [h2]
    simp only [bne]
    cases hz:(kn l[k].Rule == 0) <;> simp [hz,qz]
   simp only [h0,decide_false,Bool.false_and,iC,be,bu,Bool.not_false,bQ]
   rw [h2]
   simp only [bne]
   cases hz:(kn l[k].Rule == 0) <;> simp [hz,qz]
  rfl
 have key:∀ (g:Nat→Zh→Option Int) (m:List Zh) (i:Nat),bW (fun k x=>(g k x).map (Sum.inr:Int→Unit⊕Int)) m i=(bW g m i).map Sum.inr:=by
  intro g m
  induction m with
  | nil=>intro i;rfl
  | cons x m ih=>intro i;rw [bW,bW];cases g i x with | none=>exact ih _ | some t=>rfl
 rw [key]
 cases bW (lP l) l 0 <;> rfl
theorem jP {α T U:Type} (f:T→U) (g:Nat→α→Option T):∀ (m:List α) (i:Nat),bW (fun k x=>(g k x).map f) m i=(bW g m i).map f
 | [],_=>rfl
 | x::m,i=>by rw [bW,bW];cases g i x with | none=>exact jP f g m _ | some t=>rfl
theorem Fg (l:List Zb) (hl:ASOk l):el l=some (rT l):=by
 unfold el rT
 have h62:l.length≤4611686018427387904:=by have:=hl.len;omega
 have i1:decide ((8:Int)<(l.length:Int)) = !decide (l.length≤8):=by rw [← decide_not];exact decide_eq_decide.2 (by omega)
 rw [i1]
 cases decide (l.length≤8)
 ·rfl
 simp only [Bool.not_true,bu,bQ]
 refine (bM (l:=l) h62 (fun k x=>(t6 l k x).map .inr) (.inl ()) (fun k hk=>?_) (by simp only [cP,bu])).trans ?_
 ·have ha:=hl.all _ (List.getElem_mem hk)
  simp only [iq hk,bQ,aU hk,be,Ce,bP hk h62,t6]
  have j1:decide ((12:Int)<(l[k].Parties.length:Int))=decide (12<l[k].Parties.length):=decide_eq_decide.2 (by omega)
  have j2:decide ((12:Int)<(l[k].Rules.length:Int))=decide (12<l[k].Rules.length):=decide_eq_decide.2 (by omega)
  rw [yq _ ha.par,zX _ ha.len ha.rules,j1,j2]
  cases (decide (l[k].ID<1)||decide (1000<l[k].ID)||decide (l[k].Kind<1)||decide (3<l[k].Kind))
  ·by_cases h0:0<k
   ·simp only [h0,decide_true,Bool.true_and,cI,gi h0 hk h62,be,dF (show k - 1<l.length by omega),bu]
    cases decide (l[k].ID≤(l[k-1]'(by omega)).ID)
    ·cases (decide (12<l[k].Parties.length)||decide (12<l[k].Rules.length))
     ·cases iO l[k].Parties
      ·rfl
      simp only [bu,bQ,Bool.not_true,bne]
      cases hz:(rulesE l[k].Rules == 0) <;> simp [hz,qz]
     rfl
    rfl
   simp only [h0,decide_false,Bool.false_and,iC,be,bu]
   cases (decide (12<l[k].Parties.length)||decide (12<l[k].Rules.length))
   ·cases iO l[k].Parties
    ·rfl
    simp only [bu,bQ,Bool.not_true,bne]
    cases hz:(rulesE l[k].Rules == 0) <;> simp [hz,qz]
   rfl
  rfl
 rw [jP]
 cases bW (t6 l) l 0 <;> rfl
theorem ref_agr (l:List Zb) (hl:ASOk l):fE l=some (rT l):=by
  unfold fE rT
  have h62:l.length≤4611686018427387904:=by have:=hl.len;omega
  have i1:decide ((8:Int)<(l.length:Int)) = !decide (l.length≤8):=by rw [← decide_not];exact decide_eq_decide.2 (by omega)
  rw [i1]
  cases decide (l.length≤8)
  · rfl
  simp only [Bool.not_true,bu,bQ]
  refine (bM (l:=l) h62 (fun k x=>(t6 l k x).map .inr) (.inl ()) (fun k hk=>?_) (by simp only [cP,bu])).trans ?_
  · have ha:=hl.all _ (List.getElem_mem hk)
    simp only [iq hk,bQ,aU hk,be,Ce,bP hk h62,t6]
    have j1:decide ((12:Int)<(l[k].Parties.length:Int))=decide (12<l[k].Parties.length):=decide_eq_decide.2 (by omega)
    have j2:decide ((12:Int)<(l[k].Rules.length:Int))=decide (12<l[k].Rules.length):=decide_eq_decide.2 (by omega)
    rw [j1,j2]
    have tail:(Option.bind (aW (S:=Int) (T:=(Unit)⊕(Int⊕(Unit⊕Int))) (fun v12=>cond (decide (v12<(l[k].Parties.length:Int))) (Option.bind (idx l[k].Parties v12) (fun m16=>Option.bind (dU m16) (fun x17=>Option.bind (gd ((!(!x17))&&(decide (0<v12))) (idx l[k].Parties (IntKind.i64.wrap (v12 - 1)))) (fun m18=>Option.bind (gd ((!(!x17))&&(decide (0<v12))) (idx l[k].Parties v12)) (fun m19=>cond ((!x17)||((decide (0<v12))&&(!Op.bytesLess m18.toList m19.toList))) (some (.inr (.inr (.inr (.inr 1))))) (some (.inl (IntKind.i64.wrap (v12+1))))))))) (some (.inr (.inl ())))) FUEL 0)
        (fun q=>match q with
          | .inl _=>Option.bind (aW (S:=Int) (T:=(Unit)⊕(Int⊕(Unit⊕Int))) (fun v21=>cond (decide (v21<(l[k].Rules.length:Int))) (Option.bind (idx l[k].Rules v21) (fun m25=>Option.bind (fz m25.Prefix) (fun x26=>cond (x26 == 0) (some (.inr (.inr (.inr (.inr 1))))) (Option.bind (gd (decide (0<v21)) (idx l[k].Rules (IntKind.i64.wrap (v21 - 1)))) (fun m28=>Option.bind (gd (decide (0<v21)) (idx l[k].Rules v21)) (fun m29=>cond ((decide (0<v21))&&(!Op.bytesLess m28.Prefix.toList m29.Prefix.toList)) (some (.inr (.inr (.inr (.inr 9))))) (Option.bind (idx l[k].Rules v21) (fun m31=>Option.bind (kL m31.Rule) (fun x32=>cond (x32 != 0) (some (.inr (.inr (.inr (.inr x32))))) (some (.inl (IntKind.i64.wrap (v21+1))))))))))))) (some (.inr (.inl ())))) FUEL 0) (fun q=>match q with | .inl _=>some (.inl ((k+1:Nat):Int)) | .inr e=>some e)
          | .inr e=>some e):Option (Int⊕(Unit⊕Int)))=some (qz k ((cond (iO l[k].Parties) (cond (rulesE l[k].Rules == 0) none (some (rulesE l[k].Rules))) (some 1)).map .inr)):=by
      obtain ⟨hp,hps⟩:=ha.par
      have hq:=ha.len;have hqr:=ha.rules
      generalize l[k].Parties=P at hp hps
      generalize l[k].Rules=R at hq hqr
      have hP:P.length≤4611686018427387904:=by omega
      have hR:R.length≤4611686018427387904:=by omega
      refine (bM (l:=P) hP (fun k x=>cond (mV ml P k x) none (some (.inr (.inr (.inr 1))))) (.inl ()) (fun k hk=>?_) (by simp only [cP,bu])).trans ?_
      · simp only [iq hk,bQ,aU hk,be,nc,Ce,bP hk hP,mV]
        cases hw:ml P[k]
        · rfl
        by_cases h0:0<k
        · simp only [h0,decide_true,Bool.not_true,Bool.not_false,Bool.and_true,Bool.true_and,Bool.false_or,cI,gi h0 hk hP,be,dF (show k - 1<P.length by omega),iM]
          cases Op.bytesLess (P[k-1]'(by omega)).toList P[k].toList <;> rfl
        simp only [h0,decide_false,Bool.and_false,iC,be,Bool.not_true,Bool.false_or,Bool.false_and,bu,Bool.not_false,Bool.true_and,Bool.true_or,Bool.or_false];rfl
      rw [ms]
      unfold iO
      cases (P.all ml&&ku iM P)
      · rfl
      simp only [bQ,Option.getD_none]
      refine (bM (l:=R) hR (fun k x=>(lP R k x).map fun e=>.inr (.inr (.inr e))) (.inl ()) (fun k hk=>?_) (by simp only [cP,bu])).trans ?_
      · simp only [iq hk,bQ,aU hk,be,sM _ (hqr _ (List.getElem_mem hk)).pre,Ce,bP hk hR,lP,AE]
        cases hw:(cM R[k].Prefix == 0)
        · have h2:=Ff _ (hqr _ (List.getElem_mem hk)).rule (hqr _ (List.getElem_mem hk)).deep
          by_cases h0:0<k
          · simp only [h0,decide_true,Bool.true_and,cI,gi h0 hk hR,be,dF (show k - 1<R.length by omega),iM,Bool.not_false,bQ,bu]
            cases Op.bytesLess (R[k-1]'(by omega)).Prefix.toList R[k].Prefix.toList
            · rfl
            simp only [Bool.not_true,bu]
            rw [h2]
            simp only [bne]
            cases hz:(kn R[k].Rule == 0) <;> simp [hz,qz]
          simp only [h0,decide_false,Bool.false_and,iC,be,bu,Bool.not_false,bQ]
          rw [h2]
          simp only [bne]
          cases hz:(kn R[k].Rule == 0) <;> simp [hz,qz]
        rfl
      rw [jP]
      unfold rulesE
      have hne:∀ e,bW (lP R) R 0=some e→(e == 0)=false:=by
        have:∀ (m:List Zh) (i:Nat) (e:Int),bW (lP R) m i=some e→(e == 0)=false:=by
          intro m
          induction m with
          | nil=>intro i e h;cases h
          | cons x m ih =>
            intro i e h
            rw [bW] at h
            cases hg:lP R i x with
            | none=>rw [hg] at h;exact ih _ _ h
            | some t =>
              rw [hg] at h;injection h with h;subst h
              unfold lP at hg
              cases hb:AE x.Prefix
              · rw [hb] at hg;injection hg with hg;subst hg;rfl
              rw [hb] at hg
              cases h9:(decide (0<i) && !iM (R.getD (i - 1) x).Prefix x.Prefix)
              · rw [h9] at hg
                cases hz:(kn x.Rule == 0)
                · rw [hz] at hg;injection hg with hg;subst hg;exact hz
                rw [hz] at hg;cases hg
              rw [h9] at hg;injection hg with hg;subst hg;rfl
        exact this R 0
      cases hf:bW (lP R) R 0 with
      | none=>rfl
      | some e=>simp [hne e hf,qz]
    cases (decide (l[k].ID<1)||decide (1000<l[k].ID)||decide (l[k].Kind<1)||decide (3<l[k].Kind))
    · by_cases h0:0<k
      · simp only [h0,decide_true,Bool.true_and,cI,gi h0 hk h62,be,dF (show k - 1<l.length by omega),bu]
        cases decide (l[k].ID≤(l[k-1]'(by omega)).ID)
        · cases (decide (12<l[k].Parties.length)||decide (12<l[k].Rules.length))
          · exact tail
          rfl
        rfl
      simp only [h0,decide_false,Bool.false_and,iC,be,bu]
      cases (decide (12<l[k].Parties.length)||decide (12<l[k].Rules.length))
      · exact tail
      rfl
    rfl
  rw [jP]
  cases bW (t6 l) l 0 <;> rfl
def Y {α:Type} (x:Option α) (P:α→Prop):Prop:=∃ a,x=some a∧P a
section
variable {α β S T:Type} {x y:Option α} {P P':α→Prop} {Q:β→Prop} {f:α→Option β} {a:α} {c:Bool}
theorem Y.bind (h:Y x P) (k:∀ a,P a→Y (f a) Q):Y (x.bind f) Q:=by
 obtain ⟨a,h1,h2⟩:=h;rw [h1];exact k a h2
theorem Y.ret (h:P a):Y (some a) P:=⟨a,rfl,h⟩
theorem Y.mono (h:Y x P) (k:∀ a,P a→P' a):Y x P':=by obtain ⟨a,h1,h2⟩:=h;exact ⟨a,h1,k a h2⟩
theorem Y.cond (h:c=true→Y x P) (k:c=false→Y y P):Y (cond c x y) P:=by cases c;exact k rfl;exact h rfl
theorem Y.eq {r:α} (h:x=some r) (k:Y (f r) Q):Y (x.bind f) Q:=by rw [h];exact k
theorem Y.loop {body:S→Option (S⊕T)} {R:T→Prop} {s:S} (I:S→Prop) (μ:S→Nat) (h0:I s) (hm:μ s≤1267650600228229401496703205000) (step:∀ s,I s→Y (body s) (fun o=>match o with | .inl s'=>I s'∧μ s'<μ s | .inr t=>R t)):Y (aW body FUEL s) R:=by
 obtain ⟨t,h1,h2⟩:=mr (body:=body) I μ R (fun s hs=>by
  obtain ⟨o,k1,k2⟩:=step s hs
  cases o with
  | inl s'=>exact .inl ⟨s',k1,k2⟩
  | inr t=>exact .inr ⟨t,k1,k2⟩) FUEL s h0 (i6 hm)
 exact ⟨t,h1,h2⟩
theorem Y.idx {xs:List α} {i:Int} {n:Nat} (h:i=(n:Int)) (hn:n<xs.length) (k:Y (f xs[n]) Q):Y ((idx xs i).bind f) Q:=by subst h;rw [aU hn];exact k
theorem Y.gdp [Inhabited α] {z:Option (α×β)} {m:β} {R:α×β→Prop} (h:c=true→Y z R) (k:c=false→R (default,m)):Y (gdp c z m) R:=by
 cases c
 ·exact ⟨_,rfl,k rfl⟩
 exact h rfl
end
theorem xd (a n:Int) (h1:1≤n) (h2:n≤4611686018427387904):∃ r,iE a n=some r∧0≤r∧r<n:=by
 have hl:=Int.tmod_lt_of_pos a (show 0<n by omega)
 have hl2:=Int.tmod_lt_of_pos (-a) (show 0<n by omega)
 rw [Int.neg_tmod] at hl2
 unfold iE nz lb
 rw [if_neg (by omega),cK (by omega) (by omega)]
 exact ⟨_,rfl,Int.tmod_nonneg _ (by omega),Int.tmod_lt_of_pos _ (by omega)⟩
def SOK (p:Zk):Prop:=0≤p.I∧p.I≤p.L.length∧p.L.length≤1000000000000000
theorem next_ok {p:Zk} (hp:SOK p) (n:Int) (h1:1≤n) (h2:n≤4611686018427387904):∃ r q,aV p n=some (r,q)∧0≤r∧r<n∧SOK q:=by
 obtain ⟨a1,a2,a3⟩:=hp
 unfold aV
 by_cases h:(p.L.length:Int)≤p.I
 ·rw [det h];exact ⟨_,_,rfl,by omega,by omega,a1,a2,a3⟩
 rw [cw h,cK (r:=p.I+1) (by omega) (by omega),cK (by omega) (by omega)]
 simp only [bu]
 have e:idx p.L (p.I+1 - 1)=some (p.L[p.I.toNat]'(by omega)):=by
  unfold idx;rw [if_pos (by omega)]
  have:(p.I+1 - 1).toNat=p.I.toNat:=by omega
  rw [this];exact List.getElem?_eq_getElem _
 rw [oT e]
 obtain ⟨r,h3,h4,h5⟩:=xd (p.L[p.I.toNat]'(by omega)) n h1 h2
 rw [oT h3]
 exact ⟨_,_,rfl,h4,h5,by simp only;omega,by simp only;omega,a3⟩
theorem cut_ok (l:List Int) (n:Int) (h:0≤n) (h2:n≤1000):∃ m,mG l n=some m∧(m.length:Int)≤n:=by
 unfold mG
 by_cases h1:n<(l.length:Int)
 ·rw [det h1]
  have e:sub l 0 n=some ((l.take n.toNat).drop 0):=by unfold sub;rw [if_pos (by omega)];rfl
  simp only [bQ];rw [oT e];exact ⟨_,rfl,by simp;omega⟩
 rw [cw h1];exact ⟨_,rfl,by omega⟩
theorem Fh (a n:Int) (h1:1≤n) (h2:n≤4611686018427387904):Y (iE a n) (fun r=>0≤r∧r<n):=xd a n h1 h2
theorem eH {p:Zk} (hp:SOK p) (n:Int) (h1:1≤n) (h2:n≤4611686018427387904):Y (aV p n) (fun r=>0≤r.1∧r.1<n∧SOK r.2):=by
 obtain ⟨r,q,h3,h4,h5,h6⟩:=next_ok hp n h1 h2;exact ⟨(r,q),h3,h4,h5,h6⟩
theorem cut_Y (l:List Int) (n:Int) (h:0≤n) (h2:n≤1000):Y (mG l n) (fun m=>SOK ⟨m,0⟩):=by
 obtain ⟨m,h3,h4⟩:=cut_ok l n h h2
 exact ⟨m,h3,by dsimp only;omega,by dsimp only;omega,by dsimp only;omega⟩
theorem Fi {p:Zk} (hp:SOK p):Y (fD p) (fun r=>Fd r.1=true∧SOK r.2):=by
 unfold fD
 refine (eH hp 4 (by omega) (by omega)).bind fun a ⟨h1,h2,h3⟩=>?_
 refine Y.cond (fun _=>?_) (fun _=>?_)
 ·refine (eH h3 101 (by omega) (by omega)).bind fun b ⟨k1,k2,k3⟩=>Y.ret ⟨?_,k3⟩
  rw [cK (by omega) (by omega)];simp only [Fd,Bool.and_eq_true,decide_eq_true_eq];omega
 refine (eH h3 1000001 (by omega) (by omega)).bind fun b ⟨k1,k2,k3⟩=>Y.ret ⟨?_,k3⟩
 simp only [Fd,Bool.and_eq_true,decide_eq_true_eq];omega
structure Good (r:Zd) (m:Nat):Prop where
 ok:ROk r
 valid:ee r=true
 size:qE r≤m
theorem zY:StrsOk []:=⟨by simp,by simp⟩
theorem Fj {r:Zd} (h1:StrsOk r.Except) (h2:r.Name.size≤140737488355328) (h3:r.Args=[]):ROk r:=⟨r,h1,h2,by rw [h3];simp,by rw [h3];simp⟩
theorem Fk {r:Zd} (h:r.Args=[]):qE r=1:=by rw [pV,h];rfl
def oG:Nat→Nat
 | 0=>1
 | d+1=>1+3*oG d
theorem Fl (d:Nat):1≤oG d:=by cases d <;> simp [oG]
theorem Ci {m:Nat}:∀ {l:List Zd},(∀ a∈l,qE a≤m)→nx l≤l.length*m
 | [],_=>by rw [nx];omega
 | a::l,h=>by
  rw [nx,List.length_cons,Nat.add_mul,Nat.one_mul]
  have h1:=h a (by simp);have h2:=Ci (l:=l) fun b hb=>h b (by simp [hb]);omega
theorem yr {but:Int} (hb:but=0∨but=5∨but=6) {r:Zd} {q:Zk} {m:Nat} (hm:1≤m) (hq:SOK q) (h1:StrsOk r.Except) (h2:r.Name.size≤140737488355328) (h3:r.Args=[]) (hk:1≤r.Kind∧r.Kind≤4) (hv:ee r=true):Good r m∧r.Kind≠but∧SOK q :=
 ⟨⟨Fj h1 h2 h3,hv,by rw [Fk h3];exact hm⟩,by omega,hq⟩
theorem xe {d n:Nat} {p:Zk} {but:Int} (hp:SOK p) (hb:but=0∨but=5∨but=6) (hn:d<n) (hd:d≤10)
    (ih:∀ d',d=d'+1→∀ (q:Zk) (but':Int),SOK q→(but'=0∨but'=5∨but'=6)→Y (eF (n - 1) q but' (d':Int)) (fun r=>Good r.1 (oG d')∧r.1.Kind≠but'∧SOK r.2)) :
    Y (eF n p but (d:Int)) (fun r=>Good r.1 (oG d)∧r.1.Kind≠but∧SOK r.2):=by
  obtain ⟨n,rfl⟩:∃ m,n=m+1:=⟨n - 1,by omega⟩
  rw [Nat.add_sub_cancel] at ih
  show Y (fI (eF n) p but (d:Int)) _
  unfold fI
  refine (eH hp 8 (by omega) (by omega)).bind fun a ⟨h1,h2,h3⟩=>?_
  refine Y.cond (fun hc=>?_) (fun hc=>?_)
  · simp only [Bool.and_eq_true,decide_eq_true_eq] at hc
    obtain ⟨d',rfl⟩:∃ d',d=d'+1:=⟨d - 1,by omega⟩
    have ih:=ih d' rfl
    have hm1:0≤Int.tmod a.1 2:=Int.tmod_nonneg _ (by omega)
    have hm2:Int.tmod a.1 2<2:=Int.tmod_lt_of_pos _ (by omega)
    refine Y.bind (P:=fun k=>(k=5∨k=6)∧k≠but) ?_ fun k ⟨hk,hkb⟩=>?_
    · rw [cK (by omega) (by omega)]
      refine Y.cond (fun hc=>Y.ret ?_) (fun hc=>Y.ret ?_)
      · have:=eq_of_beq hc;rw [cK (by omega) (by omega)];omega
      have:¬ 5+Int.tmod a.1 2=but:=by intro h;rw [h] at hc;simp at hc
      omega
    refine (eH h3 2 (by omega) (by omega)).bind fun b ⟨k1,k2,k3⟩=>?_
    rw [cK (r:=2+b.1) (by omega) (by omega)]
    refine Y.bind (P:=fun t:List Int×Int×List Zd=>SOK ⟨t.1,t.2.1⟩∧(2≤t.2.2.length∧t.2.2.length≤3)∧∀ x∈t.2.2,Good x (oG d')∧x.Kind≠k) ?_ fun t ⟨t1,t2,t3⟩=>?_
    · refine Y.loop (fun s:Int×List Int×Int×List Zd=>(0≤s.1∧s.1+s.2.2.2.length=2+b.1)∧SOK ⟨s.2.1,s.2.2.1⟩∧∀ x∈s.2.2.2,Good x (oG d')∧x.Kind≠k) (fun s=>s.1.toNat) ⟨⟨by dsimp only;omega,by simp⟩,k3,by simp⟩ (by dsimp only;omega) fun s hs=>?_
      obtain ⟨v,l,i,m⟩:=s
      obtain ⟨⟨s1,s2⟩,s3,s4⟩:=hs
      dsimp only at s1 s2 s3 s4 ⊢
      refine Y.cond (fun hc=>?_) (fun hc=>Y.ret ⟨s3,?_,s4⟩)
      · have hc:=of_decide_eq_true hc
        rw [cK (by omega) (by omega),show ((d'+1:Nat):Int) - 1=(d':Int) by omega]
        refine (ih _ k s3 (by omega)).bind fun x ⟨x1,x2,x3⟩=>?_
        rw [cX (by simp;omega) (by simp;omega),be,cK (by omega) (by omega)]
        refine Y.ret ⟨⟨⟨by dsimp only;omega,by simp;omega⟩,x3,fun z hz=>?_⟩,by dsimp only;omega⟩
        rcases List.mem_append.1 hz with hz | hz
        · exact s4 z hz
        rw [List.mem_singleton.1 hz];exact ⟨x1,x2⟩
      have hc:=of_decide_eq_false hc
      dsimp only;omega
    obtain ⟨l,i,m⟩:=t
    dsimp only at t1 t2 t3 ⊢
    refine Y.ret ⟨⟨⟨_,zY,by simp,by dsimp only;omega,fun z hz=>(t3 z hz).1.ok⟩,?_,?_⟩,hkb,t1⟩
    · rw [gS]
      have e1:(k == 5||k == 6)=true:=by rcases hk with rfl | rfl <;> rfl
      have e2:km ⟨k,0,[],0,0,ByteArray.empty,m⟩=true:=by rcases hk with rfl | rfl <;> rfl
      rw [e2]
      simp only [e1,bQ,Bool.true_and,Bool.and_eq_true,decide_eq_true_eq,List.all_eq_true,Bool.not_eq_true',beq_eq_false_iff_ne,ne_eq]
      exact ⟨by omega,fun z hz=>⟨(t3 z hz).2,(t3 z hz).1.valid⟩⟩
    rw [pV]
    have:=Ci fun z hz=>(t3 z hz).1.size
    have h3:m.length*oG d'≤3*oG d':=Nat.mul_le_mul_right _ t2.2
    dsimp only [oG];omega
  have hpos:=Fl d
  refine Y.bind (P:=fun q:(List Int×Int)⊕(Zd×Zk)=>match q with | .inl s=>SOK ⟨s.1,s.2⟩ | .inr r=>Good r.1 (oG d)∧r.1.Kind≠but∧SOK r.2) ?_ fun q hq=>?_
  · refine Y.cond (fun _=>?_) fun _=>Y.cond (fun _=>?_) fun _=>Y.cond (fun _=>?_) fun _=>Y.ret h3
    · refine (Fi h3).bind fun b ⟨k1,k2⟩=>Y.ret (yr hb hpos k2 zY (by simp) rfl ⟨by simp,by simp⟩ ?_)
      rw [gS];simp only [km,jO,k1];rfl
    · refine (eH h3 5 (by omega) (by omega)).bind fun b ⟨k1,k2,k3⟩=>?_
      obtain ⟨j,hj⟩:∃ j:Nat,b.1=(j:Int):=⟨b.1.toNat,by omega⟩
      have hj5:j<5:=by omega
      refine Y.idx hj hj5 (Y.ret ?_)
      have hw:∀ j:Nat,(h:j<5)→gW [(⟨#[97,110,100]⟩:ByteArray),(⟨#[99,117,116]⟩:ByteArray),(⟨#[111,114]⟩:ByteArray),(⟨#[115,101,119]⟩:ByteArray),(⟨#[115,112,105,110]⟩:ByteArray)][j]=true:=by
        intro j h
        match j,h with
        | 0,_=>rfl
        | 1,_=>rfl
        | 2,_=>rfl
        | 3,_=>rfl
        | 4,_=>rfl
      have hw2:=hw j hj5
      refine yr hb hpos k3 zY ?_ rfl ⟨by simp,by simp⟩ ?_
      · have h12:=hw2
        simp only [gW,Bool.and_eq_true,decide_eq_true_eq] at h12
        dsimp only;omega
      rw [gS];simp only [km,jO,hw2];rfl
    refine (eH h3 3 (by omega) (by omega)).bind fun b ⟨k1,k2,k3⟩=>Y.cond (fun _=>Y.ret (yr hb hpos k3 zY (by simp) rfl ⟨by simp,by simp⟩ ?_)) fun _=>Y.ret k3
    rw [gS];rfl
  cases q with
  | inr r=>exact Y.ret hq
  | inl s =>
    obtain ⟨l,i⟩:=s
    dsimp only at hq ⊢
    refine (eH hq 3 (by omega) (by omega)).bind fun b ⟨k1,k2,k3⟩=>?_
    refine (eH k3 3 (by omega) (by omega)).bind fun c ⟨c1,c2,c3⟩=>?_
    refine Y.bind (P:=fun t:List Int×Int×List ByteArray=>SOK ⟨t.1,t.2.1⟩∧StrsOk t.2.2∧kR t.2.2=true) ?_ fun t ⟨t1,t2,t3⟩=>?_
    · refine Y.cond (fun _=>?_) fun _=>Y.ret ⟨c3,zY,rfl⟩
      refine (eH c3 2 (by omega) (by omega)).bind fun e ⟨e1,e2,e3⟩=>?_
      obtain he | he:e.1=0∨e.1=1:=by omega
      · rw [he];exact Y.ret ⟨e3,(show StrsOk [(⟨#[57,52,48,49]⟩:ByteArray),(⟨#[57,53,48,50]⟩:ByteArray)] from ⟨by decide,by decide⟩),(show kR [(⟨#[57,52,48,49]⟩:ByteArray),(⟨#[57,53,48,50]⟩:ByteArray)]=true by kernel_rfl)⟩
      rw [he];exact Y.ret ⟨e3,(show StrsOk [(⟨#[57,53,48,50]⟩:ByteArray)] from ⟨by decide,by decide⟩),(show kR [(⟨#[57,53,48,50]⟩:ByteArray)]=true by kernel_rfl)⟩
    obtain ⟨l2,i2,ex⟩:=t
    dsimp only at t1 t2 t3 ⊢
    refine (eH t1 3 (by omega) (by omega)).bind fun e ⟨e1,e2,e3⟩=>?_
    refine Y.bind (P:=fun t:List Int×Int×Int=>SOK ⟨t.1,t.2.1⟩∧Fd t.2.2=true) (Y.cond (fun _=>(Fi e3).bind fun f ⟨f1,f2⟩=>Y.ret ⟨f2,f1⟩) fun _=>Y.ret ⟨e3,rfl⟩) fun u ⟨u1,u2⟩=>?_
    obtain ⟨l3,i3,tol⟩:=u
    dsimp only at u1 u2 ⊢
    refine Y.ret (yr hb hpos u1 t2 (by simp) rfl ⟨by simp,by simp⟩ ?_)
    rw [cK (r:=2*b.1) (by omega) (by omega),cK (by omega) (by omega),gS]
    simp only [km,jO,t3,u2]
    obtain hb0 | hb0 | hb0:b.1=0∨b.1=1∨b.1=2:=by omega
    · rw [hb0];rfl
    · rw [hb0];rfl
    rw [hb0];rfl
theorem rule_Y (d:Nat):∀ (n:Nat) (p:Zk) (but:Int),d<n→d≤10→SOK p→(but=0∨but=5∨but=6)→Y (eF n p but (d:Int)) (fun r=>Good r.1 (oG d)∧r.1.Kind≠but∧SOK r.2):=by
  induction d with
  | zero=>exact fun n p but h1 h2 hp hb=>xe hp hb h1 (by omega) (fun d h=>absurd h (by omega))
  | succ d ih=>exact fun n p but h1 h2 hp hb=>xe hp hb h1 (by omega) (fun d' h q but' hq hb'=>by
      obtain rfl:d'=d:=by omega
      exact ih _ q but' (by omega) (by omega) hq hb')
theorem Fm (x y z:ByteArray) (h1:iM x y=true) (h2:iM y z=true):iM x z=true:=by
 rw [pJ] at *;exact det (List.lt_trans (of_decide_eq_true h1) (of_decide_eq_true h2))
theorem Cj (x:ByteArray):iM x x=false:=by rw [pJ];exact cw (List.lt_irrefl _)
theorem ly:∀ l:List ByteArray,ku iM l=true↔l.Pairwise (fun a b=>iM a b=true)
 | []=>by simp [ku]
 | [a]=>by simp [ku]
 | a::b::l=>by
  rw [ku,Bool.and_eq_true,ly (b::l)]
  constructor
  ·rintro ⟨h1,h2⟩
   refine List.pairwise_cons.2 ⟨fun c hc=>?_,h2⟩
   rcases List.mem_cons.1 hc with rfl | hc
   ·exact h1
   exact Fm _ _ _ h1 ((List.pairwise_cons.1 h2).1 c hc)
  intro h;obtain ⟨h1,h2⟩:=List.pairwise_cons.1 h;exact ⟨h1 b (by simp),h2⟩
theorem oH {α:Type} {l C:List α} {v:Nat} (h:l.Sublist (C.take v)) (hv:v<C.length):(l++[C[v]]).Sublist (C.take (v+1))∧l.Sublist (C.take (v+1)):=by
 have e:C.take (v+1)=C.take v++[C[v]]:=by rw [List.take_add_one,List.getElem?_eq_getElem hv];rfl
 rw [e]
 exact ⟨h.append (List.Sublist.refl _),h.trans (List.sublist_append_left _ _)⟩
def C6:List ByteArray:=[(⟨#[65,65]⟩:ByteArray),(⟨#[66,66]⟩:ByteArray),(⟨#[67,67]⟩:ByteArray),(⟨#[68,68]⟩:ByteArray),(⟨#[69,69]⟩:ByteArray),(⟨#[70,70]⟩:ByteArray)]
def P5:List ByteArray:=[(⟨#[57,52]⟩:ByteArray),(⟨#[57,52,48,49]⟩:ByteArray),(⟨#[57,52,48,49,48,50]⟩:ByteArray),(⟨#[57,53]⟩:ByteArray),(⟨#[57,53,48,50]⟩:ByteArray)]
theorem C6_ok:C6.all ml=true∧ku iM C6=true∧(C6.all fun s=>decide (s.size≤100))=true:=⟨by kernel_rfl,by kernel_rfl,by kernel_rfl⟩
theorem P5_ok:P5.all AE=true∧ku iM P5=true∧(P5.all fun s=>decide (s.size≤100))=true:=⟨by kernel_rfl,by kernel_rfl,by kernel_rfl⟩
structure MA (i:Nat) (a:Zb):Prop where
 id:a.ID=2+5*(i:Int)
 kind:1≤a.Kind∧a.Kind≤3
 par:a.Parties.Sublist C6
 pre:(a.Rules.map (·.Prefix)).Sublist P5
 good:∀ x∈a.Rules,Good x.Rule (oG 1)
 ne:a.Rules≠[]
structure MAs (l:List Zb):Prop where
 len:1≤l.length∧l.length≤4
 all:∀ (i:Nat) (a:Zb),l[i]?=some a→MA i a
theorem P5_len {a:Zb} (h:(a.Rules.map (·.Prefix)).Sublist P5):a.Rules.length≤5:=by have:=h.length_le;simpa [P5] using this
theorem MA.strs {i:Nat} {a:Zb} (h:MA i a):StrsOk a.Parties:=by
 refine ⟨?_,fun s hs=>?_⟩
 ·have:=h.par.length_le;have h6:C6.length=6:=rfl;omega
 have:=of_decide_eq_true (List.all_eq_true.1 C6_ok.2.2 s (h.par.subset hs));omega
theorem MA.aok {i:Nat} {a:Zb} (h:MA i a):AOk a:=by
 refine ⟨h.strs,by have:=P5_len h.pre;omega,fun x hx=>?_⟩
 have hp:=of_decide_eq_true (List.all_eq_true.1 P5_ok.2.2 x.Prefix (h.pre.subset (List.mem_map_of_mem hx)))
 have hg:=h.good x hx
 exact ⟨by omega,hg.ok,by have h1:=rS x.Rule;have h2:=hg.size;simp only [oG] at h2;omega⟩
theorem MAs.ok {l:List Zb} (h:MAs l):ASOk l:=⟨by have:=h.len;omega,fun a ha=>by
 obtain ⟨i,hi,rfl⟩:=List.getElem_of_mem ha;exact (h.all i _ (List.getElem?_eq_getElem hi)).aok⟩
theorem MA.parties {i:Nat} {a:Zb} (h:MA i a):iO a.Parties=true:=by
 unfold iO
 rw [Bool.and_eq_true]
 refine ⟨List.all_eq_true.2 fun s hs=>List.all_eq_true.1 C6_ok.1 s (h.par.subset hs),?_⟩
 rw [ly];exact List.Pairwise.sublist h.par ((ly _).1 C6_ok.2.1)
theorem MA.rulesE {i:Nat} {a:Zb} (h:MA i a):rulesE a.Rules=0:=by
 have:bW (lP a.Rules) a.Rules 0=none:=by
  rw [mE]
  intro k x hx
  obtain ⟨hk,rfl⟩:=List.getElem?_eq_some_iff.1 hx
  have hmem:a.Rules[k]∈a.Rules:=List.getElem_mem hk
  have h1:=List.all_eq_true.1 P5_ok.1 _ (h.pre.subset (List.mem_map_of_mem hmem))
  have hg:=h.good _ hmem
  have h2:kn a.Rules[k].Rule=0:=(oF _).2 ⟨by have:=hg.size;simp only [oG] at this;omega,hg.valid⟩
  unfold lP
  rw [Nat.zero_add,h1,h2]
  have hpw:=List.Pairwise.sublist h.pre ((ly _).1 P5_ok.2.1)
  by_cases h0:0<k
  ·rw [dF (show k - 1<a.Rules.length by omega)]
   have:=(List.pairwise_iff_getElem.1 (List.pairwise_map.1 hpw)) (k - 1) k (by omega) hk (by omega)
   rw [this];simp
  simp [h0]
 unfold SX.rulesE;rw [this];rfl
theorem MAs.valid {l:List Zb} (h:MAs l):rT l=0:=by
 have:bW (t6 l) l 0=none:=by
  rw [mE]
  intro k x hx
  obtain ⟨hk,rfl⟩:=List.getElem?_eq_some_iff.1 hx
  have hm:=h.all k _ hx
  have hl:=h.len
  unfold t6
  rw [Nat.zero_add,hm.parties,hm.rulesE]
  have i1:(decide (l[k].ID<1)||decide (1000<l[k].ID)||decide (l[k].Kind<1)||decide (3<l[k].Kind))=false:=by
   have e1:=hm.id;have e2:=hm.kind
   rw [cw (by omega),cw (by omega),cw (by omega),cw (by omega)];rfl
  have i2:(decide (12<l[k].Parties.length)||decide (12<l[k].Rules.length))=false:=by
   have e1:=hm.par.length_le;have e2:=P5_len hm.pre;have h6:C6.length=6:=rfl
   rw [cw (by omega),cw (by omega)];rfl
  rw [i1,i2]
  by_cases h0:0<k
  ·rw [dF (show k - 1<l.length by omega)]
   have hm2:=h.all (k - 1) _ (List.getElem?_eq_getElem (by omega))
   have e1:=hm.id;have e2:=hm2.id
   rw [cw (show ¬ l[k].ID≤(l[k-1]'(by omega)).ID by omega)];simp
  simp [h0]
 unfold rT
 rw [det (by have:=h.len;omega),this];rfl
theorem rU:gK=some C6:=rfl
def bitI (m:Int) (v:Int):Bool:=dc .i64 (cx .i64 m v) 1 == 1
theorem Fo:((List.range 31).all fun m=>(List.range 5).any fun v=>bitI ((m+1:Nat):Int) (v:Int))=true:=by kernel_rfl
theorem has_bit {m:Int} (h1:1≤m) (h2:m≤31):∃ v:Nat,v<5∧bitI m (v:Int)=true:=by
 have:=List.all_eq_true.1 Fo (m.toNat - 1) (List.mem_range.2 (by omega))
 obtain ⟨v,hv,h⟩:=List.any_eq_true.1 this
 rw [show ((m.toNat - 1+1:Nat):Int)=m by omega] at h
 exact ⟨v,List.mem_range.1 hv,h⟩
theorem oI (v:Nat):ll (v:Int)=some ():=by unfold ll;rw [if_pos (by omega)]
theorem Dj {c:Int→Bool}:Y (aW (S:=Int×(List ByteArray)) (T:=((List ByteArray))) (fun (v22,l24)=>cond (decide (v22<6)) (Option.bind (Option.bind (ll v22) (fun _=>cond (c v22) (Option.bind (gK) (fun x44=>Option.bind (idx x44 v22) (fun m45=>Option.bind (app 16 l24 [m45]) (fun l48=>some l48)))) (some l24))) (fun l40=>some (.inl ((IntKind.i64.wrap (v22+1)),l40)))) (some (.inr l24))) FUEL (0,([]:List ByteArray))) (fun l=>l.Sublist C6):=by
 refine Y.loop (fun s=>∃ v:Nat,s.1=(v:Int)∧v≤6∧s.2.Sublist (C6.take v)) (fun s=>(6 - s.1).toNat) ⟨0,rfl,by omega,List.Sublist.refl _⟩ (by dsimp only;omega) fun s hs=>?_
 obtain ⟨i,l⟩:=s
 obtain ⟨v,rfl,h1,h2⟩:=hs
 dsimp only at h2 ⊢
 have hlen:l.length≤6:=by have:=h2.length_le;have h6:C6.length=6:=rfl;rw [List.length_take] at this;omega
 refine Y.cond (fun hc=>?_) (fun hc=>Y.ret (h2.trans (List.take_sublist _ _)))
 have hv:v<6:=by have:=of_decide_eq_true hc;omega
 have hs:=oH h2 (show v<C6.length from hv)
 refine Y.bind (P:=fun m:List ByteArray=>m.Sublist (C6.take (v+1))) (Y.eq (oI v) (Y.cond (fun _=>?_) fun _=>Y.ret hs.2)) fun m hm=>Y.ret ⟨⟨v+1,?_,by omega,hm⟩,?_⟩
 ·refine Y.eq rU (Y.idx rfl (show v<C6.length from hv) ?_)
  rw [cX (by simp;omega) (by simp;omega)];exact Y.ret hs.1
 ·show IntKind.i64.wrap ((v:Int)+1)=_;rw [cK (by omega) (by omega)];omega
 show (6 - IntKind.i64.wrap ((v:Int)+1)).toNat<(6 - (v:Int)).toNat;rw [cK (by omega) (by omega)];omega
theorem yt (p0:List Int):Y (ic p0) MAs:=by
 unfold ic
 refine (cut_Y p0 200 (by omega) (by omega)).bind fun x1 hx1=>?_
 refine (eH hx1 4 (by omega) (by omega)).bind fun x3 ⟨a1,a2,a3⟩=>?_
 rw [cK (r:=1+x3.1) (by omega) (by omega)]
 refine Y.bind (P:=MAs) ?_ fun l hl=>Y.ret hl
 refine Y.loop (fun s:List Zb×Int×List Int×Int=>(s.2.1=(s.1.length:Int)∧s.2.1≤1+x3.1)∧SOK ⟨s.2.2.1,s.2.2.2⟩∧∀ i a,s.1[i]?=some a→MA i a) (fun s=>(1+x3.1 - s.2.1).toNat) ⟨⟨rfl,by dsimp only;omega⟩,a3,by simp⟩ (by dsimp only;omega) fun s hs=>?_
 obtain ⟨l5,v8,l9,v10⟩:=s
 obtain ⟨⟨h1,h2⟩,h3,h4⟩:=hs
 dsimp only at h1 h2 h3 h4 ⊢
 refine Y.cond (fun hc=>?_) (fun hc=>Y.ret ⟨?_,h4⟩)
 rotate_left
 ·have hc:=of_decide_eq_false hc;omega
 have hc:=of_decide_eq_true hc
 refine (eH h3 3 (by omega) (by omega)).bind fun x19 ⟨b1,b2,b3⟩=>?_
 refine (eH b3 64 (by omega) (by omega)).bind fun x21 ⟨c1,c2,c3⟩=>?_
 refine (Dj (c:=fun v=>dc .i64 (cx .i64 (nY .i64 x21.1 3) v) 1 == 1)).bind fun l31 hl31=>?_
 refine Y.bind (P:=fun r:Int×Zk=>SOK r.2) (Y.gdp (fun _=>(eH c3 2 (by omega) (by omega)).mono fun r hr=>hr.2.2) fun _=>c3) fun x53 hx53=>?_
 refine Y.bind (P:=fun t:List Int×Int×List Zh=>SOK ⟨t.1,t.2.1⟩∧(t.2.2.map (·.Prefix)).Sublist P5∧(∀ x∈t.2.2,Good x.Rule (oG 1))∧t.2.2≠[]) ?_ fun t ⟨t1,t2,t3,t4⟩=>?_
 ·refine Y.cond (fun hc2=>?_) fun hc2=>?_
  ·simp only [Bool.and_eq_true,decide_eq_true_eq] at hc2
   obtain ⟨j,hj⟩:∃ j:Nat,v8 - 1=(j:Int):=⟨(v8 - 1).toNat,by omega⟩
   refine Y.idx (n:=j) (by rw [cK (by omega) (by omega)];exact hj) (show j<l5.length by omega) ?_
   have:=h4 j _ (List.getElem?_eq_getElem (by omega))
   exact Y.ret ⟨hx53,this.pre,this.good,this.ne⟩
  refine (eH hx53 31 (by omega) (by omega)).bind fun x64 ⟨d1,d2,d3⟩=>?_
  refine Y.bind (P:=fun t:List Int×Int×List Zh=>SOK ⟨t.1,t.2.1⟩∧(t.2.2.map (·.Prefix)).Sublist P5∧(∀ x∈t.2.2,Good x.Rule (oG 1))∧t.2.2≠[]) ?_ fun t ht=>Y.ret ht
  refine Y.loop (fun s:Int×List Int×Int×List Zh=>∃ v:Nat,s.1=(v:Int)∧v≤5∧SOK ⟨s.2.1,s.2.2.1⟩∧(s.2.2.2.map (·.Prefix)).Sublist (P5.take v)∧(∀ x∈s.2.2.2,Good x.Rule (oG 1))∧(s.2.2.2≠[]∨∀ u:Nat,u<v→bitI (1+x64.1) (u:Int)=false)) (fun s=>(5 - s.1).toNat) ⟨0,rfl,by omega,d3,List.Sublist.refl _,by simp,.inr (fun u hu=>absurd hu (Nat.not_lt_zero _))⟩ (by dsimp only;omega) fun s hs=>?_
  obtain ⟨i,l,k,m⟩:=s
  obtain ⟨v,rfl,e1,e2,e3,e4,e5⟩:=hs
  dsimp only at e2 e3 e4 e5 ⊢
  have hlen:m.length≤5:=by have:=e3.length_le;have h6:P5.length=5:=rfl;rw [List.length_take,List.length_map] at this;omega
  refine Y.cond (fun hc3=>?_) (fun hc3=>Y.ret ⟨e2,e3.trans (List.take_sublist _ _),e4,?_⟩)
  rotate_left
  ·have h5:v=5:=by have:=of_decide_eq_false hc3;omega
   rcases e5 with e5 | e5
   ·exact e5
   obtain ⟨u,hu,hb⟩:=has_bit (m:=1+x64.1) (by omega) (by omega)
   rw [e5 u (by omega)] at hb;cases hb
  have hv:v<5:=by have:=of_decide_eq_true hc3;omega
  have hs:=oH e3 (show v<P5.length from hv)
  refine Y.bind (P:=fun t:List Int×Int×List Zh=>SOK ⟨t.1,t.2.1⟩∧(t.2.2.map (·.Prefix)).Sublist (P5.take (v+1))∧(∀ x∈t.2.2,Good x.Rule (oG 1))∧(t.2.2≠[]∨∀ u:Nat,u<v+1→bitI (1+x64.1) (u:Int)=false)) (Y.eq (oI v) (Y.cond (fun _=>?_) fun hbit=>Y.ret ⟨e2,hs.2,e4,?_⟩)) fun t ⟨t1,t2,t3,t4⟩=>Y.ret ⟨⟨v+1,?_,by omega,t1,t2,t3,t4⟩,?_⟩
  ·refine Y.idx (xs:=P5) rfl (show v<P5.length from hv) ?_
   refine (rule_Y 1 FUEL ⟨l,k⟩ 0 (i6 (by omega)) (by omega) e2 (.inl rfl)).bind fun r ⟨r1,r2,r3⟩=>?_
   rw [cX (by simp;omega) (by simp;omega)]
   refine Y.ret ⟨r3,by rw [List.map_append];exact hs.1,fun z hz=>?_,.inl (by simp)⟩
   rcases List.mem_append.1 hz with hz | hz
   ·exact e4 z hz
   rw [List.mem_singleton.1 hz];exact r1
  ·rcases e5 with e5 | e5
   ·exact .inl e5
   refine .inr fun u hu=>?_
   rcases Nat.lt_or_ge u v with h | h
   ·exact e5 u h
   obtain rfl:u=v:=by omega
   rw [cK (by omega) (by omega)] at hbit;exact hbit
  ·show IntKind.i64.wrap ((v:Int)+1)=_;rw [cK (by omega) (by omega)];omega
  show (5 - IntKind.i64.wrap ((v:Int)+1)).toNat<(5 - (v:Int)).toNat;rw [cK (by omega) (by omega)];omega
 obtain ⟨l55,v56,l58⟩:=t
 dsimp only at t1 t2 t3 ⊢
 rw [cX (by simp;omega) (by simp;omega),be,cK (r:=v8+1) (by omega) (by omega),cK (r:=1+x19.1) (by omega) (by omega),cK (r:=5*v8) (by omega) (by omega),cK (by omega) (by omega)]
 refine Y.ret ⟨⟨⟨by simp;omega,by dsimp only;omega⟩,t1,fun i a ha=>?_⟩,by dsimp only;omega⟩
 rw [List.getElem?_append] at ha
 split at ha
 ·exact h4 i a ha
 rename_i hi
 have hi0:i - l5.length=0:=by have:=(List.getElem?_eq_some_iff.1 ha).1;simp at this;omega
 rw [hi0] at ha
 simp only [List.getElem?_cons_zero,eE] at ha
 subst ha
 exact ⟨by dsimp only;omega,⟨by dsimp only;omega,by dsimp only;omega⟩,hl31,t2,t3,t4⟩
structure RawA (a:Zb):Prop where
 par:StrsOk a.Parties
 len:a.Rules.length≤140737488355328
 rules:∀ x∈a.Rules,x.Prefix.size≤140737488355328∧ROk x.Rule
theorem Ck {m:Nat}:∀ {l:List Zd},(∀ a∈l,sO a≤m)→tZ l≤m
 | [],_=>by rw [tZ];omega
 | a::l,h=>by rw [tZ];have h1:=h a (by simp);have h2:=Ck (l:=l) fun b hb=>h b (by simp [hb]);omega
theorem Cl {α:Type} {L:List α} (hL:L.length≤4611686018427387904) {body:List α×Int→Option ((List α×Int)⊕List α)} (P Q:α→Prop) (hP:∀ x∈L,P x)
    (step:∀ (l:List α) (k:Nat) (hk:k<l.length),l.length=L.length→P l[k]→Y (body (l,(k:Int))) (fun o=>∃ y,Q y∧o=.inl (l.set k y,((k+1:Nat):Int))))
    (hend:∀ l,l.length=L.length→body (l,(L.length:Int))=some (.inr l)):Y (aW body FUEL (L,0)) (fun r=>r.length=L.length∧∀ x∈r,Q x):=by
  refine Y.loop (fun s=>∃ v:Nat,s.2=(v:Int)∧v≤L.length∧s.1.length=L.length∧(∀ (i:Nat) (x:α),s.1[i]?=some x→i<v→Q x)∧(∀ (i:Nat) (x:α),s.1[i]?=some x→v≤i→P x)) (fun s=>L.length - s.2.toNat) ⟨0,rfl,by omega,rfl,by omega,fun i x hx _=>hP x (List.mem_of_getElem? hx)⟩ (by dsimp only;omega) fun s hs=>?_
  obtain ⟨l,i⟩:=s
  obtain ⟨v,rfl,h1,h2,h3,h4⟩:=hs
  dsimp only at h2 h3 h4 ⊢
  rcases Nat.lt_or_ge v L.length with hv | hv
  · have hk:v<l.length:=by omega
    refine (step l v hk h2 (h4 v _ (List.getElem?_eq_getElem hk) (Nat.le_refl _))).mono fun o ⟨y,hy,ho⟩=>?_
    subst ho
    refine ⟨⟨v+1,rfl,by omega,by simp [h2],fun i x hx hi=>?_,fun i x hx hi=>?_⟩,by dsimp only;omega⟩
    · rw [List.getElem?_set] at hx
      split at hx
      · injection hx with hx;exact hx ▸ hy
      exact h3 i x hx (by omega)
    rw [List.getElem?_set] at hx
    rw [if_neg (by omega)] at hx
    exact h4 i x hx (by omega)
  have e:v=L.length:=by omega
  subst e
  rw [hend l h2]
  refine Y.ret ⟨h2,fun x hx=>?_⟩
  obtain ⟨i,hi,rfl⟩:=List.getElem_of_mem hx
  exact h3 i _ (List.getElem?_eq_getElem hi) (by omega)
theorem gA {α:Type} {b:Nat} {l:List α} (h:l.length≤1000000000) (hb:b≤1000):app b ([]:List α) l=some l:=by
 have:=Nat.mul_le_mul h hb
 exact cX (by simpa using (by omega:l.length*b≤140737488355328)) (by simp;omega)
theorem Fq (d:Nat):∀ (n:Nat) (r:Zd),d<n→d≤100→ROk r→Y (jk n r (d:Int)) (fun r'=>ROk r'∧sO r'≤d+1):=by
 induction d with
 | zero =>
  intro n r hn hd hr
  obtain ⟨n,rfl⟩:∃ m,n=m+1:=⟨n - 1,by omega⟩
  show Y (gz (jk n) r 0) _
  unfold gz
  rw [show decide ((5:Int)≤0)=false from rfl,show decide ((0:Int)<1)=true from rfl]
  simp only [bu,bQ,be]
  rw [uh _ _ (by omega)]
  simp only [be]
  rw [show (0:Int).toNat=0 from rfl,List.take_zero,gA (by simp) (by omega),be]
  refine Y.bind (Cl (L:=([]:List Zd)) (by simp) (fun _=>True) (fun _=>False) (by simp) (fun l k hk hl _=>by simp at hl;simp [hl] at hk) (fun l hl=>by simp only [List.length_nil];rfl)) fun l ⟨h1,h2⟩=>Y.ret ⟨?_,?_⟩
  ·exact ⟨_,hr.ex,hr.nm,by dsimp only;simp at h1;simp [h1],fun a ha=>(h2 a ha).elim⟩
  ·rw [kj];dsimp only;simp at h1;rw [h1];rw [tZ];omega
 | succ d ih =>
  intro n r hn hd hr
  obtain ⟨n,rfl⟩:∃ m,n=m+1:=⟨n - 1,by omega⟩
  show Y (gz (jk n) r ((d+1:Nat):Int)) _
  unfold gz
  refine Y.bind (P:=fun v:Int=>0≤v∧v≤8) (Y.cond (fun _=>Y.ret (by omega)) fun _=>Y.ret (by omega)) fun v3 hv3=>?_
  refine Y.bind (P:=fun v:Int=>0≤v∧v≤8) (Y.cond (fun _=>Y.ret (by omega)) fun _=>Y.ret hv3) fun v6 hv6=>?_
  rw [uh _ _ hv6.1,be,gA (by simp;omega) (by omega),be]
  have hlen:(r.Args.take v6.toNat).length≤8:=by simp;omega
  refine Y.bind (Cl (L:=r.Args.take v6.toNat) (by omega) ROk (fun x=>ROk x∧sO x≤d+1) (fun x hx=>hr.arg (List.mem_of_mem_take hx)) (fun l k hk hl hp=>?_) (fun l hl=>by simp only [cP,bu])) fun l ⟨h1,h2⟩=>Y.ret ⟨?_,?_⟩
  ·rw [← hl]
   simp only [iq hk,bQ,aU hk,be,bP hk (show l.length≤4611686018427387904 by omega)]
   rw [cK (by omega) (by omega),show ((d+1:Nat):Int) - 1=(d:Int) by omega]
   refine (ih n _ (by omega) (by omega) hp).bind fun x hx=>Y.ret ⟨x,hx,by simp⟩
  ·exact ⟨_,hr.ex,hr.nm,by dsimp only;omega,fun a ha=>(h2 a ha).1⟩
  rw [kj];have:=Ck fun a ha=>(h2 a ha).2;dsimp only;omega
def k0 (W:World):Kr:=⟨W,fun b=>b<W.heap.size⟩
theorem bD {t:Nat} {z:Value} {s b:Nat} (h:ga t=some (z,s,b)):Tryz.prog.cellsOf t=s∧Tryz.prog.bytesOf t=b:=by
 obtain ⟨i,h1,h2,h3,h4⟩:=qj h
 constructor
 ·simp [Program.cellsOf,h1,h3]
 simp [Program.bytesOf,h1,h4]
def Light {H:Type} (t:Nat) (d:DataW H):Prop:=∀ n∈d.weights Tryz.prog t,n≤reachBytes
theorem Fr {H:Type} (d:DataW H):1≤Rows.uptoBulk d:=by
 cases d with
 | lit l=>cases l <;> simp [Rows.uptoBulk]
 | nil=>simp [Rows.uptoBulk]
 | ptr d=>simp [Rows.uptoBulk]
 | slice elems spare=>simp [Rows.uptoBulk]
 | agg parts=>simp [Rows.uptoBulk]
 | iface t d=>simp [Rows.uptoBulk]
 | map entries=>simp [Rows.uptoBulk]
 | held h=>simp [Rows.uptoBulk]
theorem Dk {H:Type} {d:DataW H} {l:List (DataW H)} (h:d∈l):Rows.uptoBulk d≤Rows.uptoBulkAll l:=by
 induction l with
 | nil=>cases h
 | cons x r ih =>
  simp only [Rows.uptoBulkAll]
  cases List.mem_cons.1 h with
  | inl e=>subst e;omega
  | inr e=>have:=ih e;omega
theorem Fs {H:Type} (l:List (DataW H)):l.length≤Rows.uptoBulkAll l:=by
 induction l with
 | nil=>simp [Rows.uptoBulkAll]
 | cons x r ih=>have:=Fr x;simp only [Rows.uptoBulkAll,List.length_cons];omega
def Opens {H:Type} (eh:TypeId×Value→H) {α:Type} (n:Nat) (t:Nat) (e:α→List PV) (B:α→Prop):Prop :=
 ∀ (W:World) (fuel:Nat) (cs:List Value) (x:DataW H×List MemPlace),DataW.trod eh Tryz.prog W 0 (fun _=>true) true fuel t cs=some x→Light t x.1→Rows.uptoBulk x.1≤n→∃ m,Rps (k0 W) (e m) cs∧One cs∧B m
section
variable {H:Type} {eh:TypeId×Value→H} {nb:Nat}
theorem Ft {v:Value} (h:v.oneCell'=true):One [v]:=fun u hu=>by rw [List.mem_singleton.1 hu];exact h
theorem Dl {t:Nat} {k:IntKind} (h:eN t=some (.int k)):Opens eh nb t (fun x:Int=>[.v (.int k x)]) (fun _=>True):=fun W fuel cs x hx _ _=>by
 obtain ⟨n,rfl,_,_⟩:=DataW.trod_int (bp h) hx
 exact ⟨n,.cons (.v rfl) .nil,Ft rfl,trivial⟩
theorem Bi {t:Nat} (h:eN t=some .bool):Opens eh nb t eT (fun _=>True):=fun W fuel cs x hx _ _=>by
 obtain ⟨n,rfl,_⟩:=DataW.trod_bool (bp h) hx
 exact ⟨n,.cons (.v rfl) .nil,Ft rfl,trivial⟩
theorem Dm {t:Nat} (h:eN t=some .string):Opens eh nb t eS (fun _=>True):=fun W fuel cs x hx hw _=>by
 obtain ⟨s,rfl,rfl,_⟩:=DataW.trod_string (bp h) hx
 have:=hw s.data.toList.length (by simp [DataW.weights])
 refine ⟨s,.cons (.v ?_) .nil,Ft rfl,trivial⟩
 unfold reachBytes at this
 have e:s.data.toList.length=s.size:=by simp
 exact Nat.ble_eq_true_of_le (by omega)
theorem pW {e:Nat}:∀ {l:List (DataW H)} {d:DataW H} {n:Nat},d∈l→n∈d.weights Tryz.prog e→n∈DataW.weightsAll Tryz.prog e l
 | d'::l,d,n,hd,hn=>by
  simp only [DataW.weightsAll,List.mem_append]
  rcases List.mem_cons.1 hd with rfl | hd
  ·exact .inl hn
  exact .inr (pW hd hn)
theorem Cm {α β:Type} {R:α→β→Prop}:∀ (l:List β),(∀ b∈l,∃ a,R a b)→∃ la:List α,la.length=l.length∧∀ (i:Nat) (b:β),l[i]?=some b→∃ a,la[i]?=some a∧R a b
 | [],_=>⟨[],rfl,fun i b h=>by simp at h⟩
 | b::l,h=>by
  obtain ⟨a,ha⟩:=h b (by simp)
  obtain ⟨la,h1,h2⟩:=Cm l fun b hb=>h b (by simp [hb])
  refine ⟨a::la,by simp [h1],fun i b' hb=>?_⟩
  cases i with
  | zero=>simp only [List.getElem?_cons_zero,eE] at hb;subst hb;exact ⟨a,rfl,ha⟩
  | succ i=>simp only [List.getElem?_cons_succ] at hb ⊢;exact h2 i b' hb
def OpensN {H:Type} (eh:TypeId×Value→H) {α:Type} (N n:Nat) (t:Nat) (e:α→List PV) (B:α→Prop):Prop :=
 ∀ (W:World) (fuel:Nat) (cs:List Value) (x:DataW H×List MemPlace),fuel<N→DataW.trod eh Tryz.prog W 0 (fun _=>true) true fuel t cs=some x→Light t x.1→Rows.uptoBulk x.1≤n→∃ m,Rps (k0 W) (e m) cs∧One cs∧B m
theorem rV {α:Type} {N t E sz by':Nat} {z:Value} {e:α→List PV} {B:α→Prop} (hu:eN t=some (.slice E)) (hi:ga E=some (z,sz,by')) (h0:Nat.blt 0 sz=true) (hb0:Nat.blt 0 by'=true) (hE:OpensN eh N nb E e B):OpensN eh (N+1) nb t (eL e) (fun l=>l.length*by'≤140737488355328∧l.length≤nb∧∀ x∈l,B x):=fun W fuel cs x hfu hx hw hbk=>by
 obtain ⟨hcz,hby⟩:=bD hi
 have hsz:0<sz:=by have:=h0;simp [Nat.blt] at this;omega
 have hbp:0<by':=by have:=hb0;simp [Nat.blt] at this;omega
 rcases DataW.trod_slice (bp hu) hx with ⟨rfl,_⟩ | ⟨a,len,cap,elems,rest,n,rfl,rfl,rfl,_,hl,hm,hlen,hel,_,_⟩
 ·exact ⟨[],.cons (.slc (sz:=sz) (css:=[]) Sl.nil (Nat.zero_le _) (fun _ h=>by cases h) .nil) .nil,Ft rfl,by simp,Nat.zero_le _,fun _ h=>by cases h⟩
 rw [hcz] at hel
 have hwl:(elems.length+rest.length)*by'≤reachBytes:=by
  have:=hw ((elems.length+rest.length)*by') (by simp only [DataW.weights,bp hu,hby,List.length_map];exact List.mem_cons_self)
  exact this
 have hn:len≤140737488355328:=by
  unfold reachBytes at hwl
  have:elems.length*1≤(elems.length+rest.length)*by':=Nat.mul_le_mul (by omega) (by omega)
  omega
 have hcells:∀ i∈List.range len,∃ p:α×List Value,W.cells? 0 (a.add (i*sz)) sz=some p.2∧Rps (k0 W) (e p.1) p.2∧One p.2∧B p.1:=fun i hi'=>by
  have hi':i<len:=List.mem_range.1 hi'
  have h1:=hel i hi'
  have hlt:i<elems.length:=by omega
  rw [List.getElem?_eq_getElem hlt] at h1
  obtain ⟨cs,h2,h3⟩:=Option.bind_eq_some_iff.1 h1
  obtain ⟨m,k1,k2,k3⟩:=hE W n cs _ (by omega) h3 (fun q hq=>hw q (by
   simp only [DataW.weights,bp hu]
   exact List.mem_cons_of_mem _ (List.mem_append.2 (.inl (pW (List.mem_map.2 ⟨_,List.getElem_mem hlt,rfl⟩) hq))))) (by
   have h9:=Dk (l:=elems.map (·.1)) (List.mem_map.2 ⟨_,List.getElem_mem hlt,rfl⟩)
   simp only [Rows.uptoBulk] at hbk
   omega)
  exact ⟨(m,cs),h2,k1,k2,k3⟩
 obtain ⟨ps,g1,g2⟩:=Cm (R:=fun (p:α×List Value) i=>W.cells? 0 (a.add (i*sz)) sz=some p.2∧Rps (k0 W) (e p.1) p.2∧One p.2∧B p.1) (List.range len) hcells
 rw [List.length_range] at g1
 have g3:∀ (i:Nat) (p:α×List Value),ps[i]?=some p→W.cells? 0 (a.add (i*sz)) sz=some p.2∧Rps (k0 W) (e p.1) p.2∧One p.2∧B p.1:=fun i p hp=>by
  have hlt:=(List.getElem?_eq_some_iff.1 hp).1
  obtain ⟨p',h1,h2⟩:=g2 i i (by rw [List.getElem?_range (by omega)])
  rw [hp] at h1;injection h1 with h1;subst h1;exact h2
 have hps:(ps.map (·.1)).length=len:=by simp [g1]
 refine ⟨ps.map (·.1),?_,Ft rfl,?_,?_,?_⟩
 rotate_left
 ·rw [hps]
  have h9:len*by'≤(elems.length+rest.length)*by':=Nat.mul_le_mul_right _ (by omega)
  unfold reachBytes at hwl
  omega
 ·rw [hps]
  have h9:=Fs (elems.map (·.1))
  rw [List.length_map] at h9
  simp only [Rows.uptoBulk] at hbk
  omega
 ·intro x hx
  obtain ⟨p,hp,rfl⟩:=List.mem_map.1 hx
  obtain ⟨i,hi',rfl⟩:=List.getElem_of_mem hp
  exact (g3 i _ (List.getElem?_eq_getElem hi')).2.2.2
 unfold eL;rw [hps]
 refine .cons (.slc (sz:=sz) (css:=ps.map (·.2)) ⟨by simp [g1],hl,?_,?_⟩ hn ?_ ?_) .nil
 ·intro c hc
  obtain ⟨p,hp,rfl⟩:=List.mem_map.1 hc
  obtain ⟨i,hi',rfl⟩:=List.getElem_of_mem hp
  exact (World.cells?_some (g3 i _ (List.getElem?_eq_getElem hi')).1).2.1
 ·intro hpos
  have hp0:0<ps.length:=by omega
  have hc0:=(World.cells?_some (g3 0 _ (List.getElem?_eq_getElem hp0)).1)
  have hread:=hc0.2.2 0 hsz
  have hspot:a.spot=none:=by
   have hlt:0<(ps[0]).2.length:=by rw [hc0.2.1];exact hsz
   rw [List.getElem?_eq_getElem hlt] at hread
   unfold World.cell? at hread
   cases hs:a.spot with
   | none=>rfl
   | some q =>
    have hsp:((a.add (0*sz)).add 0).spot.isSome=true:=by simp [Addr.add,hs]
    split at hread
    ·rw [if_pos hsp] at hread;cases hread
    cases hread
  obtain ⟨ab,ao,asp⟩:=a
  simp only at hspot;subst hspot
  refine ⟨ab,ao,rfl,fun j c hj=>?_⟩
  rw [List.getElem?_map] at hj
  cases hpj:ps[j]? with
  | none=>rw [hpj] at hj;cases hj
  | some p =>
   rw [hpj] at hj;simp only [Option.map_some,eE] at hj;subst hj
   have hcj:=World.cells?_some (g3 j p hpj).1
   refine ⟨?_,fun i u hu'=>?_⟩
   ·have h1:=hcj.2.2 0 hsz
    have hlt:0<p.2.length:=by rw [hcj.2.1];exact hsz
    rw [List.getElem?_eq_getElem hlt,hZ,hZ] at h1
    unfold World.cell? at h1
    split at h1
    ·rename_i heq
     have:=og heq
     exact this
    cases h1
   have hlt:i<sz:=by have:=(List.getElem?_eq_some_iff.1 hu').1;omega
   have h1:=hcj.2.2 i hlt
   rw [hZ,hZ] at h1
   rw [← hu'];exact h1
 ·intro c hc
  obtain ⟨p,hp,rfl⟩:=List.mem_map.1 hc
  obtain ⟨i,hi',rfl⟩:=List.getElem_of_mem hp
  exact (g3 i _ (List.getElem?_eq_getElem hi')).2.2.1
 have:∀ (l:List (α×List Value)),(∀ p∈l,Rps (k0 W) (e p.1) p.2)→Rpss (k0 W) ((l.map (·.1)).map e) (l.map (·.2)):=fun l=>by
  induction l with
  | nil=>exact fun _=>.nil
  | cons p l ih=>exact fun h=>.cons (h p (by simp)) (ih fun q hq=>h q (by simp [hq]))
 refine this ps fun p hp=>?_
 obtain ⟨i,hi',rfl⟩:=List.getElem_of_mem hp
 exact (g3 i _ (List.getElem?_eq_getElem hi')).2.1
theorem jQ {α:Type} {t E sz by':Nat} {z:Value} {e:α→List PV} {B:α→Prop} (hu:eN t=some (.slice E)) (hi:ga E=some (z,sz,by')) (h0:Nat.blt 0 sz=true) (hb0:Nat.blt 0 by'=true) (hE:Opens eh nb E e B):Opens eh nb t (eL e) (fun l=>l.length*by'≤140737488355328∧l.length≤nb∧∀ x∈l,B x):=fun W fuel cs x hx hw =>
 rV (N:=fuel) hu hi h0 hb0 (fun W' f' cs' x' _=>hE W' f' cs' x') W fuel cs x (Nat.lt_succ_self _) hx hw
theorem dp {κ:Kr} {cs:List Value} {off sz:Nat} {ps qs:List PV} (h:Rps κ ps ((cs.drop off).take sz)) (h2:Rps κ qs (cs.drop (off+sz))):Rps κ (ps++qs) (cs.drop off):=by
 have e:cs.drop off=(cs.drop off).take sz++cs.drop (off+sz):=by rw [← List.drop_drop,List.take_append_drop]
 rw [e];exact h.app h2
theorem dq {cs:List Value} {off sz:Nat} (h:One ((cs.drop off).take sz)) (h2:One (cs.drop (off+sz))):One (cs.drop off):=by
 have e:cs.drop off=(cs.drop off).take sz++cs.drop (off+sz):=by rw [← List.drop_drop,List.take_append_drop]
 rw [e];exact fun u hu=>(List.mem_append.1 hu).elim (h u) (h2 u)
theorem rW {κ:Kr} {cs:List Value} {off:Nat} (h:cs.length=off):Rps κ [] (cs.drop off):=by rw [List.drop_of_length_le (by omega)];exact .nil
theorem rX {cs:List Value} {off:Nat} (h:cs.length=off):One (cs.drop off):=by rw [List.drop_of_length_le (by omega)];exact fun _ h=>by cases h
end
end SX
end Go.Proofs.YtgmbmepakpcpaaaGreatDoor
set_option maxRecDepth 100000
namespace Go.Proofs.YtgmbmepakpcpaaaGreatDoor
open Go Go.ChangeShapes Go.WideShapes Go.RowKit
namespace SX
theorem own_ok:ownKnob Tryz.prog.godebug=none:=by kernel_rfl
theorem Bj:laidOutB Tryz.prog=true:=by kernel_rfl
def xf:List (String×DataW Unit):=[("unicode/utf8.acceptRanges",Rows.laid_unicode_utf8_acceptRanges),("customs/nomenclature.lengths",Rows.laid_customs_nomenclature_lengths),("unicode/utf8.first",Rows.laid_unicode_utf8_first)]
mutual
def Bk:DataW Unit→List Value
 | .lit (.int k n)=>[.int k n]
 | .agg ds=>Cn ds
 | _=>[]
def Cn:List (DataW Unit)→List Value
 | []=>[]
 | d::r=>Bk d++Cn r
end
def c_acc:Array Value:=(Bk Rows.laid_unicode_utf8_acceptRanges).toArray
def zZ:Array Value:=#[.int .i64 2,.int .i64 4,.int .i64 6,.int .i64 8]
def Co:Array Value:=(Bk Rows.laid_unicode_utf8_first).toArray
def Fu (h:Array Obj) (g:Nat) (cs:Array Value):Array Obj:=h.modify g fun | .cells _ t frozen=>.cells cs t frozen | o=>o
noncomputable def laidWorld (os:Os):World :=
 { World.holding Tryz.prog os ⟨#[],#[],[]⟩ with heap:=Fu (Fu (Fu (World.holding Tryz.prog os ⟨#[],#[],[]⟩).heap 4 c_acc) 0 zZ) 3 Co }
theorem vC:(xf.filter fun x=>x.2.handleName?.isSome)=[]:=by kernel_rfl
def Fv (w:World):MemPlace→Bool
 | .cell b off=>match w.heap[b]? with
  | some (.cells c _ (0,0))=>match c[off]? with | some (.iface _ _)=>false | _=>true
  | _=>false
 | _=>true
theorem Bl {w:World} {ps:List MemPlace} (h:ps.all (Fv w)=true):∀ b off,MemPlace.cell b off∈ps→(∃ c t,w.heap[b]?=some (.cells c t (0,0)))∧∀ u v,w.cell? ⟨b,off,none⟩=some (.iface u v)→Value.okWide Tryz.prog w .any 0 u v:=fun b off hm=>by
 have:=List.all_eq_true.1 h _ hm
 unfold Fv at this
 split at this
 ·rename_i b' off' e
  injection e with e1 e2;subst e1;subst e2
  split at this
  ·rename_i c t heq
   refine ⟨⟨c,t,heq⟩,fun u v hc=>?_⟩
   simp only [World.cell?,heq] at hc
   split at this
   ·cases this
   rename_i hno;exact absurd hc (by simpa using hno u v)
  cases this
 rename_i hno;exact absurd rfl (hno b off)
theorem wy (os:Os) (args:Array Value):laidMetH Tryz.prog xf ((laidWorld os).forCall (fun _ _=>0) ⟨#[],args,[]⟩).memory:=by
 unfold laidMetH
 rw [vC]
 refine ⟨_,⟨4,275,c_acc,8,[],_,by kernel_rfl,by kernel_rfl,by kernel_rfl,by kernel_rfl,⟨0,213,zZ,8,[],_,by kernel_rfl,by kernel_rfl,by kernel_rfl,by kernel_rfl,⟨3,272,Co,8,[],_,by kernel_rfl,by kernel_rfl,by kernel_rfl,by kernel_rfl,rfl,rfl⟩,rfl⟩,rfl⟩,?_,?_⟩
 ·exact of_decide_eq_true (by kernel_rfl)
 exact Bl (by kernel_rfl)
theorem nf {H:Type} {eh:TypeId×Value→H} {P:Program} {w:World} {base:Nat} {sp:Nat→Bool} {held:Bool} {fuel:Nat} {t:TypeId} {k:IntKind} {c:Value} {y:DataW H×List MemPlace} (ht:P.underlying t=some (.int k)) (h:DataW.trod eh P w base sp held fuel t [c]=some y):∃ n,c=.int k n∧y=(.lit (.int k n),[]):=by
 obtain ⟨n,h1,h2,_⟩:=DataW.trod_int ht h
 injection h1 with h1 _
 exact ⟨n,h1,h2⟩
theorem z2 {W:World} (h:laidMetH Tryz.prog xf W):GOK (k0 W):=by
 unfold laidMetH at h
 rw [vC] at h
 obtain ⟨ps,⟨_,_,_,_,_,_,_,_,_,_,⟨g,t,cs,fuel,p,q,hg,ht,hvar,hd,_,_⟩,_⟩,_⟩:=h
 obtain rfl:=Option.some.inj ((show Tryz.prog.globalNamed "customs/nomenclature.lengths" = some 0 by kernel_rfl).symm.trans hg)
 obtain rfl:=Option.some.inj ((show (Tryz.prog.globals[0]?).map (·.type)=some 213 by kernel_rfl).symm.trans ht)
 have hcs:cs=zZ:=by
  obtain ⟨l⟩:=cs
  cases fuel with
  | zero=>simp [DataW.trod] at hd
  | succ fuel =>
   have hc1:=(bD (t:=213) rfl).1
   have hc2:=(bD (t:=3) rfl).1
   have hu1:Tryz.prog.underlying 213=some (.array 4 3):=bp rfl
   simp only [DataW.trod,hu1,hc1,hc2] at hd
   split at hd
   ·rename_i hl
    obtain ⟨c0,c1,c2,c3,rfl⟩:∃ c0 c1 c2 c3,l=[c0,c1,c2,c3]:=by
     match l,hl with
     | [a,b,c,d],_=>exact ⟨a,b,c,d,rfl⟩
    have e:List.range 4=[0,1,2,3]:=rfl
    rw [e] at hd
    simp only [Option.map_eq_some_iff,List.mapM_cons,List.mapM_nil,Option.bind_eq_bind,Option.bind_eq_some_iff,Option.pure_def,eE] at hd
    obtain ⟨xs,⟨y0,h0,_,⟨y1,h1,_,⟨y2,h2,_,⟨y3,h3,_,rfl,rfl⟩,rfl⟩,rfl⟩,rfl⟩,hx⟩:=hd
    have hui:Tryz.prog.underlying 3=some (.int .i64):=bp rfl
    obtain ⟨n0,rfl,rfl⟩:=nf hui h0
    obtain ⟨n1,rfl,rfl⟩:=nf hui h1
    obtain ⟨n2,rfl,rfl⟩:=nf hui h2
    obtain ⟨n3,rfl,rfl⟩:=nf hui h3
    simp [Rows.laid_customs_nomenclature_lengths] at hx
    obtain ⟨⟨rfl,rfl,rfl,rfl⟩,_⟩:=hx
    rfl
   cases hd
 subst hcs
 have hcell:∀ j u,zZ[j]?=some u→W.cell? ⟨0,j,none⟩=some u:=fun j u hu=>by
  have:=World.var?_cell hg hvar j
  rw [this];exact hu
 refine ⟨?_,fun j u hu=>?_⟩
 ·have h0:=hcell 0 _ rfl
  unfold World.cell? at h0
  split at h0
  ·rename_i heq;exact og heq
  cases h0
 rw [Nat.zero_add];exact hcell j u (by simpa [zZ] using hu)
end SX
end Go.Proofs.YtgmbmepakpcpaaaGreatDoor
set_option maxRecDepth 100000
namespace Go.Proofs.YtgmbmepakpcpaaaGreatDoor
open Go Go.ChangeShapes Go.WideShapes Go.RowKit
namespace SX
theorem inv0 (W:World):Zp ⟨k0 W,[]⟩ [] (k0 W):=⟨.refl _ _,fun _ h=>h,(fun _ h=>by cases h),(fun _ h=>by cases h),.nil⟩
theorem Fw {W:World} {ρ:List Res} {κ:Kr} (h:Zp ⟨k0 W,[]⟩ ρ κ):Below W.heap.size W κ.w:=⟨h.le.os,h.le.tape,h.le.output,h.le.kle.size,fun k hk=>h.le.same k hk (by simp)⟩
section
variable {H:Type} {eh:TypeId×Value→H}
theorem wz {W W':World} (hb:Below W.heap.size W W') {ts:List TypeId} (hr:∀ t∈ts,Tryz.prog.readableRec t=true∧t<Tryz.prog.types.size):∀ {vs:List Value} {ds:List (DataW H)} {ps:List MemPlace},DataW.TrodAll eh Tryz.prog W 0 (fun _=>true) true ts vs ds ps→(∀ p∈ps,p.block<W.heap.size)→DataW.TrodAll eh Tryz.prog W' 0 (fun b=>decide (b<W.heap.size)) true ts vs ds ps:=by
 induction ts with
 | nil=>intro vs ds ps h _;cases vs <;> cases ds <;> first | exact h | cases h
 | cons t ts ih =>
  intro vs ds ps h hlt
  cases vs with
  | nil=>cases h
  | cons v vs =>
   cases ds with
   | nil=>cases h
   | cons d ds =>
    obtain ⟨p,q,h1,h2,e⟩:=h
    have ht:=hr t (by simp)
    exact ⟨p,q,Below.trod Bj ht.1 ht.2 h1 hb (fun x hx=>hlt x (by rw [e];simp [hx])),ih (fun u hu=>hr u (by simp [hu])) h2 (fun x hx=>hlt x (by rw [e];simp [hx])),e⟩
theorem readB {ts:List TypeId} (h:(ts.all fun t=>Tryz.prog.readableRec t&&Nat.blt t Tryz.prog.types.size)=true):∀ t∈ts,Tryz.prog.readableRec t=true∧t<Tryz.prog.types.size:=fun t ht=>by
 have:=List.all_eq_true.1 h t ht
 rw [Bool.and_eq_true] at this
 exact ⟨this.1,by have h2:=this.2;exact Nat.le_of_ble_eq_true h2⟩
theorem Fx {f tb:Nat} {fn:Func} {s:ChangeSpec} {W:World} {args:Array Value} {ds gs:List (DataW H)} {before:List MemPlace} {pargs:List PV}
    (hrd:∀ t∈fn.params.toList,Tryz.prog.readableRec t=true∧t<Tryz.prog.types.size) (hres:fn.resultTypes=#[tb]) (hub:Tryz.prog.underlying tb=some .bool) (hvars:s.vars=[])
    (hspec:s.fn H ds={ results:=[.lit (.bool true)],args:=ds }) (hW:DataW.Whole eh Tryz.prog fn.params.toList s.vars false W args.toList ds gs before) (hG:GOK (k0 W)) (hargs:Rps (k0 W) pargs args.toList) (hPF:PF f pargs (.v (.bool true))) :
    Calls Tryz.prog f args W fun e W'=>∃ v,e=.returned v∧s.post eh Tryz.prog fn false true false false W args v W':=by
  have hc:=(hPF (k0 W) args.toList hG hargs).2 (inv0 W)
  have e:args.toList.toArray=args:=by simp
  rw [e] at hc
  refine Calls.mono hc fun en W' ⟨v,ρ',κ',h1,h2,h3,h4,h5⟩=>⟨v,h1,?_⟩
  subst h2
  have hv:=h5.val
  subst hv
  have hb:=Fw h3
  have hW':=hW
  obtain ⟨p,q,hA,hV,rfl,hfz,hnd⟩:=hW
  rw [hvars] at hV
  obtain ⟨rfl,rfl⟩:gs=[]∧q=[]:=by
    cases gs with
    | nil=>exact ⟨rfl,hV⟩
    | cons g r=>exact absurd hV (by intro h;cases h)
  refine ⟨ds,[],_,[],p,[],hW',?_,?_,?_,hb.frame _,fun h=>by cases h⟩
  · rw [List.append_nil,hspec,hres];exact trodAll_mk1 (shut_bool hub true)
  · rw [List.append_nil,hspec];exact wz hb hrd hA (DataW.TrodAll.lt hA)
  rw [hvars,List.append_nil,hspec];rfl
theorem trodAll_cons {W:World} {t:TypeId} {ts:List TypeId} {vs:List Value} {ds:List (DataW H)} {ps:List MemPlace} (h:DataW.TrodAll eh Tryz.prog W 0 (fun _=>true) true (t::ts) vs ds ps):∃ v vs' d ds' p q,vs=v::vs'∧ds=d::ds'∧DataW.Trod eh Tryz.prog W 0 (fun _=>true) true t v d p∧DataW.TrodAll eh Tryz.prog W 0 (fun _=>true) true ts vs' ds' q:=by
 cases vs with
 | nil=>cases h
 | cons v vs =>
  cases ds with
  | nil=>cases h
  | cons d ds=>obtain ⟨p,q,h1,h2,_⟩:=h;exact ⟨v,vs,d,ds,p,q,rfl,rfl,h1,h2⟩
theorem trodAll_nil {W:World} {vs:List Value} {ds:List (DataW H)} {ps:List MemPlace} (h:DataW.TrodAll eh Tryz.prog W 0 (fun _=>true) true [] vs ds ps):vs=[]∧ds=[]:=by
 cases vs <;> cases ds <;> first | exact ⟨rfl,rfl⟩ | cases h
theorem z6 {l:Array TypeId} (h:(l.toList.all fun t => !Tryz.prog.wantsStandIn t)=true) {j:Nat} {t:TypeId} (ht:l[j]?=some t):Tryz.prog.wantsStandIn t=false:=by
 have:=List.all_eq_true.1 h t (by have:=Array.mem_of_getElem? ht;simpa using this)
 simpa using this
theorem light_head {t:Nat} {ts:List Nat} {d:DataW H} {ds:List (DataW H)} (h:(DataW.weightsEach Tryz.prog (t::ts) (d::ds)).all (· ≤ reachBytes)=true):Light t d∧(DataW.weightsEach Tryz.prog ts ds).all (· ≤ reachBytes)=true:=by
 simp only [DataW.weightsEach,List.all_append,Bool.and_eq_true] at h
 exact ⟨fun n hn=>by simpa using List.all_eq_true.1 h.1 n hn,h.2⟩
def vD:TypeDesc→Bool
 | .int _ | .bool | .string | .slice _=>true
 | _=>false
theorem not_agg {W:World} {r:Reach} {base t:Nat} {v:Value} {D:TypeDesc} (hu:eN t=some D) (hD:vD D=true) (h:Value.okWide Tryz.prog W r base t v):∀ cs,v.cells.toList=[cs]→v=cs:=fun cs he=>by
 cases v with
 | agg arr =>
  exfalso
  unfold Value.okWide at h
  rw [bp hu] at h
  cases D <;> first | (revert hD;simp [vD];done) | (simp only at h;unfold Cell.okWide at h;rw [bp hu] at h;simp only at h;unfold Cell.ok at h;rw [bp hu] at h;simp at h)
 | _=>simpa [Value.cells] using he
theorem qt {nb:Nat} {W:World} {r:Reach} {base t:Nat} {v:Value} {D:TypeDesc} {α:Type} {e:α→List PV} {B:α→Prop} {d:DataW H} {ps:List MemPlace} (hu:eN t=some D) (hD:vD D=true) (hO:Opens eh nb t e B) (h1:∀ m,∃ p,e m=[p]) (h:Value.okWide Tryz.prog W r base t v) (hd:DataW.Trod eh Tryz.prog W 0 (fun _=>true) true t v d ps) (hl:Light t d) (hn:Rows.uptoBulk d≤nb):∃ m,Rps (k0 W) (e m) [v]∧B m:=by
 obtain ⟨fuel,hf⟩:=hd
 obtain ⟨m,h2,_,h9⟩:=hO W fuel _ _ hf hl hn
 refine ⟨m,?_,h9⟩
 obtain ⟨p,hp⟩:=h1 m
 rw [hp] at h2
 generalize hc:v.cells.toList=cs at h2
 obtain ⟨w,ws,rfl,h3,h4⟩:=h2.cons_inv
 rw [h4.nil_inv] at hc
 rw [not_agg hu hD h w hc,hp]
 exact .cons h3 .nil
end
theorem ul {κ:Kr} {ps:List PV} {vs:List Value} {k:Nat} {s:ByteArray} (h:Rps κ ps vs) (hk:ps[k]?=some (.v (.string s))):s.size≤140737488355328:=by
 obtain ⟨v,_,h2⟩:=h.get hk
 exact Nat.le_of_ble_eq_true h2.ok
theorem rY {κ:Kr} {ps:List PV} {vs:List Value} {k mm:Nat} {xs:List (List PV)} (h:Rps κ ps vs) (hk:ps[k]?=some (.slc mm xs)):xs.length≤140737488355328:=by
 obtain ⟨v,_,h2⟩:=h.get hk
 cases h2 with
 | slc hs hb _ hss=>rw [hss.len,hs.len];exact hb
theorem pX {κ:Kr} {ps:List PV} {vs:List Value} {k mm:Nat} {xs:List (List PV)} {x:List PV} (h:Rps κ ps vs) (hk:ps[k]?=some (.slc mm xs)) (hx:x∈xs):∃ ds,Rps κ x ds:=by
 obtain ⟨v,_,h2⟩:=h.get hk
 cases h2 with
 | slc hs hb _ hss =>
  obtain ⟨i,hi,rfl⟩:=List.getElem_of_mem hx
  obtain ⟨ds,_,h3⟩:=hss.get (List.getElem?_eq_getElem hi)
  exact ⟨ds,h3⟩
end SX
end Go.Proofs.YtgmbmepakpcpaaaGreatDoor
namespace Go.Proofs.YtgmbmepakpcpaaaGreatDoor
namespace SX
open Go
theorem yu {κ:Kr} {ps:List PV} {vs:List Value} {k:Nat} {l:List ByteArray} (h:Rps κ ps vs) (hk:ps[k]?=some (pL eS l)):StrsOk l:=by
 refine ⟨by have:=rY h hk;simpa using this,fun s hs=>?_⟩
 obtain ⟨ds,hd⟩:=pX h hk (List.mem_map_of_mem (f:=eS) hs)
 exact ul (k:=0) hd rfl
mutual
theorem Fy {κ:Kr}:∀ (r:Zd) (ds:List Value),Rps κ (Zd.enc r) ds→ROk r
 | ⟨k,d,e,t,m,n,l⟩,ds,h=>by
  rw [Zd.enc_eq] at h
  have hl:l.length≤140737488355328:=by have:=rY (k:=6) h rfl;simpa using this
  exact ⟨_,yu (k:=2) h rfl,ul (k:=5) h rfl,hl,Cp l (fun a ha=>pX (k:=6) h rfl (List.mem_map_of_mem (f:=Zd.enc) ha))⟩
theorem Cp {κ:Kr}:∀ (l:List Zd),(∀ a∈l,∃ ds,Rps κ (Zd.enc a) ds)→∀ a∈l,ROk a
 | [],_,_,h=>by cases h
 | b::l,h,a,ha=>by
  rcases List.mem_cons.1 ha with e | ha
  ·obtain ⟨ds,hd⟩:=h b (by simp)
   rw [e];exact Fy b ds hd
  exact Cp l (fun a ha=>h a (by simp [ha])) a ha
end
theorem rfok_of {κ:Kr} {x:Zh} {ds:List Value} (h:Rps κ (Zh.enc x) ds):x.Prefix.size≤140737488355328∧ROk x.Rule:=by
 refine ⟨ul (k:=0) h rfl,?_⟩
 have:=h.drop 1
 exact Fy x.Rule _ (by rw [Zd.enc_eq];exact this)
theorem rawA_of {κ:Kr} {a:Zb} {ds:List Value} (h:Rps κ (Zb.enc a) ds):RawA a:=by
 refine ⟨yu (k:=2) h rfl,by have:=rY (k:=3) h rfl;simpa using this,fun x hx=>?_⟩
 obtain ⟨ds,hd⟩:=pX (k:=3) h rfl (List.mem_map_of_mem (f:=Zh.enc) hx)
 exact rfok_of hd
theorem Fz {κ:Kr} {l:List Zb} {ds:List Value} (h:Rps κ (eL Zb.enc l) ds):∀ a∈l,RawA a:=fun a ha=>by
 obtain ⟨ds,hd⟩:=pX (k:=0) h rfl (List.mem_map_of_mem (f:=Zb.enc) ha)
 exact rawA_of hd
def im (s p:ByteArray):Bool:=decide (p.size≤s.size)&&decide (s.extract 0 p.size=p)
theorem z7 (s p:ByteArray):Option.bind (gd (decide ((p.size:Int)≤(s.size:Int))) (jY s 0 (p.size:Int))) (fun s1=>some ((decide ((p.size:Int)≤(s.size:Int)))&&(decide (s1=p))))=some (im s p):=by
 unfold im
 by_cases h:p.size≤s.size
 ·rw [det h,show decide ((p.size:Int)≤(s.size:Int))=true from det (by omega),cI]
  unfold jY;rw [if_pos (by omega)];rfl
 rw [cw h,show decide ((p.size:Int)≤(s.size:Int))=false from cw (by omega)];rfl
theorem sP (s p:ByteArray):dw s p=some (im s p):=by
 unfold dw fQ;rw [z7];rfl
theorem z8 (s p:ByteArray):hC s p=some (im s p):=by unfold hC;exact z7 s p
def jn (l:List Zh) (code:ByteArray) (k:Nat) (x:Zh) (b:Option Nat):Option Nat :=
 cond (im code x.Prefix&&(match b with | none=>true | some j=>decide ((l.getD j x).Prefix.size<x.Prefix.size))) (some k) b
def noE {α:Type} (e:Empty):α:=nomatch e
def rZ (l:List Zh) (code:ByteArray):Option Nat:=wi (fun b=>b) noE (run (fun k x b=>(.inl (jn l code k x b):Option Nat⊕Empty)) l 0 none)
def t7:Option Nat→Int
 | none => -1
 | some j=>(j:Int)
theorem r7 (b:Option Nat):decide (t7 b<0)=b.isNone:=by
 cases b with
 | none=>rfl
 | some j=>exact cw (by simp only [t7];omega)
def inB (n:Nat) (b:Option Nat):Prop:=∀ j,b=some j→j<n
theorem yv {l:List Zh} {code:ByteArray} {k:Nat} {x:Zh} {b:Option Nat} (h:inB k b):inB (k+1) (jn l code k x b):=by
 intro j hj
 unfold jn at hj
 split at hj
 all_goals (cases hc:(im code x.Prefix&&_) <;> rw [hc] at hj <;> simp only [bQ,bu] at hj)
 all_goals first | (injection hj with hj;omega) | (have:=h j hj;omega) | (cases hj)
theorem FA (l:List Zh) (code:ByteArray):inB l.length (rZ l code):=by
 have key:∀ (m:List Zh) (i:Nat) (b:Option Nat),inB i b→inB (i+m.length) (wi (fun b=>b) noE (run (fun k x b=>(.inl (jn l code k x b):Option Nat⊕Empty)) m i b)):=by
  intro m
  induction m with
  | nil=>intro i b h;exact h
  | cons x m ih =>
   intro i b h
   rw [i7,List.length_cons,show i+(m.length+1)=(i+1)+m.length by omega]
   exact ih _ _ (yv h)
 have:=key l 0 none (fun j h=>by cases h)
 rwa [Nat.zero_add] at this
theorem Dn (l:List Zh) (code:ByteArray) (hl:l.length≤140737488355328) {β:Type} (K:Int→Option β):Option.bind (aW (S:=Int×Int) (T:=(Int)) (fun (v3,v4)=>cond (decide (v4<(l.length:Int))) (Option.bind (Option.bind (idx l v4) (fun m11=>Option.bind (dw code m11.Prefix) (fun x13=>Option.bind (gd (x13&&(!(decide (v3<0)))) (idx l v3)) (fun m14=>cond (x13&&((decide (v3<0))||(decide ((m14.Prefix.size:Int)<(m11.Prefix.size:Int))))) (some v4) (some v3))))) (fun v9=>some (.inl (v9,(IntKind.i64.wrap (v4+1)))))) (some (.inr v3))) FUEL ((-1),0)) K=K (t7 (rZ l code)):=by
 have h62:l.length≤4611686018427387904:=by omega
 refine (j0 (l:=l) h62 (fun i (b:Option Nat)=>(t7 b,i)) (fun k x b=>(.inl (jn l code k x b):Option Nat⊕Empty)) t7 noE (fun k b=>inB k b) none (fun j h=>by cases h) (fun k hk b hb=>⟨?_,fun b' h=>by injection h with h;rw [← h];exact yv hb⟩) (fun b hb=>by simp only [cP,bu])).trans ?_
 ·simp only [iq hk,bQ,aU hk,be,sP,bP hk h62,zN,r7]
  unfold jn
  cases hp:im code l[k].Prefix
  ·rfl
  cases b with
  | none=>rfl
  | some j =>
   have hj:=hb j rfl
   simp only [Option.isNone_some,Bool.not_false,Bool.and_true,cI,t7,aU (show j<l.length by omega),be,Bool.true_and,Bool.false_or,dF (show j<l.length by omega)]
   have e:decide (((l[j]'(by omega)).Prefix.size:Int)<(l[k].Prefix.size:Int))=decide ((l[j]'(by omega)).Prefix.size<l[k].Prefix.size):=decide_eq_decide.2 (by omega)
   rw [e]
   cases decide ((l[j]'(by omega)).Prefix.size<l[k].Prefix.size) <;> rfl
 unfold rZ
 congr 1
 cases run (fun k x b=>(.inl (jn l code k x b):Option Nat⊕Empty)) l 0 none with
 | inl b=>rfl
 | inr e=>nomatch e
theorem FB (l:List Zh) (code:ByteArray) (hl:l.length≤140737488355328) {β:Type} (K:Int→Option β):Option.bind (aW (S:=Int×Int) (T:=(Int)) (fun (v3,v4)=>cond (decide (v4<(l.length:Int))) (Option.bind (Option.bind (idx l v4) (fun m11=>Option.bind (hC code m11.Prefix) (fun x12=>Option.bind (gd (x12&&(!(decide (v3<0)))) (idx l v4)) (fun m13=>Option.bind (gd (x12&&(!(decide (v3<0)))) (idx l v3)) (fun m14=>cond (x12&&((decide (v3<0))||(decide ((m14.Prefix.size:Int)<(m13.Prefix.size:Int))))) (some v4) (some v3)))))) (fun v9=>some (.inl (v9,(IntKind.i64.wrap (v4+1)))))) (some (.inr v3))) FUEL ((-1),0)) K=K (t7 (rZ l code)):=by
 have h62:l.length≤4611686018427387904:=by omega
 refine (j0 (l:=l) h62 (fun i (b:Option Nat)=>(t7 b,i)) (fun k x b=>(.inl (jn l code k x b):Option Nat⊕Empty)) t7 noE (fun k b=>inB k b) none (fun j h=>by cases h) (fun k hk b hb=>⟨?_,fun b' h=>by injection h with h;rw [← h];exact yv hb⟩) (fun b hb=>by simp only [cP,bu])).trans ?_
 ·simp only [iq hk,bQ,aU hk,be,z8,bP hk h62,zN,r7]
  unfold jn
  cases hp:im code l[k].Prefix
  ·rfl
  cases b with
  | none=>rfl
  | some j =>
   have hj:=hb j rfl
   simp only [Option.isNone_some,Bool.not_false,Bool.and_true,cI,t7,aU (show j<l.length by omega),be,Bool.true_and,Bool.false_or,dF (show j<l.length by omega)]
   have e:decide (((l[j]'(by omega)).Prefix.size:Int)<(l[k].Prefix.size:Int))=decide ((l[j]'(by omega)).Prefix.size<l[k].Prefix.size):=decide_eq_decide.2 (by omega)
   rw [e]
   cases decide ((l[j]'(by omega)).Prefix.size<l[k].Prefix.size) <;> rfl
 unfold rZ
 congr 1
 cases run (fun k x b=>(.inl (jn l code k x b):Option Nat⊕Empty)) l 0 none with
 | inl b=>rfl
 | inr e=>nomatch e
def gU {α:Type} (z:α):Option α→α×Bool
 | some r=>(r,true)
 | none=>(z,false)
def Aa:Zd:=⟨0,0,[],0,0,ByteArray.empty,[]⟩
def fc (a:Zb) (code:ByteArray):Option Zd:=(rZ a.Rules code).bind fun j=>(a.Rules[j]?).map (·.Rule)
theorem oJ (a:Zb) (code:ByteArray):(rZ a.Rules code=none∧fc a code=none)∨∃ j,∃ h:j<a.Rules.length,rZ a.Rules code=some j∧fc a code=some a.Rules[j].Rule:=by
 cases hb:rZ a.Rules code with
 | none=>left;exact ⟨rfl,by unfold fc;rw [hb];rfl⟩
 | some j =>
  have hj:=FA a.Rules code j hb
  right;exact ⟨j,hj,rfl,by unfold fc;rw [hb,be,List.getElem?_eq_getElem hj];rfl⟩
theorem rq (a:Zb) (code:ByteArray) (hl:a.Rules.length≤140737488355328):gp a code=some (gU Aa (fc a code)):=by
 unfold gp
 rw [FB _ _ hl]
 rcases oJ a code with ⟨h1,h2⟩ | ⟨j,hj,h1,h2⟩
 ·rw [h1,h2];rfl
 rw [h1,h2,r7];simp only [Option.isNone_some,bu,t7,aU hj,be];rfl
theorem mt {r:Zd} (h:ee r=true):r.Args.length≤6∧(∀ a∈r.Args,ee a=true)∧r.Except.length≤6:=by
 rw [gS,Bool.and_eq_true] at h
 obtain ⟨h1,h2⟩:=h
 unfold km at h1
 simp only [Bool.and_eq_true,Bool.or_eq_true] at h1
 obtain ⟨⟨⟨p1,p2⟩,p3⟩,p4⟩:=h1
 have hE:r.Except.length≤6:=by
  rcases p1 with p1 | ⟨⟨_,p1⟩,_⟩
  ·have hk:=eq_of_beq p1
   rw [hk] at h2
   simp only [jO,hk] at h2
   have h3:kR r.Except=true:=by
    cases hc:kR r.Except
    ·rw [hc] at h2;simp at h2
    rfl
   unfold kR at h3
   simp only [Bool.and_eq_true,decide_eq_true_eq] at h3
   exact h3.1
  have:=List.isEmpty_iff.1 p1;rw [this];simp
 cases h56:(r.Kind == 5||r.Kind == 6)
 ·rw [Bool.or_eq_false_iff] at h56
  rcases p4 with (p4 | p4) | p4
  ·rw [h56.1] at p4;cases p4
  ·rw [h56.2] at p4;cases p4
  have:=List.isEmpty_iff.1 p4;rw [this];exact ⟨by simp,by simp,hE⟩
 rw [h56] at h2
 simp only [bQ,Bool.and_eq_true,decide_eq_true_eq,List.all_eq_true] at h2
 exact ⟨h2.1.2,fun a ha=>(h2.2 a ha).2,hE⟩
theorem clone_F (n:Nat):∀ (r:Zd),ee r=true→sO r≤n→fw n r=some r:=by
 induction n with
 | zero=>intro r _ hd;rw [kj] at hd;omega
 | succ n ih =>
  intro r hr hd
  obtain ⟨h1,h2,h3⟩:=mt hr
  show dX (fw n) r=_
  unfold dX bS
  rw [gA (by omega) (by omega),be,Bd (by omega) (by omega),be]
  refine (cB (l:=r.Args) (by omega) (fun i (a:List Zd)=>(a,i)) (fun a x=>a++[x]) (fun a=>a) (fun k a=>a.length=k) [] rfl (fun k hk a ha=>⟨?_,by simp [ha]⟩) (fun a ha=>by simp only [cP,bu])).1.trans ?_
  ·simp only [iq hk,bQ,aU hk,be,bP hk (show r.Args.length≤4611686018427387904 by omega)]
   rw [ih _ (h2 _ (List.getElem_mem hk)) (by have:=kl (List.getElem_mem hk);omega),be,cX (by simp;omega) (by simp;omega)];rfl
  have:∀ (m acc:List Zd),m.foldl (fun a x=>a++[x]) acc=acc++m:=by
   intro m
   induction m with
   | nil=>intro acc;simp
   | cons x m ih=>intro acc;rw [List.foldl_cons,ih];simp
  rw [this,List.nil_append];cases r;rfl
theorem Bm (r:Zd) (h:ee r=true) (hd:sO r≤1000):iI r=some r:=clone_F FUEL r h (by have hf:FUEL=1267650600228229401496703205376:=rfl;omega)
structure VA (a:Zb):Prop where
 ok:AOk a
 rules:∀ x∈a.Rules,kn x.Rule=0
 len:a.Rules.length≤12∧a.Parties.length≤12
theorem tw (a:Zb) (code:ByteArray) (ha:VA a):ed a code=some (gU Aa (fc a code)):=by
 unfold ed
 rw [Dn _ _ ha.ok.len]
 rcases oJ a code with ⟨h1,h2⟩ | ⟨j,hj,h1,h2⟩
 ·rw [h1,h2];rfl
 have hm:=List.getElem_mem hj
 have hr:=ha.ok.rules _ hm
 have hv:=ha.rules _ hm
 rw [h1,h2,r7]
 simp only [Option.isNone_some,Bool.not_false,cI,t7,aU hj,be,qr _ hr.rule hr.deep,hv,bne_self_eq_false,Bool.or_self,bu,Bm _ ((oF _).1 hv).2 hr.deep]
 rfl
end SX
end Go.Proofs.YtgmbmepakpcpaaaGreatDoor
