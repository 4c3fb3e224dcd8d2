/- A part of the proof. No condition. -/
import Derived.Test.YtbedcfghfcmkdaaGreatDoorM5
open Bool (and_eq_true)
open Nat (add_zero ble_eq_true_of_le le_add_left le_refl zero_add zero_le)
open List (append_assoc append_nil cons_append drop_left drop_zero getElem_map getElem_mem length_append length_cons length_map length_nil length_singleton length_take map_append map_cons map_singleton mem_append mem_cons mem_cons_of_mem not_mem_nil take_left take_length take_of_length_le)
open Go.IntKind (i64 u64 u8 u32 i32)
set_option linter.unusedVariables false
set_option linter.unusedSimpArgs false
set_option maxHeartbeats 4000000
set_option maxRecDepth 100000
namespace Go.Proofs.YtbedcfghfcmkdaaGreatDoor
namespace SX
open Go
attribute [local irreducible] Wa Ka Vc Ye Td Qb Na Ra Pa Vb Ub Nc Jb Uc Qd PF Yc La Lb dU dM ke kV ip jN Yd Ya aW bx app mk gd lb nz sN lC sub ff ji xi rE ja ex lJ eO IntKind.wrap Int.tmod Int.tdiv Op.bytesLess strOfNums
def cZ (p0:Zh) (p1:Xh):Option (Bool×Zh):=(dC p1).bind fun x1=>cond x1.2 ((app 56 p0.Notes [x1.1]).bind fun l6=>some (true,(⟨p0.Entries,l6⟩:Zh))) ((fx p1).bind fun x10=>cond ((!x10.2)||(decide (0<((p0.Notes.length:Nat):Int)))) (some (false,(⟨p0.Entries,p0.Notes⟩:Zh))) ((app 64 p0.Entries [x10.1]).bind fun l15=>some (true,(⟨l15,p0.Notes⟩:Zh))))
theorem qi {p0:Zh} {p1:Xh} {a_0_0:Option Addr}  {n_0_0:Nat}  {c_0_0:Nat}  {a_0_1:Option Addr}  {n_0_1:Nat}  {c_0_1:Nat}  {b0:Nat} {r:(Bool×Zh)}  (h:cZ p0 p1=some r):La 30 [pP b0 0,pS p1] [Qa.b b0 26 [.v (.slice a_0_0 n_0_0 c_0_0),.v (.slice a_0_1 n_0_1 c_0_1)],Qa.row a_0_0 n_0_0 c_0_0 95 5 (List.map Za.enc p0.Entries),Qa.row a_0_1 n_0_1 c_0_1 70 3 (List.map Ze.enc p0.Notes)] (fun pv ρ'=>pv=pB r.1/\∃ (x0:Option Addr) (z0:Nat) (x1:Option Addr) (z1:Nat),ρ'=[Qa.b b0 26 [.v (.slice x0 r.2.Entries.length z0),.v (.slice x1 r.2.Notes.length z1)],Qa.row x0 r.2.Entries.length z0 95 5 (List.map Za.enc r.2.Entries),Qa.row x1 r.2.Notes.length z1 70 3 (List.map Ze.enc r.2.Notes)]):=by
 unfold cZ at h
 refine gC Tryz.func30 rfl Tryz.ntmps30 Tryz.results30 rfl ?_
 refine dR (enc:=Za.enc) (xs:=p0.Entries) (a:=a_0_0) tz (fun hl ha=>?_);subst hl;clear ha
 refine dR (enc:=Ze.enc) (xs:=p0.Notes) (a:=a_0_1) uR (fun hl ha=>?_);subst hl;clear ha
 refine ag (aQ [4] (by kernel_rfl) (bM (ae h fun x1 hx1 h=>cS 5 [] [10,11,9] [(12,.agg [pS x1.1.Scope,pL eS x1.1.Words,pS x1.1.Target]),(13,pB x1.2)] (aU 1 (o6 hx1) aY) (by kernel_rfl) (aj rfl (aP (cs:=[pS Uh,pN,pS Uh]) rfl rfl rfl rfl (fun b2=>aM rfl rfl (al (vs:=[pS x1.1.Scope,pL eS x1.1.Words,pS x1.1.Target]) rfl rfl rfl rfl rfl bT AW (aE [(6,pB x1.2)] (by kernel_rfl) (br (aA [(14,pB x1.2)] (by kernel_rfl) (fi rfl h (fun hc3 h=>?_) fun hc3 h=>?_)))))))))))
 ·refine ag ?_
  refine ae h fun l6 hl6 h=>?_
  refine ap (Y:=Option Addr×Nat) (fun (a7,c8)=>[]) (fun (a7,c8)=>[Qa.b b0 26 [pO a_0_0 p0.Entries.length c_0_0,pO a7 l6.length c8],Qa.row a_0_0 p0.Entries.length c_0_0 95 5 (List.map Za.enc p0.Entries),Qa.row a7 l6.length c8 70 3 (List.map Ze.enc l6)]) (fun _=>True) ?_ ?_
  ·refine gf (ρd:=[Qa.row a_0_1 _ _ _ _ _,Qa.b b0 _ _]) _ (aq (aC (aC (aC aN))) (aq (aC aN) Vh)) ?_
   repeat' first
    | (refine lr 4 ?_;first | refine bj rfl rfl rfl rfl (kI (co (p:=pO a_0_1 p0.Notes.length c_0_1) rfl (.p rfl) tz rfl) ?_) | refine bj rfl rfl rfl rfl (kI (co (p:=pO a_0_1 p0.Notes.length c_0_1) rfl (.p rfl) uR rfl) ?_))
    | (refine lr 6 ?_;refine bj rfl rfl rfl rfl (bp rfl rfl rfl rfl rfl (eE rfl jy) rfl rfl rfl rfl (fun b4=>?_)))
    | (refine lr 7 ?_;refine bj rfl rfl rfl rfl (bw (enc:=Ze.enc) rfl rfl rfl rfl rfl rfl rfl rfl rfl eG (by exact aC aN) hl6 (fun a7 c8=>?_)))
    | (refine lr 10 ?_;refine eF rfl rfl rfl (al (vs:=[pO a7 l6.length c8]) rfl rfl rfl rfl rfl (cE (cE bT)) (bV (ii)) ?_))
    | refine bu 0 (by decide +kernel) rfl rfl rfl rfl (bY (p:=pP b0 0) rfl (.p rfl)) ?_
    | refine bu 1 (by decide +kernel) rfl rfl rfl rfl (bY (p:=pP b0 0) rfl (.p rfl)) ?_
    | refine bu 2 (by decide +kernel) rfl rfl rfl rfl (nC rfl (.p rfl)) ?_
    | refine bu 3 (by decide +kernel) rfl rfl rfl rfl (bR rfl rfl rfl rfl rfl (.p rfl)) ?_
    | refine bu 5 (by decide +kernel) rfl rfl rfl rfl (co (p:=.agg [pS x1.1.Scope,pL eS x1.1.Words,pS x1.1.Target]) rfl (.p rfl) eG rfl) ?_
    | refine dr 4 6 (by decide +kernel) ?_ ?_
    | refine bh 6 (by decide +kernel) ?_
    | refine bh 7 (by decide +kernel) ?_
    | refine bu 8 (by decide +kernel) rfl rfl rfl rfl (nC rfl (.p rfl)) ?_
    | refine bu 9 (by decide +kernel) rfl rfl rfl rfl (bR rfl rfl rfl rfl rfl (.p rfl)) ?_
    | refine bh 10 (by decide +kernel) ?_
    | refine gQ (by decide +kernel) ?_
    | refine bh 4 (by decide +kernel) ?_
    | exact am (a7,c8) qr (bg (aC (aC aN)) (bg (aC (aC (aC aN))) (bN))) trivial
  rintro ⟨a7,c8⟩ τ _;dsimp only [aw]
  refine cH [(4,pB true)] (by kernel_rfl) (sO ?_)
  obtain rfl:=osi h
  exact aH (dZ (az rfl)) rI ⟨rfl,_,_,_,_,rfl⟩
 refine af ?_
 refine cP h fun x10 hx10 h=>cS 5 [] [26,27,25] [(28,.agg (av x10.1)),(29,pB x10.2)] (aU 1 (oU hx10) aY) (by kernel_rfl) (aj rfl (aP (cs:=[pS Uh,pI 0,pI 0,pN,pB false]) rfl rfl rfl rfl (fun b11=>aM rfl rfl (al (vs:=(av x10.1)) rfl rfl rfl rfl rfl bT td (aE [(8,pB x10.2)] (by kernel_rfl) (bM (aK [2] (rg 30 9) [(39,pB ((!x10.2)||(decide (0<((p0.Notes.length:Nat):Int)))))] (by kernel_rfl) (fi rfl h (fun hc12 h=>?_) fun hc12 h=>?_))))))))
 ·refine ag ?_
  refine de [(4,pB false)] (by kernel_rfl) ?_
  obtain rfl:=osi h
  exact aH (dZ (az rfl)) (bg (aC (aC aN)) (bg (aC (aC aN)) (bg (aC (aC aN)) bq))) ⟨rfl,_,_,_,_,rfl⟩
 refine af ?_
 refine cP h fun l15 hl15 h=>?_
 refine ap (Y:=Option Addr×Nat) (fun (a16,c17)=>[]) (fun (a16,c17)=>[Qa.b b0 26 [pO a16 l15.length c17,pO a_0_1 p0.Notes.length c_0_1],Qa.row a_0_1 p0.Notes.length c_0_1 70 3 (List.map Ze.enc p0.Notes),Qa.row a16 l15.length c17 95 5 (List.map Za.enc l15)]) (fun _=>True) ?_ ?_
 ·refine gf (ρd:=[Qa.row a_0_0 _ _ _ _ _,Qa.b b0 _ _]) _ (aq (aC (aC (aC aN))) (aq (aC (aC aN)) Vh)) ?_
  repeat' first
   | (refine lr 4 ?_;first | refine bj rfl rfl rfl rfl (kI (co (p:=pO a_0_0 p0.Entries.length c_0_0) rfl (.p rfl) tz rfl) ?_) | refine bj rfl rfl rfl rfl (kI (co (p:=pO a_0_0 p0.Entries.length c_0_0) rfl (.p rfl) uR rfl) ?_))
   | (refine lr 6 ?_;refine bj rfl rfl rfl rfl (bp rfl rfl rfl rfl rfl (eE rfl jy) rfl rfl rfl rfl (fun b13=>?_)))
   | (refine lr 7 ?_;refine bj rfl rfl rfl rfl (bw (enc:=Za.enc) rfl rfl rfl rfl rfl rfl rfl rfl rfl eG (by exact aC aN) hl15 (fun a16 c17=>?_)))
   | (refine lr 10 ?_;refine eF rfl rfl rfl (al (vs:=[pO a16 l15.length c17]) rfl rfl rfl rfl rfl (cE (cE bT)) (ii) ?_))
   | refine bu 0 (by decide +kernel) rfl rfl rfl rfl (bY (p:=pP b0 0) rfl (.p rfl)) ?_
   | refine bu 1 (by decide +kernel) rfl rfl rfl rfl (bY (p:=pP b0 0) rfl (.p rfl)) ?_
   | refine bu 2 (by decide +kernel) rfl rfl rfl rfl (nC rfl (.p rfl)) ?_
   | refine bu 3 (by decide +kernel) rfl rfl rfl rfl (bR rfl rfl rfl rfl rfl (.p rfl)) ?_
   | refine bu 5 (by decide +kernel) rfl rfl rfl rfl (co (p:=.agg (av x10.1)) rfl (.p rfl) eG rfl) ?_
   | refine dr 4 6 (by decide +kernel) ?_ ?_
   | refine bh 6 (by decide +kernel) ?_
   | refine bh 7 (by decide +kernel) ?_
   | refine bu 8 (by decide +kernel) rfl rfl rfl rfl (nC rfl (.p rfl)) ?_
   | refine bu 9 (by decide +kernel) rfl rfl rfl rfl (bR rfl rfl rfl rfl rfl (.p rfl)) ?_
   | refine bh 10 (by decide +kernel) ?_
   | refine gQ (by decide +kernel) ?_
   | refine bh 4 (by decide +kernel) ?_
   | exact am (a16,c17) qr (bg (aC (aC aN)) (bg (aC (aC (aC (aC aN)))) (bN))) trivial
 rintro ⟨a16,c17⟩ τ _;dsimp only [aw]
 refine cH [(4,pB true)] (by kernel_rfl) (cK ?_)
 obtain rfl:=osi h
 exact aH (dZ (az rfl)) (bg aN (bg (aC aN) bN)) ⟨rfl,_,_,_,_,rfl⟩
def iB (p0:Xh):Option (Zh×Int×Int):=(aW (S:=Xh×Int×(List Za)×(List Ze)) (T:=(Int×(List Za)×(List Ze))⊕(_)) (fun (v3,v4,l6,l10)=>cond (!decide (v3=(⟨#[]⟩:Xh))) ((fT v3 (⟨#[10]⟩:Xh)).bind fun x27=>(gdp (!(!x27.2.2)) (cZ (⟨l6,l10⟩:Zh) x27.1) (⟨l6,l10⟩:Zh)).bind fun x28=>cond ((!x27.2.2)||(!x28.1)) (some (.inr (.inr ((⟨[],[]⟩:Zh),v4,(4:Int))))) (some (.inl (x27.2.1,(i64.wrap (v4+1)),x28.2.Entries,x28.2.Notes)))) (some (.inr (.inl (v4,l6,l10))))) Va (p0,0,([]:List Za),([]:List Ze))).bind fun q=>match q with | .inl (v13,l17,l21)=>(cN (⟨l17,l21⟩:Zh)).bind (fun x34=>cond (x34 != 0) (some ((⟨[],[]⟩:Zh),(0:Int),x34)) (some ((⟨l17,l21⟩:Zh),v13,(0:Int)))) | .inr e=>some e
theorem rp {p0:Xh} {r:(Zh×Int×Int)}  (h:iB p0=some r):PF 9 [pS p0] (.tup [.agg [pL Za.enc r.1.Entries,pL Ze.enc r.1.Notes],pI r.2.1,pI r.2.2]):=by
 unfold iB at h
 refine aV ?_
 refine dk Tryz.func9 rfl Tryz.ntmps9 Tryz.results9 rfl (cL rfl (aP (cs:=[pN,pN]) rfl rfl rfl rfl (fun b1=>aZ [3,4] (by kernel_rfl) (br (cL rfl (aP (cs:=[pN,pN]) rfl rfl rfl rfl (fun b2=>au (br (aA [(6,pI 0)] (by kernel_rfl) (br (bC 95 5 (bC 70 3 (ae h fun q23 hq23 h=>?_)))))))))))))
 refine ap (Y:=(Option Addr×Nat×Option Addr×Nat)×(Int×(List Za)×(List Ze))) (fun ((a15,c16,a19,c20),(v13,l17,l21))=>[(2,pP b1 0),(5,pP b2 0),(6,pI v13)]) (fun ((a15,c16,a19,c20),(v13,l17,l21))=>[Qa.b b1 26 [pN,pN],Qa.b b2 26 [pO a15 l17.length c16,pO a19 l21.length c20],Qa.row a15 l17.length c16 95 5 (List.map Za.enc l17),Qa.row a19 l21.length c20 70 3 (List.map Ze.enc l21)]) (fun ((a15,c16,a19,c20),(v13,l17,l21))=>q23=Sum.inl (v13,l17,l21)) ?_ ?_
 ·refine aG ?_
  refine aJ (Y:=Option Addr×Nat×Option Addr×Nat) (S:=Xh×Int×(List Za)×(List Ze)) _ hq23 (fun (a7,c8,a11,c12) (v3,v4,l6,l10)=>[(0,pS v3),(2,pP b1 0),(5,pP b2 0),(6,pI v4)]) (fun (a7,c8,a11,c12) (v3,v4,l6,l10)=>[Qa.b b1 26 [pN,pN],Qa.b b2 26 [pO a7 l6.length c8,pO a11 l10.length c12],Qa.row a7 l6.length c8 95 5 (List.map Za.enc l6),Qa.row a11 l10.length c12 70 3 (List.map Ze.enc l10)]) (none,0,none,0) (jC rfl) (bg (aC (aC (aC aN))) (bg (aC (aC aN)) (bg (aC aN) bN))) ?_
  rintro ⟨a7,c8,a11,c12⟩ ⟨v3,v4,l6,l10⟩ o τ hb22;(try dsimp only at hb22);dsimp only [aw]
  refine dV (bF [11] [(12,pB (!decide (v3=(⟨#[]⟩:Xh))))] (by kernel_rfl) rfl hb22 (fun hc26 hb22=>?_) fun hc26 hb22=>?_)
  ·refine af ?_
   refine aD (rx (ae hb22 fun x27 hx27 hb22=>ai [] [14,15,13,16,17,18] [(7,pS x27.1),(8,pS x27.2.1),(9,pB x27.2.2)] (aU 1 (mI hx27) aY) (by kernel_rfl) (bM (ae hb22 fun x28 hx28 hb22=>ak (bU 4 [19,20] [(21,pB (!x27.2.2)),(22,pgv (!(!x27.2.2)) (pS x27.1))] (by kernel_rfl) ?_)))))
   refine Dd (Y:=Option Addr×Nat×Option Addr×Nat) (R2:=fun (x29,z30,x31,z32)=>[Qa.b b2 26 [.v (.slice x29 x28.2.Entries.length z30),.v (.slice x31 x28.2.Notes.length z32)],Qa.row x29 x28.2.Entries.length z30 95 5 (List.map Za.enc x28.2.Entries),Qa.row x31 x28.2.Notes.length z32 70 3 (List.map Ze.enc x28.2.Notes)]) (ρ1:=[_,_,_]) (jM rfl rfl rfl) rfl rfl rfl (aq (by exact aC aN) (aq (by exact aC aN) (aq (by exact aC aN) Vh))) (fg (.p rfl) (fg (.g rfl) nc)) (fun hc=>Fk (qi (gdp_t hx28 hc)) (by rintro _ _ ⟨rfl,x29,z30,x31,z32,rfl⟩;exact ⟨rfl,(x29,z30,x31,z32),rfl⟩)) (fun hc=>⟨(a7,c8,a11,c12),by rw [gdp_f hx28 hc]⟩) ?_;rintro ⟨x29,z30,x31,z32⟩;(try dsimp only [cons_append,List.nil_append])
   refine tq (jM rfl rfl rfl) rfl rfl (zY rfl (.g rfl)) (cg rfl rfl rfl (Bn rfl (.p rfl) (.p rfl) (.g rfl)) (au (fi rfl hb22 (fun hc33 hb22=>?_) fun hc33 hb22=>?_)))
   ·refine ag ?_
    refine fC 2 [(26,.agg [pN,pN]),(27,pI v4)] (by kernel_rfl) (aM rfl rfl (al (vs:=[pN,pN]) rfl rfl rfl rfl rfl (cE (cE (cE bT))) pV (aE [(3,pI v4),(4,pI 4)] (by kernel_rfl) (aD (eW (k:=0) (b:=b1) rfl (cE (cE (cE bT))) (eW (k:=1) (b:=b1) rfl (cE (cE (cE bT))) (bi (bc (aO ?_)))))))))
    refine aX hb22 (fun ht=>?_);subst ht
    refine aO (aS ?_)
    obtain rfl:=osi h
    exact aH (nA (di rfl zm3 rfl) (az rfl) (az rfl)) bq ⟨rfl,rfl⟩
   refine af ?_
   refine br (ah [28] [(0,pS x27.2.1)] (by kernel_rfl) (aD (ah [29,30] [(6,pI (i64.wrap (v4+1)))] (by kernel_rfl) (aF ?_))))
   exact aT hb22 (x29,z30,x31,z32) (jC rfl) (bg (aC (aC (aC aN))) rI)
  refine aL ?_
  refine cJ hb22 (fun ht=>an rfl ?_)
  exact am ((a7,c8,a11,c12),(v4,l6,l10)) (nt rfl) CP ht.symm
 rintro ⟨⟨a15,c16,a19,c20⟩,⟨v13,l17,l21⟩⟩ τ hz;(try dsimp only at hz);subst q23;(try dsimp only at h);dsimp only [aw]
 refine dV (ak ?_)
 refine kH (css:=List.map Za.enc l17) (a:=a15) (by exact aC (aC aN)) ?_
 refine iR (k:=0) (enc:=Za.enc) (xs:=l17) (b:=b2) (a:=a15) rfl eG (cE (cE bT)) ?_
 refine kH (css:=List.map Ze.enc l21) (a:=a19) (by exact aC (aC (aC aN))) ?_
 refine iR (k:=1) (enc:=Ze.enc) (xs:=l21) (b:=b2) (a:=a19) rfl eG (cE (cE (cE bT))) (ae h fun x34 hx34 h=>dh [3] [31,32] [(10,pI x34)] (aU 1 (jg hx34) aY) (by kernel_rfl) (br (bF [33] [(34,pB (x34 != 0))] (by kernel_rfl) rfl h (fun hc35 h=>?_) fun hc35 h=>?_)))
 ·refine ag ?_
  refine fC 2 [(35,.agg [pN,pN]),(36,pI x34)] (by kernel_rfl) (aM rfl rfl (al (vs:=[pN,pN]) rfl rfl rfl rfl rfl (cE (cE bT)) pV (aE [(3,pI 0),(4,pI x34)] (by kernel_rfl) (aD (eW (k:=0) (b:=b1) rfl (cE (cE bT)) (eW (k:=1) (b:=b1) rfl (cE (cE bT)) (bi (bc ?_))))))))
  obtain rfl:=osi h
  exact aH (nA (di rfl uR rfl) (az rfl) (az rfl)) bq ⟨rfl,rfl⟩
 refine af ?_
 refine br (ak (dE 2 [3] [(37,.agg [pL Za.enc l17,pL Ze.enc l21]),(38,pI v13)] (by kernel_rfl) (aM rfl rfl (al (vs:=[pL Za.enc l17,pL Ze.enc l21]) rfl rfl rfl rfl rfl (cE (cE bT)) pV (aE [(3,pI v13),(4,pI 0)] (by kernel_rfl) (cK ?_))))))
 obtain rfl:=osi h
 exact aH (nA (di rfl uR rfl) (az rfl) (az rfl)) bq ⟨rfl,rfl⟩
end SX
namespace SX
open Go
attribute [local irreducible] Wa Ka Vc Qb Na Ra Pa Vb Ub Nc Jb Uc Qd PF Yc La Lb dU dM ke kV ip jN Yd Ya aW bx app mk gd lb nz sN lC sub ff ji xi rE ja ex lJ eO IntKind.wrap Int.tmod Int.tdiv Op.bytesLess strOfNums
def gW (p0:(List Int)) (p1:(List Int)) (p2:(List Int)) (p3:(List Int)) (p4:Int):Option Bool:=(iX p0).bind fun x1=>(qb p1).bind fun x2=>(lu p2).bind fun x3=>(qc p3).bind fun x4=>(ku p4 20).bind fun x8=>(gV x1).bind fun x9=>(iB x9).bind fun x10=>(kQ x2).bind fun x12=>(lZ x12).bind fun x13=>(kC x3).bind fun x15=>(lz x15).bind fun x16=>cond (((x10.2.2 != 0)||(x13.2 != 0))||(x16.2.2 != 0)) (some false) ((fM x1 x8 x2).bind fun x18=>(fM x10.1 x8 x13.1).bind fun x19=>(gd (!((!decide (x18.1=x19.1))||(x18.2.2 != x19.2.2))) (jQ x18.2.1 x19.2.1)).bind fun x20=>cond (((!decide (x18.1=x19.1))||(x18.2.2 != x19.2.2))||(!x20)) (some false) (Option.bind (cond (x18.2.2 == 0) ((gK x18.1).bind fun x25=>some x25) (some x4.Code)) (fun v22=>(ib x3 (⟨v22,x4.Origin,x4.Proof,x4.Company,x4.Day,x4.Quantity,x4.Value,x4.Granted⟩:Zw)).bind fun x26=>(ib x16.1 (⟨v22,x4.Origin,x4.Proof,x4.Company,x4.Day,x4.Quantity,x4.Value,x4.Granted⟩:Zw)).bind fun x28=>(gd (x26.2 == x28.2) (jt x26.1 x28.1)).bind fun x30=>(gd ((x26.2 == x28.2)&&x30) (kT)).bind fun x31=>some (((x26.2 == x28.2)&&x30)&&x31))))
theorem qN {p0:(List Int)} {p1:(List Int)} {p2:(List Int)} {p3:(List Int)} {p4:Int} {r:Bool}  (h:gW p0 p1 p2 p3 p4=some r):PF 3 [pL eI p0,pL eI p1,pL eI p2,pL eI p3,pI p4] (pB r):=by
 unfold gW at h
 refine aV ?_
 refine dk Tryz.func3 rfl Tryz.ntmps3 Tryz.results3 rfl (aQ [10] (by kernel_rfl) (cP h fun x1 hx1 h=>ae h fun x2 hx2 h=>ae h fun x3 hx3 h=>ae h fun x4 hx4 h=>cS 8 [] [33,35,37,39] [(34,.agg [pL Za.enc x1.Entries,pL Ze.enc x1.Notes]),(36,.agg [pL eS x2.Words,pL Zf.enc x2.Materials,pL Zb.enc x2.Parts,pB x2.Incomplete]),(38,pL Zc.enc x3),(40,.agg [pS x4.Code,pS x4.Origin,pB x4.Proof,pI x4.Company,pI x4.Day,pI x4.Quantity,pI x4.Value,pI x4.Granted])] (aU 1 (rO hx1) (aU 3 (Ao hx2) (aU 5 (vf hx3) (aU 7 (Ap hx4) aY)))) (by kernel_rfl) (aj rfl (aP (cs:=[pN,pN]) rfl rfl rfl rfl (fun b5=>aj rfl (aP (cs:=[pN,pN,pN,pB false]) rfl rfl rfl rfl (fun b6=>aj rfl (aP (cs:=[pS Uh,pS Uh,pB false,pI 0,pI 0,pI 0,pI 0,pI 0]) rfl rfl rfl rfl (fun b7=>aM rfl rfl (al (vs:=[pL Za.enc x1.Entries,pL Ze.enc x1.Notes]) rfl rfl rfl rfl rfl (cE (cE bT)) pV (aM rfl rfl (al (vs:=[pL eS x2.Words,pL Zf.enc x2.Materials,pL Zb.enc x2.Parts,pB x2.Incomplete]) rfl rfl rfl rfl rfl (cE bT) zl4 (ba 1 [(13,pL Zc.enc x3)] (by kernel_rfl) (aM rfl rfl (al (vs:=[pS x4.Code,pS x4.Origin,pB x4.Proof,pI x4.Company,pI x4.Day,pI x4.Quantity,pI x4.Value,pI x4.Granted]) rfl rfl rfl rfl rfl bT zl8 (au (cP h fun x8 hx8 h=>ai [] [41,42] [(4,pI x8)] (aU 1 (rN hx8) aY) (by kernel_rfl) (cP h fun x9 hx9 h=>ae h fun x10 hx10 h=>cS 7 [2] [44,45,46,43] [(47,.agg [pL Za.enc x10.1.Entries,pL Ze.enc x10.1.Notes]),(48,pI x10.2.1),(49,pI x10.2.2)] (aU 1 (qM hx9) (aU 2 (rp hx10) aY)) (by kernel_rfl) (aj rfl (aP (cs:=[pN,pN]) rfl rfl rfl rfl (fun b11=>aM rfl rfl (al (vs:=[pL Za.enc x10.1.Entries,pL Ze.enc x10.1.Notes]) rfl rfl rfl rfl rfl bT pV (fV [16] [(17,pI x10.2.2)] (by kernel_rfl) (cP h fun x12 hx12 h=>ae h fun x13 hx13 h=>cS 6 [2] [51,52,53,50] [(54,.agg [pL eS x13.1.Words,pL Zf.enc x13.1.Materials,pL Zb.enc x13.1.Parts,pB x13.1.Incomplete]),(55,pI x13.2)] (aU 1 (qX hx12) (aU 2 (r7 hx13) aY)) (by kernel_rfl) (aj rfl (aP (cs:=[pN,pN,pN,pB false]) rfl rfl rfl rfl (fun b14=>aM rfl rfl (al (vs:=[pL eS x13.1.Words,pL Zf.enc x13.1.Materials,pL Zb.enc x13.1.Parts,pB x13.1.Incomplete]) rfl rfl rfl rfl rfl bT zl4 ?_))))))))))))))))))))))))))))
 refine aE [(19,pI x13.2)] (by kernel_rfl) (cP h fun x15 hx15 h=>ae h fun x16 hx16 h=>ai [] [57,58,59,56,60,61,62,21] [(20,pL Zc.enc x16.1),(22,pI x16.2.2)] (aU 1 (uw hx15) (aU 2 (vj hx16) aY)) (by kernel_rfl) (bM (bF (rg 63 9) [(72,pB (((x10.2.2 != 0)||(x13.2 != 0))||(x16.2.2 != 0)))] (by kernel_rfl) rfl h (fun hc17 h=>?_) fun hc17 h=>?_)))
 ·refine ag ?_
  refine de [(10,pB false)] (by kernel_rfl) ?_
  exact zz r h rfl
 refine af ?_
 refine cP h fun x18 hx18 h=>ai [4,3] [74,75,76,77,73,78,79,80] [(23,pS x18.1),(24,pL Zm.enc x18.2.1),(25,pI x18.2.2)] (aU 3 (kB hx18) aY) (by kernel_rfl) (cP h fun x19 hx19 h=>ai [1,0] [82,83,84,85,81,86,87,88] [(26,pS x19.1),(27,pL Zm.enc x19.2.1),(28,pI x19.2.2)] (aU 3 (kB hx19) aY) (by kernel_rfl) (bM (ae h fun x20 hx20 h=>ai [] (rg 89 13) [(102,pB (((!decide (x18.1=x19.1))||(x18.2.2 != x19.2.2))||(!x20)))] (iJ 11 (fun hc=>tD (fU hx20 hc)) aY) (by kernel_rfl) (fi rfl h (fun hc21 h=>?_) fun hc21 h=>?_))))
 ·refine ag ?_
  refine de [(10,pB false)] (by kernel_rfl) ?_
  exact zz r h rfl
 refine af ?_
 refine bM (ah [103] [(104,pB (x18.2.2 == 0))] (by kernel_rfl) (ey h fun q23 hq23 h=>?_))
 refine ap (Y:=Unit×Xh) (fun (_,v22)=>[(13,pL Zc.enc x3),(14,pP b7 0),(20,pL Zc.enc x16.1)]) (fun (_,v22)=>[Qa.b b7 37 [pS v22,pS x4.Origin,pB x4.Proof,pI x4.Company,pI x4.Day,pI x4.Quantity,pI x4.Value,pI x4.Granted]]) (fun (_,v22)=>q23=v22) ?_ ?_
 ·skip
  refine fh rfl hq23 (fun hc24 hq23=>?_) fun hc24 hq23=>?_
  ·refine ae hq23 ?_;clear hq23;intro x25 hx25 hq23
   refine cS 3 [] [105] [(106,pS x25),(107,pP b7 0)] (aU 1 (oQ hx25) aY) (by kernel_rfl) (aM rfl rfl (al (vs:=[pS x25]) rfl rfl rfl rfl rfl (cE (cE bT)) ii (au ?_)))
   obtain rfl:=osi hq23
   exact am ((),x25) (nt rfl) (bg (aC (aC aN)) bq) rfl
  refine af ?_
  obtain rfl:=osi hq23
  exact am ((),x4.Code) (nt rfl) (bg (aC (aC aN)) bq) rfl
 rintro ⟨_,v22⟩ τ hz;(try dsimp only at hz);subst q23;(try dsimp only at h);dsimp only [aw]
 refine ag (ae h fun x26 hx26 h=>cS 6 [0] [109,110,111,108] [(112,.agg [pL Zi.enc x26.1.Lines,pI x26.1.Total]),(113,pI x26.2)] (aU 2 (nj hx26) aY) (by kernel_rfl) (aj rfl (aP (cs:=[pN,pI 0]) rfl rfl rfl rfl (fun b27=>aM rfl rfl (al (vs:=[pL Zi.enc x26.1.Lines,pI x26.1.Total]) rfl rfl rfl rfl rfl bT pV (aE [(30,pI x26.2)] (by kernel_rfl) (cP h fun x28 hx28 h=>cS 6 [1] [115,116,117,114] [(118,.agg [pL Zi.enc x28.1.Lines,pI x28.1.Total]),(119,pI x28.2)] (aU 2 (nj hx28) aY) (by kernel_rfl) (aj rfl (aP (cs:=[pN,pI 0]) rfl rfl rfl rfl (fun b29=>aM rfl rfl (al (vs:=[pL Zi.enc x28.1.Lines,pI x28.1.Total]) rfl rfl rfl rfl rfl bT pV (aE [(32,pI x28.2)] (by kernel_rfl) (cP h fun x30 hx30 h=>ae h fun x31 hx31 h=>ai [1,0] (rg 120 11) [(10,pB (((x26.2 == x28.2)&&x30)&&x31))] (iJ 6 (fun hc=>uq (fU hx30 hc)) (iJ 9 (fun hc=>sU (fU hx31 hc)) aY)) (by kernel_rfl) (cK ?_))))))))))))))
 exact zz r h rfl
end SX
namespace SX
open Go
theorem aR {α β:Type} {x:Option α} {f:α->Option β} {a:α} (h:x=some a):x.bind f=f a:=by rw [h];rfl
theorem ee {r:Int} (h1 : -9223372036854775808<=r) (h2:r<=9223372036854775807):i64.wrap r=r:=wT ⟨h1,h2⟩
theorem mL {n:Nat} (h:n<=1267650600228229401496703205000):n<Va:=Nat.lt_of_le_of_lt h (by unfold Va;omega)
theorem bf {α:Type} {xs:List α} {k:Nat} (h:k<xs.length):bx xs (k:Int)=some xs[k]:=by
 unfold bx;rw [if_pos (by omega)];simp [h]
theorem fN {α:Type} [Inhabited α] {x:Option α}:gd true x=x:=rfl
theorem vP {α:Type} [Inhabited α] {x:Option α}:gd false x=some default:=rfl
theorem qj {α:Type} {l:List α} {k:Nat} (h:0<k) (hk:k<l.length) (hl:l.length<=4611686018427387904):bx l (i64.wrap ((k:Int) - 1))=some (l[k - 1]'(by omega)):=by
 rw [ee (by omega) (by omega),show (k:Int) - 1=((k - 1:Nat):Int) by omega]
 exact bf (by omega)
theorem cI {k:Nat} {n:Nat} (hk:k<n) (hn:n<=4611686018427387904):i64.wrap ((k:Int)+1)=((k+1:Nat):Int):=by rw [ee (by omega) (by omega)];omega
theorem mr {k n:Nat} (h:k<n):decide ((k:Int)<(n:Int))=true:=by simp;omega
theorem fO (n:Nat):decide ((n:Int)<(n:Int))=false:=by simp
theorem d0k {k:Nat}:decide ((0:Int)<(k:Int))=decide (0<k):=by by_cases h:0<k <;> simp [h] <;> omega
theorem cF {α:Type} {by':Nat} {xs ys:List α} (h:(xs.length+ys.length)*by'<=140737488355328) (h2:xs.length+ys.length<=140737488355328):app by' xs ys=some (xs++ys):=by unfold app;rw [if_pos ⟨h,h2⟩]
theorem pR {α:Type} {xs:List α} {a b:Nat} (h:a<=b) (h2:b<=xs.length):sub xs (a:Int) (b:Int)=some ((xs.take b).drop a):=by
 unfold sub;rw [if_pos (by omega)];simp
theorem Hw {b:Nat} {n:Nat} (h:b*n<=140737488355328) (h2:n<=140737488355328):mk0 b (n:Int)=some ():=by unfold mk0;rw [if_pos (by simp;omega)]
theorem e8 {s u:Xh} (h:s.size+u.size<=140737488355328):lC s u=some (s++u):=by unfold lC;rw [if_pos h]
theorem zm {b:Int} (h:b≠0):nz b=some ():=by unfold nz;rw [if_neg h]
def zn {A B R:Type} (p:A⊕R) (g:A->B⊕R):B⊕R:=match p with | .inl a=>g a | .inr r=>.inr r
def run {α A R:Type} (f:Nat->α->A->A⊕R):List α->Nat->A->A⊕R
 | [],_,a=>.inl a
 | x::xs,k,a=>zn (f k x a) (fun a'=>run f xs (k+1) a')
theorem jv {α A R:Type} (f:Nat->α->A->A⊕R) (x:α) (xs:List α) (k:Nat) (a:A):run f (x::xs) k a=zn (f k x a) (run f xs (k+1)):=rfl
def outc {S T A R:Type} (g:A->S) (e:R->T):A⊕R->S⊕T
 | .inl a=>.inl (g a)
 | .inr r=>.inr (e r)
def yH {T A R:Type} (g:A->T) (e:R->T):A⊕R->T
 | .inl a=>g a
 | .inr r=>e r
theorem lA {S T α A R:Type} {l:List α} (hl:l.length<=4611686018427387904) {body:S->Option (S⊕T)} (pack:Int->A->S) (f:Nat->α->A->A⊕R) (fin:A->T) (exit:R->T) (P:Nat->A->Prop)
    (hstep:∀ (k:Nat) (hk:k<l.length) (a:A),P k a->body (pack (k:Int) a)=some (outc (pack ((k+1:Nat):Int)) exit (f k l[k] a))/\∀ a',f k l[k] a=.inl a'->P (k+1) a')
    (hend:∀ a,P l.length a->body (pack (l.length:Int) a)=some (.inr (fin a))) (a:A) (h0:P 0 a):aW body Va (pack 0 a)=some (yH fin exit (run f l 0 a))/\∀ a',run f l 0 a=.inl a'->P l.length a':=by
  have main:∀ (xs:List α) (k N:Nat) (a:A),l.drop k=xs->k<=l.length->P k a->xs.length<N->aW body N (pack (k:Int) a)=some (yH fin exit (run f xs k a))/\∀ a',run f xs k a=.inl a'->P l.length a':=by
    intro xs
    induction xs with
    | nil =>
      intro k N a hd hk hp hN
      have:k=l.length:=by
        have:=congrArg List.length hd;simp at this;omega
      subst this
      obtain ⟨N,rfl⟩:∃ M,N=M+1:=⟨N - 1,by omega⟩
      rw [fe,hend a hp]
      exact ⟨rfl,fun a' h=>by injection h with h;exact h ▸ hp⟩
    | cons x xs ih =>
      intro k N a hd hk hp hN
      have hk':k<l.length:=by
        have:=congrArg List.length hd;simp at this;omega
      have hx:l[k]=x/\l.drop (k+1)=xs:=by
        rw [List.drop_eq_getElem_cons hk'] at hd;injection hd with h1 h2;exact ⟨h1,h2⟩
      obtain ⟨N,rfl⟩:∃ M,N=M+1:=⟨N - 1,by omega⟩
      obtain ⟨e1,e2⟩:=hstep k hk' a hp
      rw [hx.1] at e1 e2
      rw [fe,e1]
      rw [jv]
      cases hf:f k x a with
      | inl a'=>exact ih (k+1) N a' hx.2 (by omega) (e2 a' hf) (by simp at hN;omega)
      | inr r=>exact ⟨rfl,fun a' h=>by change Sum.inr r=_ at h;cases h⟩
  exact main l 0 Va a rfl (by omega) h0 (mL (by omega))
theorem Hx {S T α A R β:Type} {l:List α} (hl:l.length<=4611686018427387904) {body:S->Option (S⊕T)} {k:T->Option β} (pack:Int->A->S) (f:Nat->α->A->A⊕R) (fin:A->T) (exit:R->T) (P:Nat->A->Prop) (a:A) (h0:P 0 a)
    (hstep:∀ (k:Nat) (hk:k<l.length) (a:A),P k a->body (pack (k:Int) a)=some (outc (pack ((k+1:Nat):Int)) exit (f k l[k] a))/\∀ a',f k l[k] a=.inl a'->P (k+1) a')
    (hend:∀ a,P l.length a->body (pack (l.length:Int) a)=some (.inr (fin a))):Option.bind (aW body Va (pack 0 a)) k=k (yH fin exit (run f l 0 a)):=aR (lA hl pack f fin exit P hstep hend a h0).1
def mW {α T:Type} (g:Nat->α->Option T):List α->Nat->Option T
 | [],_=>none
 | x::xs,k=>match g k x with | some t=>some t | none=>mW g xs (k+1)
def outg {T:Type} (k:Nat):Option T->Int⊕T
 | some t=>.inr t
 | none=>.inl ((k+1:Nat):Int)
theorem Fl {T α β:Type} {l:List α} (hl:l.length<=4611686018427387904) {body:Int->Option (Int⊕T)} {k:T->Option β} (g:Nat->α->Option T) (e:T)
    (hstep:∀ (k:Nat) (hk:k<l.length),body (k:Int)=some (outg k (g k l[k]))) (hend:body (l.length:Int)=some (.inr e)):Option.bind (aW body Va 0) k=k ((mW g l 0).getD e):=by
  refine (Hx hl (fun i (_:Unit)=>i) (fun k x _=>match g k x with | some t=>.inr t | none=>.inl ()) (fun _=>e) (fun (t:T)=>t) (fun _ _=>True) () trivial (fun k hk a _=>⟨by
    rw [hstep k hk];cases g k l[k] <;> rfl,fun _ _=>trivial⟩) (fun a _=>hend)).trans ?_
  congr 1
  generalize 0=i
  induction l generalizing i with
  | nil=>rfl
  | cons x xs ih =>
    clear hstep hend
    have ih2:∀ j,yH (fun _=>e) (fun t=>t) (run (fun k x (_:Unit)=>match g k x with | some t=>Sum.inr t | none=>Sum.inl ()) xs j ())=(mW g xs j).getD e:=by
      clear ih hl
      induction xs with
      | nil=>intro j;rfl
      | cons y ys ih=>intro j;rw [jv,mW];cases g j y with | some t=>rfl | none=>exact ih (j+1)
    rw [jv,mW]
    cases g i x with
    | some t=>rfl
    | none=>exact ih2 (i+1)
theorem Fm {α T:Type} (p:α->Bool) (t:T):∀ (l:List α) (k:Nat),mW (fun _ x=>cond (p x) (some t) none) l k=cond (l.any p) (some t) none
 | [],_=>rfl
 | x::xs,k=>by
  rw [mW,List.any_cons,Fm p t xs]
  cases p x <;> rfl
theorem B0 {α T:Type} {g g':Nat->α->Option T}:∀ (l:List α) (k:Nat),(∀ i x,l[i]?=some x->g (k+i) x=g' (k+i) x)->mW g l k=mW g' l k
 | [],_,_=>rfl
 | x::xs,k,h=>by
  have h0:g k x=g' k x:=h 0 x rfl
  rw [mW,mW,h0]
  rw [B0 (g:=g) (g':=g') xs (k+1) (fun i y hy=>by have:=h (i+1) y (by simpa using hy);rw [show k+1+i=k+(i+1) by omega];exact this)]
theorem tU {α T:Type} {g:Nat->α->Option T}:∀ {l:List α} {k:Nat},mW g l k=none↔∀ i x,l[i]?=some x->g (k+i) x=none
 | [],k=>by simp [mW]
 | x::xs,k=>by
  rw [mW]
  constructor
  ·intro h i y hy
   cases hg:g k x with
   | some t=>rw [hg] at h;cases h
   | none =>
    rw [hg] at h
    cases i with
    | zero=>simp at hy;subst hy;exact hg
    | succ i=>have:=tU.1 h i y (by simpa using hy);rw [show k+(i+1)=k+1+i by omega];exact this
  intro h
  have h0:=h 0 x rfl
  rw [add_zero] at h0
  rw [h0]
  exact tU.2 fun i y hy=>by have:=h (i+1) y (by simpa using hy);rw [show k+1+i=k+(i+1) by omega];exact this
theorem sE {α:Type} {l:List α} {k:Nat} (h:k<l.length) (d:α):l.getD k d=l[k]:=by simp [List.getD,h]
theorem u8tri (a b:UInt8):a<b\/a=b\/b<a:=by
 rcases Nat.lt_trichotomy a.toNat b.toNat with h | h | h
 ·exact .inl h
 ·exact .inr (.inl (UInt8.toNat_inj.1 h))
 exact .inr (.inr h)
theorem zo:∀ (x y:List UInt8),(Op.bytesLess x y||(x == y)) = !Op.bytesLess y x
 | [],[]=>by simp [Op.bytesLess]
 | _::_,[]=>by simp [Op.bytesLess]
 | [],_::_=>by simp [Op.bytesLess]
 | a::x,b::y=>by
  rw [Op.bytesLess,Op.bytesLess]
  have ih:=zo x y
  rcases u8tri a b with h | h | h
  ·have h1:¬ b<a:=fun h'=>by have:a.toNat<b.toNat:=h;have:b.toNat<a.toNat:=h';omega
   have h2:¬ b=a:=fun h'=>by subst h';have:b.toNat<b.toNat:=h;omega
   have h3:¬ a=b:=fun h'=>h2 h'.symm
   simp [h,h1,h2]
  ·subst h
   have h1:¬ a<a:=fun h'=>by have:a.toNat<a.toNat:=h';omega
   simp [h1] at ih ⊢
   rw [<- ih]
  have h1:¬ a<b:=fun h'=>by have:a.toNat<b.toNat:=h';have:b.toNat<a.toNat:=h;omega
  have h3:¬ a=b:=fun h'=>by subst h';have:a.toNat<a.toNat:=h;omega
  simp [h,h1,h3]
theorem Aw (x y:Xh):(Op.bytesLess x.toList y.toList||decide (x=y)) = !Op.bytesLess y.toList x.toList:=by
 rw [<- zI];exact zo _ _
theorem sF {S T:Type} {body:S->Option (S⊕T)} (P:S->Prop) (μ:S->Nat) (Q:T->Prop) (step:∀ s,P s->(∃ s',body s=some (.inl s')/\P s'/\μ s'<μ s)\/∃ t,body s=some (.inr t)/\Q t):∀ (N:Nat) (s:S),P s->μ s<N->∃ t,aW body N s=some t/\Q t:=by
 intro N
 induction N with
 | zero=>intro s _ h;exact absurd h (Nat.not_lt_zero _)
 | succ N ih =>
  intro s hp hm
  rw [fe]
  rcases step s hp with ⟨s',h1,h2,h3⟩ | ⟨t,h1,h2⟩
  ·rw [h1];exact ih s' h2 (by omega)
  rw [h1];exact ⟨t,rfl,h2⟩
def Y {α:Type} (x:Option α) (P:α->Prop):Prop:=∃ a,x=some a/\P a
section
variable {α β S T:Type} {x y:Option α} {P P':α->Prop} {Q:β->Prop} {f:α->Option β} {a:α} {c:Bool}
theorem Y.bind (h:Y x P) (k:∀ a,P a->Y (f a) Q):Y (x.bind f) Q:=by
 obtain ⟨a,h1,h2⟩:=h;rw [h1];exact k a h2
theorem Y.ret (h:P a):Y (some a) P:=⟨a,rfl,h⟩
theorem Y.mono (h:Y x P) (k:∀ a,P a->P' a):Y x P':=by obtain ⟨a,h1,h2⟩:=h;exact ⟨a,h1,k a h2⟩
theorem Y.cond (h:c=true->Y x P) (k:c=false->Y y P):Y (cond c x y) P:=by cases c;exact k rfl;exact h rfl
theorem Y.eq {r:α} (h:x=some r) (k:Y (f r) Q):Y (x.bind f) Q:=by rw [h];exact k
theorem Y.loop {body:S->Option (S⊕T)} {R:T->Prop} {s:S} (I:S->Prop) (μ:S->Nat) (h0:I s) (hm:μ s<=1267650600228229401496703205000) (step:∀ s,I s->Y (body s) (fun o=>match o with | .inl s'=>I s'/\μ s'<μ s | .inr t=>R t)):Y (aW body Va s) R:=by
 obtain ⟨t,h1,h2⟩:=sF (body:=body) I μ R (fun s hs=>by
  obtain ⟨o,k1,k2⟩:=step s hs
  cases o with
  | inl s'=>exact .inl ⟨s',k1,k2⟩
  | inr t=>exact .inr ⟨t,k1,k2⟩) Va s h0 (mL hm)
 exact ⟨t,h1,h2⟩
end
theorem zr (a n:Int) (h1:1<=n) (h2:n<=4611686018427387904):∃ r,ku a n=some r/\0<=r/\r<n:=by
 have hl:=Int.tmod_lt_of_pos a (show 0<n by omega)
 have hl2:=Int.tmod_lt_of_pos (-a) (show 0<n by omega)
 rw [Int.neg_tmod] at hl2
 unfold ku nz lb
 rw [if_neg (by omega),ee (by omega) (by omega)]
 exact ⟨_,rfl,Int.tmod_nonneg _ (by omega),Int.tmod_lt_of_pos _ (by omega)⟩
def Pb (p:Zg):Prop:=0<=p.I/\p.I<=p.L.length/\p.L.length<=1000000000000000
theorem jI {p:Zg} (hp:Pb p) (n:Int) (h1:1<=n) (h2:n<=4611686018427387904):∃ r q,aB p n=some (r,q)/\0<=r/\r<n/\Pb q:=by
 obtain ⟨a1,a2,a3⟩:=hp
 unfold aB
 by_cases h:(p.L.length:Int)<=p.I
 ·rw [det h];exact ⟨_,_,rfl,by omega,by omega,a1,a2,a3⟩
 rw [bz h,ee (r:=p.I+1) (by omega) (by omega),ee (by omega) (by omega)]
 simp only [dq]
 have e:bx p.L (p.I+1 - 1)=some (p.L[p.I.toNat]'(by omega)):=by
  unfold bx;rw [if_pos (by omega)]
  have:(p.I+1 - 1).toNat=p.I.toNat:=by omega
  rw [this];exact List.getElem?_eq_getElem _
 rw [aR e]
 obtain ⟨r,h3,h4,h5⟩:=zr (p.L[p.I.toNat]'(by omega)) n h1 h2
 rw [aR h3]
 exact ⟨_,_,rfl,h4,h5,by simp only;omega,by simp only;omega,a3⟩
theorem Hy (l:List Int) (n:Int) (h:0<=n) (h2:n<=1000):∃ m,mC l n=some m/\(m.length:Int)<=n:=by
 unfold mC
 by_cases h1:n<(l.length:Int)
 ·rw [det h1]
  have e:sub l 0 n=some ((l.take n.toNat).drop 0):=by unfold sub;rw [if_pos (by omega)];rfl
  simp only [cQ];rw [aR e];exact ⟨_,rfl,by simp;omega⟩
 rw [bz h1];exact ⟨_,rfl,by omega⟩
theorem Hz (a n:Int) (h1:1<=n) (h2:n<=4611686018427387904):Y (ku a n) (fun r=>0<=r/\r<n):=zr a n h1 h2
theorem dD {p:Zg} (hp:Pb p) (n:Int) (h1:1<=n) (h2:n<=4611686018427387904):Y (aB p n) (fun r=>0<=r.1/\r.1<n/\Pb r.2):=by
 obtain ⟨r,q,h3,h4,h5,h6⟩:=jI hp n h1 h2;exact ⟨(r,q),h3,h4,h5,h6⟩
theorem HA (l:List Int) (n:Int) (h:0<=n) (h2:n<=1000):Y (mC l n) (fun m=>Pb ⟨m,0⟩):=by
 obtain ⟨m,h3,h4⟩:=Hy l n h h2
 exact ⟨m,h3,by dsimp only;omega,by dsimp only;omega,by dsimp only;omega⟩
def Uf (l:List Int):Prop:=∀ x∈l,48<=x/\x<=57
theorem code_ok {p:Zg} (hp:Pb p):∃ l q,fk p 8=some (strOfNums l,q)/\l.length=8/\Uf l/\Pb q:=by
 unfold fk
 obtain ⟨r,q,h1,h2,h3,h4⟩:=jI hp 2 (by omega) (by omega)
 rw [aR h1]
 simp only
 rw [ee (by omega) (by omega),sy (by omega)]
 obtain ⟨t,h5,h6⟩:=sF (body:=fun (l5,l8,v9)=>cond (decide (((l5.length:Nat):Int)<8)) (Option.bind (aB (⟨l8,v9⟩:Zg) 3) (fun x19=>Option.bind (app 1 l5 [48,(u8.wrap (i64.wrap (49+x19.1)))]) (fun l22=>some (.inl (l22,x19.2.L,x19.2.I))))) (some (.inr (l5,l8,v9))))
  (fun s:List Int×List Int×Int=>(s.1.length=2\/s.1.length=4\/s.1.length=6\/s.1.length=8)/\Uf s.1/\Pb ⟨s.2.1,s.2.2⟩) (fun s=>8 - s.1.length) (fun t:List Int×List Int×Int=>t.1.length=8/\Uf t.1/\Pb ⟨t.2.1,t.2.2⟩)
  (fun s hs=>by
   obtain ⟨l,l8,v9⟩:=s
   obtain ⟨a1,a2,a3⟩:=hs
   simp only at a1 a2 a3 ⊢
   by_cases hl:((l.length:Nat):Int)<8
   ·left
    rw [det hl];simp only [cQ]
    obtain ⟨r,q,b1,b2,b3,b4⟩:=jI a3 3 (by omega) (by omega)
    rw [aR b1];simp only
    rw [ee (by omega) (by omega),sy (by omega)]
    have e:app 1 l [48,49+r]=some (l++[48,49+r]):=by unfold app;rw [if_pos];simp;omega
    rw [aR e]
    refine ⟨_,rfl,⟨by simp only [length_append,length_cons,length_nil];omega,?_,b4⟩,by simp only [length_append,length_cons,length_nil];omega⟩
    intro x hx
    simp only [mem_append,mem_cons,not_mem_nil,or_false] at hx
    rcases hx with hx | rfl | rfl
    ·exact a2 x hx
    ·omega
    omega
   right
   rw [bz hl]
   exact ⟨_,rfl,by show l.length=8;omega,a2,a3⟩)
  Va ([57,52+r],q.L,q.I) ⟨by simp,by intro x hx;simp only [mem_cons,not_mem_nil,or_false] at hx;omega,h4⟩ (mL (by simp))
 obtain ⟨l,l8,v9⟩:=t
 rw [aR h5]
 exact ⟨_,_,rfl,h6.1,h6.2.1,h6.2.2⟩
def Mc (a:Int):Prop:=0<=a/\a<18446744073709551616
theorem wu (a:Int):u64.wrap a=a % 18446744073709551616:=rfl
theorem ic {a:Int} (h:Mc a):u64.wrap a=a:=by rw [wu];unfold Mc at h;omega
theorem bv64 {a:Int} (h:Mc a):(BitVec.ofInt 64 a).toNat=a.toNat:=by
 rw [BitVec.toNat_ofInt];unfold Mc at h;omega
theorem iand_eq {a b:Int} (ha:Mc a) (hb:Mc b):ji .u64 a b=((a.toNat &&& b.toNat:Nat):Int):=by
 have hlt:a.toNat &&& b.toNat<18446744073709551616:=Nat.lt_of_le_of_lt Nat.and_le_left (by unfold Mc at ha;omega)
 have e:ji .u64 a b=u64.wrap (((BitVec.ofInt 64 a &&& BitVec.ofInt 64 b).toNat:Nat):Int):=rfl
 rw [e,BitVec.toNat_and,bv64 ha,bv64 hb,ic]
 exact ⟨by omega,by omega⟩
theorem ior_eq {a b:Int} (ha:Mc a) (hb:Mc b):xi .u64 a b=((a.toNat ||| b.toNat:Nat):Int):=by
 have hlt:a.toNat ||| b.toNat<2 ^ 64:=Nat.or_lt_two_pow (by unfold Mc at ha;omega) (by unfold Mc at hb;omega)
 have e:xi .u64 a b=u64.wrap (((BitVec.ofInt 64 a ||| BitVec.ofInt 64 b).toNat:Nat):Int):=rfl
 rw [e,BitVec.toNat_or,bv64 ha,bv64 hb,ic]
 exact ⟨by omega,by omega⟩
theorem sa {a:Int} (h:Mc a):ji .u64 a 4294967295=a % 4294967296:=by
 rw [iand_eq h ⟨by omega,by omega⟩]
 have:a.toNat &&& (4294967295:Int).toNat=a.toNat % 4294967296:=Nat.and_two_pow_sub_one_eq_mod (n:=32) a.toNat
 rw [this];unfold Mc at h;omega
theorem Eb {a:Int}:ex .u64 a 32=a / 4294967296:=Int.fdiv_eq_ediv_of_nonneg a (show (0:Int)<=4294967296 by omega)
theorem mul64 {a b:Int} (ha:Mc a) (hb:Mc b):∃ h l,jU a b=some (h,l)/\Mc h/\Mc l/\h*18446744073709551616+l=a*b:=by
 unfold jU lb
 rw [sa ha,sa hb]
 simp only [Eb]
 unfold Mc at ha hb
 have ea:a=4294967296*(a / 4294967296)+a % 4294967296:=by omega
 have eb:b=4294967296*(b / 4294967296)+b % 4294967296:=by omega
 have h1:0<=a / 4294967296/\a / 4294967296<4294967296:=by omega
 have h2:0<=a % 4294967296/\a % 4294967296<4294967296:=by omega
 have h3:0<=b / 4294967296/\b / 4294967296<4294967296:=by omega
 have h4:0<=b % 4294967296/\b % 4294967296<4294967296:=by omega
 generalize a / 4294967296=x1 at *
 generalize a % 4294967296=x0 at *
 generalize b / 4294967296=y1 at *
 generalize b % 4294967296=y0 at *
 subst ea eb
 have p00:0<=x0*y0/\x0*y0<=4294967295*4294967295:=⟨Int.mul_nonneg h2.1 h4.1,Int.mul_le_mul (by omega) (by omega) h4.1 (by omega)⟩
 have p01:0<=x0*y1/\x0*y1<=4294967295*4294967295:=⟨Int.mul_nonneg h2.1 h3.1,Int.mul_le_mul (by omega) (by omega) h3.1 (by omega)⟩
 have p10:0<=x1*y0/\x1*y0<=4294967295*4294967295:=⟨Int.mul_nonneg h1.1 h4.1,Int.mul_le_mul (by omega) (by omega) h4.1 (by omega)⟩
 have p11:0<=x1*y1/\x1*y1<=4294967295*4294967295:=⟨Int.mul_nonneg h1.1 h3.1,Int.mul_le_mul (by omega) (by omega) h3.1 (by omega)⟩
 have e:(4294967296*x1+x0)*(4294967296*y1+y0)=18446744073709551616*(x1*y1)+4294967296*(x1*y0)+4294967296*(x0*y1)+x0*y0:=by
  rw [Int.add_mul,Int.mul_add,Int.mul_add]
  have t1:4294967296*x1*(4294967296*y1)=18446744073709551616*(x1*y1):=by
   rw [Int.mul_assoc,<- Int.mul_assoc x1,Int.mul_comm x1 4294967296,Int.mul_assoc 4294967296 x1,<- Int.mul_assoc];rfl
  have t2:4294967296*x1*y0=4294967296*(x1*y0):=Int.mul_assoc _ _ _
  have t3:x0*(4294967296*y1)=4294967296*(x0*y1):=by rw [<- Int.mul_assoc,Int.mul_comm x0,Int.mul_assoc]
  rw [t1,t2,t3];omega
 rw [e]
 generalize x0*y0=p at *
 generalize x0*y1=q at *
 generalize x1*y0=r at *
 generalize x1*y1=s at *
 refine ⟨_,_,rfl,?_,?_,?_⟩
 all_goals simp only [wu,Mc]
 all_goals first | omega | (rw [sa (by unfold Mc;omega)];omega)
theorem xX {a n:Int} (h:n.toNat<=64):ex .u64 a n=a / 2 ^ n.toNat:=by
 have e:ex .u64 a n=a.fdiv (2 ^ min n.toNat 64):=rfl
 rw [e,Nat.min_eq_left h]
 exact Int.fdiv_eq_ediv_of_nonneg a (Int.le_of_lt (Int.pow_pos (by omega)))

structure We (u u1 y1 y0 q rh:Int):Prop where
 eq:u=q*y1+rh
 r0:0<=rh
 r1:rh<4294967296
 q0:0<=q
 q1:q<=4294967297
 up:u*4294967296+u1<q*(y1*4294967296+y0)+(y1*4294967296+y0)
section
variable {u u1 y1 y0 q rh:Int} (hu:0<=u) (huy:u<y1*4294967296+y0) (h1:0<=u1) (h1':u1<4294967296) (hy:2147483648<=y1) (hy':y1<4294967296) (hz:0<=y0) (hz':y0<4294967296)
include hu huy h1 h1' hy hy' hz hz'
theorem ux:We u u1 y1 y0 (u / y1) (u % y1):=by
 have hq0:0<=u / y1:=Int.ediv_nonneg hu (by omega)
 have hr0:=Int.emod_nonneg u (show y1≠0 by omega)
 have hr1:=Int.emod_lt_of_pos u (show 0<y1 by omega)
 have he:=Int.emod_add_mul_ediv u y1
 rw [Int.mul_comm] at he
 have hz2:0<=u / y1*y0:=Int.mul_nonneg hq0 hz
 refine ⟨by omega,hr0,by omega,hq0,?_,?_⟩
 ·apply Int.le_of_lt_add_one
  apply Int.ediv_lt_of_lt_mul (by omega)
  omega
 rw [Int.mul_add,<- Int.mul_assoc];omega
theorem wB (i:We u u1 y1 y0 q rh) (h:4294967296<=q\/4294967296*rh+u1<q*y0):u*4294967296+u1<q*(y1*4294967296+y0)/\1<=q:=by
 have e:=i.eq
 have hlt:u*4294967296+u1<q*(y1*4294967296+y0):=by
  rcases h with h | h
  ·have:4294967296*(y1*4294967296+y0)<=q*(y1*4294967296+y0):=Int.mul_le_mul_of_nonneg_right h (by omega)
   omega
  rw [Int.mul_add,<- Int.mul_assoc];omega
 refine ⟨hlt,?_⟩
 have hq:=i.q0
 by_cases hq0:q=0
 ·subst hq0;rw [Int.zero_mul] at hlt;omega
 omega
theorem Ec (i:We u u1 y1 y0 q rh) (h:4294967296<=q\/4294967296*rh+u1<q*y0) (h2:rh+y1<4294967296):We u u1 y1 y0 (q - 1) (rh+y1):=by
 obtain ⟨hlt,hq⟩:=wB hu huy h1 h1' hy hy' hz hz' i h
 have:=i.eq;have:=i.r0;have:=i.q1
 refine ⟨by rw [Int.sub_mul];omega,by omega,h2,by omega,by omega,?_⟩
 rw [Int.sub_mul];omega
theorem Ed (i:We u u1 y1 y0 q rh) (h:4294967296<=q\/4294967296*rh+u1<q*y0) (h2:4294967296<=rh+y1):(q - 1)*(y1*4294967296+y0)<=u*4294967296+u1/\u*4294967296+u1<(q - 1)*(y1*4294967296+y0)+(y1*4294967296+y0):=by
 obtain ⟨hlt,hq⟩:=wB hu huy h1 h1' hy hy' hz hz' i h
 have e:=i.eq;have:=i.r0;have hq1:=i.q1
 refine ⟨?_,by rw [Int.sub_mul];omega⟩
 have hz2:(q - 1)*y0<=4294967296*4294967295:=Int.mul_le_mul (by omega) (by omega) hz (by omega)
 rw [Int.mul_add,<- Int.mul_assoc]
 rw [Int.sub_mul q 1 y1]
 omega
omit hu huy h1 h1' hy hy' hz hz' in
theorem B1 (i:We u u1 y1 y0 q rh) (h:¬ (4294967296<=q\/4294967296*rh+u1<q*y0)):q*(y1*4294967296+y0)<=u*4294967296+u1:=by
 have e:=i.eq
 rw [Int.mul_add,<- Int.mul_assoc];omega
end
section
variable {u u1 y1 y0:Int} (hu:0<=u) (huy:u<y1*4294967296+y0) (h1:0<=u1) (h1':u1<4294967296) (hy:2147483648<=y1) (hy':y1<4294967296) (hz:0<=y0) (hz':y0<4294967296)
include hu huy h1 h1' hy hy' hz hz'
omit hu huy hy hy' in
theorem Ee {q rh:Int} (i:We u u1 y1 y0 q rh):((decide (4294967296<=q))||(decide ((u64.wrap ((u64.wrap (4294967296*rh))+u1))<(u64.wrap (q*y0)))))=decide (4294967296<=q\/4294967296*rh+u1<q*y0):=by
 have:=i.r0;have:=i.r1;have:=i.q0
 rw [ic (a:=4294967296*rh) ⟨by omega,by omega⟩,ic (a:=4294967296*rh+u1) ⟨by omega,by omega⟩]
 by_cases hq:4294967296<=q
 ·rw [det hq,det (Or.inl hq)];rfl
 have hp:q*y0<=4294967295*4294967295:=Int.mul_le_mul (by omega) (by omega) hz (by omega)
 have hp0:0<=q*y0:=Int.mul_nonneg (by omega) hz
 rw [ic (a:=q*y0) ⟨hp0,by omega⟩,bz hq,Bool.false_or]
 congr 1
 exact propext ⟨.inr,fun h=>h.resolve_left hq⟩
omit hy hy' hz hz' in
theorem Ax {q:Int} (h0:0<=q) (h2:q*(y1*4294967296+y0)<=u*4294967296+u1):q<4294967296:=by
 have:q*(y1*4294967296+y0)<4294967296*(y1*4294967296+y0):=by omega
 exact Int.lt_of_mul_lt_mul_right this (by omega)
def KQ (u u1 y1 y0 q:Int):Prop:=0<=q/\q<4294967296/\q*(y1*4294967296+y0)<=u*4294967296+u1/\u*4294967296+u1<q*(y1*4294967296+y0)+(y1*4294967296+y0)
theorem HB:∃ q,aW (S:=Int×Int) (T:=(Int)) (fun (v18,v19)=>cond ((decide (4294967296<=v18))||(decide ((u64.wrap ((u64.wrap (4294967296*v19))+u1))<(u64.wrap (v18*y0))))) (cond (decide (4294967296<=(u64.wrap (v19+y1)))) (some (.inr (u64.wrap (v18 - 1)))) (some (.inl ((u64.wrap (v18 - 1)),(u64.wrap (v19+y1)))))) (some (.inr v18))) Va (u / y1,u % y1)=some q/\KQ u u1 y1 y0 q:=by
 refine sF (fun s:Int×Int=>We u u1 y1 y0 s.1 s.2) (fun s=>s.1.toNat) (KQ u u1 y1 y0) ?_ Va _ (ux hu huy h1 h1' hy hy' hz hz') ?_
 ·rintro ⟨q,rh⟩ i
  dsimp only at i ⊢
  rw [Ee h1 h1' hz hz' i]
  have i0:=i.r0;have i1:=i.r1;have i2:=i.q0;have i3:=i.q1
  by_cases h:4294967296<=q\/4294967296*rh+u1<q*y0
  ·rw [det h]
   obtain ⟨_,hq1⟩:=wB hu huy h1 h1' hy hy' hz hz' i h
   rw [ic (a:=rh+y1) ⟨by omega,by omega⟩,ic (a:=q - 1) ⟨by omega,by omega⟩]
   by_cases h2:4294967296<=rh+y1
   ·rw [det h2];right
    obtain ⟨e1,e2⟩:=Ed hu huy h1 h1' hy hy' hz hz' i h h2
    exact ⟨_,rfl,by omega,Ax hu huy h1 h1' (by omega) e1,e1,e2⟩
   rw [bz h2];left
   exact ⟨_,rfl,Ec hu huy h1 h1' hy hy' hz hz' i h (by omega),by dsimp only;omega⟩
  rw [bz h];right
  have e1:=B1 i h
  exact ⟨_,rfl,i2,Ax hu huy h1 h1' i2 e1,e1,i.up⟩
 have:=(ux hu huy h1 h1' hy hy' hz hz').q1
 exact mL (by dsimp only;omega)
theorem HC:∃ q,aW (S:=Int×Int) (T:=(Int)) (fun (v28,v29)=>cond ((decide (4294967296<=v29))||(decide ((u64.wrap ((u64.wrap (4294967296*v28))+u1))<(u64.wrap (v29*y0))))) (cond (decide (4294967296<=(u64.wrap (v28+y1)))) (some (.inr (u64.wrap (v29 - 1)))) (some (.inl ((u64.wrap (v28+y1)),(u64.wrap (v29 - 1)))))) (some (.inr v29))) Va (u % y1,u / y1)=some q/\KQ u u1 y1 y0 q:=by
 refine sF (fun s:Int×Int=>We u u1 y1 y0 s.2 s.1) (fun s=>s.2.toNat) (KQ u u1 y1 y0) ?_ Va _ (ux hu huy h1 h1' hy hy' hz hz') ?_
 ·rintro ⟨rh,q⟩ i
  dsimp only at i ⊢
  rw [Ee h1 h1' hz hz' i]
  have i0:=i.r0;have i1:=i.r1;have i2:=i.q0;have i3:=i.q1
  by_cases h:4294967296<=q\/4294967296*rh+u1<q*y0
  ·rw [det h]
   obtain ⟨_,hq1⟩:=wB hu huy h1 h1' hy hy' hz hz' i h
   rw [ic (a:=rh+y1) ⟨by omega,by omega⟩,ic (a:=q - 1) ⟨by omega,by omega⟩]
   by_cases h2:4294967296<=rh+y1
   ·rw [det h2];right
    obtain ⟨e1,e2⟩:=Ed hu huy h1 h1' hy hy' hz hz' i h h2
    exact ⟨_,rfl,by omega,Ax hu huy h1 h1' (by omega) e1,e1,e2⟩
   rw [bz h2];left
   exact ⟨_,rfl,Ec hu huy h1 h1' hy hy' hz hz' i h (by omega),by dsimp only;omega⟩
  rw [bz h];right
  have e1:=B1 i h
  exact ⟨_,rfl,i2,Ax hu huy h1 h1' i2 e1,e1,i.up⟩
 have:=(ux hu huy h1 h1' hy hy' hz hz').q1
 exact mL (by dsimp only;omega)
end
theorem Fo {a v:Int} {k n:Nat} (h:v=a / 2 ^ k) (hn:1<=n) (l:2 ^ (n - 1)<=v) (g:v<2 ^ n):2 ^ (k+n - 1)<=a/\a<2 ^ (k+n):=by
 have hp:(0:Int)<2 ^ k:=Int.pow_pos (by omega)
 have e1:=Int.ediv_mul_le a (Int.ne_of_gt hp)
 have e2:=Int.lt_ediv_add_one_mul_self a hp
 rw [<- h] at e1 e2
 constructor
 ·rw [show k+n - 1=(n - 1)+k by omega,Int.pow_add]
  exact Int.le_trans (Int.mul_le_mul_of_nonneg_right l (Int.le_of_lt hp)) e1
 rw [show k+n=n+k by omega,Int.pow_add]
 exact Int.lt_of_lt_of_le e2 (Int.mul_le_mul_of_nonneg_right (by omega) (Int.le_of_lt hp))
def De:Xh:=⟨#[0,1,2,2,3,3,3,3,4,4,4,4,4,4,4,4,5,5,5,5,5,5,5,5,5,5,5,5,5,5,5,5,6,6,6,6,6,6,6,6,6,6,6,6,6,6,6,6,6,6,6,6,6,6,6,6,6,6,6,6,6,6,6,6,7,7,7,7,7,7,7,7,7,7,7,7,7,7,7,7,7,7,7,7,7,7,7,7,7,7,7,7,7,7,7,7,7,7,7,7,7,7,7,7,7,7,7,7,7,7,7,7,7,7,7,7,7,7,7,7,7,7,7,7,7,7,7,7,8,8,8,8,8,8,8,8,8,8,8,8,8,8,8,8,8,8,8,8,8,8,8,8,8,8,8,8,8,8,8,8,8,8,8,8,8,8,8,8,8,8,8,8,8,8,8,8,8,8,8,8,8,8,8,8,8,8,8,8,8,8,8,8,8,8,8,8,8,8,8,8,8,8,8,8,8,8,8,8,8,8,8,8,8,8,8,8,8,8,8,8,8,8,8,8,8,8,8,8,8,8,8,8,8,8,8,8,8,8,8,8,8,8,8,8,8,8,8,8,8,8,8,8,8,8,8,8]⟩
theorem Df:∀ v:Fin 256,(match bx De.data.toList (v.val:Int) with | some c=>decide (1<=v.val->1<=c.toNat/\2 ^ (c.toNat - 1)<=v.val)&&decide (v.val<2 ^ c.toNat)&&decide (c.toNat<=8) | none=>false)=true:=by decide
theorem Fq {v:Int} (h0:0<=v) (h1:v<256):∃ c,bx De.data.toList v=some c/\(1<=v->1<=c.toNat/\2 ^ (c.toNat - 1)<=v)/\v<2 ^ c.toNat/\c.toNat<=8:=by
 obtain ⟨k,rfl⟩:∃ k:Nat,v=(k:Int):=⟨v.toNat,by omega⟩
 have:=Df ⟨k,by omega⟩
 split at this
 ·rename_i c hc
  simp only [and_eq_true,decide_eq_true_eq] at this
  obtain ⟨⟨a,b⟩,d⟩:=this
  refine ⟨c,hc,fun h=>⟨(a (by omega)).1,?_⟩,?_,d⟩
  ·have:=(a (by omega)).2;exact_mod_cast this
  exact_mod_cast b
 cases this
theorem len64 {a:Int} (ha:Mc a) (h1:1<=a):∃ n:Nat,gM a=some (n:Int)/\1<=n/\n<=64/\2 ^ (n - 1)<=a/\a<2 ^ n:=by
 have key:∃ (k:Nat) (v:Int),k<=56/\v=a / 2 ^ k/\1<=v/\v<256/\gM a=Option.bind (bx De.data.toList (u8.wrap v)) (fun c13=>lb ((i64.wrap ((k:Int)+(i64.wrap (c13.toNat:Int))))) (fun w14=>some w14)):=by
  unfold Mc at ha
  have s32:∀ x:Int,ex .u64 x 32=x / 4294967296:=fun x=>xX (by decide)
  have s16:∀ x:Int,ex .u64 x 16=x / 65536:=fun x=>xX (by decide)
  have s8:∀ x:Int,ex .u64 x 8=x / 256:=fun x=>xX (by decide)
  unfold gM
  simp only [s32,s16,s8]
  by_cases c1:4294967296<=a
  ·rw [det c1]
   simp only [cQ,fP]
   by_cases c2:65536<=a / 4294967296
   ·rw [det c2]
    simp only [cQ,fP]
    by_cases c3:256<=a / 4294967296 / 65536
    ·rw [det c3]
     exact ⟨56,a / 4294967296 / 65536 / 256,by omega,by simp only [Int.reducePow];omega,by omega,by omega,rfl⟩
    rw [bz c3]
    exact ⟨48,a / 4294967296 / 65536,by omega,by simp only [Int.reducePow];omega,by omega,by omega,rfl⟩
   rw [bz c2]
   simp only [dq,fP]
   by_cases c3:256<=a / 4294967296
   ·rw [det c3]
    exact ⟨40,a / 4294967296 / 256,by omega,by simp only [Int.reducePow];omega,by omega,by omega,rfl⟩
   rw [bz c3]
   exact ⟨32,a / 4294967296,by omega,by simp only [Int.reducePow],by omega,by omega,rfl⟩
  rw [bz c1]
  simp only [dq,fP]
  by_cases c2:65536<=a
  ·rw [det c2]
   simp only [cQ,fP]
   by_cases c3:256<=a / 65536
   ·rw [det c3]
    exact ⟨24,a / 65536 / 256,by omega,by simp only [Int.reducePow];omega,by omega,by omega,rfl⟩
   rw [bz c3]
   exact ⟨16,a / 65536,by omega,by simp only [Int.reducePow],by omega,by omega,rfl⟩
  rw [bz c2]
  simp only [dq,fP]
  by_cases c3:256<=a
  ·rw [det c3]
   exact ⟨8,a / 256,by omega,by simp only [Int.reducePow],by omega,by omega,rfl⟩
  rw [bz c3]
  exact ⟨0,a,by omega,by simp,by omega,by omega,rfl⟩
 obtain ⟨k,v,k1,k2,k3,k4,k5⟩:=key
 obtain ⟨c,c1,c2,c3,c4⟩:=Fq (v:=v) (by omega) k4
 obtain ⟨c5,c6⟩:=c2 k3
 obtain ⟨l1,l2⟩:=Fo k2 c5 c6 c3
 rw [k5,sy (by omega),aR c1]
 unfold lb
 rw [ee (r:=(c.toNat:Int)) (by omega) (by omega),ee (by omega) (by omega)]
 exact ⟨k+c.toNat,by simp,by omega,by omega,l1,l2⟩
theorem lz64 {a:Int} (ha:Mc a) (h1:1<=a):∃ s:Nat,eZ a=some (s:Int)/\s<=63/\9223372036854775808<=a*2 ^ s/\a*2 ^ s<18446744073709551616:=by
 obtain ⟨n,e1,e2,e3,e4,e5⟩:=len64 ha h1
 unfold eZ
 rw [aR e1,ee (by omega) (by omega)]
 refine ⟨64 - n,by congr 1;omega,by omega,?_,?_⟩
 ·have:=Int.mul_le_mul_of_nonneg_right e4 (Int.le_of_lt (show (0:Int)<2 ^ (64 - n) from Int.pow_pos (by decide)))
  rw [<- Int.pow_add,show n - 1+(64 - n)=63 by omega] at this
  exact this
 have:=Int.mul_lt_mul_of_pos_right e5 (show (0:Int)<2 ^ (64 - n) from Int.pow_pos (by decide))
 rw [<- Int.pow_add,show n+(64 - n)=64 by omega] at this
 exact this
theorem xY {b:Int} (h:0<=b):sN b=some ():=by unfold sN;rw [if_pos h]
theorem Dg {a:Int} {s:Nat} (h:s<=64):ja .u64 a (s:Int)=u64.wrap (a*2 ^ s):=by
 have e:ja .u64 a (s:Int)=u64.wrap (a*2 ^ min (s:Int).toNat 64):=rfl
 rw [e,Int.toNat_natCast,Nat.min_eq_left h]
theorem ior_sh {h b:Int} {s:Nat} (hh:0<=h) (hb:0<=b) (hb2:b<2 ^ s) (h1:Mc (h*2 ^ s)) (h2:Mc b):xi .u64 (h*2 ^ s) b=h*2 ^ s+b:=by
 rw [ior_eq h1 h2]
 obtain ⟨x,rfl⟩:∃ k:Nat,h=(k:Int):=⟨h.toNat,by omega⟩
 obtain ⟨z,rfl⟩:∃ k:Nat,b=(k:Int):=⟨b.toNat,by omega⟩
 have e:((x:Int)*2 ^ s)=((2 ^ s*x:Nat):Int):=by push_cast;exact Int.mul_comm _ _
 have hz:z<2 ^ s:=by exact_mod_cast hb2
 rw [e,Int.toNat_natCast,Int.toNat_natCast,<- Nat.two_pow_add_eq_or_of_lt hz]
 rfl
theorem dm_of {n q r y:Int} (e:n=q*y+r) (h0:0<=r) (h1:r<y):n / y=q/\n % y=r:=by
 have gd:n / y=q:=by
  rw [e,Int.add_comm,Int.add_mul_ediv_right _ _ (by omega),Int.ediv_eq_zero_of_lt h0 h1,Int.zero_add]
 refine ⟨gd,?_⟩
 have:=Int.emod_add_mul_ediv n y
 rw [gd,Int.mul_comm] at this
 omega
theorem div64 {hi lo y:Int} (h1:Mc hi) (h2:Mc lo) (h3:Mc y) (h4:hi<y):iS hi lo y=some ((hi*18446744073709551616+lo) / y,(hi*18446744073709551616+lo) % y):=by
 have hi0:=h1.1
 have hlo:=h2.1
 have hy1:1<=y:=by omega
 unfold iS
 have cy:(y == 0)=false:=by simp;omega
 rw [cy,bz (show ¬ y<=hi by omega)]
 simp only [dq]
 by_cases hz:hi=0
 ·subst hz
  have:((0:Int) == 0)=true:=rfl
  rw [this]
  simp only [cQ]
  rw [aR (zm (show y≠0 by omega)),aR (zm (show y≠0 by omega)),Int.tdiv_eq_ediv_of_nonneg hlo,Int.tmod_eq_emod_of_nonneg hlo]
  have:lo / y<=lo:=Int.ediv_le_self _ hlo
  rw [ic ⟨Int.ediv_nonneg hlo (by omega),by have:=h2.2;omega⟩]
  simp
 have cz:(hi == 0)=false:=by simp;exact hz
 rw [cz]
 simp only [dq]
 obtain ⟨s,e1,e2,e3,e4⟩:=lz64 h3 hy1
 have hP:(0:Int)<2 ^ s:=Int.pow_pos (by omega)
 have hM:(0:Int)<2 ^ (64 - s):=Int.pow_pos (by omega)
 have hPM:(2:Int) ^ s*2 ^ (64 - s)=18446744073709551616:=by rw [<- Int.pow_add,show s+(64 - s)=64 by omega];rfl
 have hhP:hi*2 ^ s<y*2 ^ s:=Int.mul_lt_mul_of_pos_right h4 hP
 have hhP0:0<=hi*2 ^ s:=Int.mul_nonneg hi0 (by omega)
 have hqd0:0<=lo / 2 ^ (64 - s):=Int.ediv_nonneg hlo (by omega)
 have hqd1:lo / 2 ^ (64 - s)<2 ^ s:=by
  apply Int.ediv_lt_of_lt_mul hM
  rw [hPM];exact h2.2
 have hPle:(2:Int) ^ s<=18446744073709551616:=by rw [<- hPM];have:=Int.mul_le_mul_of_nonneg_left (show (1:Int)<=2 ^ (64 - s) by omega) (Int.le_of_lt hP);omega
 have f1:u64.wrap (s:Int)=(s:Int):=ic ⟨by omega,by omega⟩
 have f2:u64.wrap (64 - (s:Int))=((64 - s:Nat):Int):=by rw [ic ⟨by omega,by omega⟩];omega
 have f3:ja .u64 y (s:Int)=y*2 ^ s:=by rw [Dg (by omega),ic ⟨by omega,e4⟩]
 have f4:ja .u64 hi (s:Int)=hi*2 ^ s:=by rw [Dg (by omega),ic ⟨hhP0,by omega⟩]
 have f5:ex .u64 lo ((64 - s:Nat):Int)=lo / 2 ^ (64 - s):=by rw [xX (by omega),Int.toNat_natCast]
 have f6:ja .u64 lo (s:Int)=(lo*2 ^ s) % 18446744073709551616:=by rw [Dg (by omega),wu]
 have f7:xi .u64 (hi*2 ^ s) (lo / 2 ^ (64 - s))=hi*2 ^ s+lo / 2 ^ (64 - s):=ior_sh hi0 hqd0 hqd1 ⟨hhP0,by omega⟩ ⟨hqd0,by omega⟩
 rw [aR e1]
 simp only [lb,f1,f2,f3,f4,f5,f6,f7,xY (Int.natCast_nonneg s),xY (Int.natCast_nonneg (64 - s)),fP,Eb]
 have hN:(hi*18446744073709551616+lo)*2 ^ s=(hi*2 ^ s+lo / 2 ^ (64 - s))*18446744073709551616+(lo*2 ^ s) % 18446744073709551616:=by
  have g1:=Int.emod_add_mul_ediv lo (2 ^ (64 - s))
  have g2:lo*2 ^ s=lo % 2 ^ (64 - s)*2 ^ s+18446744073709551616*(lo / 2 ^ (64 - s)):=by
   have:=congrArg (· * (2:Int) ^ s) g1
   simp only [Int.add_mul] at this
   rw [<- this,<- hPM]
   rw [Int.mul_assoc,Int.mul_comm (lo / 2 ^ (64 - s)),<- Int.mul_assoc,Int.mul_comm (2 ^ (64 - s)),Int.mul_assoc]
  have g3:0<=lo % 2 ^ (64 - s)*2 ^ s:=Int.mul_nonneg (Int.emod_nonneg _ (by omega)) (by omega)
  have g4:lo % 2 ^ (64 - s)*2 ^ s<18446744073709551616:=by
   rw [<- hPM,Int.mul_comm (2 ^ s)]
   exact Int.mul_lt_mul_of_pos_right (Int.emod_lt_of_pos _ hM) hP
  rw [Int.add_mul,Int.mul_right_comm hi]
  generalize lo % 2 ^ (64 - s)*2 ^ s=A at *
  generalize lo / 2 ^ (64 - s)=B at *
  generalize lo*2 ^ s=C at *
  generalize hi*2 ^ s=D at *
  omega
 have hu0:0<=hi*2 ^ s+lo / 2 ^ (64 - s):=by omega
 have huy:hi*2 ^ s+lo / 2 ^ (64 - s)<y*2 ^ s:=by
  have:(hi+1)*2 ^ s<=y*2 ^ s:=Int.mul_le_mul_of_nonneg_right (by omega) (by omega)
  rw [Int.add_mul] at this;omega
 have hU0:0<=(lo*2 ^ s) % 18446744073709551616:=by omega
 have hU1:(lo*2 ^ s) % 18446744073709551616<18446744073709551616:=by omega
 have hfin:∀ q R:Int,(hi*18446744073709551616+lo)*2 ^ s=q*(y*2 ^ s)+R->0<=R->R<y*2 ^ s->(hi*18446744073709551616+lo) / y=q/\(hi*18446744073709551616+lo) % y=R / 2 ^ s:=by
  intro q R hq hR0 hR1
  have hr:R=(hi*18446744073709551616+lo - q*y)*2 ^ s:=by rw [Int.sub_mul,Int.mul_assoc q];omega
  have hd:R / 2 ^ s=hi*18446744073709551616+lo - q*y:=by rw [hr];exact Int.mul_ediv_cancel _ (by omega)
  rw [hd]
  generalize hi*18446744073709551616+lo=n at *
  have:0<=n - q*y:=by
   by_cases hc:0<=n - q*y
   ·exact hc
   have:=Int.mul_le_mul_of_nonneg_right (show n - q*y <= -1 by omega) (Int.le_of_lt hP);omega
  have:n - q*y<y:=by
   apply Int.lt_of_mul_lt_mul_right (a:=2 ^ s) _ (by omega)
   omega
  exact dm_of (by omega) (by assumption) (by assumption)
 generalize (hi*18446744073709551616+lo)*2 ^ s=NP at *
 generalize hYe:y*2 ^ s=Y at *
 generalize hi*2 ^ s+lo / 2 ^ (64 - s)=u at *
 generalize (lo*2 ^ s) % 18446744073709551616=U at *
 rw [sa (a:=Y) ⟨by omega,e4⟩,sa (a:=U) ⟨hU0,hU1⟩]
 have k1:Y / 4294967296*4294967296+Y % 4294967296=Y:=by omega
 have k2:2147483648<=Y / 4294967296:=by omega
 have k3:Y / 4294967296<4294967296:=by omega
 have k4:0<=Y % 4294967296:=by omega
 have k5:Y % 4294967296<4294967296:=by omega
 have k6:0<=U / 4294967296:=by omega
 have k7:U / 4294967296<4294967296:=by omega
 have k8:0<=U % 4294967296:=by omega
 have k9:U % 4294967296<4294967296:=by omega
 have k10:U=U / 4294967296*4294967296+U % 4294967296:=by omega
 generalize U / 4294967296=u1 at *
 generalize U % 4294967296=u0 at *
 generalize Y / 4294967296=y1 at *
 generalize Y % 4294967296=y0 at *
 have dv:∀ v:Int,0<=v->v<Y->u64.wrap (Int.tdiv v y1)=v / y1/\u64.wrap (v - u64.wrap (v / y1*y1))=v % y1:=by
  intro v v0 v1
  have:=Int.ediv_le_self y1 v0
  have q0:=Int.ediv_nonneg v0 (show 0<=y1 by omega)
  have m0:=Int.emod_nonneg v (show y1≠0 by omega)
  have m1:=Int.emod_lt_of_pos v (show 0<y1 by omega)
  have e:=Int.emod_add_mul_ediv v y1
  rw [Int.mul_comm] at e
  rw [Int.tdiv_eq_ediv_of_nonneg v0,ic (a:=v / y1) ⟨q0,by omega⟩]
  refine ⟨rfl,?_⟩
  have:0<=v / y1*y1:=Int.mul_nonneg q0 (by omega)
  rw [ic (a:=v / y1*y1) ⟨this,by omega⟩,ic ⟨by omega,by omega⟩]
  omega
 have hnz:nz y1=some ():=zm (by omega)
 obtain ⟨d1,d2⟩:=dv u hu0 huy
 simp only [hnz,d1,d2,fP]
 obtain ⟨q1,l1,l2,l3,l4,l5⟩:=HB (u:=u) (u1:=u1) (y1:=y1) (y0:=y0) hu0 (by omega) k6 k7 k2 k3 k4 k5
 rw [k1] at l4 l5
 rw [aR l1]
 have w25:u64.wrap (u64.wrap (u64.wrap (u*4294967296)+u1) - u64.wrap (q1*Y))=u*4294967296+u1 - q1*Y:=by
  simp only [wu]
  generalize q1*Y=z at *
  omega
 simp only [w25]
 have v0:0<=u*4294967296+u1 - q1*Y:=by omega
 have v1:u*4294967296+u1 - q1*Y<Y:=by omega
 have hv:u*4294967296+u1=q1*Y+(u*4294967296+u1 - q1*Y):=by omega
 generalize u*4294967296+u1 - q1*Y=v at *
 obtain ⟨d3,d4⟩:=dv v v0 v1
 simp only [d3,d4]
 obtain ⟨q0,m1,m2,m3,m4,m5⟩:=HC (u:=v) (u1:=u0) (y1:=y1) (y0:=y0) v0 (by omega) k8 k9 k2 k3 k4 k5
 rw [k1] at m4 m5
 rw [aR m1]
 have w36:u64.wrap (u64.wrap (q1*4294967296)+q0)=q1*4294967296+q0:=by simp only [wu];omega
 have w37:u64.wrap (u64.wrap (u64.wrap (v*4294967296)+u0) - u64.wrap (q0*Y))=v*4294967296+u0 - q0*Y:=by
  simp only [wu]
  generalize q0*Y=z at *
  omega
 rw [w36,w37,xX (by omega),Int.toNat_natCast]
 obtain ⟨g1,g2⟩:=hfin (q1*4294967296+q0) (v*4294967296+u0 - q0*Y) (by
  rw [hN,k10,Int.add_mul,Int.mul_right_comm]
  generalize q1*Y=z at *
  generalize q0*Y=z0 at *
  omega) (by omega) (by omega)
 rw [g1,g2]
def xv (w:Zn):Int:=w.Hi*18446744073709551616+w.Lo
def XW (w:Zn):Prop:=Mc w.Hi/\Mc w.Lo
theorem vn {a b:Int} (ha:Mc a) (hb:Mc b):∃ w,kN a b=some w/\XW w/\xv w=a*b:=by
 obtain ⟨h,l,e1,e2,e3,e4⟩:=mul64 ha hb
 unfold kN;rw [aR e1]
 exact ⟨_,rfl,⟨e2,e3⟩,e4⟩
theorem uy {a b c:Int} (ha:Mc a) (hb:Mc b) (hc:Mc c) (h1:1<=c):mE a b c=some (a*b % c):=by
 unfold mE
 have cc:(c == 0)=false:=by simp;omega
 rw [cc];simp only [dq]
 obtain ⟨w,e1,e2,e3⟩:=vn ha hb
 rw [aR e1]
 unfold lF
 have hm0:0<=w.Hi % c:=Int.emod_nonneg _ (by omega)
 have hm1:w.Hi % c<c:=Int.emod_lt_of_pos _ (by omega)
 rw [aR (zm (show c≠0 by omega)),Int.tmod_eq_emod_of_nonneg e2.1.1,aR (div64 ⟨hm0,by have:=hc.2;omega⟩ e2.2 hc hm1)]
 simp only [fP]
 congr 1
 rw [<- e3,xv,Int.add_emod,Int.mul_emod,Int.emod_emod,<- Int.mul_emod,<- Int.add_emod]
def Fr (n c m:Int):Int:=if m=2/\c<=2*(n % c) then n / c+1 else n / c
theorem zt {w:Zn} {c m:Int} (hw:XW w) (hc:Mc c) (h1:1<=c) (hm:m=0\/m=2):ni w c m=some (if Fr (xv w) c m<18446744073709551616 then (Fr (xv w) c m,0) else (0,3)):=by
 unfold ni
 have hc0:((((c == 0)||(decide (m<0)))||(decide (3<m))):Bool)=false:=by
  rcases hm with rfl | rfl <;> simp <;> omega
 rw [hc0];simp only [dq]
 have hn0:0<=xv w:=by unfold xv;have:=hw.1.1;have:=hw.2.1;omega
 have hr0:0<=xv w % c:=Int.emod_nonneg _ (by omega)
 have hr1:xv w % c<c:=Int.emod_lt_of_pos _ (by omega)
 have hle:xv w / c<=Fr (xv w) c m:=by unfold Fr;split <;> omega
 by_cases h:c<=w.Hi
 ·rw [det h]
  have:18446744073709551616<=xv w / c:=by
   apply Int.le_ediv_of_mul_le (by omega)
   have:=Int.mul_le_mul_of_nonneg_left h (show (0:Int)<=18446744073709551616 by omega)
   unfold xv;have:=hw.2.1;omega
  rw [if_neg (by omega)];rfl
 rw [bz h]
 simp only [dq]
 have e:=div64 hw.1 hw.2 hc (by omega)
 rw [show w.Hi*18446744073709551616+w.Lo=xv w from rfl] at e
 rw [aR e]
 have hq:xv w / c<18446744073709551616:=by
  apply Int.ediv_lt_of_lt_mul (by omega)
  have:=Int.mul_le_mul_of_nonneg_right (show w.Hi+1<=c by omega) (show (0:Int)<=18446744073709551616 by omega)
  unfold xv;have:=hw.2.2;rw [Int.mul_comm 18446744073709551616];omega
 have hq0:0<=xv w / c:=Int.ediv_nonneg hn0 (by omega)
 dsimp only
 have er:mD (xv w / c) (xv w % c) c m=some (decide (m=2/\c<=2*(xv w % c))):=by
  unfold mD
  rw [ic (a:=c - xv w % c) ⟨by omega,by have:=hc.2;omega⟩]
  rcases hm with rfl | rfl
  ·simp
  simp;omega
 rw [aR er]
 unfold Fr
 by_cases hu:m=2/\c<=2*(xv w % c)
 ·rw [det hu,if_pos hu]
  simp only [Bool.not_true,dq]
  by_cases hx:xv w / c=18446744073709551615
  ·rw [hx];rfl
  have:(xv w / c == 18446744073709551615)=false:=by simp;exact hx
  rw [this,if_pos (by omega),ic ⟨by omega,by omega⟩];rfl
 rw [bz hu,if_neg hu,if_pos hq];rfl
def W:Int:=18446744073709551616
def xw (n:Int):Zn:=⟨n / 18446744073709551616,n % 18446744073709551616⟩
def Vd (n:Int):Prop:=0<=n/\n<340282366920938463463374607431768211456
theorem xw_ok {n:Int} (h:Vd n):XW (xw n)/\xv (xw n)=n:=by unfold Vd at h;unfold XW xv xw Mc;dsimp only;omega
theorem xw_of {w:Zn} (h:XW w):w=xw (xv w)/\Vd (xv w):=by
 obtain ⟨a,b⟩:=w
 unfold XW Mc at h;unfold xw xv Vd;dsimp only at *
 refine ⟨?_,by omega⟩
 congr 1 <;> omega
theorem xmul {a b:Int} (ha:Mc a) (hb:Mc b):kN a b=some (xw (a*b)):=by
 obtain ⟨w,e1,e2,e3⟩:=vn ha hb
 rw [e1,<- e3];exact congrArg some (xw_of e2).1
theorem xadd {a b:Int} (ha:Vd a) (hb:Vd b) (h:Vd (a+b)):qg (xw a) (xw b)=some (xw (a+b),0):=by
 unfold Vd at *
 unfold qg jO xw
 dsimp only
 rw [if_pos (by omega)]
 simp only [fP]
 rw [if_pos (by omega)]
 simp only [fP]
 have:((a / 18446744073709551616+b / 18446744073709551616+(a % 18446744073709551616+b % 18446744073709551616+0) / 18446744073709551616) / 18446744073709551616 != 0)=false:=by simp;omega
 rw [this]
 simp only [dq]
 congr 3 <;> omega
theorem xcmp {a b:Int} (ha:Vd a) (hb:Vd b):dY (xw a) (xw b)=some (if a<b then -1 else if a=b then 0 else 1):=by
 unfold Vd at *
 unfold dY xw Zn.eqb
 dsimp only
 by_cases h:a<b
 ·have:((decide (a / 18446744073709551616<b / 18446744073709551616))||((a / 18446744073709551616 == b / 18446744073709551616)&&(decide (a % 18446744073709551616<b % 18446744073709551616))))=true:=by
   simp only [Bool.or_eq_true,and_eq_true,decide_eq_true_eq,beq_iff_eq];omega
  rw [this,if_pos h];rfl
 ·have:((decide (a / 18446744073709551616<b / 18446744073709551616))||((a / 18446744073709551616 == b / 18446744073709551616)&&(decide (a % 18446744073709551616<b % 18446744073709551616))))=false:=by
   simp only [Bool.or_eq_false_iff,Bool.and_eq_false_iff,decide_eq_false_iff_not,beq_eq_false_iff_ne];omega
  rw [this,if_neg h]
  simp only [dq]
  by_cases h2:a=b
  ·subst h2;simp
  rw [if_neg h2]
  have:((a / 18446744073709551616 == b / 18446744073709551616)&&(a % 18446744073709551616 == b % 18446744073709551616))=false:=by
   simp only [Bool.and_eq_false_iff,beq_eq_false_iff_ne];omega
  simp [this]
theorem xdiv {n c:Int} (h:Vd n) (hc:Mc c) (h1:1<=c):ni (xw n) c 2=some (if Fr n c 2<18446744073709551616 then (Fr n c 2,0) else (0,3)):=by
 have:=zt (xw_ok h).1 hc h1 (.inr rfl);rw [(xw_ok h).2] at this;exact this
structure Lg (d:Zs):Prop where
 r0:0<=d.Rate
 r1:d.Rate<=10000000
 a0:0<=d.Amount
 a1:d.Amount<=100000000
 p0:0<=d.Per
 p1:d.Per<=1000000
 m0:0<=d.Most
 m1:d.Most<=10000000
 l0:0<=d.Least
 l1:d.Least<=10000000
theorem wC (d:Zs):∃ e,db d=some e/\(e=0->Lg d)/\(e=0\/e=1\/e=2):=by
 unfold db
 by_cases h1:((((decide (d.Rate<0))||(decide (10000000<d.Rate)))||(decide (d.Amount<0)))||(decide (100000000<d.Amount)))=true
 ·rw [h1];exact ⟨_,rfl,by simp,by simp⟩
 rw [Bool.eq_false_iff.2 h1]
 by_cases h2:(((decide (0<d.Amount))&&((decide (d.Per<1))||(decide (1000000<d.Per))))||((d.Amount == 0)&&(d.Per != 0)))=true
 ·rw [h2];exact ⟨_,rfl,by simp,by simp⟩
 rw [Bool.eq_false_iff.2 h2]
 by_cases h3:((((decide (d.Most<0))||(decide (10000000<d.Most)))||(decide (d.Least<0)))||(decide (10000000<d.Least)))=true
 ·rw [h3];exact ⟨_,rfl,by simp,by simp⟩
 rw [Bool.eq_false_iff.2 h3]
 simp at h1 h2 h3
 have ok:Lg d:=by constructor <;> omega
 simp only [dq]
 cases h4:(((d.Most != 0)&&(!d.HasMost))||((d.Least != 0)&&(!d.HasLeast)))
 ·cases h5:((d.HasMost&&d.HasLeast)&&(decide (d.Most<d.Least)))
  ·exact ⟨_,rfl,fun _=>ok,by simp⟩
  exact ⟨_,rfl,by simp,by simp⟩
 exact ⟨_,rfl,by simp,by simp⟩
def vQ (d:Zs) (v q:Int):Int :=
 let p:=eO d.Per 1
 let s:=d.Rate*v*p+d.Amount*q*1000000
 let s:=if d.HasMost=true/\d.Most*v*p<s then d.Most*v*p else s
 if d.HasLeast=true/\s<d.Least*v*p then d.Least*v*p else s
def wD (d:Zs) (v q:Int):Int×Int:=if Fr (vQ d v q) (1000000*eO d.Per 1) 2<=1000000000000 then (Fr (vQ d v q) (1000000*eO d.Per 1) 2,0) else (0,3)
theorem xstepM {β:Type} {b:Bool} {s m:Int} {k:Int×Int->Option β} (hs:Vd s) (hm:Vd m):Option.bind (gd b (some (xw m))) (fun x12=>Option.bind (gd b (dY (xw s) x12)) (fun x13=>Option.bind (cond (b&&(decide (0<x13))) (Option.bind (some (xw m)) (fun x18=>some (x18.Hi,x18.Lo))) (some ((xw s).Hi,(xw s).Lo))) k))=k ((xw (if b=true/\m<s then m else s)).Hi,(xw (if b=true/\m<s then m else s)).Lo):=by
 cases b
 ·simp [gd]
 simp only [gd,cQ,fP,Bool.true_and]
 rw [xcmp hs hm]
 simp only [fP,true_and]
 by_cases h:m<s
 ·rw [if_neg (by omega),if_neg (by omega),if_pos h];rfl
 rw [if_neg h]
 by_cases h2:s<m
 ·rw [if_pos h2];rfl
 rw [if_neg h2,if_pos (by omega)];rfl
theorem xstepL {β:Type} {b:Bool} {s m:Int} {k:Int×Int->Option β} (hs:Vd s) (hm:Vd m):Option.bind (gd b (some (xw m))) (fun x12=>Option.bind (gd b (dY ⟨(xw s).Hi,(xw s).Lo⟩ x12)) (fun x13=>Option.bind (cond (b&&(decide (x13<0))) (Option.bind (some (xw m)) (fun x18=>some (x18.Hi,x18.Lo))) (some ((xw s).Hi,(xw s).Lo))) k))=k ((xw (if b=true/\s<m then m else s)).Hi,(xw (if b=true/\s<m then m else s)).Lo):=by
 cases b
 ·simp [gd]
 simp only [gd,cQ,fP,Bool.true_and]
 rw [show dY ⟨(xw s).Hi,(xw s).Lo⟩ (xw m)=_ from xcmp hs hm]
 simp only [fP,true_and]
 by_cases h:s<m
 ·rw [if_pos h,if_pos h];rfl
 rw [if_neg h,if_neg h]
 split <;> rfl
theorem xZ {n c:Int} (h:0<=n) (hc:1<=c):0<=Fr n c 2:=by
 have:=Int.ediv_nonneg h (show 0<=c by omega)
 unfold Fr;split <;> omega
theorem evFin (r:Int) (h:0<=r):(Option.bind (some (if r<18446744073709551616 then (r,(0:Int)) else (0,3))) (fun x26=>cond ((x26.2 != 0)||(decide (1000000000000<x26.1))) (some ((0:Int),(3:Int))) (some ((i64.wrap x26.1),0))))=some (if r<=1000000000000 then (r,0) else (0,3)):=by
 by_cases h1:r<=1000000000000
 ·rw [if_pos (by omega),if_pos h1]
  simp only [fP]
  rw [bz (by omega),ee (by omega) (by omega)];rfl
 rw [if_neg h1]
 by_cases h2:r<18446744073709551616
 ·rw [if_pos h2]
  simp only [fP]
  rw [det (by omega),Bool.or_true];rfl
 rw [if_neg h2];rfl
section
variable {d:Zs} {v q:Int} (hd:Lg d) (hv:0<=v) (hv':v<=1000000000000) (hq:0<=q) (hq':q<=1000000000)
include hv hv' in
theorem prodU {r:Int} (h0:0<=r) (h1:r<=10000000):Mc (r*v)/\0<=r*v/\r*v<=10000000000000000000:=by
 have a:=Int.mul_nonneg h0 hv
 have b:r*v<=10000000*1000000000000:=Int.mul_le_mul h1 hv' hv (by omega)
 exact ⟨⟨a,by omega⟩,a,by omega⟩
include hq hq' in
theorem prodQ {r:Int} (h0:0<=r) (h1:r<=100000000):Mc (r*q)/\0<=r*q/\r*q<=100000000000000000:=by
 have a:=Int.mul_nonneg h0 hq
 have b:r*q<=100000000*1000000000:=Int.mul_le_mul h1 hq' hq (by omega)
 exact ⟨⟨a,by omega⟩,a,by omega⟩
include hd in
theorem perU:1<=eO d.Per 1/\eO d.Per 1<=1000000:=by
 have:=hd.p0;have:=hd.p1;unfold eO;split <;> omega
include hd hv hv' in
theorem zu {r:Int} (h0:0<=r) (h1:r<=10000000):Vd (r*v*eO d.Per 1)/\r*v*eO d.Per 1<=10000000000000000000000000:=by
 obtain ⟨_,a,b⟩:=prodU hv hv' h0 h1
 obtain ⟨p0,p1⟩:=perU hd
 have c:=Int.mul_nonneg a (show 0<=eO d.Per 1 by omega)
 have e:r*v*eO d.Per 1<=10000000000000000000*1000000:=Int.mul_le_mul b p1 (by omega) (by omega)
 exact ⟨⟨c,by omega⟩,by omega⟩
include hd hv hv' in
theorem HD {r:Int} (h0:0<=r) (h1:r<=10000000):fb r v (u64.wrap (eO d.Per 1))=some (xw (r*v*eO d.Per 1)):=by
 obtain ⟨a,_,_⟩:=prodU hv hv' h0 h1
 obtain ⟨p0,p1⟩:=perU hd
 unfold fb
 rw [ic (a:=r) ⟨h0,by omega⟩,ic (a:=v) ⟨hv,by omega⟩,ic a,ic (a:=eO d.Per 1) ⟨by omega,by omega⟩,xmul a ⟨by omega,by omega⟩];rfl
include hd hv hv' hq hq'
theorem B2:Vd (vQ d v q)/\vQ d v q<=20000000000000000000000000:=by
 obtain ⟨⟨a1,_⟩,a3⟩:=zu hd hv hv' hd.r0 hd.r1
 obtain ⟨⟨b1,_⟩,b3⟩:=zu hd hv hv' hd.m0 hd.m1
 obtain ⟨⟨c1,_⟩,c3⟩:=zu hd hv hv' hd.l0 hd.l1
 obtain ⟨_,e1,e2⟩:=prodQ hq hq' hd.a0 hd.a1
 unfold vQ Vd
 dsimp only
 split <;> split <;> omega
theorem Fs (hval:db d=some 0):hZ d v q=some (wD d v q):=by
 obtain ⟨A,a3⟩:=zu hd hv hv' hd.r0 hd.r1
 obtain ⟨B,b3⟩:=zu hd hv hv' hd.m0 hd.m1
 obtain ⟨C,c3⟩:=zu hd hv hv' hd.l0 hd.l1
 obtain ⟨e0,e1,e2⟩:=prodQ hq hq' hd.a0 hd.a1
 obtain ⟨p0,p1⟩:=perU hd
 obtain ⟨G,_⟩:=B2 hd hv hv' hq hq'
 have ha0:=hd.a0;have ha1:=hd.a1
 have E:Vd (d.Amount*q*1000000):=⟨by omega,by omega⟩
 have F:Vd (d.Rate*v*eO d.Per 1+d.Amount*q*1000000):=⟨by have:=A.1;omega,by omega⟩
 unfold hZ
 rw [aR hval]
 have hc:((((decide (v<0))||(decide (1000000000000<v)))||(decide (q<0)))||(decide (1000000000<q)))=false:=by simp;omega
 rw [hc,HD hd hv hv' hd.r0 hd.r1,ic (a:=d.Amount) ⟨ha0,by omega⟩,ic (a:=q) ⟨hq,by omega⟩,ic e0,xmul e0 ⟨by omega,by omega⟩]
 simp only [bne_self_eq_false,dq,fP]
 rw [xadd A E F]
 simp only [bne_self_eq_false,dq,fP]
 rw [HD hd hv hv' hd.m0 hd.m1,HD hd hv hv' hd.l0 hd.l1,xstepM F B]
 dsimp only
 rw [xstepL (by split <;> assumption) C]
 dsimp only
 rw [ic (a:=eO d.Per 1) ⟨by omega,by omega⟩,ic (a:=1000000*eO d.Per 1) ⟨by omega,by omega⟩]
 have:=xdiv G (c:=1000000*eO d.Per 1) ⟨by omega,by omega⟩ (by omega)
 unfold vQ at this
 dsimp only at this
 erw [this]
 unfold wD vQ
 dsimp only
 exact evFin _ (xZ G.1 (by omega))
end
theorem evN_ok (d:Zs) (v q:Int) (h:0<=vQ d v q) (hp:1<=eO d.Per 1):((wD d v q).2=0/\0<=(wD d v q).1/\(wD d v q).1<=1000000000000)\/((wD d v q).2=3/\(wD d v q).1=0):=by
 have:=xZ (c:=1000000*eO d.Per 1) h (by omega)
 unfold wD;split
 ·left;dsimp only;omega
 right;exact ⟨rfl,rfl⟩
theorem gy {S T β:Type} {body:S->Option (S⊕T)} {N:Nat} {s:S} (s':S) {k:T->Option β} (h:body s=some (.inl s')):(aW body (N+1) s).bind k=(aW body N s').bind k:=by rw [fe,h]
theorem j5 {S T β:Type} {body:S->Option (S⊕T)} {N:Nat} {s:S} (t:T) {k:T->Option β} (h:body s=some (.inr t)):(aW body (N+1) s).bind k=k t:=by rw [fe,h];rfl
theorem B3:Va=1267650600228229401496703205367+9:=rfl
structure Yf (t g r:Int):Prop where
 t0:0<=t
 t1:t<=1000000000000
 g0:0<=g
 g1:g<=1000000000000
 r0:0<=r
 r1:r<=1000000000000
 s1:1<=g+r
def kD (t g r:Int):Int:=t - t*g / (g+r) - t*r / (g+r)
def oX (t g r:Int):Int×Int:=if kD t g r=1 then (if t*g % (g+r)<t*r % (g+r) then (t*g / (g+r),t*r / (g+r)+1) else (t*g / (g+r)+1,t*r / (g+r))) else (t*g / (g+r),t*r / (g+r))
structure Tg (t g r:Int):Prop where
 a0:0<=t*g / (g+r)
 a1:t*g / (g+r)<=t
 b0:0<=t*r / (g+r)
 b1:t*r / (g+r)<=t
 c0:0<=t*g % (g+r)
 c1:t*g % (g+r)<g+r
 d0:0<=t*r % (g+r)
 d1:t*r % (g+r)<g+r
 l01:kD t g r=0\/kD t g r=1
section
variable {t g r:Int} (h:Yf t g r)
include h
theorem ya:Tg t g r:=by
 obtain ⟨t0,t1,g0,g1,r0,r1,s1⟩:=h
 have p1:=Int.mul_nonneg t0 g0
 have p2:=Int.mul_nonneg t0 r0
 have e1:=Int.emod_add_mul_ediv (t*g) (g+r)
 have e2:=Int.emod_add_mul_ediv (t*r) (g+r)
 have a0:=Int.ediv_nonneg p1 (show 0<=g+r by omega)
 have b0:=Int.ediv_nonneg p2 (show 0<=g+r by omega)
 have c0:=Int.emod_nonneg (t*g) (show g+r≠0 by omega)
 have d0:=Int.emod_nonneg (t*r) (show g+r≠0 by omega)
 have c1:=Int.emod_lt_of_pos (t*g) (show 0<g+r by omega)
 have d1:=Int.emod_lt_of_pos (t*r) (show 0<g+r by omega)
 have hs:t*(g+r)=t*g+t*r:=Int.mul_add _ _ _
 have key:(g+r)*kD t g r=t*g % (g+r)+t*r % (g+r):=by
  unfold kD
  rw [Int.mul_sub,Int.mul_sub,Int.mul_comm (g+r) t]
  generalize t*g / (g+r)=x at *
  generalize t*r / (g+r)=y at *
  generalize (g+r)*x=X at *
  generalize (g+r)*y=Y at *
  omega
 have l0:0<=kD t g r:=by
  by_cases hc:0<=kD t g r
  ·exact hc
  have:=Int.mul_le_mul_of_nonneg_left (show kD t g r <= -1 by omega) (show 0<=g+r by omega);omega
 have l1:kD t g r<=1:=by
  by_cases hc:kD t g r<=1
  ·exact hc
  have:=Int.mul_le_mul_of_nonneg_left (show 2<=kD t g r by omega) (show 0<=g+r by omega);omega
 refine ⟨a0,?_,b0,?_,c0,c1,d0,d1,by omega⟩
 ·unfold kD at l0;omega
 unfold kD at l0;omega
theorem Ft:(oX t g r).1+(oX t g r).2=t/\0<=(oX t g r).1/\(oX t g r).1<=1000000000000/\0<=(oX t g r).2/\(oX t g r).2<=1000000000000:=by
 obtain ⟨a0,a1,b0,b1,c0,c1,d0,d1,l01⟩:=ya h
 have:=h.t1
 have hl:kD t g r=t - t*g / (g+r) - t*r / (g+r):=rfl
 unfold oX
 split
 ·split <;> (dsimp only;omega)
 dsimp only;omega
theorem Ef {w:Int} (hw:0<=w) (hw1:w<=1000000000000) (hle:t*w / (g+r)<=t):kO t w (g+r) 0=some (t*w / (g+r),0):=by
 obtain ⟨t0,t1,g0,g1,r0,r1,s1⟩:=h
 unfold kO
 obtain ⟨z,e1,e2,e3⟩:=vn (a:=t) (b:=w) ⟨by omega,by omega⟩ ⟨by omega,by omega⟩
 rw [aR e1,zt e2 (c:=g+r) ⟨by omega,by omega⟩ s1 (.inl rfl),e3]
 have:Fr (t*w) (g+r) 0=t*w / (g+r):=by unfold Fr;rw [if_neg (by omega)]
 rw [this,if_pos (by omega)]
 rfl
theorem check2:jS t [g,r]=some 0:=by
 obtain ⟨t0,t1,g0,g1,r0,r1,s1⟩:=h
 unfold jS
 rw [show decide ((1000:Int)<(([g,r]:List Int).length:Int))=false from rfl,show ((decide (t<0))||(decide (1000000000000<t)))=false by simp;omega,B3]
 simp only [dq]
 refine (gy 1 ?_).trans ((gy 2 ?_).trans ((j5 (.inl ()) ?_).trans ?_))
 ·rw [show decide ((0:Int)<(([g,r]:List Int).length:Int))=true from rfl,aR (show bx [g,r] 0=some g from rfl),show ((decide (g<0))||(decide (1000000000000<g)))=false by simp;omega];rfl
 ·rw [show decide ((1:Int)<(([g,r]:List Int).length:Int))=true from rfl,aR (show bx [g,r] 1=some r from rfl),show ((decide (r<0))||(decide (1000000000000<r)))=false by simp;omega];rfl
 ·rfl
 rfl
theorem sum2:jT [g,r]=some (g+r):=by
 obtain ⟨t0,t1,g0,g1,r0,r1,s1⟩:=h
 unfold jT
 rw [B3]
 refine (gy (g,1) ?_).trans ((gy (g+r,2) ?_).trans ((j5 (g+r) ?_).trans ?_))
 ·dsimp only
  rw [show decide ((0:Int)<(([g,r]:List Int).length:Int))=true from rfl,aR (show bx [g,r] 0=some g from rfl),ee (by omega) (by omega),Int.zero_add];rfl
 ·dsimp only
  rw [show decide ((1:Int)<(([g,r]:List Int).length:Int))=true from rfl,aR (show bx [g,r] 1=some r from rfl),ee (by omega) (by omega)];rfl
 ·rfl
 rfl
end
theorem cmpI (a b:Int):eo a b=some (if a<b then -1 else if b<a then 1 else 0):=by
 unfold eo jc
 simp only [bne_self_eq_false,fP,dq]
 by_cases h:a<b
 ·rw [det h,if_pos h];rfl
 rw [bz h,if_neg h]
 by_cases h2:b<a
 ·rw [det h2,if_pos h2];rfl
 rw [bz h2,if_neg h2];rfl
theorem cmpU (a b:Int):iy a b=some (if a<b then -1 else if b<a then 1 else 0):=by
 unfold iy js
 simp only [bne_self_eq_false,fP,dq]
 by_cases h:a<b
 ·rw [det h,if_pos h];rfl
 rw [bz h,if_neg h]
 by_cases h2:b<a
 ·rw [det h2,if_pos h2];rfl
 rw [bz h2,if_neg h2];rfl
theorem len2:nu 2=some 2:=by kernel_rfl
theorem sort2 (s0 m0 s1 m1:Int):fJ (⟨()⟩:Zv) [⟨0,s0,m0⟩,⟨1,s1,m1⟩]=some (if m0<m1 then [⟨1,s1,m1⟩,⟨0,s0,m0⟩] else [⟨0,s0,m0⟩,⟨1,s1,m1⟩]):=by
 have hby:cf ⟨1,s1,m1⟩ ⟨0,s0,m0⟩ (⟨()⟩:Zv)=some (if m0<m1 then -1 else 1):=by
  unfold cf kP
  rw [cmpU,cmpI]
  dsimp only
  by_cases h:m0<m1
  ·rw [if_pos h,if_pos h];rfl
  rw [if_neg h,if_neg h]
  by_cases h2:m1<m0
  ·rw [if_pos h2];rfl
  rw [if_neg h2];rfl
 unfold fJ bQ
 rw [show u64.wrap ((([(⟨0,s0,m0⟩:Zd),⟨1,s1,m1⟩]:List Zd).length:Nat):Int)=2 from rfl,aR len2]
 have hins:bI [⟨0,s0,m0⟩,⟨1,s1,m1⟩] 0 2 (fun y2 y3=>cf y2 y3 (⟨()⟩:Zv))=some (if m0<m1 then [⟨1,s1,m1⟩,⟨0,s0,m0⟩] else [⟨0,s0,m0⟩,⟨1,s1,m1⟩]):=by
  unfold bI
  rw [B3]
  refine (gy (if m0<m1 then [⟨1,s1,m1⟩,⟨0,s0,m0⟩] else [⟨0,s0,m0⟩,⟨1,s1,m1⟩],2) ?_).trans ((j5 _ ?_).trans rfl)
  ·show Option.bind (aW _ _ (([⟨0,s0,m0⟩,⟨1,s1,m1⟩]:List Zd),(1:Int))) _=_
   by_cases h:m0<m1
   ·rw [if_pos h] at hby ⊢
    refine (gy ([⟨1,s1,m1⟩,⟨0,s0,m0⟩],0) ?_).trans ((j5 [⟨1,s1,m1⟩,⟨0,s0,m0⟩] ?_).trans rfl)
    ·show Option.bind (gd true (cf ⟨1,s1,m1⟩ ⟨0,s0,m0⟩ (⟨()⟩:Zv))) _=_
     rw [hby];rfl
    rfl
   rw [if_neg h] at hby ⊢
   refine (j5 [⟨0,s0,m0⟩,⟨1,s1,m1⟩] ?_).trans rfl
   show Option.bind (gd true (cf ⟨1,s1,m1⟩ ⟨0,s0,m0⟩ (⟨()⟩:Zv))) _=_
   rw [hby];rfl
  rfl
 have hpdq:bG [⟨0,s0,m0⟩,⟨1,s1,m1⟩] 0 2 2 (fun y2 y3=>cf y2 y3 (⟨()⟩:Zv))=some (if m0<m1 then [⟨1,s1,m1⟩,⟨0,s0,m0⟩] else [⟨0,s0,m0⟩,⟨1,s1,m1⟩]):=by
  unfold bG
  rw [B3]
  refine (j5 (.inr (if m0<m1 then [⟨1,s1,m1⟩,⟨0,s0,m0⟩] else [⟨0,s0,m0⟩,⟨1,s1,m1⟩])) ?_).trans rfl
  rw [show decide (i64.wrap ((2:Int) - 0)<=12)=true from rfl,hins];rfl
 show Option.bind (Option.bind (bG [⟨0,s0,m0⟩,⟨1,s1,m1⟩] 0 2 2 _) _) _=_
 rw [hpdq];rfl
section
variable {t g r:Int} (h:Yf t g r)
include h
theorem Dh:gO t [g,r]=some ([(oX t g r).1,(oX t g r).2],0):=by
 obtain ⟨a0,a1,b0,b1,c0,c1,d0,d1,l01⟩:=ya h
 have md1:=Ef h h.g0 h.g1 a1
 have md2:=Ef h h.r0 h.r1 b1
 have hc:=check2 h
 have hsum:=sum2 h
 obtain ⟨t0,t1,g0,g1,r0,r1,s1⟩:=h
 have mm1:=uy (a:=t) (b:=g) (c:=g+r) ⟨by omega,by omega⟩ ⟨by omega,by omega⟩ ⟨by omega,by omega⟩ s1
 have mm2:=uy (a:=t) (b:=r) (c:=g+r) ⟨by omega,by omega⟩ ⟨by omega,by omega⟩ ⟨by omega,by omega⟩ s1
 unfold gO
 rw [aR hc]
 simp only [bne_self_eq_false,dq]
 rw [aR hsum]
 have hz:(g+r == 0)=false:=by simp;omega
 rw [hz]
 simp only [dq,fP]
 rw [aR (show mk 24 (⟨(0:Int),(0:Int),(0:Int)⟩:Zd) (([g,r]:List Int).length:Int)=some [⟨0,0,0⟩,⟨0,0,0⟩] from rfl),B3]
 have ws:u64.wrap (g+r)=g+r:=ic ⟨by omega,by omega⟩
 have wt:u64.wrap t=t:=ic ⟨by omega,by omega⟩
 have wg:u64.wrap g=g:=ic ⟨by omega,by omega⟩
 have wr:u64.wrap r=r:=ic ⟨by omega,by omega⟩
 have i1:i64.wrap (t*g / (g+r))=t*g / (g+r):=ee (by omega) (by omega)
 have i2:i64.wrap (t*r / (g+r))=t*r / (g+r):=ee (by omega) (by omega)
 have i3:i64.wrap (t - t*g / (g+r))=t - t*g / (g+r):=ee (by omega) (by omega)
 have i4:i64.wrap (t - t*g / (g+r) - t*r / (g+r))=kD t g r:=ee (by omega) (by omega)
 refine (gy (t - t*g / (g+r),[⟨0,t*g / (g+r),t*g % (g+r)⟩,⟨0,0,0⟩],1) ?_).trans ((gy (kD t g r,[⟨0,t*g / (g+r),t*g % (g+r)⟩,⟨1,t*r / (g+r),t*r % (g+r)⟩],2) ?_).trans ((j5 (kD t g r,[⟨0,t*g / (g+r),t*g % (g+r)⟩,⟨1,t*r / (g+r),t*r % (g+r)⟩]) ?_).trans ?_))
 ·dsimp only
  rw [show decide ((0:Int)<(([g,r]:List Int).length:Int))=true from rfl,ws,wt]
  simp only [cQ]
  rw [aR (show bx [g,r] 0=some g from rfl),wg,aR md1,aR mm1]
  dsimp only [lb]
  rw [i1,i3];rfl
 ·dsimp only
  rw [show decide ((1:Int)<(([g,r]:List Int).length:Int))=true from rfl,ws,wt]
  simp only [cQ]
  rw [aR (show bx [g,r] 1=some r from rfl),wr,aR md2,aR mm2]
  dsimp only [lb]
  rw [i2,i4];rfl
 ·rfl
 dsimp only
 rw [aR (sort2 _ _ _ _),aR (show mk 8 (0:Int) (([g,r]:List Int).length:Int)=some [0,0] from rfl)]
 have w1:i64.wrap (t*g / (g+r)+1)=t*g / (g+r)+1:=ee (by omega) (by omega)
 have w2:i64.wrap (t*r / (g+r)+1)=t*r / (g+r)+1:=ee (by omega) (by omega)
 unfold oX
 generalize t*g / (g+r)=x0 at *
 generalize t*r / (g+r)=x1 at *
 generalize t*g % (g+r)=m0 at *
 generalize t*r % (g+r)=m1 at *
 rcases l01 with l | l <;> rw [l] <;> by_cases hm:m0<m1
 ·simp only [if_pos hm]
  refine (gy ([0,x1],1) ?_).trans ((gy ([x0,x1],2) ?_).trans ((j5 [x0,x1] ?_).trans rfl))
  ·show some (Sum.inl ([0,i64.wrap x1],1))=_;rw [i2]
  ·show some (Sum.inl ([i64.wrap x0,x1],2))=_;rw [i1]
  rfl
 ·simp only [if_neg hm]
  refine (gy ([x0,0],1) ?_).trans ((gy ([x0,x1],2) ?_).trans ((j5 [x0,x1] ?_).trans rfl))
  ·show some (Sum.inl ([i64.wrap x0,0],1))=_;rw [i1]
  ·show some (Sum.inl ([x0,i64.wrap x1],2))=_;rw [i2]
  rfl
 ·simp only [if_pos hm]
  refine (gy ([0,x1+1],1) ?_).trans ((gy ([x0,x1+1],2) ?_).trans ((j5 [x0,x1+1] ?_).trans rfl))
  ·show some (Sum.inl ([0,i64.wrap (i64.wrap x1+1)],1))=_;rw [i2,w2]
  ·show some (Sum.inl ([i64.wrap x0,x1+1],2))=_;rw [i1]
  rfl
 simp only [if_neg hm]
 refine (gy ([x0+1,0],1) ?_).trans ((gy ([x0+1,x1],2) ?_).trans ((j5 [x0+1,x1] ?_).trans rfl))
 ·show some (Sum.inl ([i64.wrap (i64.wrap x0+1),0],1))=_;rw [i1,w1]
 ·show some (Sum.inl ([x0+1,i64.wrap x1],2))=_;rw [i2]
 rfl
end
section
variable {t g r:Int} (h:Yf t g r)
include h
end
theorem ix0 {α:Type} {a b:α}:bx [a,b] 0=some a:=rfl
theorem ix1 {α:Type} {a b:α}:bx [a,b] 1=some b:=rfl
theorem cond_ex {α:Type} (c:Bool) (x y:α):∃ r,cond c (some x) (some y)=some r/\cond c (some x) (some y)=some r:=by cases c <;> exact ⟨_,rfl,rfl⟩
theorem cap_eq (c:Int):gu c=some (decide (65<=c)&&decide (c<=90)):=rfl
def sW (s:Xh):Bool:=match s.data.toList with | [a,b]=>decide (65<=(a.toNat:Int))&&decide ((a.toNat:Int)<=90)&&decide (65<=(b.toNat:Int))&&decide ((b.toNat:Int)<=90) | _=>false
theorem HE {s:Xh} (h:((s.size:Int) == 2)=true):∃ a b,s.data.toList=[a,b]:=by
 have h2:s.data.toList.length=2:=by
  have:=eq_of_beq h
  rw [Array.length_toList];have e:s.size=s.data.size:=rfl;omega
 match hd:s.data.toList,h2 with
 | [a,b],_=>exact ⟨a,b,rfl⟩
theorem not_two {s:Xh} (h:((s.size:Int) == 2)=false):sW s=false:=by
 unfold sW
 split
 ·rename_i a b hd
  have e:s.size=s.data.toList.length:=by rw [Array.length_toList];rfl
  rw [hd] at e
  have e2:(s.size:Int)=2:=by rw [e];rfl
  rw [e2] at h;cases h
 rfl
theorem nv (s:Xh):dl s=some (sW s):=by
 unfold dl
 cases h:((s.size:Int) == 2)
 ·rw [not_two h];rfl
 obtain ⟨a,b,hd⟩:=HE h
 simp only [Bool.true_and,fN,cap_eq]
 rw [hd]
 simp only [sW,hd]
 rw [aR ix0]
 simp only [fP]
 cases h1:(decide (65<=(a.toNat:Int))&&decide ((a.toNat:Int)<=90))
 ·rfl
 simp only [fN,Bool.true_and];rw [aR ix1];rfl
structure Good (m:Zw):Prop where
 code:∃ l,m.Code=strOfNums l/\l.length=8/\Uf l
 orig:sW m.Origin=true
 comp:0<=m.Company/\m.Company<=999
 day:0<=m.Day/\m.Day<=36524
 quant:0<=m.Quantity/\m.Quantity<=1000000000
 value:0<=m.Value/\m.Value<=1000000000000
 grant:0<=m.Granted/\m.Granted<=m.Quantity
theorem Di {k:Int} (h1:0<=k) (h2:k<6) {l:List Xh} (hl:gt=some l):∃ s,bx l k=some s/\sW s=true:=by
 have hl:=Option.some.inj hl;subst hl
 obtain ⟨n,rfl⟩:∃ n:Nat,k=(n:Int):=⟨k.toNat,by omega⟩
 match n,(show n<6 by omega) with
 | 0,_=>exact ⟨_,rfl,rfl⟩
 | 1,_=>exact ⟨_,rfl,rfl⟩
 | 2,_=>exact ⟨_,rfl,rfl⟩
 | 3,_=>exact ⟨_,rfl,rfl⟩
 | 4,_=>exact ⟨_,rfl,rfl⟩
 | 5,_=>exact ⟨_,rfl,rfl⟩
theorem item_ok (l:List Int):∃ m,qc l=some m/\Good m:=by
 unfold qc
 obtain ⟨c,hc,hc2⟩:=Hy l 20 (by omega) (by omega)
 rw [aR hc]
 obtain ⟨cd,q,h1,h2,h3,hq⟩:=code_ok (p:=⟨c,0⟩) ⟨by simp,by simp,by simp only;omega⟩
 obtain ⟨cl,hcl⟩:∃ cl,gt=some cl:=⟨_,rfl⟩
 rw [aR h1,aR hcl]
 simp only
 obtain ⟨x6,q6,g6,a6,b6,s6⟩:=jI hq 4 (by omega) (by omega)
 rw [aR g6];simp only
 obtain ⟨s,hs,hs2⟩:=Di a6 (by omega) hcl
 rw [aR hs]
 obtain ⟨x8,q8,g8,a8,b8,s8⟩:=jI s6 2 (by omega) (by omega)
 rw [aR g8];simp only
 obtain ⟨x9,q9,g9,a9,b9,s9⟩:=jI s8 3 (by omega) (by omega)
 rw [aR g9];simp only
 obtain ⟨x10,q10,g10,a10,b10,s10⟩:=jI s9 41 (by omega) (by omega)
 rw [aR g10];simp only
 obtain ⟨x11,q11,g11,a11,b11,s11⟩:=jI s10 1000 (by omega) (by omega)
 rw [aR g11];simp only
 obtain ⟨x12,q12,g12,a12,b12,s12⟩:=jI s11 1000000 (by omega) (by omega)
 rw [aR g12];simp only
 obtain ⟨x14,q14,g14,a14,b14,s14⟩:=jI s12 6 (by omega) (by omega)
 rw [aR g14];simp only
 have hb:∃ u v l' i,cond (x14 == 1) (Option.bind (aB q14 1000000001) (fun x21=>Option.bind (aB x21.2 1000000000001) (fun x22=>some (x21.1,x22.1,x22.2.L,x22.2.I)))) (some (x11,x12,q14.L,q14.I))=some (u,v,l',i)/\Pb ⟨l',i⟩/\0<=u/\u<=1000000000/\0<=v/\v<=1000000000000:=by
  cases (x14 == 1)
  ·exact ⟨_,_,_,_,rfl,s14,by omega,by omega,by omega,by omega⟩
  obtain ⟨y1,r1,e1,c1,d1,t1⟩:=jI s14 1000000001 (by omega) (by omega)
  obtain ⟨y2,r2,e2,c2,d2,t2⟩:=jI t1 1000000000001 (by omega) (by omega)
  simp only [cQ]
  rw [aR e1];simp only
  rw [aR e2]
  exact ⟨_,_,_,_,rfl,t2,by omega,by omega,by omega,by omega⟩
 obtain ⟨u,v,l',i,hb1,hb2,hb3,hb4,hb5,hb6⟩:=hb
 rw [aR hb1];simp only
 obtain ⟨x23,q23,g23,a23,b23,s23⟩:=jI hb2 6 (by omega) (by omega)
 rw [aR g23];simp only
 have hw:∃ w,cond (x23 == 1) (some 0) (some u)=some w/\0<=w/\w<=1000000000:=by
  cases (x23 == 1)
  ·exact ⟨_,rfl,hb3,hb4⟩
  exact ⟨_,rfl,by omega,by omega⟩
 obtain ⟨w,hw1,hw2,hw3⟩:=hw
 rw [aR hw1]
 obtain ⟨x27,q27,g27,a27,b27,s27⟩:=jI s23 2 (by omega) (by omega)
 rw [aR g27];simp only
 have hz:∃ z,cond (x27 == 1) (Option.bind (aB q27 (i64.wrap (w+1))) (fun x31=>some x31.1)) (some 0)=some z/\0<=z/\z<=w:=by
  cases (x27 == 1)
  ·exact ⟨_,rfl,by omega,by omega⟩
  rw [ee (by omega) (by omega)]
  obtain ⟨y1,r1,e1,c1,d1,t1⟩:=jI s27 (w+1) (by omega) (by omega)
  simp only [cQ]
  rw [aR e1]
  exact ⟨_,rfl,by simp only;omega,by simp only;omega⟩
 obtain ⟨z,hz1,hz2,hz3⟩:=hz
 rw [aR hz1]
 exact ⟨_,rfl,⟨⟨cd,rfl,h2,h3⟩,hs2,⟨a9,by simp only;omega⟩,⟨a10,by simp only;omega⟩,⟨hw2,hw3⟩,⟨hb5,hb6⟩,⟨hz2,hz3⟩⟩⟩
theorem run_inl {α A R:Type} {f:Nat->α->A->A⊕R} (Q:α->Prop) (hf:∀ k x a a',f k x a=.inl a'->Q x):∀ (l:List α) (k:Nat) (a a':A),run f l k a=.inl a'->∀ x∈l,Q x:=by
 intro l
 induction l with
 | nil=>intro k a a' _ x hx;cases hx
 | cons y ys ih =>
  intro k a a' h x hx
  rw [jv] at h
  cases hfy:f k y a with
  | inl b=>rw [hfy] at h;cases hx with
   | head=>exact hf _ _ _ _ hfy
   | tail _ hx=>exact ih _ _ _ h x hx
  | inr r=>rw [hfy] at h;change Sum.inr r=_ at h;cases h
def oBad (l:List Xh) (k:Nat) (x:Xh):Bool := !sW x||(decide (0<k) && !Op.bytesLess (l.getD (k - 1) x).toList x.toList)
def Eg (l:List Xh):Unit⊕Unit:=run (fun k x _=>if oBad l k x then .inr () else .inl ()) l 0 ()
theorem Ay (l:List Xh) (hl:l.length<=4611686018427387904):cX l=some (match Eg l with | .inl _=>true | .inr _=>false):=by
 unfold cX
 obtain ⟨e,_⟩:=lA (T:=Unit⊕Bool) hl (body:=fun v1=>cond (decide (v1<(l.length:Int))) (Option.bind (bx l v1) (fun m5=>Option.bind (dl m5) (fun x6=>Option.bind (gd ((!(!x6))&&(decide (0<v1))) (bx l (i64.wrap (v1 - 1)))) (fun m7=>cond ((!x6)||((decide (0<v1))&&(Op.bytesLess m5.toList m7.toList||decide (m5=m7)))) (some (.inr (.inr false))) (some (.inl (i64.wrap (v1+1)))))))) (some (.inr (.inl ()))))
  (fun i (_:Unit)=>i) (fun k x _=>if oBad l k x then .inr () else .inl ()) (fun _=>.inl ()) (fun (_:Unit)=>.inr false) (fun _ _=>True) (by
   intro k hk a _
   refine ⟨?_,fun _ _=>trivial⟩
   try dsimp only
   rw [mr hk,cQ,aR (bf hk),nv,cI hk hl,fP]
   unfold oBad
   cases hc:sW l[k]
   ·rfl
   by_cases h0:0<k
   ·rw [det (show (0:Int)<(k:Int) by omega),det h0]
    simp only [Bool.not_true,Bool.not_false,Bool.true_and,Bool.false_or]
    rw [fN,aR (qj h0 hk hl),sE (by omega),Aw]
    cases Op.bytesLess (l[k-1]'(by omega)).toList l[k].toList <;> rfl
   rw [bz (show ¬ (0:Int)<(k:Int) by omega),bz h0];rfl)
  (by intro a _;(try dsimp only);rw [fO];rfl) () trivial
 rw [aR e]
 unfold Eg
 cases run (fun k x _=>if oBad l k x then Sum.inr () else Sum.inl ()) l 0 () <;> rfl
def B4 (l:List Xh) (s:Xh):Bool:=l.any fun x=>decide (s=x)
theorem B5 (l:List Xh) (s:Xh):B4 l s=true↔s∈l:=by
 unfold B4;simp
theorem sG (l:List Xh) (s:Xh) (hl:l.length<=4611686018427387904):ck l s=some (B4 l s):=by
 have hrun:∀ (g:Nat->Int) (xs:List Xh) (k:Nat),(∃ j,run (fun k x (_:Unit)=>if s=x then Sum.inr (g k) else Sum.inl ()) xs k ()=.inr (g j)/\s∈xs)\/(run (fun k x (_:Unit)=>if s=x then Sum.inr (g k) else Sum.inl ()) xs k ()=.inl ()/\s ∉ xs):=by
  intro g xs
  induction xs with
  | nil=>intro k;right;exact ⟨rfl,by simp⟩
  | cons y ys ih =>
   intro k
   rw [jv]
   by_cases h:s=y
   ·simp only [if_pos h];left;exact ⟨k,rfl,by simp [h]⟩
   simp only [if_neg h]
   rcases ih (k+1) with ⟨j,h1,h2⟩ | ⟨h1,h2⟩
   ·left;exact ⟨j,h1,by simp [h2]⟩
   right;exact ⟨h1,by simp [h,h2]⟩
 unfold ck fG
 obtain ⟨e,_⟩:=lA (T:=Unit⊕Int) hl (body:=fun v1=>cond (decide (v1<(l.length:Int))) (Option.bind (bx l v1) (fun m5=>cond (decide (s=m5)) (some (.inr (.inr v1))) (some (.inl (i64.wrap (v1+1)))))) (some (.inr (.inl ()))))
  (fun i (_:Unit)=>i) (fun k x _=>if s=x then .inr (k:Int) else .inl ()) (fun _=>.inl ()) (fun (r:Int)=>.inr r) (fun _ _=>True) (by
   intro k hk a _
   refine ⟨?_,fun _ _=>trivial⟩
   try dsimp only
   rw [mr hk,cQ,aR (bf hk),cI hk hl]
   by_cases h:s=l[k]
   ·rw [det h,if_pos h];rfl
   rw [bz h,if_neg h];rfl)
  (by intro a _;(try dsimp only);rw [fO];rfl) () trivial
 rw [aR e]
 rcases hrun (fun k=>(k:Int)) l 0 with ⟨j,h1,h2⟩ | ⟨h1,h2⟩
 ·rw [h1,(B5 l s).2 h2]
  show some (decide ((0:Int)<=(j:Int)))=_
  rw [det (by omega)]
 rw [h1,show B4 l s=false from Bool.eq_false_iff.2 (fun h=>h2 ((B5 l s).1 h))];rfl
structure Ne (m:Zc):Prop where
 id0:1<=m.ID
 id1:m.ID<=1000000
 k0:1<=m.Kind
 k1:m.Kind<=6
 c0:0<=m.Company
 pre:m.Prefix.size<=8
 orig:m.Origins.length<=20
 reg : -1<=m.Registered
 duty:db m.Duty=some 0
def pfx (s p:Xh):Bool:=decide ((p.size:Int)<=(s.size:Int))&&decide (s.extract 0 p.size=p)
theorem uz (s p:Xh):gF s p=some (pfx s p):=by
 unfold gF dS pfx
 by_cases h:(p.size:Int)<=(s.size:Int)
 ·rw [det h,fN]
  have e:ff s 0 (p.size:Int)=some (s.extract 0 p.size):=by unfold ff;rw [if_pos (by omega)];rfl
  rw [aR e];rfl
 rw [bz h];rfl
def cov (m:Zc) (code origin:Xh) (company day:Int):Bool:=(((((decide (m.From<=day))&&(decide (day<m.To)))||(((decide (0<=m.Registered))&&(decide (m.Registered<=day)))&&(decide (day<m.From))))&&pfx code m.Prefix)&&(((m.Origins.length:Int) == 0)||B4 m.Origins origin))&&((m.Company == 0)||(m.Company == company))
theorem B6 (m:Zc) (hm:m.Origins.length<=4611686018427387904) (hr : -1<=m.Registered) (code origin:Xh) (company day:Int):fI m code origin company day=some (cov m code origin company day):=by
 unfold fI lE cov
 have:(m.Registered != (-1))=decide (0<=m.Registered):=by
  by_cases h:m.Registered = -1
  ·rw [h];rfl
  rw [det (by omega)];simp [h]
 rw [fP,uz,sG m.Origins origin hm,this]
 generalize (((decide (m.From<=day))&&(decide (day<m.To)))||(((decide (0<=m.Registered))&&(decide (m.Registered<=day)))&&(decide (day<m.From))))=a
 generalize pfx code m.Prefix=b
 generalize ((m.Origins.length:Int) == 0)=c
 generalize B4 m.Origins origin=d
 generalize ((m.Company == 0)||(m.Company == company))=e
 cases a <;> cases b <;> cases c <;> cases d <;> cases e <;> rfl
def yb (m:Zc):Int:=(((m.Prefix.size:Int)*2+(if m.Company=0 then 0 else 1))*100+50 - (if m.Origins.length=0 then 21 else (m.Origins.length:Int)))*10000000+m.ID
theorem B7 {x y:Zc} (hx:Ne x) (hy:Ne y):eA x y=some (decide (yb y<yb x)):=by
 obtain ⟨a1,a2,a3,a4,a5,a6,a7,a8,a9⟩:=hx
 obtain ⟨b1,b2,b3,b4,b5,b6,b7,b8,b9⟩:=hy
 unfold eA yb
 have nx:(x.Origins.length=0/\(if x.Origins.length=0 then 21 else (x.Origins.length:Int))=21)\/(x.Origins.length≠0/\(if x.Origins.length=0 then 21 else (x.Origins.length:Int))=(x.Origins.length:Int)):=by split <;> omega
 have ny:(y.Origins.length=0/\(if y.Origins.length=0 then 21 else (y.Origins.length:Int))=21)\/(y.Origins.length≠0/\(if y.Origins.length=0 then 21 else (y.Origins.length:Int))=(y.Origins.length:Int)):=by split <;> omega
 have cx:(x.Company=0/\(if x.Company=0 then (0:Int) else 1)=0)\/(x.Company≠0/\(if x.Company=0 then (0:Int) else 1)=1):=by split <;> omega
 have cy:(y.Company=0/\(if y.Company=0 then (0:Int) else 1)=0)\/(y.Company≠0/\(if y.Company=0 then (0:Int) else 1)=1):=by split <;> omega
 generalize (if x.Origins.length=0 then 21 else (x.Origins.length:Int))=ox at *
 generalize (if y.Origins.length=0 then 21 else (y.Origins.length:Int))=oy at *
 generalize (if x.Company=0 then (0:Int) else 1)=px at *
 generalize (if y.Company=0 then (0:Int) else 1)=py at *
 have dx:(x.Company != 0)=decide (px=1):=by
  rw [Bool.eq_iff_iff];simp only [bne_iff_ne,decide_eq_true_eq];omega
 have dy:(y.Company != 0)=decide (py=1):=by
  rw [Bool.eq_iff_iff];simp only [bne_iff_ne,decide_eq_true_eq];omega
 rw [dx,dy]
 by_cases h1:(x.Prefix.size:Int)=(y.Prefix.size:Int)
 ·rw [show ((x.Prefix.size:Int) != (y.Prefix.size:Int))=false by rw [h1];simp,dq]
  by_cases h2:px=py
  ·rw [h2,bne_self_eq_false,dq]
   by_cases h3:(x.Origins.length:Int)=(y.Origins.length:Int)
   ·rw [show ((x.Origins.length:Int) != (y.Origins.length:Int))=false by rw [h3];simp,dq]
    congr 1
    apply decide_eq_decide.2
    omega
   rw [show ((x.Origins.length:Int) != (y.Origins.length:Int))=true from bne_iff_ne.2 h3,cQ]
   congr 1
   rw [Bool.eq_iff_iff];simp only [Bool.or_eq_true,and_eq_true,beq_iff_eq,bne_iff_ne,decide_eq_true_eq];omega
  have:(decide (px=1) != decide (py=1))=true:=by
   rw [bne_iff_ne];intro h
   have:=decide_eq_decide.1 h;omega
  rw [this,cQ]
  congr 1
  apply decide_eq_decide.2
  omega
 rw [show ((x.Prefix.size:Int) != (y.Prefix.size:Int))=true from bne_iff_ne.2 h1,cQ]
 congr 1
 apply decide_eq_decide.2
 omega
def farB (m:Zc):Bool:=((((((decide (m.ID<1))||(decide (1000000<m.ID)))||(decide (m.Kind<1)))||(decide (6<m.Kind)))||(decide (m.Company<0)))||(decide (999<m.Company)))
def dayB (m:Zc):Bool:=(((((decide (m.From<0))||(decide (m.To<=m.From)))||(decide (36525<m.To)))||(decide (m.Registered<(-1))))||(decide (m.From<m.Registered)))
def HF (m:Zc):Int:=if eQ m.Prefix=0 then 1 else if 20<m.Origins.length then 8 else match Eg m.Origins with | .inr _=>1 | .inl _=>if dayB m then 2 else (db m.Duty).getD 0
def B8 (l:List Zc) (k:Nat) (m:Zc):Int:=if farB m then 2 else if 0<k/\m.ID<=(l.getD (k - 1) m).ID then 9 else HF m
theorem Dj {s:Xh} (h:eQ s≠0):s.size<=8:=by
 unfold eQ at h;split at h
 ·rename_i h;omega
 exact absurd rfl h
theorem mErr_ok {l:List Zc} {k:Nat} {m:Zc} (h:B8 l k m=0):Ne m:=by
 unfold B8 at h
 split at h
 ·cases h
 rename_i hf
 split at h
 ·cases h
 unfold HF at h
 split at h
 ·cases h
 rename_i hl
 split at h
 ·cases h
 rename_i ho
 split at h
 ·cases h
 split at h
 ·cases h
 rename_i hd
 simp [farB] at hf
 simp [dayB] at hd
 obtain ⟨e,e1,e2,_⟩:=wC m.Duty
 rw [e1] at h
 have:e=0:=h
 subst this
 exact ⟨by omega,by omega,by omega,by omega,by omega,Dj hl,by omega,by omega,e1⟩
theorem run_inr {α A R:Type} {f:Nat->α->A->A⊕R} (Q:R->Prop) (hf:∀ k x a r,f k x a=.inr r->Q r):∀ (l:List α) (k:Nat) (a:A) (r:R),run f l k a=.inr r->Q r:=by
 intro l
 induction l with
 | nil=>intro k a r h;cases h
 | cons y ys ih =>
  intro k a r h
  rw [jv] at h
  cases hfy:f k y a with
  | inl b=>rw [hfy] at h;exact ih _ _ _ h
  | inr r'=>rw [hfy] at h;change Sum.inr r'=Sum.inr r at h;injection h with h;exact h ▸ hf _ _ _ _ hfy
def mF (l:List Zc) (k:Nat) (m:Zc) (_:Unit):Unit⊕Int:=if B8 l k m=0 then .inl () else .inr (B8 l k m)
def uA (l:List Zc):Int:=if 300<l.length then 8 else match run (mF l) l 0 () with | .inl _=>0 | .inr r=>r
theorem HG {l:List Zc} (h:uA l=0):l.length<=300/\∀ m∈l,Ne m:=by
 unfold uA at h
 split at h
 ·cases h
 refine ⟨by omega,?_⟩
 cases hr:run (mF l) l 0 () with
 | inl a =>
  refine run_inl Ne ?_ l 0 () a hr
  intro k x a a' hx
  unfold mF at hx;split at hx
  ·exact mErr_ok (by assumption)
  ·cases hx
 | inr r =>
  rw [hr] at h
  have:r≠0:=run_inr (fun r=>r≠0) (by
   intro k x a r hx
   unfold mF at hx;split at hx
   ·cases hx
   injection hx with hx;rw [<- hx];assumption) l 0 () r hr
  exact absurd h this
theorem yI (l:List Zc):cV l=some (uA l):=by
 unfold cV uA
 by_cases h:300<l.length
 ·rw [det (by omega),if_pos h];rfl
 rw [bz (by omega),if_neg h,dq]
 have hl:l.length<=4611686018427387904:=by omega
 obtain ⟨e,_⟩:=lA (T:=Unit⊕Int) hl (body:=fun v2=>cond (decide (v2<(l.length:Int))) (Option.bind (bx l v2) (fun m6=>cond ((((((decide (m6.ID<1))||(decide (1000000<m6.ID)))||(decide (m6.Kind<1)))||(decide (6<m6.Kind)))||(decide (m6.Company<0)))||(decide (999<m6.Company))) (some (.inr (.inr 2))) (Option.bind (gd (decide (0<v2)) (bx l (i64.wrap (v2 - 1)))) (fun m9=>cond ((decide (0<v2))&&(decide (m6.ID<=m9.ID))) (some (.inr (.inr 9))) (Option.bind (bS m6.Prefix) (fun x11=>cond (x11 == 0) (some (.inr (.inr 1))) (cond (decide (20<(m6.Origins.length:Int))) (some (.inr (.inr 8))) (Option.bind (cX m6.Origins) (fun x14=>cond (!x14) (some (.inr (.inr 1))) (cond (((((decide (m6.From<0))||(decide (m6.To<=m6.From)))||(decide (36525<m6.To)))||(decide (m6.Registered<(-1))))||(decide (m6.From<m6.Registered))) (some (.inr (.inr 2))) (Option.bind (db m6.Duty) (fun x17=>cond (x17 != 0) (some (.inr (.inr x17))) (some (.inl (i64.wrap (v2+1)))))))))))))))) (some (.inr (.inl ()))))
  (fun i (_:Unit)=>i) (mF l) (fun _=>.inl ()) (fun r=>.inr r) (fun _ _=>True) (by
   intro k hk a _
   refine ⟨?_,fun _ _=>trivial⟩
   rw [mr hk,cQ,aR (bf hk),cI hk hl]
   have fin:∀ z:Option (Int⊕(Unit⊕Int)),z=some (if B8 l k l[k]=0 then Sum.inl ((k+1:Nat):Int) else Sum.inr (Sum.inr (B8 l k l[k])))->z=some (outc (fun _=>((k+1:Nat):Int)) (fun r=>Sum.inr r) (mF l k l[k] a)):=by
    intro z hz
    rw [hz];unfold mF
    by_cases h:B8 l k l[k]=0
    ·rw [if_pos h,if_pos h];rfl
    rw [if_neg h,if_neg h];rfl
   refine fin _ ?_
   unfold B8
   rw [show (((((((decide (l[k].ID<1))||(decide (1000000<l[k].ID)))||(decide (l[k].Kind<1)))||(decide (6<l[k].Kind)))||(decide (l[k].Company<0)))||(decide (999<l[k].Company))):Bool)=farB l[k] from rfl]
   cases hf:farB l[k]
   case true=>rfl
   rw [dq]
   have hrest:∀ c:Bool,(c=true↔0<k/\l[k].ID<=(l.getD (k - 1) l[k]).ID)->cond c (some (Sum.inr (Sum.inr 9)):Option (Int⊕(Unit⊕Int))) (Option.bind (bS l[k].Prefix) (fun x11=>cond (x11 == 0) (some (.inr (.inr 1))) (cond (decide (20<(l[k].Origins.length:Int))) (some (.inr (.inr 8))) (Option.bind (cX l[k].Origins) (fun x14=>cond (!x14) (some (.inr (.inr 1))) (cond (((((decide (l[k].From<0))||(decide (l[k].To<=l[k].From)))||(decide (36525<l[k].To)))||(decide (l[k].Registered<(-1))))||(decide (l[k].From<l[k].Registered))) (some (.inr (.inr 2))) (Option.bind (db l[k].Duty) (fun x17=>cond (x17 != 0) (some (.inr (.inr x17))) (some (.inl ((k+1:Nat):Int)))))))))))=some (if (if false=true then 2 else if 0<k/\l[k].ID<=(l.getD (k - 1) l[k]).ID then 9 else HF l[k])=0 then Sum.inl ((k+1:Nat):Int) else Sum.inr (Sum.inr (if false=true then 2 else if 0<k/\l[k].ID<=(l.getD (k - 1) l[k]).ID then 9 else HF l[k]))):=by
    intro c hc
    rw [if_neg (show ¬ false=true by decide)]
    cases c
    case true=>rw [if_pos (hc.1 rfl)];rfl
    have hn:¬ (0<k/\l[k].ID<=(l.getD (k - 1) l[k]).ID):=fun h=>by have:=hc.2 h;cases this
    rw [if_neg hn,dq]
    show cond (eQ l[k].Prefix == 0) _ _=_
    unfold HF
    by_cases h1:eQ l[k].Prefix=0
    ·rw [if_pos h1,h1];rfl
    rw [if_neg h1,show (eQ l[k].Prefix == 0)=false by simp [h1],dq]
    by_cases h2:20<l[k].Origins.length
    ·rw [if_pos h2,det (by omega)];rfl
    rw [if_neg h2,bz (by omega),dq,Ay _ (by omega)]
    cases Eg l[k].Origins with
    | inr u=>rfl
    | inl u =>
     show cond (((((decide (l[k].From<0))||(decide (l[k].To<=l[k].From)))||(decide (36525<l[k].To)))||(decide (l[k].Registered<(-1))))||(decide (l[k].From<l[k].Registered))) _ _=_
     rw [show (((((decide (l[k].From<0))||(decide (l[k].To<=l[k].From)))||(decide (36525<l[k].To)))||(decide (l[k].Registered<(-1))))||(decide (l[k].From<l[k].Registered)))=dayB l[k] from rfl]
     dsimp only
     cases dayB l[k]
     ·obtain ⟨e,e1,_⟩:=wC l[k].Duty
      rw [dq,e1,fP]
      by_cases h3:e=0
      ·subst h3;rfl
      rw [show (e != 0)=true by simp [h3]]
      show _=some (if e=0 then Sum.inl ((k+1:Nat):Int) else Sum.inr (Sum.inr e))
      rw [if_neg h3];rfl
     rfl
   by_cases h0:0<k
   ·rw [det (show (0:Int)<(k:Int) by omega),fN,aR (qj h0 hk hl),Bool.true_and]
    refine hrest _ ?_
    rw [sE (by omega)];simp [h0]
   rw [bz (show ¬ (0:Int)<(k:Int) by omega),vP,fP,Bool.false_and]
   exact hrest false (by simp [h0]))
  (by intro a _;rw [fO];rfl) () trivial
 rw [aR e]
 cases run (mF l) l 0 () <;> rfl
theorem idx_int {α:Type} {l:List α} {b:Int} (h0:0<=b) (h1:b<l.length):bx l b=some (l[b.toNat]'(by omega)):=by
 obtain ⟨k,rfl⟩:∃ k:Nat,b=(k:Int):=⟨b.toNat,by omega⟩
 exact bf (by omega)
def dJ (kind:Int) (code origin:Xh) (company day:Int) (m:Zc):Bool:=(m.Kind == kind)&&cov m code origin company day
def B9 (l:List Zc) (c:Zc->Bool) (k:Nat) (m:Zc) (b:Int):Int:=if c m=true/\(b<0\/yb (l.getD b.toNat m)<yb m) then (k:Int) else b
def HH (l:List Zc) (c:Zc->Bool) (k:Nat) (m:Zc) (b:Int):Int⊕Unit:=.inl (B9 l c k m b)
def tj (l:List Zc) (c:Zc->Bool):Int:=yH id (fun _ => -1) (run (HH l c) l 0 (-1))
def qt (l:List Zc) (c:Zc->Bool):Option Zc:=if tj l c<0 then none else l[(tj l c).toNat]?
def BP (l:List Zc) (c:Zc->Bool) (k:Nat) (b:Int):Prop := -1<=b/\b<(k:Int)/\(0<=b->∃ m,l[b.toNat]?=some m/\c m=true)
theorem Eh {l:List Zc} {c:Zc->Bool} {k:Nat} (hk:k<l.length) {b:Int} (h:BP l c k b):BP l c (k+1) (B9 l c k l[k] b):=by
 obtain ⟨a1,a2,a3⟩:=h
 unfold B9
 split
 ·rename_i h
  exact ⟨by omega,by omega,fun _=>⟨l[k],by simp,h.1⟩⟩
 exact ⟨a1,by omega,a3⟩
def ou (acc:List Zc) (o:Option Zc):List Zc:=acc++o.toList
theorem sb (acc:List Zc) (o:Option Zc):(ou acc o).length<=acc.length+1:=by
 unfold ou;cases o <;> simp
theorem best_go (l:List Zc) (c:Zc->Bool):∀ (xs:List Zc) (k:Nat) (b:Int),xs=l.drop k->k<=l.length->BP l c k b->∃ b',run (HH l c) xs k b=.inl b'/\BP l c l.length b':=by
 intro xs
 induction xs with
 | nil =>
  intro k b h h1 hb
  have:k=l.length:=by have:=congrArg List.length h;simp at this;omega
  subst this
  exact ⟨b,rfl,hb⟩
 | cons x xs ih =>
  intro k b h h1 hb
  have hk:k<l.length:=by have:=congrArg List.length h;simp at this;omega
  have h2:x=l[k]:=by
   have:=congrArg (fun q=>q[0]?) h
   simp only [List.getElem?_cons_zero,List.getElem?_drop,add_zero,List.getElem?_eq_getElem hk,gn] at this
   exact this
  have h3:xs=l.drop (k+1):=by
   have:=congrArg List.tail h
   simpa using this
  subst h2
  exact ih (k+1) _ h3 (by omega) (Eh hk hb)
theorem best_bp (l:List Zc) (c:Zc->Bool):BP l c l.length (tj l c):=by
 obtain ⟨b',h1,h2⟩:=best_go l c l 0 (-1) (by simp) (zero_le _) ⟨by omega,by omega,fun h=>absurd h (by omega)⟩
 unfold tj;rw [h1];exact h2
section
variable {l:List Zc} (hl:l.length<=300) (hm:∀ m∈l,Ne m) (kind:Int) (code origin:Xh) (company day:Int)
include hl hm
theorem HI:aW (S:=Int×Int) (T:=(Int)) (fun (v22,v23)=>cond (decide (v23<(l.length:Int))) (Option.bind (Option.bind (bx l v23) (fun m32=>Option.bind (gd (m32.Kind == kind) (fI m32 code origin company day)) (fun x34=>Option.bind (gd (((m32.Kind == kind)&&x34)&&(!(decide (v22<0)))) (bx l v22)) (fun m35=>Option.bind (gd (((m32.Kind == kind)&&x34)&&(!(decide (v22<0)))) (eA m32 m35)) (fun x36=>cond (((m32.Kind == kind)&&x34)&&((decide (v22<0))||x36)) (some v23) (some v22)))))) (fun v30=>some (.inl (v30,(i64.wrap (v23+1)))))) (some (.inr v22))) Va ((-1),0)=some (tj l (dJ kind code origin company day)):=by
 have hl':l.length<=4611686018427387904:=by omega
 obtain ⟨e,e2⟩:=lA (S:=Int×Int) (T:=Int) hl' (body:=fun (v22,v23)=>cond (decide (v23<(l.length:Int))) (Option.bind (Option.bind (bx l v23) (fun m32=>Option.bind (gd (m32.Kind == kind) (fI m32 code origin company day)) (fun x34=>Option.bind (gd (((m32.Kind == kind)&&x34)&&(!(decide (v22<0)))) (bx l v22)) (fun m35=>Option.bind (gd (((m32.Kind == kind)&&x34)&&(!(decide (v22<0)))) (eA m32 m35)) (fun x36=>cond (((m32.Kind == kind)&&x34)&&((decide (v22<0))||x36)) (some v23) (some v22)))))) (fun v30=>some (.inl (v30,(i64.wrap (v23+1)))))) (some (.inr v22)))
  (fun i b=>(b,i)) (HH l (dJ kind code origin company day)) id (fun _ => -1) (BP l (dJ kind code origin company day)) (by
   intro k hk b hb
   refine ⟨?_,fun a' h=>by injection h with h;rw [<- h];exact Eh hk hb⟩
   have mk:=hm _ (getElem_mem hk)
   dsimp only
   rw [mr hk,cQ,aR (bf hk),cI hk hl']
   show Option.bind _ _=some (Sum.inl (B9 l (dJ kind code origin company day) k l[k] b,((k+1:Nat):Int)))
   unfold B9 dJ
   cases hkd:(l[k].Kind == kind)
   ·rfl
   rw [fN,B6 _ (by have:=mk.orig;omega) mk.reg]
   rw [fP]
   cases hc:cov l[k] code origin company day
   ·rfl
   by_cases hb0:b<0
   ·rw [det hb0,if_pos ⟨rfl,.inl hb0⟩];rfl
   obtain ⟨b1,b2,b3⟩:=hb
   have hbl:b<l.length:=by omega
   have mb:=hm _ (getElem_mem (show b.toNat<l.length by omega))
   rw [bz hb0]
   simp only [Bool.not_false,Bool.and_self,Bool.true_and,Bool.false_or]
   rw [fN,aR (idx_int (by omega) hbl),fN,aR (B7 mk mb),sE (by omega)]
   by_cases hr:yb (l[b.toNat]'(by omega))<yb l[k]
   ·rw [det hr,if_pos ⟨trivial,.inr hr⟩];rfl
   rw [bz hr,if_neg (fun h=>h.2.elim hb0 hr)];rfl)
  (by intro b _;dsimp only;rw [fO];rfl) (-1) ⟨by omega,by omega,fun h=>absurd h (by omega)⟩
 exact e
theorem zw:(qt l (dJ kind code origin company day)=none/\tj l (dJ kind code origin company day)<0)\/∃ m,qt l (dJ kind code origin company day)=some m/\0<=tj l (dJ kind code origin company day)/\bx l (tj l (dJ kind code origin company day))=some m/\Ne m/\m.Kind=kind/\m∈l:=by
 have _:=hl
 obtain ⟨b1,b2,b3⟩:=best_bp l (dJ kind code origin company day)
 unfold qt
 by_cases h:tj l (dJ kind code origin company day)<0
 ·left;rw [if_pos h];exact ⟨rfl,h⟩
 right
 rw [if_neg h]
 obtain ⟨m,h1,h2⟩:=b3 (by omega)
 have hmem:=List.mem_of_getElem? h1
 refine ⟨m,h1,by omega,?_,hm m hmem,?_,hmem⟩
 ·unfold bx;rw [if_pos (by omega)];exact h1
 unfold dJ at h2;simp only [and_eq_true,beq_iff_eq] at h2;exact h2.1
theorem Fu (acc:List Zc) (ha:acc.length<=10):(Option.bind (some (tj l (dJ kind code origin company day))) (fun v25=>cond (decide (0<=v25)) (Option.bind (bx l v25) (fun m39=>Option.bind (bd m39.Origins) (fun x41=>Option.bind (app 144 acc [(⟨m39.ID,m39.Kind,m39.Prefix,x41,m39.Company,m39.From,m39.To,m39.Registered,m39.Duty⟩:Zc)]) (fun l47=>some l47)))) (some acc)))=some (ou acc (qt l (dJ kind code origin company day))):=by
 rw [fP]
 rcases zw hl hm kind code origin company day with ⟨h1,h2⟩ | ⟨m,h1,h2,h3,h4,_⟩
 ·rw [h1,bz (by omega)];simp [ou]
 rw [h1,det h2,cQ,aR h3]
 have:=h4.orig
 have e1:bd m.Origins=some m.Origins:=by
  unfold bd app;rw [if_pos (by simp;omega)];rfl
 have e2:app 144 acc [m]=some (acc++[m]):=by unfold app;rw [if_pos (by simp;omega)]
 rw [aR e1,show (⟨m.ID,m.Kind,m.Prefix,m.Origins,m.Company,m.From,m.To,m.Registered,m.Duty⟩:Zc)=m from rfl,aR e2];rfl
end
def wj (l:List Zc) (code origin:Xh) (company day:Int):List Zc:=ou (ou (ou (ou (ou (ou [] (qt l (dJ 1 code origin company day))) (qt l (dJ 2 code origin company day))) (qt l (dJ 3 code origin company day))) (qt l (dJ 4 code origin company day))) (qt l (dJ 5 code origin company day))) (qt l (dJ 6 code origin company day))
theorem Dk {l:List Zc} (hl:l.length<=300) (hm:∀ m∈l,Ne m) (code origin:Xh) (company day:Int):iw l code origin company day=some (wj l code origin company day):=by
  unfold iw
  have hfu:Va=1267650600228229401496703205367+9:=rfl
  have hstep:∀ (N:Nat) (acc:List Zc) (k:Int),1<=k->k<=6->acc.length<=10->∀ {β:Type} (c:List Zc->Option β),
      (aW (S:=(List Zc)×Int) (T:=((List Zc))) (fun (l5,v8)=>cond (decide (v8<=6)) (Option.bind (Option.bind (aW (S:=Int×Int) (T:=(Int)) (fun (v22,v23)=>cond (decide (v23<(l.length:Int))) (Option.bind (Option.bind (bx l v23) (fun m32=>Option.bind (gd (m32.Kind == v8) (fI m32 code origin company day)) (fun x34=>Option.bind (gd (((m32.Kind == v8)&&x34)&&(!(decide (v22<0)))) (bx l v22)) (fun m35=>Option.bind (gd (((m32.Kind == v8)&&x34)&&(!(decide (v22<0)))) (eA m32 m35)) (fun x36=>cond (((m32.Kind == v8)&&x34)&&((decide (v22<0))||x36)) (some v23) (some v22)))))) (fun v30=>some (.inl (v30,(i64.wrap (v23+1)))))) (some (.inr v22))) Va ((-1),0)) (fun v25=>cond (decide (0<=v25)) (Option.bind (bx l v25) (fun m39=>Option.bind (bd m39.Origins) (fun x41=>Option.bind (app 144 l5 [(⟨m39.ID,m39.Kind,m39.Prefix,x41,m39.Company,m39.From,m39.To,m39.Registered,m39.Duty⟩:Zc)]) (fun l47=>some l47)))) (some l5))) (fun l20=>some (.inl (l20,(i64.wrap (v8+1)))))) (some (.inr l5))) (N+1) (acc,k)).bind c=(aW (S:=(List Zc)×Int) (T:=((List Zc))) (fun (l5,v8)=>cond (decide (v8<=6)) (Option.bind (Option.bind (aW (S:=Int×Int) (T:=(Int)) (fun (v22,v23)=>cond (decide (v23<(l.length:Int))) (Option.bind (Option.bind (bx l v23) (fun m32=>Option.bind (gd (m32.Kind == v8) (fI m32 code origin company day)) (fun x34=>Option.bind (gd (((m32.Kind == v8)&&x34)&&(!(decide (v22<0)))) (bx l v22)) (fun m35=>Option.bind (gd (((m32.Kind == v8)&&x34)&&(!(decide (v22<0)))) (eA m32 m35)) (fun x36=>cond (((m32.Kind == v8)&&x34)&&((decide (v22<0))||x36)) (some v23) (some v22)))))) (fun v30=>some (.inl (v30,(i64.wrap (v23+1)))))) (some (.inr v22))) Va ((-1),0)) (fun v25=>cond (decide (0<=v25)) (Option.bind (bx l v25) (fun m39=>Option.bind (bd m39.Origins) (fun x41=>Option.bind (app 144 l5 [(⟨m39.ID,m39.Kind,m39.Prefix,x41,m39.Company,m39.From,m39.To,m39.Registered,m39.Duty⟩:Zc)]) (fun l47=>some l47)))) (some l5))) (fun l20=>some (.inl (l20,(i64.wrap (v8+1)))))) (some (.inr l5))) N (ou acc (qt l (dJ k code origin company day)),k+1)).bind c:=by
    intro N acc k k0 k1 ha β c
    refine gy _ ?_
    dsimp only
    rw [det k1,cQ,HI hl hm k code origin company day,Fu hl hm k code origin company day acc ha,fP,ee (by omega) (by omega)]
  have l1:=sb [] (qt l (dJ 1 code origin company day))
  have l2:=sb (ou [] (qt l (dJ 1 code origin company day))) (qt l (dJ 2 code origin company day))
  have l3:=sb (ou (ou [] (qt l (dJ 1 code origin company day))) (qt l (dJ 2 code origin company day))) (qt l (dJ 3 code origin company day))
  have l4:=sb (ou (ou (ou [] (qt l (dJ 1 code origin company day))) (qt l (dJ 2 code origin company day))) (qt l (dJ 3 code origin company day))) (qt l (dJ 4 code origin company day))
  have l5:=sb (ou (ou (ou (ou [] (qt l (dJ 1 code origin company day))) (qt l (dJ 2 code origin company day))) (qt l (dJ 3 code origin company day))) (qt l (dJ 4 code origin company day))) (qt l (dJ 5 code origin company day))
  simp only [length_nil] at l1
  refine (hstep 1267650600228229401496703205375 [] 1 (by omega) (by omega) (by simp) _).trans ?_
  refine (hstep 1267650600228229401496703205374 _ 2 (by omega) (by omega) (by omega) _).trans ?_
  refine (hstep 1267650600228229401496703205373 _ 3 (by omega) (by omega) (by omega) _).trans ?_
  refine (hstep 1267650600228229401496703205372 _ 4 (by omega) (by omega) (by omega) _).trans ?_
  refine (hstep 1267650600228229401496703205371 _ 5 (by omega) (by omega) (by omega) _).trans ?_
  refine (hstep 1267650600228229401496703205370 _ 6 (by omega) (by omega) (by omega) _).trans ?_
  exact (j5 (wj l code origin company day) rfl)
abbrev LS:=Bool×Int×Int×Int×Int×Int
def Ei:Zi:=⟨0,0,0,0,0⟩
def vR (q v:Int) (st:LS) (m:Zc):LS⊕Int :=
 if (wD m.Duty v q).2≠0 then .inr (wD m.Duty v q).2 else if st.1=false\/(wD m.Duty v q).1<st.2.2.2.2.2 then .inl (true,m.Kind,m.ID,q,v,(wD m.Duty v q).1) else .inl st
def uB (q v:Int) (o:Option Zc) (st:LS):LS⊕Int:=match o with | none=>.inl st | some m=>vR q v st m
def jx (kind q v:Int) (_:Nat) (m:Zc) (st:LS):LS⊕Int:=if m.Kind=kind then vR q v st m else .inl st
def vo (ms:List Zc) (q v:Int) (_:Nat) (k:Int) (st:LS):LS⊕Int:=run (jx k q v) ms 0 st
def Ej (ms:List Zc) (q v:Int) (ks:List Int):LS⊕Int:=run (vo ms q v) ks 0 (false,0,0,0,0,0)
def yc (st:LS):Zi:=⟨st.2.1,st.2.2.1,st.2.2.2.1,st.2.2.2.2.1,st.2.2.2.2.2⟩
section
variable {ms:List Zc} (hl:ms.length<=300) (hm:∀ m∈ms,Ne m) {q v:Int} (hv:0<=v) (hv':v<=1000000000000) (hq:0<=q) (hq':q<=1000000000)
include hl hm hv hv' hq hq'
theorem HJ (ks:List Int) (hks:ks.length<=10):il ms ⟨q,v,ks⟩=some (yH (fun st=>(yc st,st.1,0)) (fun e=>(Ei,false,e)) (Ej ms q v ks)):=by
 unfold il
 have inner:∀ (kind:Int) (st:LS),aW (S:=Bool×Int×Int×Int×Int×Int×Int) (T:=(Bool×Int×Int×Int×Int×Int)⊕((Bool×Int×Int×Int×Int×Int×Int)⊕((Bool×Int×Int×Int×Int×Int)⊕(Zi×Bool×Int)))) (fun (v21,v22,v23,v24,v25,v26,v27)=>cond (decide (v22<(ms.length:Int))) (Option.bind (α:=(Bool×Int×Int×Int×Int×Int)⊕_) (Option.bind (bx ms v22) (fun m44=>cond (m44.Kind != kind) (some (.inl (v21,v23,v24,v25,v26,v27))) (Option.bind (hZ m44.Duty v q) (fun x47=>cond (x47.2 != 0) (some (.inr (.inr (.inr (.inr (.inr ((⟨0,0,0,0,0⟩:Zi),false,x47.2))))))) (cond ((!v21)||(decide (x47.1<v27))) (some (.inl (true,m44.Kind,m44.ID,q,v,x47.1))) (some (.inl (v21,v23,v24,v25,v26,v27)))))))) (fun q=>match q with | .inl (v37,v38,v39,v40,v41,v42)=>some (.inl (v37,(i64.wrap (v22+1)),v38,v39,v40,v41,v42)) | .inr e=>some e)) (some (.inr (.inl (v21,v23,v24,v25,v26,v27))))) Va (st.1,0,st.2.1,st.2.2.1,st.2.2.2.1,st.2.2.2.2.1,st.2.2.2.2.2)=some (yH (fun st=>.inl st) (fun e=>.inr (.inr (.inr (Ei,false,e)))) (run (jx kind q v) ms 0 st)):=by
  intro kind st
  have hl':ms.length<=4611686018427387904:=by omega
  exact (lA (S:=Bool×Int×Int×Int×Int×Int×Int) (T:=(Bool×Int×Int×Int×Int×Int)⊕((Bool×Int×Int×Int×Int×Int×Int)⊕((Bool×Int×Int×Int×Int×Int)⊕(Zi×Bool×Int)))) hl' (body:=fun (v21,v22,v23,v24,v25,v26,v27)=>cond (decide (v22<(ms.length:Int))) (Option.bind (α:=(Bool×Int×Int×Int×Int×Int)⊕_) (Option.bind (bx ms v22) (fun m44=>cond (m44.Kind != kind) (some (.inl (v21,v23,v24,v25,v26,v27))) (Option.bind (hZ m44.Duty v q) (fun x47=>cond (x47.2 != 0) (some (.inr (.inr (.inr (.inr (.inr ((⟨0,0,0,0,0⟩:Zi),false,x47.2))))))) (cond ((!v21)||(decide (x47.1<v27))) (some (.inl (true,m44.Kind,m44.ID,q,v,x47.1))) (some (.inl (v21,v23,v24,v25,v26,v27)))))))) (fun q=>match q with | .inl (v37,v38,v39,v40,v41,v42)=>some (.inl (v37,(i64.wrap (v22+1)),v38,v39,v40,v41,v42)) | .inr e=>some e)) (some (.inr (.inl (v21,v23,v24,v25,v26,v27)))))
   (fun i (st:LS)=>(st.1,i,st.2.1,st.2.2.1,st.2.2.2.1,st.2.2.2.2.1,st.2.2.2.2.2)) (jx kind q v) (fun st=>.inl st) (fun e=>.inr (.inr (.inr (Ei,false,e)))) (fun _ _=>True) (by
    intro k hk st _
    refine ⟨?_,fun _ _=>trivial⟩
    have mk:=hm _ (getElem_mem hk)
    obtain ⟨e0,e1,e2,_⟩:=wC ms[k].Duty
    rw [mk.duty] at e1
    have hd:=e2 (Option.some.inj e1).symm
    dsimp only
    rw [mr hk,cQ,aR (bf hk),Fs hd hv hv' hq hq' mk.duty,cI hk hl',fP]
    unfold jx vR
    by_cases h1:ms[k].Kind=kind
    ·rw [if_pos h1,show (ms[k].Kind != kind)=false by simp [h1],dq]
     by_cases h2:(wD ms[k].Duty v q).2=0
     ·rw [if_neg (by simp [h2]),show ((wD ms[k].Duty v q).2 != 0)=false by simp [h2],dq]
      by_cases h3:st.1=false\/(wD ms[k].Duty v q).1<st.2.2.2.2.2
      ·rw [if_pos h3,show ((!st.1)||(decide ((wD ms[k].Duty v q).1<st.2.2.2.2.2)))=true by simp;exact h3];rfl
      rw [if_neg h3,show ((!st.1)||(decide ((wD ms[k].Duty v q).1<st.2.2.2.2.2)))=false by
       rw [Bool.eq_false_iff];intro h;apply h3;simpa using h];rfl
     rw [if_pos h2,show ((wD ms[k].Duty v q).2 != 0)=true by simp [h2]];rfl
    rw [if_neg h1,show (ms[k].Kind != kind)=true by simp [h1]];rfl)
   (by intro st _;dsimp only;rw [fO];rfl) st trivial).1
 have hk':ks.length<=4611686018427387904:=by omega
 obtain ⟨e,_⟩:=lA (S:=Bool×Int×Int×Int×Int×Int×Int) (T:=(Bool×Int×Int×Int×Int×Int)⊕(Zi×Bool×Int)) hk' (body:=fun (v4,v5,v6,v7,v8,v9,v10)=>cond (decide (v5<(ks.length:Int))) (Option.bind (bx ks v5) (fun m20=>Option.bind (aW (S:=Bool×Int×Int×Int×Int×Int×Int) (T:=(Bool×Int×Int×Int×Int×Int)⊕(_)) (fun (v21,v22,v23,v24,v25,v26,v27)=>cond (decide (v22<(ms.length:Int))) (Option.bind (α:=(Bool×Int×Int×Int×Int×Int)⊕_) (Option.bind (bx ms v22) (fun m44=>cond (m44.Kind != m20) (some (.inl (v21,v23,v24,v25,v26,v27))) (Option.bind (hZ m44.Duty v q) (fun x47=>cond (x47.2 != 0) (some (.inr (.inr (.inr (.inr (.inr ((⟨0,0,0,0,0⟩:Zi),false,x47.2))))))) (cond ((!v21)||(decide (x47.1<v27))) (some (.inl (true,m44.Kind,m44.ID,q,v,x47.1))) (some (.inl (v21,v23,v24,v25,v26,v27)))))))) (fun q=>match q with | .inl (v37,v38,v39,v40,v41,v42)=>some (.inl (v37,(i64.wrap (v22+1)),v38,v39,v40,v41,v42)) | .inr e=>some e)) (some (.inr (.inl (v21,v23,v24,v25,v26,v27))))) Va (v4,0,v6,v7,v8,v9,v10)) (fun q=>match q with | .inl (v28,v29,v30,v31,v32,v33)=>some (.inl (v28,(i64.wrap (v5+1)),v29,v30,v31,v32,v33)) | .inr e=>some e))) (some (.inr (.inl (v4,v6,v7,v8,v9,v10)))))
  (fun i (st:LS)=>(st.1,i,st.2.1,st.2.2.1,st.2.2.2.1,st.2.2.2.2.1,st.2.2.2.2.2)) (vo ms q v) (fun st=>.inl st) (fun e=>.inr (Ei,false,e)) (fun _ _=>True) (by
   intro k hk st _
   refine ⟨?_,fun _ _=>trivial⟩
   dsimp only
   rw [mr hk,cQ,aR (bf hk),inner,cI hk hk',fP]
   unfold vo
   cases run (jx ks[k] q v) ms 0 st <;> rfl)
  (by intro st _;dsimp only;rw [fO];rfl) (false,0,0,0,0,0) trivial
 dsimp only
 erw [aR e]
 unfold Ej
 cases run (vo ms q v) ks 0 (false,0,0,0,0,0) <;> rfl
end
def o8 (x:Zw):Int×Int:=if 0<x.Quantity then oX x.Value x.Granted (x.Quantity - x.Granted) else (0,x.Value)
def jh (x:Zw):List Int:=if x.Proof=true then [1,2,3] else [1,2]
def kE (x:Zw):List Zk:=(if 0<x.Granted then [⟨x.Granted,(o8 x).1,jh x++[4]⟩] else [])++(if 0<x.Quantity - x.Granted\/x.Quantity=0 then [⟨x.Quantity - x.Granted,(o8 x).2,jh x⟩] else [])++[⟨x.Quantity,x.Value,[5]⟩,⟨x.Quantity,x.Value,[6]⟩]
structure ZA (x:Zw):Prop where
 q0:0<=x.Quantity
 q1:x.Quantity<=1000000000
 v0:0<=x.Value
 v1:x.Value<=1000000000000
 g0:0<=x.Granted
 g1:x.Granted<=x.Quantity
theorem itOK {x:Zw} (h:fc x=some 0):ZA x:=by
 unfold fc at h
 rw [show bS x.Code=some (eQ x.Code) from rfl,nv,fP] at h
 have:∃ b,gd (!(eQ x.Code != 8)) (some (sW x.Origin))=some b:=by cases (!(eQ x.Code != 8)) <;> exact ⟨_,rfl⟩
 obtain ⟨b,hb⟩:=this
 rw [aR hb] at h
 cases hc:((eQ x.Code != 8)||(!b))
 ·rw [hc,dq] at h
  cases hd:(((((((((((decide (x.Company<0))||(decide (999<x.Company)))||(decide (x.Day<0)))||(decide (36524<x.Day)))||(decide (x.Quantity<0)))||(decide (1000000000<x.Quantity)))||(decide (x.Value<0)))||(decide (1000000000000<x.Value)))||(decide (x.Granted<0)))||(decide (x.Quantity<x.Granted))):Bool)
  ·simp at hd
   exact ⟨by omega,by omega,by omega,by omega,by omega,by omega⟩
  rw [hd] at h;cases h
 rw [hc] at h;cases h
theorem val2_ok {x:Zw} (h:ZA x):(o8 x).1+(o8 x).2=x.Value/\0<=(o8 x).1/\(o8 x).1<=1000000000000/\0<=(o8 x).2/\(o8 x).2<=1000000000000:=by
 obtain ⟨q0,q1,v0,v1,g0,g1⟩:=h
 unfold o8
 split
 ·exact Ft ⟨v0,v1,g0,by omega,by omega,by omega,by omega⟩
 dsimp only;omega
theorem HK {x:Zw} (h:ZA x):ky x=some (kE x,0):=by
  have hok:=h
  obtain ⟨q0,q1,v0,v1,g0,g1⟩:=h
  unfold ky
  rw [ee (r:=x.Quantity - x.Granted) (by omega) (by omega)]
  have e1:(cond (decide (0<x.Quantity)) (Option.bind (gO x.Value [x.Granted,x.Quantity - x.Granted]) (fun x9=>cond (x9.2 != 0) (some (.inr (([]:List Zk),x9.2))) (some (.inl x9.1)))) (some (.inl [0,x.Value])))=some (Sum.inl [(o8 x).1,(o8 x).2]:List Int⊕(List Zk×Int)):=by
    unfold o8
    by_cases hq:0<x.Quantity
    · rw [det hq,if_pos hq,cQ,aR (Dh ⟨v0,v1,g0,by omega,by omega,by omega,by omega⟩)];rfl
    rw [bz hq,if_neg hq];rfl
  rw [aR e1]
  dsimp only
  have e2:(cond x.Proof (Option.bind (app 8 [1,2] [3]) (fun l21=>some l21)) (some [1,2]))=some (jh x):=by
    unfold jh;cases x.Proof <;> rfl
  rw [aR e2]
  have hk3:(jh x).length<=3:=by unfold jh;split <;> simp
  have e3:fw (jh x)=some (jh x):=by unfold fw app;rw [if_pos (by simp;omega)];rfl
  have e4:app 8 (jh x) [4]=some (jh x++[4]):=by unfold app;rw [if_pos (by simp;omega)]
  have e5:(cond (decide (0<x.Granted)) (Option.bind (bx [(o8 x).1,(o8 x).2] 0) (fun m32=>Option.bind (fw (jh x)) (fun x33=>Option.bind (app 8 x33 [4]) (fun l39=>Option.bind (app 40 ([]:List Zk) [(⟨x.Granted,m32,l39⟩:Zk)]) (fun l44=>some l44))))) (some ([]:(List Zk))))=some (if 0<x.Granted then [⟨x.Granted,(o8 x).1,jh x++[4]⟩] else []):=by
    by_cases hg:0<x.Granted
    · rw [det hg,if_pos hg,cQ,aR ix0,aR e3,aR e4];rfl
    rw [bz hg,if_neg hg];rfl
  rw [aR e5]
  have e6:∀ p:List Zk,p.length<=1->(cond ((decide (0<x.Quantity - x.Granted))||(x.Quantity == 0)) (Option.bind (bx [(o8 x).1,(o8 x).2] 1) (fun m54=>Option.bind (app 40 p [(⟨x.Quantity - x.Granted,m54,jh x⟩:Zk)]) (fun l57=>some l57))) (some p))=some (p++(if 0<x.Quantity - x.Granted\/x.Quantity=0 then [⟨x.Quantity - x.Granted,(o8 x).2,jh x⟩] else [])):=by
    intro p hp
    by_cases hg:0<x.Quantity - x.Granted\/x.Quantity=0
    · rw [if_pos hg,show ((decide (0<x.Quantity - x.Granted))||(x.Quantity == 0))=true by simpa using hg,cQ,aR ix1]
      have:app 40 p [(⟨x.Quantity - x.Granted,(o8 x).2,jh x⟩:Zk)]=some (p++[⟨x.Quantity - x.Granted,(o8 x).2,jh x⟩]):=by unfold app;rw [if_pos (by simp;omega)]
      rw [aR this]
    rw [if_neg hg,show ((decide (0<x.Quantity - x.Granted))||(x.Quantity == 0))=false by rw [Bool.eq_false_iff];intro h;apply hg;simpa using h,dq,append_nil]
  have hp1:(if 0<x.Granted then [(⟨x.Granted,(o8 x).1,jh x++[4]⟩:Zk)] else []).length<=1:=by split <;> simp
  rw [aR (e6 _ hp1)]
  have e7:∀ p:List Zk,p.length<=2->app 40 p [(⟨x.Quantity,x.Value,[5]⟩:Zk),(⟨x.Quantity,x.Value,[6]⟩:Zk)]=some (p++[⟨x.Quantity,x.Value,[5]⟩,⟨x.Quantity,x.Value,[6]⟩]):=by
    intro p hp;unfold app;rw [if_pos (by simp;omega)]
  rw [aR (e7 _ (by rw [length_append];have:(if 0<x.Quantity - x.Granted\/x.Quantity=0 then [(⟨x.Quantity - x.Granted,(o8 x).2,jh x⟩:Zk)] else []).length<=1:=by split <;> simp
                   omega))]
  rfl
abbrev Ca (p:LS⊕Int) (f:LS->LS⊕Int):LS⊕Int:=zn p f
def st0:LS:=(false,0,0,0,0,0)
def tk (o:Int->Option Zc) (q v:Int):List Int->LS->LS⊕Int
 | [],st=>.inl st
 | k::ks,st=>Ca (uB q v (o k) st) (tk o q v ks)
def oK (l:List Zc) (x:Zw) (k:Int):Option Zc:=qt l (dJ k x.Code x.Origin x.Company x.Day)
theorem nm {k q v:Int}:∀ (a b:List Zc) (j:Nat) (st:LS),run (jx k q v) (a++b) j st=Ca (run (jx k q v) a j st) (run (jx k q v) b 0):=by
 have shift:∀ (b:List Zc) (j i:Nat) (st:LS),run (jx k q v) b j st=run (jx k q v) b i st:=by
  intro b
  induction b with
  | nil=>intro j i st;rfl
  | cons y ys ih =>
   intro j i st
   rw [jv,jv]
   have:jx k q v j y st=jx k q v i y st:=rfl
   rw [this]
   cases jx k q v i y st with
   | inl a'=>exact ih _ _ _
   | inr r=>rfl
 intro a
 induction a with
 | nil=>intro b j st;exact shift b j 0 st
 | cons y ys ih =>
  intro b j st
  rw [cons_append,jv,jv]
  cases jx k q v j y st with
  | inl a'=>exact ih b _ _
  | inr r=>rfl
theorem bindR_l {A B R:Type} (a:A) (g:A->B⊕R):zn (.inl a) g=g a:=rfl
theorem Fv (p:LS⊕Int):zn p (fun s=>.inl s)=p:=by cases p <;> rfl
section
variable {l:List Zc} (hl:l.length<=300) (hm:∀ m∈l,Ne m) (x:Zw)
include hl hm
theorem uC (k:Int):oK l x k=none\/∃ m,oK l x k=some m/\Ne m/\m.Kind=k/\m∈l:=by
 rcases zw hl hm k x.Code x.Origin x.Company x.Day with ⟨h1,_⟩ | ⟨m,h1,_,_,h2,h3,h4⟩
 ·exact .inl h1
 exact .inr ⟨m,h1,h2,h3,h4⟩
theorem oD (k k' q v:Int):run (jx k q v) (oK l x k').toList 0=fun st=>if k'=k then uB q v (oK l x k) st else .inl st:=by
 funext st
 rcases uC hl hm x k' with h | ⟨m,h,_,h2,_⟩
 ·by_cases e:k'=k
  ·subst e;rw [h,if_pos rfl];rfl
  rw [h,if_neg e];rfl
 rw [h]
 show zn (jx k q v 0 m st) (run (jx k q v) [] 1)=_
 unfold jx
 by_cases e:k'=k
 ·subst e;rw [h,if_pos h2,if_pos rfl]
  show _=vR q v st m
  cases vR q v st m <;> rfl
 rw [if_neg (by rw [h2];exact e),if_neg e];rfl
theorem Fw {k:Int} (h1:1<=k) (h6:k<=6) (q v:Int) (st:LS):run (jx k q v) (wj l x.Code x.Origin x.Company x.Day) 0 st=uB q v (oK l x k) st:=by
 unfold wj ou
 rw [nm,nm,nm,nm,nm,nm]
 rw [show qt l (dJ 1 x.Code x.Origin x.Company x.Day)=oK l x 1 from rfl,show qt l (dJ 2 x.Code x.Origin x.Company x.Day)=oK l x 2 from rfl,show qt l (dJ 3 x.Code x.Origin x.Company x.Day)=oK l x 3 from rfl,show qt l (dJ 4 x.Code x.Origin x.Company x.Day)=oK l x 4 from rfl,show qt l (dJ 5 x.Code x.Origin x.Company x.Day)=oK l x 5 from rfl,show qt l (dJ 6 x.Code x.Origin x.Company x.Day)=oK l x 6 from rfl]
 rw [oD hl hm x k 1,oD hl hm x k 2,oD hl hm x k 3,oD hl hm x k 4,oD hl hm x k 5,oD hl hm x k 6]
 have hk:k=1\/k=2\/k=3\/k=4\/k=5\/k=6:=by omega
 have base:run (jx k q v) [] 0 st=.inl st:=rfl
 rw [base]
 rcases hk with rfl | rfl | rfl | rfl | rfl | rfl <;> simp [bindR_l,Fv]
theorem Dl (q v:Int) (ks:List Int) (hks:∀ k∈ks,1<=k/\k<=6):Ej (wj l x.Code x.Origin x.Company x.Day) q v ks=tk (oK l x) q v ks st0:=by
 unfold Ej
 have:∀ (ks:List Int) (j:Nat) (st:LS),(∀ k∈ks,1<=k/\k<=6)->run (vo (wj l x.Code x.Origin x.Company x.Day) q v) ks j st=tk (oK l x) q v ks st:=by
  intro ks
  induction ks with
  | nil=>intro j st _;rfl
  | cons k ks ih =>
   intro j st h
   have hk:=h k (by simp)
   rw [jv]
   show _=Ca (uB q v (oK l x k) st) (tk (oK l x) q v ks)
   unfold vo
   rw [Fw hl hm x hk.1 hk.2]
   cases uB q v (oK l x k) st with
   | inl s=>exact ih _ _ (fun k' h'=>h k' (by simp [h']))
   | inr e=>rfl
 exact this ks 0 _ hks
theorem Cb:(wj l x.Code x.Origin x.Company x.Day).length<=300/\∀ m∈wj l x.Code x.Origin x.Company x.Day,Ne m:=by
 have key:∀ k,(∀ m∈(qt l (dJ k x.Code x.Origin x.Company x.Day)).toList,Ne m)/\(qt l (dJ k x.Code x.Origin x.Company x.Day)).toList.length<=1:=by
  intro k
  rcases uC hl hm x k with h | ⟨m,h,h2,_⟩
  ·rw [show qt l (dJ k x.Code x.Origin x.Company x.Day)=none from h];simp
  rw [show qt l (dJ k x.Code x.Origin x.Company x.Day)=some m from h];simp;exact h2
 unfold wj ou
 constructor
 ·simp only [length_append,length_nil]
  have:=(key 1).2;have:=(key 2).2;have:=(key 3).2;have:=(key 4).2;have:=(key 5).2;have:=(key 6).2
  omega
 intro m h
 simp only [mem_append,not_mem_nil,false_or] at h
 rcases h with ((((h | h) | h) | h) | h) | h
 ·exact (key 1).1 m h
 ·exact (key 2).1 m h
 ·exact (key 3).1 m h
 ·exact (key 4).1 m h
 ·exact (key 5).1 m h
 exact (key 6).1 m h
end
theorem Az (ms:List Zc) (hl:ms.length<=4611686018427387904):bO ms (fun y8=>jR y8)=some (ms.any fun m=>m.Kind == 1):=by
 unfold bO cM
 obtain ⟨e,_⟩:=lA (T:=Unit⊕Int) hl (body:=fun v1=>cond (decide (v1<(ms.length:Int))) (Option.bind (bx ms v1) (fun m5=>Option.bind ((fun y8=>jR y8) m5) (fun x6=>cond x6 (some (.inr (.inr v1))) (some (.inl (i64.wrap (v1+1))))))) (some (.inr (.inl ()))))
  (fun i (_:Unit)=>i) (fun k m _=>if m.Kind == 1 then .inr (k:Int) else .inl ()) (fun _=>.inl ()) (fun r=>.inr r) (fun _ _=>True) (by
   intro k hk a _
   refine ⟨?_,fun _ _=>trivial⟩
   rw [mr hk,cQ,aR (bf hk),cI hk hl]
   show Option.bind (some (ms[k].Kind == 1)) _=_
   rw [fP]
   cases (ms[k].Kind == 1) <;> rfl)
  (by intro a _;rw [fO];rfl) () trivial
 rw [aR e]
 have hrun:∀ (xs:List Zc) (k:Nat),(∃ j:Nat,run (fun k (m:Zc) (_:Unit)=>if m.Kind == 1 then Sum.inr (k:Int) else Sum.inl ()) xs k ()=.inr (j:Int)/\(xs.any fun m=>m.Kind == 1)=true)\/(run (fun k (m:Zc) (_:Unit)=>if m.Kind == 1 then Sum.inr (k:Int) else Sum.inl ()) xs k ()=.inl ()/\(xs.any fun m=>m.Kind == 1)=false):=by
  intro xs
  induction xs with
  | nil=>intro k;right;exact ⟨rfl,rfl⟩
  | cons y ys ih =>
   intro k
   rw [jv]
   rw [List.any_cons]
   cases hy:(y.Kind == 1)
   ·exact ih (k+1)
   left;exact ⟨k,rfl,rfl⟩
 rcases hrun ms 0 with ⟨j,h1,h2⟩ | ⟨h1,h2⟩
 ·rw [h1,h2];show some (decide ((0:Int)<=(j:Int)))=_;rw [det (by omega)]
 rw [h1,h2];rfl
def Ek (x:Zw):Int:=(fc x).getD 0
def yd (e:Int):Zx×Int:=(⟨[],0⟩,e)
def vS (o:Int->Option Zc) (_:Nat) (p:Zk) (st:List Zi×Int):(List Zi×Int)⊕Int:=match tk o p.quantity p.value p.kinds st0 with | .inr e=>.inr e | .inl s=>.inl (if s.1=true then (st.1++[yc s],st.2+s.2.2.2.2.2) else st)
def HL (st:List Zi×Int):Zx×Int:=if 1000000000000<st.2 then yd 3 else (⟨st.1,st.2⟩,0)
def wE (l:List Zc) (x:Zw):Zx×Int:=if uA l≠0 then yd (uA l) else if Ek x≠0 then yd (Ek x) else if oK l x 1=none then yd 7 else yH HL yd (run (vS (oK l x)) (kE x) 0 ([],0))
def Qg (st:LS):Prop:=0<=st.2.2.2.2.2/\st.2.2.2.2.2<=1000000000000
structure PartOK (p:Zk):Prop where
 v0:0<=p.value
 v1:p.value<=1000000000000
 q0:0<=p.quantity
 q1:p.quantity<=1000000000
 kl:p.kinds.length<=10
 kr:∀ k∈p.kinds,1<=k/\k<=6
theorem Fx (x:Zw):(jh x).length<=3/\∀ k∈jh x,1<=k/\k<=6:=by
 unfold jh;split <;> refine ⟨by simp,?_⟩ <;> intro k hk <;> simp at hk <;> omega
theorem Fy {x:Zw} (h:ZA x):(kE x).length<=4/\∀ p∈kE x,PartOK p:=by
 obtain ⟨s,a0,a1,b0,b1⟩:=val2_ok h
 obtain ⟨k1,k2⟩:=Fx x
 obtain ⟨q0,q1,v0,v1,g0,g1⟩:=h
 unfold kE
 constructor
 ·simp only [length_append,length_cons,length_nil]
  split <;> split <;> simp
 intro p hp
 simp only [mem_append,mem_cons,not_mem_nil,or_false] at hp
 rcases hp with (hp | hp) | hp | hp
 ·split at hp
  ·simp only [mem_cons,not_mem_nil,or_false] at hp;subst hp
   refine ⟨a0,a1,by dsimp only;omega,by dsimp only;omega,by simp;omega,?_⟩
   intro k hk
   simp only [mem_append,mem_cons,not_mem_nil,or_false] at hk
   rcases hk with hk | rfl
   ·exact k2 k hk
   omega
  cases hp
 ·split at hp
  ·simp only [mem_cons,not_mem_nil,or_false] at hp;subst hp
   exact ⟨b0,b1,by dsimp only;omega,by dsimp only;omega,by dsimp only;omega,k2⟩
  cases hp
 ·subst hp;exact ⟨v0,v1,q0,q1,by simp,by intro k hk;simp at hk;omega⟩
 subst hp;exact ⟨v0,v1,q0,q1,by simp,by intro k hk;simp at hk;omega⟩
theorem evN_amt {m:Zc} (h:Ne m) {q v:Int} (hv:0<=v) (hv':v<=1000000000000) (hq:0<=q) (hq':q<=1000000000):((wD m.Duty v q).2=0/\0<=(wD m.Duty v q).1/\(wD m.Duty v q).1<=1000000000000)\/((wD m.Duty v q).2=3/\(wD m.Duty v q).1=0):=by
 obtain ⟨e,e1,e2,_⟩:=wC m.Duty
 rw [h.duty] at e1
 have hd:=e2 (Option.some.inj e1).symm
 exact evN_ok m.Duty v q (B2 hd hv hv' hq hq').1.1 (perU hd).1
theorem Fz {o:Option Zc} (ho:∀ m,o=some m->Ne m) {q v:Int} (hv:0<=v) (hv':v<=1000000000000) (hq:0<=q) (hq':q<=1000000000) {st:LS} (h:Qg st):(∃ s,uB q v o st=.inl s/\Qg s/\(st.1=true->s.1=true)/\(o≠none->s.1=true))\/uB q v o st=.inr 3:=by
 cases o with
 | none=>left;exact ⟨st,rfl,h,id,fun h=>absurd rfl h⟩
 | some m =>
  have:=evN_amt (ho m rfl) hv hv' hq hq'
  show (∃ s,vR q v st m=.inl s/\_)\/vR q v st m=.inr 3
  unfold vR
  rcases this with ⟨a,b,c⟩ | ⟨a,b⟩
  ·left
   rw [if_neg (by simp [a])]
   by_cases hc:st.1=false\/(wD m.Duty v q).1<st.2.2.2.2.2
   ·rw [if_pos hc];exact ⟨_,rfl,⟨b,c⟩,fun _=>rfl,fun _=>rfl⟩
   rw [if_neg hc];exact ⟨_,rfl,h,id,fun _=>by cases hs:st.1;exact absurd (.inl hs) hc;rfl⟩
  right;rw [if_pos (by simp [a]),a]
theorem FA {o:Int->Option Zc} (ho:∀ k m,o k=some m->Ne m) {q v:Int} (hv:0<=v) (hv':v<=1000000000000) (hq:0<=q) (hq':q<=1000000000):∀ (ks:List Int) (st:LS),Qg st->(∃ s,tk o q v ks st=.inl s/\Qg s/\(st.1=true->s.1=true))\/tk o q v ks st=.inr 3:=by
 intro ks
 induction ks with
 | nil=>intro st h;left;exact ⟨st,rfl,h,id⟩
 | cons k ks ih =>
  intro st h
  show (∃ s,Ca (uB q v (o k) st) (tk o q v ks)=.inl s/\_)\/Ca (uB q v (o k) st) (tk o q v ks)=.inr 3
  rcases Fz (ho k) hv hv' hq hq' h with ⟨s,h1,h2,h3,_⟩ | h1
  ·rw [h1]
   rcases ih s h2 with ⟨s',g1,g2,g3⟩ | g1
   ·left;exact ⟨s',g1,g2,fun h=>g3 (h3 h)⟩
   right;exact g1
  rw [h1];right;rfl
theorem HM {l:List Zc} (hl:l.length<=300) (hm:∀ m∈l,Ne m) (x:Zw):((wj l x.Code x.Origin x.Company x.Day).any fun m=>m.Kind == 1)=decide (oK l x 1≠none):=by
 have key:∀ k,((qt l (dJ k x.Code x.Origin x.Company x.Day)).toList.any fun m=>m.Kind == 1)=decide (k=1/\oK l x k≠none):=by
  intro k
  rcases uC hl hm x k with h | ⟨m,h,_,h2,_⟩
  ·rw [show qt l (dJ k x.Code x.Origin x.Company x.Day)=none from h,h];simp
  rw [show qt l (dJ k x.Code x.Origin x.Company x.Day)=some m from h,h];simp [h2]
  by_cases e:k=1 <;> simp [e]
 unfold wj ou
 simp only [List.any_append,List.any_nil,Bool.false_or,key]
 simp
theorem Cc (l:List Zc) (x:Zw) (hx:∃ e,fc x=some e):ib l x=some (wE l x):=by
 obtain ⟨e,he⟩:=hx
 unfold ib wE
 have hie:Ek x=e:=by unfold Ek;rw [he];rfl
 rw [aR (yI l),he,hie]
 rcases Decidable.em (¬ uA l=0) with h1 | h1
 ·rw [if_pos h1,show (uA l != 0)=true by simp [h1]];rfl
 have h1:=Decidable.not_not.1 h1
 obtain ⟨hl,hm⟩:=HG h1
 rw [if_neg (by simp [h1]),show (uA l != 0)=false by simp [h1],dq,fP]
 rcases Decidable.em (¬ e=0) with h2 | h2
 ·rw [if_pos h2,show (e != 0)=true by simp [h2]];rfl
 have h2:=Decidable.not_not.1 h2
 subst h2
 have hit:=itOK he
 rw [if_neg (by simp),bne_self_eq_false,dq,aR (Dk hl hm _ _ _ _),aR (Az _ (by have:=(Cb hl hm x).1;omega)),HM hl hm x]
 by_cases h3:oK l x 1=none
 ·rw [if_pos h3,bz (by simp [h3])];rfl
 rw [if_neg h3,det h3,Bool.not_true,dq,aR (HK hit),bne_self_eq_false,dq]
 obtain ⟨pl,pa⟩:=Fy hit
 have hpl:(kE x).length<=4611686018427387904:=by omega
 have ho:∀ k m,oK l x k=some m->Ne m:=by
  intro k m h
  rcases uC hl hm x k with h' | ⟨m',h',h2,_⟩
  ·rw [h'] at h;cases h
  rw [h'] at h;injection h with h;exact h ▸ h2
 obtain ⟨e,_⟩:=lA (S:=Int×(List Zi)×Int) (T:=((List Zi)×Int)⊕(Zx×Int)) hpl (body:=fun (v14,l16,v19)=>cond (decide (v14<((kE x).length:Int))) (Option.bind (α:=((List Zi)×Int)⊕_) (Option.bind (bx (kE x) v14) (fun m35=>Option.bind (il (wj l x.Code x.Origin x.Company x.Day) m35) (fun x37=>cond (x37.2.2 != 0) (some (.inr (.inr (.inr ((⟨[],0⟩:Zx),x37.2.2))))) (cond x37.2.1 (Option.bind (app 40 l16 [x37.1]) (fun l43=>some (.inl (l43,(i64.wrap (v19+x37.1.Amount)))))) (some (.inl (l16,v19))))))) (fun q=>match q with | .inl (l32,v33)=>some (.inl ((i64.wrap (v14+1)),l32,v33)) | .inr e=>some e)) (some (.inr (.inl (l16,v19)))))
  (fun i (st:List Zi×Int)=>(i,st.1,st.2)) (vS (oK l x)) (fun st=>.inl st) (fun e=>.inr (yd e)) (fun k st=>st.1.length<=k/\0<=st.2/\st.2<=k*1000000000000) (by
   intro k hk st ⟨s1,s2,s3⟩
   have pk:=pa _ (getElem_mem hk)
   obtain ⟨a1,a2⟩:=Cb hl hm x
   have hle:=HJ a1 a2 pk.v0 pk.v1 pk.q0 pk.q1 _ pk.kl
   rw [Dl hl hm x _ _ _ pk.kr] at hle
   have hch:=FA ho pk.v0 pk.v1 pk.q0 pk.q1 (kE x)[k].kinds st0 ⟨by unfold st0;simp,by unfold st0;simp⟩
   dsimp only
   rw [mr hk,cQ,aR (bf hk),show (kE x)[k]=⟨(kE x)[k].quantity,(kE x)[k].value,(kE x)[k].kinds⟩ from rfl,hle,cI hk hpl,fP]
   unfold vS
   rcases hch with ⟨s,g1,g2,_⟩ | g1
   ·rw [g1]
    dsimp only [yH]
    obtain ⟨b1,b2⟩:=g2
    cases hs:s.1
    ·refine ⟨rfl,fun a' h=>?_⟩
     injection h with h;subst h
     simp;omega
    have hap:app 40 st.1 [yc s]=some (st.1++[yc s]):=by unfold app;rw [if_pos (by simp;omega)]
    rw [bne_self_eq_false,dq,cQ,aR hap]
    have hw:i64.wrap (st.2+(yc s).Amount)=st.2+s.2.2.2.2.2:=ee (by show -9223372036854775808<=st.2+s.2.2.2.2.2;omega) (by show st.2+s.2.2.2.2.2<=9223372036854775807;omega)
    rw [hw]
    refine ⟨rfl,fun a' h=>?_⟩
    injection h with h;subst h
    simp;omega
   rw [g1]
   exact ⟨rfl,fun a' h=>by cases h⟩)
  (by intro st _;dsimp only;rw [fO];rfl) ([],0) ⟨by simp,by simp,by simp⟩
 refine (aR e).trans ?_
 cases hr:run (vS (oK l x)) (kE x) 0 ([],0) with
 | inr e=>rfl
 | inl st =>
  show cond (decide (1000000000000<st.2)) _ _=some (HL st)
  unfold HL
  by_cases h:1000000000000<st.2
  ·rw [det h,if_pos h];rfl
  rw [bz h,if_neg h];rfl
theorem run_len (o:Int->Option Zc):∀ (ps:List Zk) (k:Nat) (st st':List Zi×Int),run (vS o) ps k st=.inl st'->st'.1.length<=st.1.length+ps.length:=by
 intro ps
 induction ps with
 | nil=>intro k st st' h;change Sum.inl st=Sum.inl st' at h;injection h with h;subst h;simp
 | cons p ps ih =>
  intro k st st' h
  rw [jv] at h
  cases hp:vS o k p st with
  | inr e=>rw [hp] at h;change Sum.inr e=_ at h;cases h
  | inl s =>
   rw [hp] at h
   have h1:=ih _ _ _ h
   have h2:s.1.length<=st.1.length+1:=by
    unfold vS at hp
    cases hc:tk o p.quantity p.value p.kinds st0 with
    | inr e=>rw [hc] at hp;cases hp
    | inl c =>
     rw [hc] at hp
     injection hp with hp;rw [<- hp]
     split <;> simp
   simp;omega
theorem Cd (l:List Zc) (x:Zw):(wE l x).1.Lines.length<=4:=by
 unfold wE
 split
 ·simp [yd]
 split
 ·simp [yd]
 split
 ·simp [yd]
 cases h:run (vS (oK l x)) (kE x) 0 ([],0) with
 | inr e=>simp [yH,yd]
 | inl st =>
  have:=run_len _ _ _ _ _ h
  have hp:(kE x).length<=4:=by
   unfold kE
   simp only [length_append,length_cons,length_nil]
   split <;> split <;> simp
  simp only [length_nil,zero_add] at this
  show (HL st).1.Lines.length<=4
  unfold HL;split
  ·simp [yd]
  dsimp only;omega
theorem ye (a:List Zi) (h:a.length<=1000):jV a a=some true:=by
 unfold jV
 rw [bne_self_eq_false,dq]
 have hl:a.length<=4611686018427387904:=by omega
 have hr:∀ (xs:List Zi) (k:Nat),run (R:=Unit) (fun (_:Nat) (_:Zi) (_:Unit)=>Sum.inl ()) xs k ()=.inl ():=by
  intro xs
  induction xs with
  | nil=>intro k;rfl
  | cons y ys ih=>intro k;exact ih (k+1)
 obtain ⟨e,_⟩:=lA (T:=Unit⊕Bool) hl (body:=fun v2=>cond (decide (v2<(a.length:Int))) (Option.bind (bx a v2) (fun m6=>Option.bind (bx a v2) (fun m7=>cond (!(Zi.eqb m6 m7)) (some (.inr (.inr false))) (some (.inl (i64.wrap (v2+1))))))) (some (.inr (.inl ()))))
  (fun i (_:Unit)=>i) (fun (_:Nat) (_:Zi) (_:Unit)=>Sum.inl ()) (fun _=>.inl ()) (fun (_:Unit)=>.inr false) (fun _ _=>True) (by
   intro k hk u _
   refine ⟨?_,fun _ _=>trivial⟩
   rw [mr hk,cQ,aR (bf hk),aR (bf hk),cI hk hl,Zi.eqb_iff.2 rfl];rfl)
  (by intro u _;rw [fO];rfl) () trivial
 rw [aR e,hr];rfl
theorem yJ (d:Zx) (h:d.Lines.length<=1000):jt d d=some true:=by
 unfold jt
 rw [beq_self_eq_true,fN,ye _ h];rfl
theorem AA (x:Zw):∃ e,fc x=some e:=by
 unfold fc bS
 rw [fP,nv]
 cases (eQ x.Code != 8) <;> simp only [Bool.not_true,Bool.not_false,fN,vP,fP,Bool.true_or,Bool.false_or,cQ]
 ·cases sW x.Origin
  ·exact ⟨_,rfl⟩
  simp only [Bool.not_true,dq];obtain ⟨r,h,_⟩:=cond_ex _ (2:Int) 0;exact ⟨r,h⟩
 exact ⟨_,rfl⟩
theorem Ce (m:List Zc) (x:Zw):∃ d,ib m x=some d/\jt d.1 d.1=some true:=by
 refine ⟨_,Cc m x (AA x),yJ _ ?_⟩
 have:=Cd m x
 omega
theorem HN:kT=some true:=by kernel_rfl
theorem qk (s:Xh):s.size=s.data.toList.length:=by rw [Array.length_toList];rfl
def mM (c:UInt8):Bool:=decide (97<=c.toNat)&&decide (c.toNat<=122)
def mX (s:Xh):Bool:=decide (1<=s.size)&&decide (s.size<=12)&&s.data.toList.all mM
theorem FB (s:Xh) (hs:s.size<=140737488355328):mH s=some (mX s):=by
 unfold mH mX
 have i1:decide ((s.size:Int)<1) = !decide (1<=s.size):=by rw [<- decide_not];exact decide_eq_decide.2 (by omega)
 have i2:decide ((12:Int)<(s.size:Int)) = !decide (s.size<=12):=by rw [<- decide_not];exact decide_eq_decide.2 (by omega)
 rw [i1,i2]
 cases h1:decide (1<=s.size)
 ·rfl
 cases h2:decide (s.size<=12)
 ·rfl
 simp only [Bool.not_true,Bool.or_self,dq,Bool.true_and]
 have key:∀ n pos N,s.size - pos=n->pos<=s.size->n<N->aW (lY s) N pos=some ((s.data.toList.drop pos).all mM):=by
  intro n
  induction n with
  | zero =>
   intro pos N hn hp hN
   obtain ⟨N,rfl⟩:∃ M,N=M+1:=⟨N - 1,by omega⟩
   have:Nat.blt pos s.size=false:=by cases hb:Nat.blt pos s.size;rfl;simp [Nat.blt] at hb;omega
   rw [fe,lY,this]
   rw [List.drop_of_length_le (by rw [<- qk];omega)];rfl
  | succ n ih =>
   intro pos N hn hp hN
   obtain ⟨N,rfl⟩:∃ M,N=M+1:=⟨N - 1,by omega⟩
   have hlt:pos<s.size:=by omega
   have hb:Nat.blt pos s.size=true:=by simp [Nat.blt];omega
   have hlt2:pos<s.data.toList.length:=by rw [<- qk];exact hlt
   have hget:s[pos]=s.data.toList[pos]:=by
    rw [Array.getElem_toList];rfl
   rw [fe,lY,hb,List.drop_eq_getElem_cons hlt2,List.all_cons,<- hget]
   by_cases ha:(s[pos]'hlt).toNat<128
   ·rw [decode_ascii s pos hlt ha]
    simp only [cQ,mM]
    by_cases h1:(s[pos]'hlt).toNat<97
    ·rw [show decide (((s[pos]'hlt).toNat:Int)<97)=true from det (by omega),show decide (97<=(s[pos]'hlt).toNat)=false from bz (by omega)];rfl
    by_cases h2:122<(s[pos]'hlt).toNat
    ·rw [show decide ((122:Int)<((s[pos]'hlt).toNat:Int))=true from det (by omega),show decide ((s[pos]'hlt).toNat<=122)=false from bz (by omega),Bool.or_true,Bool.and_false];rfl
    rw [bz (by omega),bz (by omega),det (Nat.not_lt.1 h1),det (Nat.not_lt.1 h2)]
    exact ih (pos+1) N (by omega) (by omega) (by omega)
   have hh:=decode_high s pos hlt (by omega)
   have h122:¬ (s[pos]'hlt).toNat<=122:=by omega
   have:decide (122<((Utf8.decode s pos).1:Int))=true:=det (by omega)
   simp [this,mM,h122]
 have:=key s.size 0 Va (by omega) (by omega) (mL (by omega))
 rw [this,drop_zero]
def qO (lt:Xh->Xh->Bool):List Xh->Bool
 | []=>true
 | [_]=>true
 | a::b::l=>lt a b&&qO lt (b::l)
def wk (p:Xh->Bool) (l:List Xh) (k:Nat) (x:Xh):Bool:=p x&&(!decide (0<k)||uS (l.getD (k - 1) x) x)
theorem Cf (p:Xh->Bool) (l:List Xh):(∀ i x,l[i]?=some x->wk p l i x=true)↔(l.all p&&qO uS l)=true:=by
 have key:∀ (l:List Xh),(∀ i,(h:i+1<l.length)->uS l[i] l[i+1]=true)↔qO uS l=true:=by
  intro l
  induction l with
  | nil=>simp [qO]
  | cons a l ih =>
   cases l with
   | nil=>simp [qO]
   | cons b l =>
    rw [qO,and_eq_true,<- ih]
    constructor
    ·intro h;exact ⟨h 0 (by simp),fun i hi=>h (i+1) (by simpa using hi)⟩
    rintro ⟨h1,h2⟩ i hi
    cases i with
    | zero=>exact h1
    | succ i=>exact h2 i (by simpa using hi)
 rw [and_eq_true,<- key,List.all_eq_true]
 constructor
 ·intro h
  refine ⟨fun x hx=>?_,fun i hi=>?_⟩
  ·obtain ⟨i,hi,rfl⟩:=List.getElem_of_mem hx
   have:=h i _ (List.getElem?_eq_getElem hi)
   simp only [wk,and_eq_true] at this
   exact this.1
  have:=h (i+1) _ (List.getElem?_eq_getElem hi)
  simp only [wk,and_eq_true,Nat.zero_lt_succ,decide_true,Bool.not_true,Bool.false_or,Nat.add_sub_cancel] at this
  rw [sE (by omega)] at this
  exact this.2
 rintro ⟨h1,h2⟩ i x hx
 obtain ⟨hi,rfl⟩:=List.getElem?_eq_some_iff.1 hx
 simp only [wk,h1 _ (getElem_mem hi),Bool.true_and]
 by_cases h0:0<i
 ·rw [det h0,Bool.not_true,Bool.false_or,sE (by omega)]
  obtain ⟨j,rfl⟩:∃ j,i=j+1:=⟨i - 1,by omega⟩
  exact h2 j hi
 simp [h0]
theorem FC {T:Type} (p:Xh->Bool) (l:List Xh) (t:T):mW (fun k x=>cond (wk p l k x) none (some t)) l 0=cond (l.all p&&qO uS l) none (some t):=by
 have hn:=tU (g:=fun k x=>cond (wk p l k x) none (some t)) (l:=l) (k:=0)
 cases h:(l.all p&&qO uS l)
 ·cases hf:mW (fun k x=>cond (wk p l k x) none (some t)) l 0 with
  | none =>
   exfalso
   have:(l.all p&&qO uS l)=true:=by
    rw [<- Cf]
    intro i x hx
    have:=hn.1 hf i x hx
    rw [zero_add] at this
    cases hk:wk p l i x
    ·rw [hk] at this;cases this
    rfl
   rw [h] at this;cases this
  | some u =>
   have:∀ (m:List Xh) (k:Nat) (u:T),mW (fun k x=>cond (wk p l k x) none (some t)) m k=some u->u=t:=by
    intro m
    induction m with
    | nil=>intro k u h;cases h
    | cons x m ih =>
     intro k u h
     rw [mW] at h
     cases hk:wk p l k x
     ·rw [hk] at h;injection h with h;exact h.symm
     rw [hk] at h;exact ih _ _ h
   rw [this _ _ _ hf];rfl
 rw [cQ,hn]
 intro i x hx
 rw [zero_add,(Cf p l).2 h i x hx];rfl
def sd (l:List Xh):Bool:=decide (l.length<=8)&&(l.all mX&&qO uS l)
def StrsOk (l:List Xh):Prop:=l.length<=140737488355328/\∀ s∈l,s.size<=140737488355328
theorem tV (l:List Xh) (hl:StrsOk l):dO l=some (sd l):=by
 obtain ⟨hl,hs⟩:=hl
 unfold dO sd
 have i2:decide ((8:Int)<(l.length:Int)) = !decide (l.length<=8):=by rw [<- decide_not];exact decide_eq_decide.2 (by omega)
 rw [i2]
 cases decide (l.length<=8)
 ·rfl
 simp only [Bool.not_true,dq,Bool.true_and]
 refine (Fl (l:=l) (by omega) (fun k x=>cond (wk mX l k x) none (some (.inr false))) (.inl ()) (fun k hk=>?_) (by simp only [fO,dq])).trans ?_
 ·have h62:l.length<=4611686018427387904:=by omega
  simp only [mr hk,cQ,bf hk,fP,FB _ (hs _ (getElem_mem hk)),d0k,cI hk h62,wk]
  cases hw:mX l[k]
  ·rfl
  by_cases h0:0<k
  ·simp only [h0,decide_true,Bool.not_true,Bool.not_false,Bool.and_true,Bool.true_and,Bool.false_or,fN,qj h0 hk h62,fP,sE (show k - 1<l.length by omega),uS,Aw]
   cases Op.bytesLess (l[k-1]'(by omega)).toList l[k].toList <;> rfl
  simp only [h0,decide_false,Bool.and_false,vP,fP,Bool.not_true,Bool.false_or,Bool.false_and,dq,Bool.not_false,Bool.true_and,Bool.true_or,Bool.or_false];rfl
 rw [FC]
 cases (l.all mX&&qO uS l) <;> rfl
def eR (l:List UInt8):Xh:=⟨l.toArray⟩
def bs (s:Xh):List UInt8:=s.data.toList
theorem da (l:List UInt8):bs (eR l)=l:=rfl
theorem mk_bs (s:Xh):eR (bs s)=s:=rfl
theorem iC {a b:Xh} (h:bs a=bs b):a=b:=BU h
theorem dK (s:Xh):(bs s).length=s.size:=(qk s).symm
theorem cG (l:List UInt8):(eR l).size=l.length:=by show l.toArray.size=_;simp
theorem fy (s u:Xh):bs (s++u)=bs s++bs u:=by unfold bs;simp
theorem zx (xs:List Xh):(xs.map bs).map eR=xs:=by
 rw [List.map_map]
 exact (List.map_congr_left (fun x _=>mk_bs x)).trans (List.map_id _)
theorem kF (xs:List Xh) (sep:Xh):bs (bJ xs sep)=Lib.join (xs.map bs) (bs sep):=rfl
theorem mi {xs:List Xh} {sep:Xh} (h:(bJ xs sep).size<=140737488355328):strings_Join xs sep=some (bJ xs sep):=by
 unfold strings_Join
 rw [show Nat.ble (bJ xs sep).size 140737488355328=true from ble_eq_true_of_le h];rfl
def mt (c:UInt8) (s:Xh):Prop:=c ∉ bs s
theorem iD {c:UInt8} {xs:List Xh} (h0:xs≠[]) (h:∀ x∈xs,mt c x) (hs:(bJ xs ⟨#[c]⟩).size<4294967281):bo (bJ xs ⟨#[c]⟩) ⟨#[c]⟩=some xs:=by
 obtain ⟨ys,y,rfl⟩:∃ ys y,xs=ys++[y]:=⟨_,_,(List.dropLast_concat_getLast h0).symm⟩
 have hys:∀ x∈ys.map bs,c ∉ x:=fun x hx=>by
  obtain ⟨z,hz,rfl⟩:=List.mem_map.1 hx
  exact h z (by simp [hz])
 have hy:c ∉ bs y:=h y (by simp)
 have e1:(bJ (ys++[y]) ⟨#[c]⟩).data.toList=Lib.join (ys.map bs++[bs y]) [c]:=by
  show bs (bJ _ _)=_
  rw [kF,map_append];rfl
 unfold bo gk
 rw [show (⟨#[c]⟩:Xh).data.toList=[c] from rfl]
 simp only [decide_true,Bool.true_or,Bool.and_true,cQ]
 have hb:Nat.blt (bJ (ys++[y]) ⟨#[c]⟩).size 4294967281=true:=ble_eq_true_of_le hs
 rw [hb,cQ,e1,xI hys hy,length_map]
 have e2:=xH (c:=c) (xs:=ys.map bs) (y:=bs y) hys
 rw [length_map] at e2
 rw [e2]
 show some (List.map eR (ys.map bs++[bs y]))=_
 rw [<- map_singleton,<- map_append,zx]
theorem Cg {c:UInt8} {ys:List Xh} {y:Xh} (h:∀ x∈ys,mt c x) (hs:(bJ (ys++[y]) ⟨#[c]⟩).size<4294967281) (hn:ys.length<=1000):ju (bJ (ys++[y]) ⟨#[c]⟩) ⟨#[c]⟩ ((ys.length+1:Nat):Int)=some (ys++[y]):=by
 have hys:∀ x∈ys.map bs,c ∉ x:=fun x hx=>by
  obtain ⟨z,hz,rfl⟩:=List.mem_map.1 hx
  exact h z hz
 have e1:(bJ (ys++[y]) ⟨#[c]⟩).data.toList=Lib.join (ys.map bs++[bs y]) [c]:=by
  show bs (bJ _ _)=_
  rw [kF,map_append];rfl
 have hlen:∀ (zs:List (List UInt8)) (w:List UInt8),zs.length<=(Lib.join (zs++[w]) [c]).length:=by
  intro zs
  induction zs with
  | nil=>intro w;simp
  | cons z zs ih =>
   intro w
   cases zs with
   | nil=>rw [List.singleton_append,jf];simp;omega
   | cons z2 zs =>
    have:=ih w
    rw [cons_append,cons_append] at *
    rw [jf];simp at this ⊢;omega
 have hsz:ys.length<=(bJ (ys++[y]) ⟨#[c]⟩).size:=by
  rw [<- dK]
  have:=hlen (ys.map bs) (bs y)
  rw [length_map] at this
  unfold bs at *;rw [e1];exact this
 unfold ju gk
 rw [show (⟨#[c]⟩:Xh).data.toList=[c] from rfl]
 have hb:Nat.blt (bJ (ys++[y]) ⟨#[c]⟩).size 4294967281=true:=ble_eq_true_of_le hs
 have hm:min (((ys.length+1:Nat):Int)).toNat ((bJ (ys++[y]) ⟨#[c]⟩).size+1) - 1=ys.length:=by omega
 rw [hb,bz (show ¬ ((ys.length+1:Nat):Int) = -1 by omega),det (show (0:Int)<((ys.length+1:Nat):Int) by omega),det (show ((ys.length+1:Nat):Int)<=9223372036854775807 by omega)]
 simp only [decide_true,Bool.and_true,Bool.or_true,cQ,dq]
 rw [hm,e1]
 have e2:=xH (c:=c) (xs:=ys.map bs) (y:=bs y) hys
 rw [length_map] at e2
 rw [e2]
 show some (List.map eR (ys.map bs++[bs y]))=_
 rw [<- map_singleton,<- map_append,zx]
theorem dn (a b:Xh):(a++b).size=a.size+b.size:=by rw [<- dK,<- dK,<- dK,fy,length_append]
theorem se (s:Xh) (i:Nat):s.extract 0 i=eR ((bs s).take i):=by
 apply iC;rw [da];unfold bs;rw [ByteArray.data_extract,Array.toList_extract];simp [List.extract_eq_take_drop]
theorem ql (s:Xh) (i:Nat):s.extract i s.size=eR ((bs s).drop i):=by
 apply iC;rw [da];unfold bs;rw [ByteArray.data_extract,Array.toList_extract]
 simp only [List.extract_eq_take_drop]
 rw [take_of_length_le];rw [List.length_drop,qk];exact le_refl _
theorem sH {c:UInt8} {a r:Xh} (h:mt c a) (hs:a.size+1+r.size<=140737488355328):fT (eR (bs a++c::bs r)) ⟨#[c]⟩=some (a,r,true):=by
 have hcl:=xG (r:=bs r) h
 have hix:Lib.indexByte (bs a++c::bs r) c=((bs a).length:Int):=by
  rcases ur (c:=c) (x:=bs a++c::bs r) with ⟨h1,_⟩ | ⟨a',r',h1,h2,h3⟩
  ·rw [hcl] at h1;cases h1
  rw [hcl] at h1;injection h1 with h1;injection h1 with h1 h4;rw [h3,h1]
 have hsz:(eR (bs a++c::bs r)).size=a.size+(r.size+1):=by rw [cG,length_append,length_cons,dK,dK]
 unfold fT jX i6 ixB
 rw [show (⟨#[c]⟩:Xh).data.toList=[c] from rfl]
 show Option.bind (Option.bind (some (Lib.indexByte (bs a++c::bs r) c)) _) _=_
 rw [hix,fP,dK,det (by omega),cQ]
 have e1:ff (eR (bs a++c::bs r)) 0 (a.size:Int)=some a:=by
  unfold ff;rw [if_pos (by rw [hsz];omega)]
  congr 1
  show ByteArray.extract _ 0 a.size=a
  rw [se,da,<- dK a,take_left];rfl
 have e2:ff (eR (bs a++c::bs r)) (i64.wrap ((a.size:Int)+((⟨#[c]⟩:Xh).size:Int))) ((eR (bs a++c::bs r)).size:Int)=some r:=by
  rw [show (⟨#[c]⟩:Xh).size=1 from rfl,ee (by omega) (by omega)]
  unfold ff;rw [if_pos (by rw [hsz];omega)]
  congr 1
  have:(((a.size:Int)+((1:Nat):Int))).toNat=a.size+1:=by omega
  rw [this]
  show ByteArray.extract _ (a.size+1) (eR (bs a++c::bs r)).size=r
  rw [ql,da,<- dK a,<- List.drop_drop,drop_left];rfl
 rw [aR e1,aR e2];rfl
theorem HO {c:UInt8} {a:Xh} (h:mt c a):fT a ⟨#[c]⟩=some (a,⟨#[]⟩,false):=by
 have hix:Lib.indexByte (bs a) c = -1:=by
  rcases ur (c:=c) (x:=bs a) with ⟨_,h1⟩ | ⟨a',r',h1,h2,h3⟩
  ·exact h1
  exact absurd (by rw [h2];simp) h
 unfold fT jX i6 ixB
 rw [show (⟨#[c]⟩:Xh).data.toList=[c] from rfl]
 show Option.bind (Option.bind (some (Lib.indexByte (bs a) c)) _) _=_
 rw [hix];rfl
def mQ (x:UInt8):Prop:=48<=x.toNat/\x.toNat<=57
theorem np {u:Nat} (h:u<10):(UInt8.ofNat (48+u)).toNat=48+u:=by simp;omega
theorem qP:∀ u:Nat,∀ x∈Lib.decDigits u,mQ x:=by
 intro u
 induction u using Nat.strongRecOn with
 | ind u ih =>
  intro x hx
  rw [Lib.decDigits] at hx
  split at hx
  ·rename_i h
   rw [List.mem_singleton.1 hx];unfold mQ;rw [np h];omega
  rcases List.mem_append.1 hx with hx | hx
  ·exact ih (u / 10) (by omega) x hx
  rw [List.mem_singleton.1 hx];unfold mQ;rw [np (Nat.mod_lt _ (by omega))];omega
theorem AB (u:Nat):Lib.decDigits u≠[]:=by
 rw [Lib.decDigits];split <;> simp
theorem sI:∀ (a b:List UInt8) (acc v:Nat),Lib.parseUint10 acc a=.ok v->Lib.parseUint10 acc (a++b)=Lib.parseUint10 v b
 | [],b,acc,v,h=>by simp only [Lib.parseUint10] at h;injection h with h;subst h;rfl
 | c::a,b,acc,v,h=>by
  simp only [Lib.parseUint10,cons_append] at h ⊢
  split at h
  ·rename_i h1
   rw [if_pos h1]
   split at h
   ·cases h
   rename_i h2
   rw [if_neg h2]
   split at h
   ·cases h
   rename_i h3;rw [if_neg h3];exact sI a b _ v h
  cases h
theorem vp:∀ u:Nat,u<1844674407370955162->Lib.parseUint10 0 (Lib.decDigits u)=.ok u:=by
 intro u
 induction u using Nat.strongRecOn with
 | ind u ih =>
  intro hu
  rw [Lib.decDigits]
  split
  ·rename_i h
   simp only [Lib.parseUint10,np h]
   rw [if_pos (by omega),if_neg (by omega),if_neg (by omega)]
   congr 1;omega
  rename_i h
  rw [sI _ _ _ _ (ih (u / 10) (by omega) (by omega))]
  simp only [Lib.parseUint10,np (Nat.mod_lt u (by omega:0<10))]
  rw [if_pos (by omega),if_neg (by omega),if_neg (by omega)]
  congr 1;omega
theorem AC {l:List UInt8} {v:Nat} (h0:l≠[]) (h1:∀ x∈l,mQ x) (h:Lib.parseUint10 0 l=.ok v) (hv:v<9223372036854775808):dB (eR l)=some ((v:Int),()):=by
 unfold dB
 show (match Lib.atoiAll l with | .ok v=>some (v,()) | _=>none)=_
 have:Lib.atoiAll l=.ok (v:Int):=by
  cases l with
  | nil=>exact absurd rfl h0
  | cons c r =>
   have hc:=h1 c (by simp)
   unfold mQ at hc
   unfold Lib.atoiAll
   simp only
   rw [if_neg (by omega)]
   unfold Lib.parseMag
   rw [if_neg (by simp),h]
   simp only
   rw [if_neg (by omega),if_neg (by omega),if_neg (by omega)]
 rw [this]
def dL (n:Int):Xh:=eR (Lib.decDigits n.toNat)
theorem FD {n:Int} (h:0<=n):BV n=dL n:=by
 unfold BV dL Lib.itoa eR;rw [if_neg (by omega)]
theorem wF:∀ (k u:Nat),u<10 ^ (k+1)->(Lib.decDigits u).length<=k+1
 | 0,u,h=>by rw [Lib.decDigits,dif_pos (by simpa using h)];simp
 | k+1,u,h=>by
  rw [Lib.decDigits]
  split
  ·simp
  have:=wF k (u / 10) (by rw [Nat.pow_succ] at h;omega)
  simp;omega
theorem gX {n:Int} (h1:n<10000000000000):(dL n).size<=13:=by
 unfold dL;rw [cG];exact wF 12 _ (by omega)
theorem gm {n:Int} (h:0<=n) (h1:n<10000000000000):strconv_Itoa n=some (dL n):=by
 unfold strconv_Itoa D6
 have hs:=gX h1
 rw [FD h,det (by omega),det (by omega),show Nat.ble (dL n).size 140737488355328=true from ble_eq_true_of_le (by omega)];rfl
theorem AD (n:Int):∀ x∈bs (dL n),mQ x:=qP _
theorem oY {n:Int} {c:UInt8} (h:¬ mQ c):mt c (dL n):=fun hc=>h (AD n c hc)
theorem qm {n:Int} (h:0<=n) (h1:n<10000000000000):dB (dL n)=some (n,()):=by
 have:=AC (AB n.toNat) (qP _) (vp n.toNat (by omega)) (by omega)
 rw [show ((n.toNat:Nat):Int)=n by omega] at this
 exact this
theorem HP {S T:Type} {body:S->Option (S⊕T)} (st:Nat->S) (n:Nat) (t:T) (h:∀ k,k<n->body (st k)=some (.inl (st (k+1)))) (he:body (st n)=some (.inr t)):∀ (m k N:Nat),m=n - k->k<=n->m<N->aW body N (st k)=some t:=by
 intro m
 induction m with
 | zero =>
  intro k N hm hk hN
  have:k=n:=by omega
  subst this
  obtain ⟨N,rfl⟩:∃ M,N=M+1:=⟨N - 1,by omega⟩
  rw [fe,he]
 | succ m ih =>
  intro k N hm hk hN
  obtain ⟨N,rfl⟩:∃ M,N=M+1:=⟨N - 1,by omega⟩
  rw [fe,h k (by omega)]
  exact ih (k+1) N (by omega) (by omega) (by omega)
theorem dt {S T:Type} {body:S->Option (S⊕T)} (st:Nat->S) (n:Nat) (hn:n<=1000000000000000) (t:T) (h:∀ k,k<n->body (st k)=some (.inl (st (k+1)))) (he:body (st n)=some (.inr t)):aW body Va (st 0)=some t :=
 HP st n t h he n 0 Va (by omega) (by omega) (mL (by omega))
theorem take_succ' {α:Type} {l:List α} {k:Nat} (h:k<l.length):l.take (k+1)=l.take k++[l[k]]:=by
 rw [List.take_add_one,List.getElem?_eq_getElem h];rfl
theorem Ch {c:UInt8} {M:Nat}:∀ {xs:List (List UInt8)},(∀ x∈xs,x.length<=M)->(Lib.join xs [c]).length<=xs.length*(M+1)
 | [],_=>by simp [Lib.join_nil]
 | [x],h=>by rw [Lib.join_one];have:=h x (by simp);simp;omega
 | x::y::r,h=>by
  have ih:=Ch (c:=c) (M:=M) (xs:=y::r) fun z hz=>h z (mem_cons_of_mem _ hz)
  have:=h x (by simp)
  rw [jf,length_append,length_cons,length_cons,Nat.add_mul];omega
theorem jJ {c:UInt8} {M n:Nat} {xs:List Xh} (h:∀ x∈xs,x.size<=M) (hn:xs.length<=n):(bJ xs ⟨#[c]⟩).size<=n*(M+1):=by
 rw [<- dK,kF]
 refine Nat.le_trans (Ch (M:=M) fun x hx=>?_) ?_
 ·obtain ⟨y,hy,rfl⟩:=List.mem_map.1 hx;rw [dK];exact h y hy
 rw [length_map];exact Nat.mul_le_mul_right _ hn
theorem Ci {c b:UInt8}:∀ {xs:List (List UInt8)},b∈Lib.join xs [c]->b=c\/∃ x∈xs,b∈x
 | [],h=>by rw [Lib.join_nil] at h;cases h
 | [x],h=>by rw [Lib.join_one] at h;exact .inr ⟨x,by simp,h⟩
 | x::y::r,h=>by
  rw [jf] at h
  rcases List.mem_append.1 h with h | h
  ·exact .inr ⟨x,by simp,h⟩
  rcases List.mem_cons.1 h with h | h
  ·exact .inl h
  rcases Ci h with h | ⟨z,hz,h⟩
  ·exact .inl h
  exact .inr ⟨z,mem_cons_of_mem _ hz,h⟩
theorem lB {c d:UInt8} {xs:List Xh} (hcd:d≠c) (h:∀ x∈xs,mt d x):mt d (bJ xs ⟨#[c]⟩):=fun hd=>by
 rw [kF] at hd
 rcases Ci hd with h1 | ⟨x,hx,h1⟩
 ·exact hcd h1
 obtain ⟨y,hy,rfl⟩:=List.mem_map.1 hx;exact h y hy h1
structure Pc (t:List Xh):Prop where
 w:sd t=true
 ne:t≠[]
theorem Pc.len {t:List Xh} (h:Pc t):t.length<=8:=by
 have:=h.w;unfold sd at this;simp only [and_eq_true,decide_eq_true_eq] at this;exact this.1
theorem Pc.word {t:List Xh} (h:Pc t) {x:Xh} (hx:x∈t):mX x=true:=by
 have:=h.w;unfold sd at this;simp only [and_eq_true,decide_eq_true_eq] at this;exact List.all_eq_true.1 this.2.1 x hx
theorem kU {x:Xh} (h:mX x=true):1<=x.size/\x.size<=12:=by
 unfold mX at h;simp only [and_eq_true,decide_eq_true_eq] at h;exact h.1
theorem wG {x:Xh} {c:UInt8} (h:mX x=true) (hc:mM c=false):mt c x:=fun hm=>by
 unfold mX at h;simp only [and_eq_true] at h
 have:=List.all_eq_true.1 h.2 c hm
 rw [hc] at this;cases this
theorem Pc.ok {t:List Xh} (h:Pc t):dO t=some true:=by
 rw [tV t ⟨by have:=h.len;omega,fun x hx=>by have:=kU (h.word hx);omega⟩,h.w]
theorem Pc.desc {t:List Xh} (h:Pc t):cY t=some true:=by
 unfold cY
 have:0<t.length:=List.length_pos_iff.2 h.ne
 rw [det (by omega),fN,h.ok];rfl
theorem Pc.jsize {t:List Xh} (h:Pc t):(bJ t ⟨#[43]⟩).size<=104:=jJ (M:=12) (n:=8) (fun x hx=>(kU (h.word hx)).2) h.len
theorem Pc.jno {t:List Xh} (h:Pc t) {c:UInt8} (h1:c≠43) (h2:mM c=false):mt c (bJ t ⟨#[43]⟩):=lB h1 fun x hx=>wG (h.word hx) h2
theorem Pc.join {t:List Xh} (h:Pc t):strings_Join t ⟨#[43]⟩=some (bJ t ⟨#[43]⟩):=mi (by have:=h.jsize;omega)
theorem Pc.split {t:List Xh} (h:Pc t):bo (bJ t ⟨#[43]⟩) ⟨#[43]⟩=some t:=iD h.ne (fun x hx=>wG (h.word hx) rfl) (by have:=h.jsize;omega)
theorem FE {c b:UInt8} {xs:List (List UInt8)} {l r:List UInt8} (h:xs=l::(xs.tail)) (hl:l=b::r):∃ r',Lib.join xs [c]=b::r':=by
 rw [h,Lib.join_cons,hl];exact ⟨_,rfl⟩
theorem Pc.head {t:List Xh} (h:Pc t):∃ b r,bs (bJ t ⟨#[43]⟩)=b::r/\mM b=true:=by
 cases t with
 | nil=>exact absurd rfl h.ne
 | cons x xs =>
  have hw:=h.word (x:=x) (by simp)
  have hs:=(kU hw).1
  rw [<- dK] at hs
  cases hx:bs x with
  | nil=>rw [hx] at hs;simp at hs
  | cons b r =>
   obtain ⟨r',hr⟩:=FE (c:=43) (xs:=(x::xs).map bs) (l:=bs x) rfl hx
   refine ⟨b,r',by rw [kF];exact hr,?_⟩
   unfold mX at hw;simp only [and_eq_true] at hw
   exact List.all_eq_true.1 hw.2 b (by show b∈bs x;rw [hx];simp)
theorem mj {s:Xh} (h:eQ s≠0):(s.size=2\/s.size=4\/s.size=6\/s.size=8)/\eQ s=(s.size:Int)/\∀ b∈bs s,mQ b:=by
 unfold eQ at h ⊢
 split at h
 ·rename_i h1
  rw [if_pos h1]
  refine ⟨h1.1,rfl,fun b hb=>?_⟩
  have:=List.all_eq_true.1 h1.2 b hb
  simpa [nQ,mQ] using this
 exact absurd rfl h
theorem sf {s:Xh} (h:eQ s≠0) {c:UInt8} (hc:¬ mQ c):mt c s:=fun hm=>hc ((mj h).2.2 c hm)
structure Qe (e:Za):Prop where
 lvl:eQ e.Code≠0
 f0:0<=e.From
 ft:e.From<e.To
 t1:e.To<=36525
 tl:e.Terms.length<=6
 tw:∀ t∈e.Terms,Pc t
 sh:(cond (eQ e.Code == 2) ((decide (0<(e.Terms.length:Int)))||e.Other) (cond (eQ e.Code == 4) ((!(decide (0<(e.Terms.length:Int))))||e.Other) ((decide (0<(e.Terms.length:Int))) == e.Other)))=false
theorem sJ {α:Type} (c:Bool) (a b:α):cond c (some a) (some b)=some (cond c a b):=by cases c <;> rfl
theorem qn {e:Za} (h:Qe e):dm e=some 0:=by
 unfold dm bS
 have hl:=h.tl
 rw [fP,beq_false_of_ne h.lvl,dq,bz (show ¬ e.From<0 by have:=h.f0;omega),bz (show ¬ e.To<=e.From by have:=h.ft;omega),bz (show ¬ 36525<e.To by have:=h.t1;omega)]
 simp only [Bool.or_self,dq]
 rw [bz (show ¬ 6<(e.Terms.length:Int) by omega),dq]
 refine (aR (dt (fun k=>(k:Int)) e.Terms.length (by omega) (.inl ()) (fun k hk=>?_) ?_)).trans ?_
 ·(try dsimp only)
  rw [mr hk,cQ,aR (bf hk),aR (h.tw _ (getElem_mem hk)).desc,cI hk (by omega)];rfl
 ·(try dsimp only);rw [fO];rfl
 simp only [sJ]
 rw [fP,h.sh];rfl
def uD:Xh:=⟨#[42]⟩
def dN (e:Za):List Xh:=[e.Code,dL e.From,dL e.To]++(e.Terms.map (fun t=>bJ t ⟨#[43]⟩)++cond e.Other [uD] [])
def mN (e:Za):Xh:=bJ (dN e) ⟨#[32]⟩
theorem AE {e:Za} (h:Qe e):∀ x∈dN e,x.size<=104:=fun x hx=>by
 unfold dN at hx
 rcases List.mem_append.1 hx with hx | hx
 ·simp only [mem_cons,not_mem_nil,or_false] at hx
  have h1:=h.ft;have h2:=h.t1
  rcases hx with rfl | rfl | rfl
  ·have:=(mj h.lvl).1;omega
  ·have:=gX (n:=e.From) (by omega);omega
  have:=gX (n:=e.To) (by omega);omega
 rcases List.mem_append.1 hx with hx | hx
 ·obtain ⟨t,ht,rfl⟩:=List.mem_map.1 hx;exact (h.tw t ht).jsize
 cases ho:e.Other with
 | false=>rw [ho] at hx;cases hx
 | true=>rw [ho] at hx;rw [List.mem_singleton.1 (show x∈[uD] from hx)];exact le_add_left 1 103
theorem sg {e:Za} (h:Qe e):(dN e).length<=10:=by
 unfold dN
 have:=h.tl
 cases e.Other <;> simp <;> omega
theorem lR {e:Za} (h:Qe e):(mN e).size<=1050:=jJ (AE h) (sg h)
theorem tW {e:Za} (h:Qe e) {c:UInt8} (hd:¬ mQ c) (h1:c≠43) (h2:c≠42) (h3:mM c=false):∀ x∈dN e,mt c x:=fun x hx=>by
 unfold dN at hx
 rcases List.mem_append.1 hx with hx | hx
 ·simp only [mem_cons,not_mem_nil,or_false] at hx
  rcases hx with rfl | rfl | rfl
  ·exact sf h.lvl hd
  ·exact oY hd
  exact oY hd
 rcases List.mem_append.1 hx with hx | hx
 ·obtain ⟨t,ht,rfl⟩:=List.mem_map.1 hx;exact (h.tw t ht).jno h1 h3
 cases ho:e.Other with
 | false=>rw [ho] at hx;cases hx
 | true=>rw [ho] at hx;rw [List.mem_singleton.1 (show x∈[uD] from hx)];intro hm;exact h2 (by simpa [uD,bs] using hm)
theorem HQ {e:Za} (h:Qe e):mt 10 (mN e):=lB (by decide) (tW h (by unfold mQ;decide) (by decide) (by decide) rfl)
theorem uE {e:Za} (h:Qe e):eC e=some (mN e):=by
 unfold eC
 have h1:=h.ft;have h2:=h.t1;have h0:=h.f0;have hl:=h.tl
 rw [aR (gm h0 (by omega)),aR (gm (show 0<=e.To by omega) (by omega))]
 refine (aR (dt (fun k=>([e.Code,dL e.From,dL e.To]++(e.Terms.take k).map (fun t=>bJ t ⟨#[43]⟩),(k:Int))) e.Terms.length (by omega) ([e.Code,dL e.From,dL e.To]++e.Terms.map (fun t=>bJ t ⟨#[43]⟩)) (fun k hk=>?_) ?_)).trans ?_
 ·dsimp only
  rw [mr hk,cQ,aR (bf hk),aR (h.tw _ (getElem_mem hk)).join,aR (cF (by simp;omega) (by simp;omega)),cI hk (by omega),take_succ' hk,map_append];rfl
 ·dsimp only;rw [fO,take_length];rfl
 have:cond e.Other (Option.bind (app 16 ([e.Code,dL e.From,dL e.To]++e.Terms.map (fun t=>bJ t ⟨#[43]⟩)) [(⟨#[42]⟩:Xh)]) (fun l34=>some l34)) (some ([e.Code,dL e.From,dL e.To]++e.Terms.map (fun t=>bJ t ⟨#[43]⟩)))=some (dN e):=by
  unfold dN
  cases e.Other
  ·simp
  rw [cQ,aR (cF (by simp;omega) (by simp;omega)),cQ,append_assoc];rfl
 rw [aR this,mi (by have:=lR h;unfold mN at this;omega)];rfl
theorem yK {e:Za} (h:Qe e):fx (mN e)=some (e,true):=by
 have hlen:=sg h
 have h1:=h.ft;have h2:=h.t1;have h0:=h.f0;have hl:=h.tl
 have hsp:bo (mN e) ⟨#[32]⟩=some (dN e):=iD (by unfold dN;simp) (tW h (by unfold mQ;decide) (by decide) (by decide) rfl) (by have:=lR h;unfold mN at this;omega)
 unfold fx
 have hl3:(dN e).length=3+(e.Terms.map (fun t=>bJ t ⟨#[43]⟩)++cond e.Other [uD] []).length:=by unfold dN;rw [length_append];rfl
 rw [aR hsp,bz (by omega),dq]
 have i0:bx (dN e) 0=some e.Code:=rfl
 have i1:bx (dN e) 1=some (dL e.From):=by unfold bx;rw [if_pos (by omega)];rfl
 have i2:bx (dN e) 2=some (dL e.To):=by unfold bx;rw [if_pos (by omega)];rfl
 have i3:sub (dN e) 3 ((dN e).length:Int)=some (e.Terms.map (fun t=>bJ t ⟨#[43]⟩)++cond e.Other [uD] []):=by
  rw [show (3:Int)=((3:Nat):Int) from rfl,pR (by omega) (le_refl _),take_length];rfl
 rw [aR i1,aR (qm h0 (by omega)),dq,aR i2,aR (qm (show 0<=e.To by omega) (by omega)),dq,aR i0,aR i3]
 refine (aR (dt (fun k=>((k:Int),e.Terms.take k,decide (e.Terms.length<k))) (e.Terms.map (fun t=>bJ t ⟨#[43]⟩)++cond e.Other [uD] []).length (by omega) (e.Terms,e.Other) (fun k hk=>?_) ?_)).trans ?_
 ·dsimp only
  rw [mr hk,cQ,aR (bf hk),cI hk (by omega)]
  by_cases hkt:k<e.Terms.length
  ·have e1:(e.Terms.map (fun t=>bJ t ⟨#[43]⟩)++cond e.Other [uD] [])[k]=bJ e.Terms[k] ⟨#[43]⟩:=by
    rw [List.getElem_append_left (by simpa using hkt),getElem_map]
   have hw:=h.tw _ (getElem_mem hkt)
   have e2:decide (bJ e.Terms[k] ⟨#[43]⟩=⟨#[42]⟩)=false:=bz fun he=>by
    obtain ⟨b,r,hb,hb2⟩:=hw.head
    rw [he] at hb
    have:b=42:=by have:=congrArg List.head? hb;simpa [bs] using this.symm
    rw [this] at hb2;cases hb2
   rw [e1,e2,dq,aR hw.split,aR (cF (by simp;omega) (by simp;omega)),bz (show ¬ e.Terms.length<k by omega),bz (show ¬ e.Terms.length<k+1 by omega),take_succ' hkt];rfl
  ·have ho:e.Other=true:=by
    cases ho:e.Other
    ·rw [ho] at hk;simp at hk;omega
    rfl
   have hk2:k=e.Terms.length:=by rw [ho] at hk;simp at hk;omega
   subst hk2
   have e1:(e.Terms.map (fun t=>bJ t ⟨#[43]⟩)++cond e.Other [uD] [])[e.Terms.length]=uD:=by
    rw [List.getElem_append_right (by simp)];simp [ho]
   rw [e1,det (show uD=⟨#[42]⟩ from rfl),cQ,det (show e.Terms.length<e.Terms.length+1 by omega),take_length,take_of_length_le (by omega)];rfl
 ·dsimp only
  have hn:(e.Terms.map (fun t=>bJ t ⟨#[43]⟩)++cond e.Other [uD] []).length=e.Terms.length+cond e.Other 1 0:=by cases e.Other <;> simp
  rw [fO,dq,hn,take_of_length_le (by omega)]
  cases e.Other
  ·rw [dq,add_zero,bz (by omega)]
  rw [cQ,det (by omega)]
 dsimp only
 have hE:(⟨e.Code,e.From,e.To,e.Terms,e.Other⟩:Za)=e:=rfl
 rw [hE,aR (qn h)]
 rw [show ((0:Int) == 0)=true from rfl,fN,aR (uE h),det rfl];rfl
structure Jf (n:Ze):Prop where
 lvl:eQ n.Scope≠0
 w:Pc n.Words
 tg:n.Target=⟨#[]⟩\/eQ n.Target=4
def noteW:Xh:=⟨#[110,111,116,101]⟩
def Cj (n:Ze):Xh:=cond (decide (n.Target=⟨#[]⟩)) ⟨#[45]⟩ n.Target
def lH (n:Ze):List Xh:=[noteW,n.Scope,bJ n.Words ⟨#[43]⟩,Cj n]
def qo (n:Ze):Xh:=bJ (lH n) ⟨#[32]⟩
theorem qZ {n:Ze} (h:Jf n):cw n=some 0:=by
 unfold cw bS
 rw [fP,beq_false_of_ne h.lvl]
 simp only [Bool.not_false,fN,Bool.false_or]
 rw [aR h.w.desc,Bool.not_true,dq]
 rcases h.tg with h1 | h1
 ·rw [det h1];rfl
 by_cases h2:n.Target=⟨#[]⟩
 ·rw [det h2];rfl
 rw [bz h2]
 simp only [Bool.not_false,fN,fP,h1];rfl
theorem yf {n:Ze} (h:Jf n):(Cj n).size<=104/\∀ c:UInt8,¬ mQ c->c≠45->mt c (Cj n):=by
 unfold Cj
 by_cases h2:n.Target=⟨#[]⟩
 ·rw [det h2,cQ]
  exact ⟨le_add_left 1 103,fun c _ h3 hm=>h3 (by simpa [bs] using hm)⟩
 rw [bz h2,dq]
 have hl:eQ n.Target≠0:=by
  rcases h.tg with h1 | h1
  ·exact absurd h1 h2
  rw [h1];decide
 exact ⟨by have:=(mj hl).1;omega,fun c hc _=>sf hl hc⟩
theorem AF {n:Ze} (h:Jf n):∀ x∈lH n,x.size<=104:=fun x hx=>by
 unfold lH at hx
 simp only [mem_cons,not_mem_nil,or_false] at hx
 rcases hx with rfl | rfl | rfl | rfl
 ·exact le_add_left 4 100
 ·have:=(mj h.lvl).1;omega
 ·exact h.w.jsize
 exact (yf h).1
theorem oZ {n:Ze} (h:Jf n):(qo n).size<=1050:=by
 have:=jJ (c:=32) (n:=4) (AF h) (le_refl 4)
 unfold qo;omega
theorem yg {n:Ze} (h:Jf n) {c:UInt8} (hd:¬ mQ c) (h1:c≠43) (h2:c≠45) (h3:mM c=false):∀ x∈lH n,mt c x:=fun x hx=>by
 unfold lH at hx
 simp only [mem_cons,not_mem_nil,or_false] at hx
 rcases hx with rfl | rfl | rfl | rfl
 ·intro hm
  have:mM c=true:=by
   unfold noteW bs at hm
   simp at hm
   rcases hm with rfl | rfl | rfl | rfl <;> rfl
  rw [h3] at this;cases this
 ·exact sf h.lvl hd
 ·exact h.w.jno h1 h3
 exact (yf h).2 c hd h2
theorem HR {n:Ze} (h:Jf n):mt 10 (qo n):=lB (by decide) (yg h (by unfold mQ;decide) (by decide) (by decide) rfl)
theorem vU {n:Ze} (h:Jf n):eU n=some (qo n):=by
 unfold eU
 rw [sJ,fP,aR h.w.join]
 show Option.bind (strings_Join (lH n) ⟨#[32]⟩) _=_
 rw [aR (mi (by have:=oZ h;unfold qo at this;omega))];rfl
theorem FF {n:Ze} (h:Jf n):bo (qo n) ⟨#[32]⟩=some (lH n):=iD (by unfold lH;simp) (yg h (by unfold mQ;decide) (by decide) (by decide) rfl) (by have:=oZ h;unfold qo at this;omega)
theorem AG {n:Ze} (h:Jf n):dC (qo n)=some (n,true):=by
 unfold dC
 rw [aR (FF h)]
 rw [show (((lH n).length:Int) != 4)=false from rfl,dq,aR (show bx (lH n) 1=some n.Scope from rfl),aR (show bx (lH n) 2=some (bJ n.Words ⟨#[43]⟩) from rfl),aR (show bx (lH n) 3=some (Cj n) from rfl),aR h.w.split,sJ,fP]
 have ht:cond (decide (Cj n=⟨#[45]⟩)) (⟨#[]⟩:Xh) (Cj n)=n.Target:=by
  unfold Cj
  by_cases h2:n.Target=⟨#[]⟩
  ·rw [det h2,cQ,det rfl,cQ,h2]
  rw [bz h2,dq]
  have hne:n.Target≠⟨#[45]⟩:=fun he=>by
   have hl:eQ n.Target≠0:=by
    rcases h.tg with h1 | h1
    ·exact absurd h1 h2
    rw [h1];decide
   have:=(mj hl).2.2 45 (by rw [he];simp [bs])
   revert this;unfold mQ;decide
  rw [bz hne,dq]
 rw [ht]
 have hE:(⟨n.Scope,n.Words,n.Target⟩:Ze)=n:=rfl
 rw [hE,aR (qZ h),show ((0:Int) == 0)=true from rfl,fN,aR (vU h),det rfl];rfl
theorem Dm (n:Int):dO [dL n]=some false\/140737488355328<(dL n).size:=by
 by_cases hs:(dL n).size<=140737488355328
 ·left
  rw [tV [dL n] ⟨by simp,fun s hs'=>by rw [List.mem_singleton.1 hs'];exact hs⟩]
  have:mX (dL n)=false:=by
   cases hd:bs (dL n) with
   | nil=>exact absurd hd (AB _)
   | cons b r =>
    have h1:=AD n b (by rw [hd];simp)
    unfold mX
    have h2:(dL n).data.toList=b::r:=hd
    have h3:mM b=false:=by unfold mM mQ at *;rw [bz (show ¬ 97<=b.toNat by omega)];rfl
    rw [h2,List.all_cons,h3];simp
  unfold sd;simp [this]
 right;omega
theorem wl {e:Za} (h:Qe e):∃ n',dC (mN e)=some (n',false):=by
 have hlen:=sg h
 have h1:=h.ft;have h2:=h.t1;have h0:=h.f0
 have hsp:bo (mN e) ⟨#[32]⟩=some (dN e):=iD (by unfold dN;simp) (tW h (by unfold mQ;decide) (by decide) (by decide) rfl) (by have:=lR h;unfold mN at this;omega)
 unfold dC
 rw [aR hsp]
 by_cases h4:(dN e).length=4
 ·have hne:(((dN e).length:Int) != 4)=false:=by rw [h4];rfl
  rw [hne,dq]
  have i1:bx (dN e) 1=some (dL e.From):=by unfold bx;rw [if_pos (by omega)];rfl
  have i2:bx (dN e) 2=some (dL e.To):=by unfold bx;rw [if_pos (by omega)];rfl
  have i3:bx (dN e) 3=some ((dN e)[3]'(by omega)):=bf (xs:=dN e) (k:=3) (by omega)
  have hj:bJ [dL e.To] ⟨#[43]⟩=dL e.To:=by
   apply iC;rw [kF];exact Lib.join_one _ _
  have hs13:=gX (n:=e.To) (by omega)
  have hsp2:bo (dL e.To) ⟨#[43]⟩=some [dL e.To]:=by
   have:=iD (c:=43) (xs:=[dL e.To]) (by simp) (fun x hx=>by rw [List.mem_singleton.1 hx];exact oY (by unfold mQ;decide)) (by rw [hj];omega)
   rwa [hj] at this
  rw [aR i1,aR i2,aR i3,aR hsp2,sJ,fP]
  generalize cond (decide ((dN e)[3]'(by omega)=⟨#[45]⟩)) (⟨#[]⟩:Xh) ((dN e)[3]'(by omega))=tg
  have hdesc:cY [dL e.To]=some false:=by
   unfold cY
   rcases Dm e.To with hw | hw
   ·rw [show (([dL e.To]:List Xh).length:Int)=1 from rfl,det (by omega),fN,hw];rfl
   omega
  have hval:cw ⟨dL e.From,[dL e.To],tg⟩=some 1:=by
   unfold cw bS
   rw [fP,hdesc]
   cases (eQ (dL e.From) == 0) <;> rfl
  rw [aR hval]
  exact ⟨_,rfl⟩
 have hne:(((dN e).length:Int) != 4)=true:=by simp;omega
 rw [hne,cQ]
 exact ⟨_,rfl⟩
structure BOK (b:Zh):Prop where
 e:∀ e∈b.Entries,Qe e
 n:∀ n∈b.Notes,Jf n
 le:b.Entries.length<=300
 ln:b.Notes.length<=100
 v:cN b=some 0
def sK (L:List Xh):List UInt8:=(L.map fun l=>bs l++[10]).flatten
theorem wH (a b:List Xh):sK (a++b)=sK a++sK b:=by unfold sK;rw [map_append,List.flatten_append]
theorem wI (l:Xh):sK [l]=bs l++[10]:=by simp [sK]
theorem yh (l:Xh) (L:List Xh):sK (l::L)=bs l++10::sK L:=by simp [sK]
theorem qQ {M:Nat}:∀ {L:List Xh},(∀ l∈L,l.size<=M)->(sK L).length<=L.length*(M+1)
 | [],_=>by simp [sK]
 | l::L,h=>by
  have ih:=qQ (M:=M) (L:=L) fun x hx=>h x (mem_cons_of_mem _ hx)
  have:=h l (by simp)
  rw [yh,length_append,length_cons,length_cons,dK,Nat.add_mul];omega
theorem Dn {l:List UInt8} {s:Xh} (h:l.length+s.size<=140737488355328):bws l s=some (l++bs s):=by
 unfold bws;rw [show Nat.ble (l.length+s.size) 140737488355328=true from ble_eq_true_of_le h];rfl
def eP (b:Zh):List Xh:=b.Entries.map mN++b.Notes.map qo
theorem vV {b:Zh} (h:BOK b):∀ l∈eP b,l.size<=1050:=fun l hl=>by
 unfold eP at hl
 rcases List.mem_append.1 hl with hl | hl
 ·obtain ⟨e,he,rfl⟩:=List.mem_map.1 hl;exact lR (h.e e he)
 obtain ⟨n,hn,rfl⟩:=List.mem_map.1 hl;exact oZ (h.n n hn)
theorem nl_bs:bs (⟨#[10]⟩:Xh)=[10]:=rfl
theorem fmtB_ok {b:Zh} (h:BOK b):gV b=some (eR (sK (eP b))):=by
 unfold gV
 have hle:=h.le;have hln:=h.ln
 rw [aR h.v,show ((0:Int) != 0)=false from rfl,dq]
 refine (aR (dt (fun k=>((k:Int),sK ((b.Entries.take k).map mN))) b.Entries.length (by omega) (sK (b.Entries.map mN)) (fun k hk=>?_) ?_)).trans ?_
 ·dsimp only
  have hs:=lR (h.e _ (getElem_mem hk))
  have hl:=qQ (M:=1050) (L:=(b.Entries.take k).map mN) fun l hl=>by
   obtain ⟨e,he,rfl⟩:=List.mem_map.1 hl;exact lR (h.e e (List.mem_of_mem_take he))
  rw [length_map,length_take] at hl
  have h10:(⟨#[10]⟩:Xh).size=1:=rfl
  rw [mr hk,cQ,aR (bf hk),aR (uE (h.e _ (getElem_mem hk))),aR (e8 (by omega)),aR (Dn (by rw [dn];omega)),cI hk (by omega),take_succ' hk,map_append,wH,map_singleton,wI,fy,nl_bs]
 ·dsimp only;rw [fO,take_length];rfl
 have e0:sK (b.Entries.map mN)=sK (b.Entries.map mN)++sK ((b.Notes.take 0).map qo):=by simp [sK]
 rw [e0]
 refine (aR (dt (fun k=>((k:Int),sK (b.Entries.map mN)++sK ((b.Notes.take k).map qo))) b.Notes.length (by omega) (sK (eP b)) (fun k hk=>?_) ?_)).trans ?_
 ·dsimp only
  have hs:=oZ (h.n _ (getElem_mem hk))
  have hl0:=qQ (M:=1050) (L:=b.Entries.map mN) fun l hl=>by
   obtain ⟨e,he,rfl⟩:=List.mem_map.1 hl;exact lR (h.e e he)
  have hl:=qQ (M:=1050) (L:=(b.Notes.take k).map qo) fun l hl=>by
   obtain ⟨e,he,rfl⟩:=List.mem_map.1 hl;exact oZ (h.n e (List.mem_of_mem_take he))
  rw [length_map] at hl0
  rw [length_map,length_take] at hl
  have h10:(⟨#[10]⟩:Xh).size=1:=rfl
  rw [mr hk,cQ,aR (bf hk),aR (vU (h.n _ (getElem_mem hk))),aR (e8 (by omega)),aR (Dn (by rw [dn,length_append];omega)),cI hk (by omega),take_succ' hk,map_append,wH,map_singleton,wI,fy,nl_bs,append_assoc]
 ·dsimp only;rw [fO,take_length];unfold eP;rw [wH];rfl
 rfl
theorem FG {b:Zh} (h:BOK b):∀ l∈eP b,mt 10 l:=fun l hl=>by
 unfold eP at hl
 rcases List.mem_append.1 hl with hl | hl
 ·obtain ⟨e,he,rfl⟩:=List.mem_map.1 hl;exact HQ (h.e e he)
 obtain ⟨n,hn,rfl⟩:=List.mem_map.1 hl;exact HR (h.n n hn)
theorem HS {b:Zh} {k:Nat} (hk:k<b.Entries.length) (h:k<(eP b).length):(eP b)[k]=mN b.Entries[k]:=by
 apply Option.some.inj
 rw [<- List.getElem?_eq_getElem h]
 unfold eP
 rw [List.getElem?_append_left (by simpa using hk),List.getElem?_map,List.getElem?_eq_getElem hk];rfl
theorem HT {b:Zh} {k:Nat} (hk:¬ k<b.Entries.length) (hn:k - b.Entries.length<b.Notes.length) (h:k<(eP b).length):(eP b)[k]=qo b.Notes[k - b.Entries.length]:=by
 apply Option.some.inj
 rw [<- List.getElem?_eq_getElem h]
 unfold eP
 rw [List.getElem?_append_right (by simp;omega),length_map,List.getElem?_map,List.getElem?_eq_getElem hn];rfl
def tkN (E:Nat) (l:List Ze):Nat->List Ze
 | 0=>[]
 | k+1=>l.take (k+1 - E)
theorem HU (E:Nat) (l:List Ze) (k:Nat):tkN E l k=l.take (k - E):=by
 cases k with
 | zero=>simp [tkN]
 | succ k=>rfl
theorem FH {b:Zh} (h:BOK b):∃ n,iB (eR (sK (eP b)))=some (b,n,0):=by
 unfold iB
 have hle:=h.le;have hln:=h.ln
 have hLl:(eP b).length=b.Entries.length+b.Notes.length:=by unfold eP;rw [length_append,length_map,length_map]
 refine ⟨((eP b).length:Int),?_⟩
 refine (aR (dt (fun k=>(eR (sK ((eP b).drop k)),(k:Int),b.Entries.take k,tkN b.Entries.length b.Notes k)) (eP b).length (by omega) (Sum.inl (((eP b).length:Int),b.Entries,b.Notes)) (fun k hk=>?_) ?_)).trans ?_
 ·dsimp only
  simp only [HU]
  have hd:(eP b).drop k=(eP b)[k]::(eP b).drop (k+1):=List.drop_eq_getElem_cons hk
  have htx:sK ((eP b).drop k)=bs (eP b)[k]++10::bs (eR (sK ((eP b).drop (k+1)))):=by rw [hd,yh,da]
  have hne:eR (sK ((eP b).drop k))≠⟨#[]⟩:=fun he=>by
   have:=congrArg bs he
   rw [da,htx] at this
   simp [bs] at this
  rw [bz hne,Bool.not_false,cQ,htx]
  have hlk:=vV h _ (getElem_mem hk)
  have hlt:=qQ (M:=1050) (L:=(eP b).drop (k+1)) fun l hl=>vV h l (List.mem_of_mem_drop hl)
  rw [List.length_drop] at hlt
  have hno:mt 10 (eP b)[k]:=FG h _ (getElem_mem hk)
  rw [aR (sH hno (by rw [cG];omega))]
  simp only [Bool.not_true,Bool.not_false,Bool.false_or]
  by_cases hkE:k<b.Entries.length
  ·have hlE:=HS hkE hk
   have hE:=h.e _ (getElem_mem hkE)
   obtain ⟨n',hn'⟩:=wl hE
   have ha:cZ ⟨b.Entries.take k,b.Notes.take (k - b.Entries.length)⟩ (eP b)[k]=some (true,⟨b.Entries.take (k+1),b.Notes.take (k+1 - b.Entries.length)⟩):=by
    have e0:k - b.Entries.length=0:=by omega
    have e1:k+1 - b.Entries.length=0:=by omega
    rw [hlE,e0,e1]
    unfold cZ
    rw [aR hn',dq,aR (yK hE)]
    rw [show ((!true)||decide (0<(((b.Notes.take 0).length:Nat):Int)))=false from by simp,dq,aR (cF (by simp;omega) (by simp;omega)),take_succ' hkE]
   rw [show gdp true (cZ ⟨b.Entries.take k,b.Notes.take (k - b.Entries.length)⟩ (eP b)[k]) ⟨b.Entries.take k,b.Notes.take (k - b.Entries.length)⟩=_ from ha,fP]
   rw [cI hk (by omega)];rfl
  have hkn:k - b.Entries.length<b.Notes.length:=by omega
  have hlN:=HT hkE hkn hk
  have hN:=h.n _ (getElem_mem hkn)
  have ha:cZ ⟨b.Entries.take k,b.Notes.take (k - b.Entries.length)⟩ (eP b)[k]=some (true,⟨b.Entries.take (k+1),b.Notes.take (k+1 - b.Entries.length)⟩):=by
   have e1:k+1 - b.Entries.length=(k - b.Entries.length)+1:=by omega
   rw [hlN,e1]
   unfold cZ
   rw [aR (AG hN),cQ,aR (cF (by simp;omega) (by simp;omega)),take_succ' hkn,take_of_length_le (show b.Entries.length<=k by omega),take_of_length_le (show b.Entries.length<=k+1 by omega)]
  rw [show gdp true (cZ ⟨b.Entries.take k,b.Notes.take (k - b.Entries.length)⟩ (eP b)[k]) ⟨b.Entries.take k,b.Notes.take (k - b.Entries.length)⟩=_ from ha,fP]
  rw [cI hk (by omega)];rfl
 ·dsimp only
  rw [HU,List.drop_length,show eR (sK [])=⟨#[]⟩ from rfl,det rfl,Bool.not_true,dq,take_of_length_le (by omega),take_of_length_le (by omega)]
 dsimp only
 rw [show (⟨b.Entries,b.Notes⟩:Zh)=b from rfl,aR h.v];rfl
theorem HV (s p:Xh):dS s p=some (decide (p.size<=s.size)&&decide ((bs s).take p.size=bs p)):=by
 unfold dS
 by_cases h:p.size<=s.size
 ·have e:ff s 0 (p.size:Int)=some (s.extract 0 p.size):=by unfold ff;rw [if_pos (by omega)];rfl
  rw [det (show (p.size:Int)<=(s.size:Int) by omega),fN,aR e,det h,se]
  congr 2
  exact decide_eq_decide.2 ⟨fun h=>congrArg bs h,fun h=>congrArg eR h⟩
 rw [bz (show ¬ (p.size:Int)<=(s.size:Int) by omega),bz h];rfl
theorem yi (p r:List UInt8) (h:p.length+r.length<=140737488355328):cq (eR (p++r)) (eR p)=some (eR r,true):=by
 unfold cq fX
 rw [HV,cG,cG,da,da,det (by simp),take_left,det rfl]
 simp only [Bool.and_self,fP,Bool.not_true,dq]
 have e:ff (eR (p++r)) (p.length:Int) ((p++r).length:Int)=some (eR r):=by
  unfold ff;rw [if_pos (by rw [cG];simp;omega)]
  congr 1
  show ByteArray.extract _ p.length (p++r).length=_
  rw [<- cG (p++r),ql,da,drop_left]
 rw [aR e];rfl
theorem si (s p:Xh) (h:(bs s).take p.size≠bs p):cq s p=some (s,false):=by
 unfold cq fX
 rw [HV,bz h,Bool.and_false];rfl
structure GD (g:Zu):Prop where
 w:Pc g.Words
 m8:g.Materials.length<=8
 p6:g.Parts.length<=6
 mn:∀ m∈g.Materials,mX m.Name=true/\1<=m.Share/\m.Share<=1000000
 pn:∀ p∈g.Parts,Pc p.Words/\1<=p.Share/\p.Share<=1000000
 v:fK g=some 0
def kZ (m:Zf):Xh:=eR (bs m.Name++58::bs (dL m.Share))
def lc (p:Zb):Xh:=eR (bs (bJ p.Words ⟨#[43]⟩)++58::bs (dL p.Share))
def rq (g:Zu):Xh:=eR ([109,58]++bs (bJ (g.Materials.map kZ) ⟨#[44]⟩))
def sj (g:Zu):Xh:=eR ([112,58]++bs (bJ (g.Parts.map lc) ⟨#[44]⟩))
def yL:Xh:=⟨#[105,110,99,111,109,112,108,101,116,101]⟩
def mO (g:Zu):Bool:=decide (0<g.Materials.length)
def ow (g:Zu):Bool:=decide (0<g.Parts.length)
def km (g:Zu):List Xh:=cond (mO g) [rq g] []++(cond (ow g) [sj g] []++cond g.Incomplete [yL] [])
def uF (g:Zu):Xh:=bJ (bJ g.Words ⟨#[43]⟩::km g) ⟨#[32]⟩
section
variable {g:Zu} (h:GD g)
include h
theorem vq {m:Zf} (hm:m∈g.Materials):(kZ m).size<=26/\∀ c:UInt8,¬ mQ c->c≠58->mM c=false->mt c (kZ m):=by
 obtain ⟨h1,h2,h3⟩:=h.mn m hm
 have hs:=gX (n:=m.Share) (by omega)
 refine ⟨by unfold kZ;rw [cG,length_append,length_cons,dK,dK];have:=kU h1;omega,fun c hc h58 hl hmem=>?_⟩
 unfold kZ at hmem
 rw [da] at hmem
 rcases List.mem_append.1 hmem with hmem | hmem
 ·exact wG h1 hl hmem
 rcases List.mem_cons.1 hmem with hmem | hmem
 ·exact h58 hmem
 exact oY hc hmem
theorem vr {p:Zb} (hp:p∈g.Parts):(lc p).size<=120/\∀ c:UInt8,¬ mQ c->c≠58->c≠43->mM c=false->mt c (lc p):=by
 obtain ⟨h1,h2,h3⟩:=h.pn p hp
 have hs:=gX (n:=p.Share) (by omega)
 refine ⟨by unfold lc;rw [cG,length_append,length_cons,dK,dK];have:=h1.jsize;omega,fun c hc h58 h43 hl hmem=>?_⟩
 unfold lc at hmem
 rw [da] at hmem
 rcases List.mem_append.1 hmem with hmem | hmem
 ·exact h1.jno h43 hl hmem
 rcases List.mem_cons.1 hmem with hmem | hmem
 ·exact h58 hmem
 exact oY hc hmem
theorem wJ:(bJ (g.Materials.map kZ) ⟨#[44]⟩).size<=1000:=by
 have:=jJ (c:=44) (M:=26) (n:=8) (xs:=g.Materials.map kZ) (fun x hx=>by obtain ⟨m,hm,rfl⟩:=List.mem_map.1 hx;exact (vq h hm).1) (by rw [length_map];exact h.m8)
 omega
theorem wK:(bJ (g.Parts.map lc) ⟨#[44]⟩).size<=1000:=by
 have:=jJ (c:=44) (M:=120) (n:=6) (xs:=g.Parts.map lc) (fun x hx=>by obtain ⟨m,hm,rfl⟩:=List.mem_map.1 hx;exact (vr h hm).1) (by rw [length_map];exact h.p6)
 omega
theorem zy:(rq g).size<=1002:=by unfold rq;rw [cG,length_append,dK];have:=wJ h;simp;omega
theorem zA:(sj g).size<=1002:=by unfold sj;rw [cG,length_append,dK];have:=wK h;simp;omega
theorem fldM_no:mt 32 (rq g):=fun hm=>by
 unfold rq at hm
 rw [da] at hm
 rcases List.mem_append.1 hm with hm | hm
 ·simp at hm
 exact lB (by decide) (fun x hx=>by obtain ⟨m,hm,rfl⟩:=List.mem_map.1 hx;exact (vq h hm).2 32 (by unfold mQ;decide) (by decide) rfl) hm
theorem fldP_no:mt 32 (sj g):=fun hm=>by
 unfold sj at hm
 rw [da] at hm
 rcases List.mem_append.1 hm with hm | hm
 ·simp at hm
 exact lB (by decide) (fun x hx=>by obtain ⟨m,hm,rfl⟩:=List.mem_map.1 hx;exact (vr h hm).2 32 (by unfold mQ;decide) (by decide) (by decide) rfl) hm
theorem El:∀ x∈bJ g.Words ⟨#[43]⟩::km g,x.size<=1002/\mt 32 x:=fun x hx=>by
 rcases List.mem_cons.1 hx with rfl | hx
 ·exact ⟨by have:=h.w.jsize;omega,h.w.jno (by decide) rfl⟩
 unfold km at hx
 rcases List.mem_append.1 hx with hx | hx
 ·cases hM:mO g with
  | false=>rw [hM] at hx;cases hx
  | true=>rw [hM] at hx;rw [List.mem_singleton.1 (show x∈[rq g] from hx)];exact ⟨zy h,fldM_no h⟩
 rcases List.mem_append.1 hx with hx | hx
 ·cases hP:ow g with
  | false=>rw [hP] at hx;cases hx
  | true=>rw [hP] at hx;rw [List.mem_singleton.1 (show x∈[sj g] from hx)];exact ⟨zA h,fldP_no h⟩
 cases hI:g.Incomplete with
 | false=>rw [hI] at hx;cases hx
 | true=>rw [hI] at hx;rw [List.mem_singleton.1 (show x∈[yL] from hx)];exact ⟨le_add_left 10 992,by unfold mt yL bs;decide⟩
omit h in
theorem zB:(km g).length<=3:=by unfold km;cases mO g <;> cases ow g <;> cases g.Incomplete <;> simp
theorem Do:(uF g).size<=10000:=by
 have:=jJ (c:=32) (M:=1002) (n:=4) (fun x hx=>(El h x hx).1) (by rw [length_cons];have:=zB (g:=g);omega)
 unfold uF;omega
theorem shareM {m:Zf} (hm:m∈g.Materials):ia (kZ m)=some (m.Name,m.Share):=by
 obtain ⟨h1,h2,h3⟩:=h.mn m hm
 have hs:=gX (n:=m.Share) (by omega)
 unfold ia kZ
 rw [aR (sH (wG h1 rfl) (by have:=kU h1;omega)),aR (qm (by omega) (by omega))];rfl
theorem shareP {p:Zb} (hp:p∈g.Parts):ia (lc p)=some (bJ p.Words ⟨#[43]⟩,p.Share):=by
 obtain ⟨h1,h2,h3⟩:=h.pn p hp
 have hs:=gX (n:=p.Share) (by omega)
 unfold ia lc
 rw [aR (sH (h1.jno (by decide) rfl) (by have:=h1.jsize;omega)),aR (qm (by omega) (by omega))];rfl
omit h in
theorem qR (a b:List (List UInt8)):Lib.joinTail [32] (a++b)=Lib.joinTail [32] a++Lib.joinTail [32] b:=by
 unfold Lib.joinTail;rw [map_append,List.flatten_append]
theorem Em:kQ g=some (uF g):=by
 unfold kQ
 have hm8:=h.m8;have hp6:=h.p6
 rw [aR h.v,show ((0:Int) != 0)=false from rfl,dq,aR h.w.join]
 refine (aR (dt (fun k=>((g.Materials.take k).map kZ,(k:Int))) g.Materials.length (by omega) (g.Materials.map kZ) (fun k hk=>?_) ?_)).trans ?_
 ·dsimp only
  obtain ⟨h1,h2,h3⟩:=h.mn _ (getElem_mem hk)
  have hs:=gX (n:=g.Materials[k].Share) (by omega)
  have h58:(⟨#[58]⟩:Xh).size=1:=rfl
  have hw:=kU h1
  have e:(g.Materials[k].Name++(⟨#[58]⟩:Xh))++dL g.Materials[k].Share=kZ g.Materials[k]:=by
   apply iC;unfold kZ;rw [fy,fy,da];simp [bs]
  rw [mr hk,cQ,aR (bf hk),aR (e8 (by omega)),aR (gm (by omega) (by omega)),aR (e8 (by rw [dn];omega)),e,aR (cF (by simp;omega) (by simp;omega)),cI hk (by omega),take_succ' hk,map_append];rfl
 ·dsimp only;rw [fO,take_length];rfl
 refine (aR (dt (fun k=>((g.Parts.take k).map lc,(k:Int))) g.Parts.length (by omega) (g.Parts.map lc) (fun k hk=>?_) ?_)).trans ?_
 ·dsimp only
  obtain ⟨h1,h2,h3⟩:=h.pn _ (getElem_mem hk)
  have hs:=gX (n:=g.Parts[k].Share) (by omega)
  have h58:(⟨#[58]⟩:Xh).size=1:=rfl
  have hw:=h1.jsize
  have e:(bJ g.Parts[k].Words ⟨#[43]⟩++(⟨#[58]⟩:Xh))++dL g.Parts[k].Share=lc g.Parts[k]:=by
   apply iC;unfold lc;rw [fy,fy,da];simp [bs]
  rw [mr hk,cQ,aR (bf hk),aR h1.join,aR (e8 (by omega)),aR (gm (by omega) (by omega)),aR (e8 (by rw [dn];omega)),e,aR (cF (by simp;omega) (by simp;omega)),cI hk (by omega),take_succ' hk,map_append];rfl
 ·dsimp only;rw [fO,take_length];rfl
 have hjM:=wJ h;have hjP:=wK h;have hjW:=h.w.jsize
 have s3:(⟨#[32,109,58]⟩:Xh).size=3:=rfl
 have s4:(⟨#[32,112,58]⟩:Xh).size=3:=rfl
 have s5:(⟨#[32,105,110,99,111,109,112,108,101,116,101]⟩:Xh).size=11:=rfl
 have e1:cond (decide (0<(((g.Materials.map kZ).length:Nat):Int))) (Option.bind (strings_Join (g.Materials.map kZ) (⟨#[44]⟩:Xh)) (fun x59=>Option.bind (lC (⟨#[32,109,58]⟩:Xh) x59) (fun s60=>Option.bind (lC (bJ g.Words ⟨#[43]⟩) s60) (fun s61=>some s61)))) (some (bJ g.Words ⟨#[43]⟩))=some (eR (bs (bJ g.Words ⟨#[43]⟩)++Lib.joinTail [32] ((cond (mO g) [rq g] []).map bs))):=by
  unfold mO
  rw [length_map]
  by_cases h0:0<g.Materials.length
  ·rw [det h0,det (show (0:Int)<(g.Materials.length:Int) by omega),cQ,aR (mi (by omega)),aR (e8 (by omega)),aR (e8 (by rw [dn];omega))]
   congr 1
   apply iC
   rw [fy,fy,da];simp [Lib.joinTail,rq,bs];rfl
  rw [bz h0,bz (show ¬ (0:Int)<(g.Materials.length:Int) by omega),dq,dq]
  congr 1
  apply iC
  rw [da];simp [Lib.joinTail]
 rw [aR e1]
 have z1:(eR (bs (bJ g.Words ⟨#[43]⟩)++Lib.joinTail [32] ((cond (mO g) [rq g] []).map bs))).size<=2000:=by
  rw [cG,length_append,dK]
  have:=zy h
  cases mO g <;> simp [Lib.joinTail,dK] <;> omega
 have e2:cond (decide (0<(((g.Parts.map lc).length:Nat):Int))) (Option.bind (strings_Join (g.Parts.map lc) (⟨#[44]⟩:Xh)) (fun x65=>Option.bind (lC (⟨#[32,112,58]⟩:Xh) x65) (fun s66=>Option.bind (lC (eR (bs (bJ g.Words ⟨#[43]⟩)++Lib.joinTail [32] ((cond (mO g) [rq g] []).map bs))) s66) (fun s67=>some s67)))) (some (eR (bs (bJ g.Words ⟨#[43]⟩)++Lib.joinTail [32] ((cond (mO g) [rq g] []).map bs))))=some (eR (bs (bJ g.Words ⟨#[43]⟩)++Lib.joinTail [32] ((cond (mO g) [rq g] []).map bs)++Lib.joinTail [32] ((cond (ow g) [sj g] []).map bs))):=by
  unfold ow
  rw [length_map]
  by_cases h0:0<g.Parts.length
  ·rw [det h0,det (show (0:Int)<(g.Parts.length:Int) by omega),cQ,aR (mi (by omega)),aR (e8 (by omega)),aR (e8 (by rw [dn];omega))]
   congr 1
   apply iC
   rw [fy,fy,da,da];simp [Lib.joinTail,sj,bs];rfl
  rw [bz h0,bz (show ¬ (0:Int)<(g.Parts.length:Int) by omega),dq,dq]
  congr 1
  apply iC
  rw [da,da];simp [Lib.joinTail]
 rw [aR e2]
 have z2:(eR (bs (bJ g.Words ⟨#[43]⟩)++Lib.joinTail [32] ((cond (mO g) [rq g] []).map bs)++Lib.joinTail [32] ((cond (ow g) [sj g] []).map bs))).size<=4000:=by
  rw [cG,length_append]
  rw [cG] at z1
  have:=zA h
  cases ow g <;> simp [Lib.joinTail,dK] at z1 ⊢ <;> omega
 have e3:cond g.Incomplete (Option.bind (lC (eR (bs (bJ g.Words ⟨#[43]⟩)++Lib.joinTail [32] ((cond (mO g) [rq g] []).map bs)++Lib.joinTail [32] ((cond (ow g) [sj g] []).map bs))) (⟨#[32,105,110,99,111,109,112,108,101,116,101]⟩:Xh)) (fun s71=>some s71)) (some (eR (bs (bJ g.Words ⟨#[43]⟩)++Lib.joinTail [32] ((cond (mO g) [rq g] []).map bs)++Lib.joinTail [32] ((cond (ow g) [sj g] []).map bs))))=some (uF g):=by
  have hT:bs (uF g)=bs (bJ g.Words ⟨#[43]⟩)++(Lib.joinTail [32] ((cond (mO g) [rq g] []).map bs)++(Lib.joinTail [32] ((cond (ow g) [sj g] []).map bs)++Lib.joinTail [32] ((cond g.Incomplete [yL] []).map bs))):=by
   unfold uF
   rw [kF,map_cons,Lib.join_cons]
   unfold km
   rw [map_append,map_append]
   show _++Lib.joinTail [32] _=_
   rw [qR,qR]
  cases hI:g.Incomplete with
  | false =>
   rw [dq]
   congr 1
   apply iC
   rw [hT,hI,da];simp [Lib.joinTail]
  | true =>
   rw [cQ,aR (e8 (by omega))]
   congr 1
   apply iC
   rw [hT,hI,fy,da];simp [Lib.joinTail,yL,bs]
 rw [aR e3]
end
def nM (g:Zu):Nat:=cond (mO g) 1 0
def nP (g:Zu):Nat:=cond (ow g) 1 0
def nI (g:Zu):Nat:=cond g.Incomplete 1 0
theorem restG_n (g:Zu):(km g).length=nM g+nP g+nI g:=by unfold km nM nP nI;cases mO g <;> cases ow g <;> cases g.Incomplete <;> rfl
def stG (g:Zu):Nat->Int×List Zf×List Zb×Bool
 | 0=>(0,[],[],false)
 | k+1=>(((k+1:Nat):Int),g.Materials,cond (decide (nM g<k+1)) g.Parts [],decide (nM g+nP g<k+1))
theorem HW {g:Zu} (h:mO g=false):g.Materials=[]:=by
 unfold mO at h;simp at h;exact h
theorem En {g:Zu} (h:ow g=false):g.Parts=[]:=by
 unfold ow at h;simp at h;exact h
section
variable {g:Zu} (h:GD g)
include h
theorem innerM:Option.bind (aW (S:=Int×(List Zf)) (T:=((List Zf))) (fun (v45,l47)=>cond (decide (v45<((g.Materials.map kZ).length:Int))) (Option.bind (bx (g.Materials.map kZ) v45) (fun m58=>Option.bind (ia m58) (fun x59=>Option.bind (app 24 l47 [(⟨x59.1,x59.2⟩:Zf)]) (fun l62=>some (.inl ((i64.wrap (v45+1)),l62)))))) (some (.inr l47))) Va (0,([]:List Zf))) (fun l53=>some (l53,([]:List Zb),false))=some (g.Materials,[],false):=by
 have hm8:=h.m8
 refine (aR (dt (fun k=>((k:Int),g.Materials.take k)) (g.Materials.map kZ).length (by rw [length_map];omega) g.Materials (fun k hk=>?_) ?_)).trans rfl
 ·dsimp only
  have hk':k<g.Materials.length:=by simpa using hk
  rw [mr hk,cQ,aR (bf hk),getElem_map,aR (shareM h (getElem_mem hk')),aR (cF (by simp;omega) (by simp;omega)),cI hk (by rw [length_map];omega),take_succ' hk']
 dsimp only;rw [fO,length_map,take_length];rfl
theorem innerP (ms:List Zf):Option.bind (aW (S:=Int×(List Zb)) (T:=((List Zb))) (fun (v70,l72)=>cond (decide (v70<((g.Parts.map lc).length:Int))) (Option.bind (bx (g.Parts.map lc) v70) (fun m83=>Option.bind (ia m83) (fun x84=>Option.bind (bo x84.1 (⟨#[43]⟩:Xh)) (fun x85=>Option.bind (app 32 l72 [(⟨x85,x84.2⟩:Zb)]) (fun l88=>some (.inl ((i64.wrap (v70+1)),l88))))))) (some (.inr l72))) Va (0,([]:List Zb))) (fun l79=>some (ms,l79,false))=some (ms,g.Parts,false):=by
 have hp6:=h.p6
 refine (aR (dt (fun k=>((k:Int),g.Parts.take k)) (g.Parts.map lc).length (by rw [length_map];omega) g.Parts (fun k hk=>?_) ?_)).trans rfl
 ·dsimp only
  have hk':k<g.Parts.length:=by simpa using hk
  rw [mr hk,cQ,aR (bf hk),getElem_map,aR (shareP h (getElem_mem hk')),aR (h.pn _ (getElem_mem hk')).1.split,aR (cF (by simp;omega) (by simp;omega)),cI hk (by rw [length_map];omega),take_succ' hk']
 dsimp only;rw [fO,length_map,take_length];rfl
theorem splitM (h0:mO g=true):bo (bJ (g.Materials.map kZ) ⟨#[44]⟩) ⟨#[44]⟩=some (g.Materials.map kZ):=by
 have hl:0<g.Materials.length:=by unfold mO at h0;simpa using h0
 refine iD (fun hn=>?_) (fun x hx=>?_) (by have:=wJ h;omega)
 ·have:=congrArg List.length hn;simp at this;rw [this] at hl;simp at hl
 obtain ⟨m,hm,rfl⟩:=List.mem_map.1 hx;exact (vq h hm).2 44 (by unfold mQ;decide) (by decide) rfl
theorem splitP (h0:ow g=true):bo (bJ (g.Parts.map lc) ⟨#[44]⟩) ⟨#[44]⟩=some (g.Parts.map lc):=by
 have hl:0<g.Parts.length:=by unfold ow at h0;simpa using h0
 refine iD (fun hn=>?_) (fun x hx=>?_) (by have:=wK h;omega)
 ·have:=congrArg List.length hn;simp at this;rw [this] at hl;simp at hl
 obtain ⟨m,hm,rfl⟩:=List.mem_map.1 hx;exact (vr h hm).2 44 (by unfold mQ;decide) (by decide) (by decide) rfl
theorem cutM:cq (rq g) ⟨#[109,58]⟩=some (bJ (g.Materials.map kZ) ⟨#[44]⟩,true) :=
 yi [109,58] (bs (bJ (g.Materials.map kZ) ⟨#[44]⟩)) (by rw [dK];have:=wJ h;simp;omega)
theorem cutP:cq (sj g) ⟨#[112,58]⟩=some (bJ (g.Parts.map lc) ⟨#[44]⟩,true) :=
 yi [112,58] (bs (bJ (g.Parts.map lc) ⟨#[44]⟩)) (by rw [dK];have:=wK h;simp;omega)
omit h in
theorem cutPM:cq (sj g) ⟨#[109,58]⟩=some (sj g,false):=si _ _ (by
 unfold sj;rw [da];show List.take 2 (112::58::_)≠[109,58];simp)
omit h in
theorem cutIM:cq yL ⟨#[109,58]⟩=some (yL,false):=si _ _ (by decide)
omit h in
theorem cutIP:cq yL ⟨#[112,58]⟩=some (yL,false):=si _ _ (by decide)
theorem FI:lZ (uF g)=some (g,0):=by
 unfold lZ
 have hrl:=zB (g:=g)
 have hsp:bo (uF g) ⟨#[32]⟩=some (bJ g.Words ⟨#[43]⟩::km g):=iD (by simp) (fun x hx=>(El h x hx).2) (by have:=Do h;unfold uF at this;omega)
 have i0:bx (bJ g.Words ⟨#[43]⟩::km g) 0=some (bJ g.Words ⟨#[43]⟩):=rfl
 have i1:sub (bJ g.Words ⟨#[43]⟩::km g) 1 ((bJ g.Words ⟨#[43]⟩::km g).length:Int)=some (km g):=by
  rw [show (1:Int)=((1:Nat):Int) from rfl,pR (by simp) (le_refl _),take_length];rfl
 rw [aR hsp,aR i0,aR h.w.split,aR i1]
 have hn:=restG_n g
 have hnM:nM g<=1:=by unfold nM;cases mO g <;> simp
 have hnP:nP g<=1:=by unfold nP;cases ow g <;> simp
 have hnI:nI g<=1:=by unfold nI;cases g.Incomplete <;> simp
 refine (aR (dt (stG g) (km g).length (by omega) (g.Materials,g.Parts,g.Incomplete) (fun k hk=>?_) ?_)).trans ?_
 ·have hrk:∀ x,(km g)[k]?=some x->(km g)[k]=x:=fun x hx=>by rw [List.getElem?_eq_getElem hk] at hx;exact Option.some.inj hx
  have hst:stG g k=((k:Int),cond (decide (0<k)) g.Materials [],cond (decide (nM g<k)) g.Parts [],decide (nM g+nP g<k)):=by
   cases k with
   | zero=>simp [stG]
   | succ k=>simp [stG]
  have hst1:stG g (k+1)=(((k+1:Nat):Int),g.Materials,cond (decide (nM g<k+1)) g.Parts [],decide (nM g+nP g<k+1)):=rfl
  rw [hst,hst1]
  dsimp only
  rw [mr hk,cQ,aR (bf hk),cI hk (by omega)]
  by_cases hcM:mO g=true/\k=0
  ·obtain ⟨hM,rfl⟩:=hcM
   have e:(km g)[0]=rq g:=hrk _ (by unfold km;rw [hM];rfl)
   have n1:nM g=1:=by unfold nM;rw [hM];rfl
   rw [e,aR (cutM h)]
   simp only [cQ]
   rw [aR (splitM h hM)]
   rw [show decide (0<0)=false from rfl,dq,bz (show ¬ nM g<0 by omega),dq,bz (show ¬ nM g+nP g<0 by omega),innerM h,fP,bz (show ¬ nM g<0+1 by omega),bz (show ¬ nM g+nP g<0+1 by omega)];rfl
  have hMk:cond (decide (0<k)) g.Materials []=g.Materials:=by
   by_cases hk0:0<k
   ·rw [det hk0];rfl
   have hM:mO g=false:=by cases hM:mO g;rfl;exact absurd ⟨hM,by omega⟩ hcM
   rw [HW hM];cases decide (0<k) <;> rfl
  rw [hMk]
  by_cases hcP:ow g=true/\k=nM g
  ·obtain ⟨hP,hk2⟩:=hcP
   have n1:nP g=1:=by unfold nP;rw [hP];rfl
   have e:(km g)[k]=sj g:=hrk _ (by
    subst hk2;unfold km nM;rw [hP];cases mO g <;> rfl)
   rw [e,aR cutPM]
   simp only [dq]
   rw [aR (cutP h)]
   simp only [cQ]
   rw [aR (splitP h hP)]
   rw [bz (show ¬ nM g<k by omega),dq,bz (show ¬ nM g+nP g<k by omega),innerP h,fP,det (show nM g<k+1 by omega),bz (show ¬ nM g+nP g<k+1 by omega)];rfl
  have hI:g.Incomplete=true/\k=nM g+nP g:=by
   have hk3:k=nM g+nP g:=by
    rcases Nat.lt_or_ge k (nM g+nP g) with hlt | hge
    ·exfalso
     have c1:nM g=cond (mO g) 1 0:=rfl
     have c2:nP g=cond (ow g) 1 0:=rfl
     cases hM:mO g <;> cases hP:ow g <;> rw [hM] at c1 <;> rw [hP] at c2 <;> simp at c1 c2
     ·omega
     ·exact hcP ⟨hP,by omega⟩
     ·exact hcM ⟨hM,by omega⟩
     rcases Nat.lt_or_ge k 1 with h1 | h1
     ·exact hcM ⟨hM,by omega⟩
     exact hcP ⟨hP,by omega⟩
    omega
   refine ⟨?_,hk3⟩
   cases hI:g.Incomplete
   ·have:nI g=0:=by unfold nI;rw [hI];rfl
    omega
   rfl
  obtain ⟨hI,hk3⟩:=hI
  have e:(km g)[k]=yL:=hrk _ (by
   subst hk3;unfold km nM nP;rw [hI];cases mO g <;> cases ow g <;> rfl)
  have hPk:cond (decide (nM g<k)) g.Parts []=g.Parts:=by
   by_cases hlt:nM g<k
   ·rw [det hlt];rfl
   have hP:ow g=false:=by
    cases hP:ow g
    ·rfl
    have:nP g=1:=by unfold nP;rw [hP];rfl
    omega
   rw [En hP];cases decide (nM g<k) <;> rfl
  have hPk1:cond (decide (nM g<k+1)) g.Parts []=g.Parts:=by rw [det (show nM g<k+1 by omega)];rfl
  rw [e,aR cutIM]
  simp only [dq]
  rw [aR cutIP]
  simp only [dq]
  rw [hPk,hPk1,det (show nM g+nP g<k+1 by omega)];rfl
 ·have hst:stG g (km g).length=(((km g).length:Int),g.Materials,g.Parts,g.Incomplete):=by
   rw [hn]
   unfold nM nP nI
   cases hM:mO g <;> cases hP:ow g <;> cases hI:g.Incomplete <;> simp [stG,nM,nP,hM,hP,HW,En]
  rw [hst]
  dsimp only
  rw [fO];rfl
 ·dsimp only
  rw [show (⟨g.Words,g.Materials,g.Parts,g.Incomplete⟩:Zu)=g from rfl,aR h.v]
  rw [show (!((0:Int) != 0))=true from rfl,fN,aR (Em h),det rfl];rfl
end
def dg (d:Nat):UInt8:=UInt8.ofNat (48+d)
theorem qp {u:Nat} (h:10<=u):Lib.decDigits u=Lib.decDigits (u / 10)++[dg (u % 10)]:=by
 rw [Lib.decDigits,dif_neg (by omega)];rfl
theorem uG {u:Nat} (h:u<10):Lib.decDigits u=[dg u]:=by rw [Lib.decDigits,dif_pos h];rfl
theorem HX {d:Nat} (h:d<10):mQ (dg d):=by unfold mQ dg;rw [np h];omega
def D4 (r:Nat):List UInt8:=[dg (r / 1000),dg (r / 100 % 10),dg (r / 10 % 10),dg (r % 10)]
def D2 (c:Nat):List UInt8:=[dg (c / 10),dg (c % 10)]
theorem dec5 {r:Nat} (h:r<10000):Lib.decDigits (10000+r)=49::D4 r:=by
 rw [qp (by omega),show (10000+r) / 10=1000+r / 10 by omega,qp (by omega),show (1000+r / 10) / 10=100+r / 100 by omega,qp (by omega),show (100+r / 100) / 10=10+r / 1000 by omega,qp (by omega),show (10+r / 1000) / 10=1 by omega,uG (by omega),show (10000+r) % 10=r % 10 by omega,show (1000+r / 10) % 10=r / 10 % 10 by omega,show (100+r / 100) % 10=r / 100 % 10 by omega,show (10+r / 1000) % 10=r / 1000 by omega]
 rfl
theorem qq {acc d:Nat} {l:List UInt8} (hd:d<10) (ha:acc<1000000000000000):Lib.parseUint10 acc (dg d::l)=Lib.parseUint10 (acc*10+d) l:=by
 have h1:=np hd
 simp only [Lib.parseUint10,dg,h1]
 rw [if_pos (by omega),if_neg (by omega),if_neg (by omega)]
 congr 1;omega
theorem parse4 {q r:Nat} (hr:r<10000) (hq:q<1000000000):Lib.parseUint10 q (D4 r)=.ok (q*10000+r):=by
 unfold D4
 rw [qq (by omega) (by omega),qq (by omega) (by omega),qq (by omega) (by omega),qq (by omega) (by omega)]
 simp only [Lib.parseUint10]
 congr 1;omega
theorem parse2 {q c:Nat} (hr:c<100) (hq:q<1000000000):Lib.parseUint10 q (D2 c)=.ok (q*100+c):=by
 unfold D2
 rw [qq (by omega) (by omega),qq (by omega) (by omega)]
 simp only [Lib.parseUint10]
 congr 1;omega
theorem Jh {r:Nat} (hr:r<10000):∀ x∈D4 r,mQ x:=fun x hx=>by
 unfold D4 at hx
 simp only [mem_cons,not_mem_nil,or_false] at hx
 rcases hx with rfl | rfl | rfl | rfl <;> exact HX (by omega)
theorem Yg {r:Nat} (hr:r<100):∀ x∈D2 r,mQ x:=fun x hx=>by
 unfold D2 at hx
 simp only [mem_cons,not_mem_nil,or_false] at hx
 rcases hx with rfl | rfl <;> exact HX (by omega)
theorem vt (l:List UInt8):Lib.trimRightB l 48++List.replicate (l.length - (Lib.trimRightB l 48).length) 48=l:=by
 unfold Lib.trimRightB
 have key:∀ m:List UInt8,List.replicate (m.length - (m.dropWhile (· == 48)).length) 48++m.dropWhile (· == 48)=m:=by
  intro m
  induction m with
  | nil=>rfl
  | cons b m ih =>
   rw [List.dropWhile_cons]
   by_cases h:(b == 48)=true
   ·rw [if_pos h]
    have hb:b=48:=by simpa using h
    have hle:=(List.dropWhile_suffix (· == 48) (l:=m)).length_le
    rw [length_cons,show m.length+1 - (m.dropWhile (· == 48)).length=(m.length - (m.dropWhile (· == 48)).length)+1 by omega,List.replicate_succ,cons_append,ih,hb]
   rw [if_neg h];simp
 have:=congrArg List.reverse (key l.reverse)
 rw [List.reverse_append,List.reverse_reverse,List.reverse_replicate,List.length_reverse] at this
 rw [List.length_reverse];exact this
theorem yj (l:List UInt8):(Lib.trimRightB l 48).length<=l.length:=by
 have:=congrArg List.length (vt l)
 rw [length_append] at this;omega
theorem HY {l:List UInt8} {b:UInt8} (h:b∈Lib.trimRightB l 48):b∈l:=by
 rw [<- vt l];exact List.mem_append.2 (.inl h)
def uH (r:Nat):List UInt8:=cond (decide (r=0)) [] (46::Lib.trimRightB (D4 r) 48)
def nR (n:Int):Xh:=eR (Lib.decDigits (n.toNat / 10000)++uH (n.toNat % 10000)++[37])
section
variable {n:Int} (h0:0<=n) (h1:n<=10000000)
include h0 h1
theorem AH:(Lib.decDigits (n.toNat / 10000)).length<=4:=wF 3 _ (by omega)
theorem sk:(nR n).size<=10:=by
 unfold nR
 rw [cG,length_append,length_append]
 have:=AH h0 h1
 have h2:(uH (n.toNat % 10000)).length<=5:=by
  unfold uH
  have:=yj (D4 (n.toNat % 10000))
  have h4:(D4 (n.toNat % 10000)).length=4:=rfl
  cases decide (n.toNat % 10000=0) <;> simp <;> omega
 simp;omega
omit h0 h1 in
theorem HZ {b:UInt8} (hb:b∈uH (n.toNat % 10000)):b=46\/mQ b:=by
 unfold uH at hb
 cases hd:decide (n.toNat % 10000=0) <;> rw [hd] at hb
 ·rcases List.mem_cons.1 hb with hb | hb
  ·exact .inl hb
  exact .inr (Jh (by omega) b (HY hb))
 cases hb
omit h0 h1 in
theorem H0 {c:UInt8} (hc:¬ mQ c) (h46:c≠46) (h37:c≠37):mt c (nR n):=fun hm=>by
 unfold nR at hm
 rw [da] at hm
 rcases List.mem_append.1 hm with hm | hm
 ·rcases List.mem_append.1 hm with hm | hm
  ·exact hc (qP _ c hm)
  rcases HZ hm with h | h
  ·exact h46 h
  exact hc h
 exact h37 (List.mem_singleton.1 hm)
theorem Dp:eu n=some (nR n):=by
 unfold eu
 obtain ⟨m,rfl⟩:∃ m:Nat,n=(m:Int):=⟨n.toNat,by omega⟩
 have e1:Int.tdiv (m:Int) 10000=((m / 10000:Nat):Int):=by rw [Int.tdiv_eq_ediv_of_nonneg (by omega)];omega
 have e2:Int.tmod (m:Int) 10000=((m % 10000:Nat):Int):=by rw [Int.tmod_eq_emod_of_nonneg (by omega)];omega
 have hl:=AH h0 h1
 rw [e1,e2,ee (by omega) (by omega),aR (gm (by omega) (by omega))]
 have hq:dL ((m / 10000:Nat):Int)=eR (Lib.decDigits (m / 10000)):=rfl
 have hq4:(eR (Lib.decDigits (m / 10000))).size<=4:=by rw [cG];exact hl
 by_cases hr:m % 10000=0
 ·have hz:((((m % 10000:Nat):Int)) != 0)=false:=by rw [hr];rfl
  rw [hz,dq,fP,hq,aR (e8 (by have:(⟨#[37]⟩:Xh).size=1:=rfl;omega))]
  congr 1
  apply iC
  unfold nR uH
  rw [fy,da,da,show ((m:Int)).toNat=m from rfl,det hr];simp [bs]
 have hz:((((m % 10000:Nat):Int)) != 0)=true:=by simp;omega
 rw [hz,cQ,ee (by omega) (by omega),aR (gm (by omega) (by omega))]
 have hd:dL (10000+((m % 10000:Nat):Int))=eR (49::D4 (m % 10000)):=by
  unfold dL
  rw [show (10000+((m % 10000:Nat):Int)).toNat=10000+m % 10000 by omega,dec5 (by omega)]
 have hss:ff (eR (49::D4 (m % 10000))) 1 ((eR (49::D4 (m % 10000))).size:Int)=some (eR (D4 (m % 10000))):=by
  have:(eR (49::D4 (m % 10000))).size=5:=rfl
  unfold ff;rw [if_pos (by omega)]
  congr 1
 have htr:ki (eR (D4 (m % 10000))) ⟨#[48]⟩=some (eR (Lib.trimRightB (D4 (m % 10000)) 48)):=rfl
 have ht4:=yj (D4 (m % 10000))
 have h4:(D4 (m % 10000)).length=4:=rfl
 have z1:(⟨#[46]⟩:Xh).size=1:=rfl
 have z2:(⟨#[37]⟩:Xh).size=1:=rfl
 have z3:(eR (Lib.trimRightB (D4 (m % 10000)) 48)).size<=4:=by rw [cG];omega
 rw [hd,aR hss,aR htr,aR (e8 (by omega)),hq,aR (e8 (by rw [dn];omega)),fP,aR (e8 (by rw [dn,dn];omega))]
 congr 1
 apply iC
 unfold nR uH
 rw [fy,fy,fy,da,da,da,show ((m:Int)).toNat=m from rfl,bz hr];simp [bs]
theorem cutSfx:fF (nR n) ⟨#[37]⟩=some (eR (Lib.decDigits (n.toNat / 10000)++uH (n.toNat % 10000)),true):=by
 have hl:(Lib.decDigits (n.toNat / 10000)++uH (n.toNat % 10000)).length<=1000:=by
  have:=sk h0 h1;unfold nR at this;rw [cG,length_append] at this;omega
 unfold fF fZ fY nR
 generalize Lib.decDigits (n.toNat / 10000)++uH (n.toNat % 10000)=l at hl ⊢
 have z:(eR (l++[37])).size=l.length+1:=by rw [cG];simp
 have z2:(⟨#[37]⟩:Xh).size=1:=rfl
 rw [z,z2,det (by omega),fN,ee (by omega) (by omega)]
 have e1:ff (eR (l++[37])) (((l.length+1:Nat):Int) - ((1:Nat):Int)) ((l.length+1:Nat):Int)=some ⟨#[37]⟩:=by
  unfold ff;rw [if_pos (by omega)]
  congr 1
  have:(((l.length+1:Nat):Int) - ((1:Nat):Int)).toNat=l.length:=by omega
  rw [this,show (((l.length+1:Nat):Int)).toNat=(eR (l++[37])).size by rw [z];rfl,ql,da,drop_left];rfl
 have e2:ff (eR (l++[37])) 0 (((l.length+1:Nat):Int) - ((1:Nat):Int))=some (eR l):=by
  unfold ff;rw [if_pos (by omega)]
  congr 1
  have:(((l.length+1:Nat):Int) - ((1:Nat):Int)).toNat=l.length:=by omega
  rw [this]
  show ByteArray.extract _ 0 l.length=_
  rw [se,da,take_left]
 rw [aR e1]
 simp only [decide_true,Bool.and_self,fP,Bool.not_true,dq]
 rw [aR e2];rfl
theorem uI:dz (nR n)=some (n,true):=by
 unfold dz
 rw [aR (cutSfx h0 h1)]
 have hl:=AH h0 h1
 have hqd:∀ x∈Lib.decDigits (n.toNat / 10000),mQ x:=qP _
 have hno:mt 46 (eR (Lib.decDigits (n.toNat / 10000))):=fun hm=>by
  have:=hqd 46 hm
  revert this;unfold mQ;decide
 have hq:=vp (n.toNat / 10000) (by omega)
 have hsz:(eR (Lib.decDigits (n.toNat / 10000))).size<=4:=by rw [cG];exact hl
 have h48:(⟨#[48,48,48,48]⟩:Xh).size=4:=rfl
 have zeros:∀ k:Nat,k<=4->ff (⟨#[48,48,48,48]⟩:Xh) (k:Int) (((⟨#[48,48,48,48]⟩:Xh).size:Nat):Int)=some (eR (List.replicate (4 - k) 48)):=fun k hk=>by
  unfold ff;rw [if_pos (by omega)]
  congr 1
  show ByteArray.extract _ k (ByteArray.size _)=_
  rw [ql]
  have:k=0\/k=1\/k=2\/k=3\/k=4:=by omega
  rcases this with rfl | rfl | rfl | rfl | rfl <;> rfl
 have fin:∀ (part:List UInt8),part.length<=4->part++List.replicate (4 - part.length) 48=D4 (n.toNat % 10000)->dB (eR (Lib.decDigits (n.toNat / 10000))++eR part++eR (List.replicate (4 - part.length) 48))=some (n,()):=fun part hp he=>by
  have e:eR (Lib.decDigits (n.toNat / 10000))++eR part++eR (List.replicate (4 - part.length) 48)=eR (Lib.decDigits (n.toNat / 10000)++D4 (n.toNat % 10000)):=by
   apply iC;rw [fy,fy,da,da,da,da,<- he,append_assoc]
  rw [e]
  have:=AC (l:=Lib.decDigits (n.toNat / 10000)++D4 (n.toNat % 10000)) (v:=n.toNat) (by simp [D4]) (fun x hx=>by
   rcases List.mem_append.1 hx with hx | hx
   ·exact hqd x hx
   ·exact Jh (by omega) x hx) (by
   rw [sI _ _ _ _ hq,parse4 (by omega) (by omega)]
   congr 1;omega) (by omega)
  rw [show ((n.toNat:Nat):Int)=n by omega] at this
  exact this
 by_cases hr:n.toNat % 10000=0
 ·have hf:uH (n.toNat % 10000)=[]:=by unfold uH;rw [det hr];rfl
  rw [hf,append_nil,aR (HO hno)]
  have hD:D4 (n.toNat % 10000)=List.replicate 4 48:=by rw [hr];rfl
  have hz:(⟨#[]⟩:Xh).size=0:=rfl
  rw [hz,bz (show ¬ (4:Int)<((eR (Lib.decDigits (n.toNat / 10000))).size:Int) by omega),bz (show ¬ (4:Int)<(((0:Nat)):Int) by omega)]
  simp only [Bool.not_true,Bool.or_self,dq]
  rw [aR (e8 (by rw [hz];omega)),aR (zeros 0 (by omega)),aR (e8 (by rw [dn,hz,show (eR (List.replicate (4 - 0) 48)).size=4 from rfl];omega))]
  have:=fin [] (by simp) (by rw [hD];rfl)
  rw [show eR (Lib.decDigits (n.toNat / 10000))++(⟨#[]⟩:Xh)++eR (List.replicate (4 - 0) 48)=eR (Lib.decDigits (n.toNat / 10000))++eR []++eR (List.replicate (4 - ([]:List UInt8).length) 48) from rfl,aR this]
 have hf:uH (n.toNat % 10000)=46::Lib.trimRightB (D4 (n.toNat % 10000)) 48:=by unfold uH;rw [bz hr];rfl
 have ht4:=yj (D4 (n.toNat % 10000))
 have h4:(D4 (n.toNat % 10000)).length=4:=rfl
 rw [hf]
 have hc:=sH (c:=46) (a:=eR (Lib.decDigits (n.toNat / 10000))) (r:=eR (Lib.trimRightB (D4 (n.toNat % 10000)) 48)) hno (by rw [cG] at hsz;rw [cG,cG];omega)
 rw [da,da] at hc
 rw [aR hc]
 have hz:(eR (Lib.trimRightB (D4 (n.toNat % 10000)) 48)).size=(Lib.trimRightB (D4 (n.toNat % 10000)) 48).length:=cG _
 rw [hz,bz (show ¬ (4:Int)<((eR (Lib.decDigits (n.toNat / 10000))).size:Int) by omega),bz (show ¬ (4:Int)<(((Lib.trimRightB (D4 (n.toNat % 10000)) 48).length:Nat):Int) by omega)]
 simp only [Bool.not_true,Bool.or_self,dq]
 rw [aR (e8 (by rw [hz];omega)),aR (zeros _ (by omega)),aR (e8 (by rw [dn,hz,cG (List.replicate _ _)];simp;omega))]
 have hfill:=vt (D4 (n.toNat % 10000))
 rw [h4] at hfill
 rw [aR (fin _ (by omega) hfill)]
end
def gz (a:Int):Xh:=eR (Lib.decDigits (a.toNat / 100)++46::D2 (a.toNat % 100))
theorem FJ {α β γ:Type} {x:Option α} {f:α->Option β} {g:β->Option γ} {a:α} (h:x=some a):(x.bind f).bind g=(f a).bind g:=by rw [h];rfl
theorem Ck {a:Int} (h0:0<=a) (h1:a<=100000000):jr a=some true:=by
 unfold jr kK
 refine (FJ (dt (fun k=>(k:Int)) 1 (by omega) (Sum.inl ()) (fun k hk=>?_) ?_)).trans rfl
 ·have:k=0:=by omega
  subst this
  (try dsimp only)
  rw [show decide (((0:Nat):Int)<(([a]:List Int).length:Int))=true from rfl,cQ,show bx [a] ((0:Nat):Int)=some a from rfl,fP,bz (by omega),bz (by omega)];rfl
 rfl
theorem D2_eq {c:Nat} (h:c<100):(if c<10 then 48::Lib.decDigits c else Lib.decDigits c)=D2 c:=by
 unfold D2
 split
 ·rename_i h1
  rw [uG h1,show c / 10=0 by omega,show c % 10=c by omega];rfl
 rename_i h1
 rw [qp (by omega),uG (by omega)];rfl
section
variable {a:Int} (h0:0<=a) (h1:a<=100000000)
include h0 h1
theorem sL:(Lib.decDigits (a.toNat / 100)).length<=7:=wF 6 _ (by omega)
theorem sm:(gz a).size=(Lib.decDigits (a.toNat / 100)).length+3:=by have _:=h0;have _:=h1;unfold gz;rw [cG,length_append];rfl
omit h0 h1 in
theorem H1 {c:UInt8} (hc:¬ mQ c) (h46:c≠46):mt c (gz a):=fun hm=>by
 unfold gz at hm
 rw [da] at hm
 rcases List.mem_append.1 hm with hm | hm
 ·exact hc (qP _ c hm)
 rcases List.mem_cons.1 hm with hm | hm
 ·exact h46 hm
 exact hc (Yg (by omega) c hm)
theorem H2:jH a=some (gz a):=by
 unfold jH
 rw [aR (Ck h0 h1),Bool.not_true,dq,bz (show ¬ a<0 by omega),dq,fP]
 dsimp only
 obtain ⟨m,rfl⟩:∃ m:Nat,a=(m:Int):=⟨a.toNat,by omega⟩
 have e1:Int.tdiv (m:Int) 100=((m / 100:Nat):Int):=by rw [Int.tdiv_eq_ediv_of_nonneg (by omega)];omega
 have e2:Int.tmod (m:Int) 100=((m % 100:Nat):Int):=by rw [Int.tmod_eq_emod_of_nonneg (by omega)];omega
 have hl:=sL h0 h1
 rw [e1,e2,ee (by omega) (by omega),aR (gm (by omega) (by omega))]
 have hc:dL ((m % 100:Nat):Int)=eR (Lib.decDigits (m % 100)):=rfl
 have hv:cond (decide (((dL ((m % 100:Nat):Int)).size:Int)<2)) (Option.bind (lC (⟨#[48]⟩:Xh) (dL ((m % 100:Nat):Int))) (fun s11=>some s11)) (some (dL ((m % 100:Nat):Int)))=some (eR (D2 (m % 100))):=by
  rw [hc,<- D2_eq (show m % 100<100 by omega)]
  by_cases h10:m % 100<10
  ·rw [if_pos h10,uG h10];rfl
  rw [if_neg h10]
  have:(eR (Lib.decDigits (m % 100))).size=2:=by rw [qp (by omega),uG (by omega)];rfl
  rw [this];rfl
 rw [aR hv,aR (gm (by omega) (by omega))]
 have hq:dL ((m / 100:Nat):Int)=eR (Lib.decDigits (m / 100)):=rfl
 have hq7:(eR (Lib.decDigits (m / 100))).size<=7:=by rw [cG];exact hl
 have z0:(⟨#[]⟩:Xh).size=0:=rfl
 have z1:(⟨#[46]⟩:Xh).size=1:=rfl
 have z2:(eR (D2 (m % 100))).size=2:=rfl
 rw [hq,aR (e8 (by omega)),aR (e8 (by rw [dn];omega)),aR (e8 (by rw [dn,dn];omega))]
 congr 1
 apply iC
 unfold gz
 rw [fy,fy,fy,da,da,da];simp [bs]
theorem FK:mh (gz a)=some (a,0):=by
 unfold mh
 have hl:=sL h0 h1
 have hs:=sm h0 h1
 have hp:0<(Lib.decDigits (a.toNat / 100)).length:=List.length_pos_iff.2 (AB _)
 have e1:ff (gz a) 0 (((gz a).size:Int) - 3)=some (eR (Lib.decDigits (a.toNat / 100))):=by
  unfold ff;rw [if_pos (by omega)]
  congr 1
  have:(((gz a).size:Int) - 3).toNat=(Lib.decDigits (a.toNat / 100)).length:=by omega
  rw [this]
  show ByteArray.extract _ 0 _=_
  rw [se];unfold gz;rw [da,take_left]
 have e2:ff (gz a) (((gz a).size:Int) - 3+1) ((gz a).size:Int)=some (eR (D2 (a.toNat % 100))):=by
  unfold ff;rw [if_pos (by omega)]
  congr 1
  have:(((gz a).size:Int) - 3+1).toNat=(Lib.decDigits (a.toNat / 100)).length+1:=by omega
  rw [this]
  show ByteArray.extract _ _ (gz a).size=_
  rw [ql];unfold gz;rw [da,<- List.drop_drop,drop_left];rfl
 have e3:dB (eR (Lib.decDigits (a.toNat / 100))++eR (D2 (a.toNat % 100)))=some (a,()):=by
  have e:eR (Lib.decDigits (a.toNat / 100))++eR (D2 (a.toNat % 100))=eR (Lib.decDigits (a.toNat / 100)++D2 (a.toNat % 100)):=by
   apply iC;rw [fy,da,da,da]
  rw [e]
  have:=AC (l:=Lib.decDigits (a.toNat / 100)++D2 (a.toNat % 100)) (v:=a.toNat) (by simp [D2]) (fun x hx=>by
   rcases List.mem_append.1 hx with hx | hx
   ·exact qP _ x hx
   ·exact Yg (by omega) x hx) (by
   rw [sI _ _ _ _ (vp (a.toNat / 100) (by omega)),parse2 (by omega) (by omega)]
   congr 1;omega) (by omega)
  rw [show ((a.toNat:Nat):Int)=a by omega] at this
  exact this
 rw [ee (r:=((gz a).size:Int) - 3) (by omega) (by omega),ee (r:=((gz a).size:Int) - 3+1) (by omega) (by omega),bz (show ¬ ((gz a).size:Int) - 3<1 by omega),bz (show ¬ 15<((gz a).size:Int) - 3 by omega)]
 simp only [Bool.or_self,dq]
 rw [aR e1,aR e2,aR (e8 (by rw [cG,cG];have:(D2 (a.toNat % 100)).length=2:=rfl;omega)),aR e3]
 simp only [Bool.not_false,fN]
 rw [aR (H2 h0 h1),det rfl];rfl
end
structure DU (d:Zs):Prop where
 v:db d=some 0
 r0:0<=d.Rate
 r1:d.Rate<=10000000
 a0:0<=d.Amount
 a1:d.Amount<=100000000
 p0:0<=d.Per
 p1:d.Per<=1000000
 pa:d.Amount=0->d.Per=0
 m0:0<=d.Most
 m1:d.Most<=10000000
 l0:0<=d.Least
 l1:d.Least<=10000000
 hm:d.HasMost=false->d.Most=0
 hl:d.HasLeast=false->d.Least=0
def rt:Xh:=⟨#[109,97,120]⟩
def vu:Xh:=⟨#[109,105,110]⟩
def o1:Xh:=⟨#[43]⟩
def iP (d:Zs):Xh:=eR (bs (gz d.Amount)++47::bs (dL d.Per))
def cR (d:Zs):Bool:=(d.Rate != 0)||(d.Amount == 0)
def cA (d:Zs):Bool:=d.Amount != 0
def AI (d:Zs):List Xh:=cond (cR d) (nR d.Rate::cond (cA d) [o1,iP d] []) [iP d]
def ra (d:Zs):List Xh:=cond d.HasMost [rt,nR d.Most] []++cond d.HasLeast [vu,nR d.Least] []
def jB (d:Zs):Xh:=bJ (AI d++ra d) ⟨#[32]⟩
section
variable {d:Zs} (h:DU d)
include h
theorem yk:(iP d).size<=30:=by
 unfold iP
 rw [cG,length_append,length_cons,dK,dK,sm h.a0 h.a1]
 have:=sL h.a0 h.a1
 have:=gX (n:=d.Per) (by have:=h.p1;omega)
 omega
omit h in
theorem H3 {c:UInt8} (hc:¬ mQ c) (h46:c≠46) (h47:c≠47):mt c (iP d):=fun hm=>by
 unfold iP at hm
 rw [da] at hm
 rcases List.mem_append.1 hm with hm | hm
 ·exact H1 hc h46 hm
 rcases List.mem_cons.1 hm with hm | hm
 ·exact h47 hm
 exact oY hc hm
theorem qS:∀ x∈AI d++ra d,x.size<=30/\mt 32 x/\mt 10 x:=fun x hx=>by
 have d32:¬ mQ 32:=by unfold mQ;decide
 have d10:¬ mQ 10:=by unfold mQ;decide
 have fp:∀ n:Int,0<=n->n<=10000000->(nR n).size<=30/\mt 32 (nR n)/\mt 10 (nR n):=fun n h0 h1=>⟨by have:=sk h0 h1;omega,H0 d32 (by decide) (by decide),H0 d10 (by decide) (by decide)⟩
 have fa:(iP d).size<=30/\mt 32 (iP d)/\mt 10 (iP d):=⟨yk h,H3 d32 (by decide) (by decide),H3 d10 (by decide) (by decide)⟩
 have fpl:o1.size<=30/\mt 32 o1/\mt 10 o1:=⟨by decide,by unfold mt o1 bs;decide,by unfold mt o1 bs;decide⟩
 have fmx:rt.size<=30/\mt 32 rt/\mt 10 rt:=⟨by decide,by unfold mt rt bs;decide,by unfold mt rt bs;decide⟩
 have fmn:vu.size<=30/\mt 32 vu/\mt 10 vu:=⟨by decide,by unfold mt vu bs;decide,by unfold mt vu bs;decide⟩
 unfold AI ra at hx
 rcases List.mem_append.1 hx with hx | hx
 ·cases hR:cR d <;> rw [hR] at hx
  ·rw [List.mem_singleton.1 (show x∈[iP d] from hx)];exact fa
  rcases List.mem_cons.1 hx with rfl | hx
  ·exact fp _ h.r0 h.r1
  cases hA:cA d <;> rw [hA] at hx
  ·cases hx
  rcases List.mem_cons.1 hx with rfl | hx
  ·exact fpl
  rw [List.mem_singleton.1 hx];exact fa
 rcases List.mem_append.1 hx with hx | hx
 ·cases hM:d.HasMost <;> rw [hM] at hx
  ·cases hx
  rcases List.mem_cons.1 hx with rfl | hx
  ·exact fmx
  rw [List.mem_singleton.1 hx];exact fp _ h.m0 h.m1
 cases hM:d.HasLeast <;> rw [hM] at hx
 ·cases hx
 rcases List.mem_cons.1 hx with rfl | hx
 ·exact fmn
 rw [List.mem_singleton.1 hx];exact fp _ h.l0 h.l1
omit h in
theorem Dq:(AI d++ra d).length<=7:=by unfold AI ra;cases cR d <;> cases cA d <;> cases d.HasMost <;> cases d.HasLeast <;> simp
theorem yl:(jB d).size<=250:=by
 have:=jJ (c:=32) (M:=30) (n:=7) (fun x hx=>(qS h x hx).1) Dq
 unfold jB;omega
theorem H4:mt 10 (jB d):=lB (by decide) fun x hx=>(qS h x hx).2.2
omit h in
theorem tw_ne:AI d≠[]:=by unfold AI;cases cR d <;> simp
omit h in
theorem RA:cR d=false->cA d=true:=by
 unfold cR cA;intro hx;simp at hx ⊢;exact hx.2
omit h in
theorem FL (x:List UInt8) (r w:List (List UInt8)) (c:UInt8):Lib.join (x::r++w) [c]=Lib.join (x::r) [c]++Lib.joinTail [c] w:=by
 rw [cons_append,Lib.join_cons,Lib.join_cons]
 unfold Lib.joinTail
 rw [map_append,List.flatten_append,append_assoc]
theorem Eo:ma d=some (jB d):=by
 unfold ma
 have hr0:=h.r0;have hr1:=h.r1;have ha0:=h.a0;have ha1:=h.a1;have hp0:=h.p0;have hp1:=h.p1
 have hms:=sm ha0 ha1
 have hml:=sL ha0 ha1
 have hps:=gX (n:=d.Per) (by omega)
 rw [aR h.v,show ((0:Int) != 0)=false from rfl,dq]
 have hpr:=sk hr0 hr1
 have e1:cond ((d.Rate != 0)||(d.Amount == 0)) (Option.bind (eu d.Rate) (fun x10=>Option.bind (app 16 ([]:List Xh) [x10]) (fun l14=>some l14))) (some ([]:(List Xh)))=some (cond (cR d) [nR d.Rate] []):=by
  show cond (cR d) _ _=_
  cases cR d
  ·rfl
  rw [cQ,aR (Dp hr0 hr1),aR (cF (by simp) (by simp))];rfl
 rw [aR e1]
 have z47:(⟨#[47]⟩:Xh).size=1:=rfl
 have e2:cond (d.Amount != 0) (Option.bind (jH d.Amount) (fun x24=>Option.bind (lC x24 (⟨#[47]⟩:Xh)) (fun s25=>Option.bind (strconv_Itoa d.Per) (fun x26=>Option.bind (lC s25 x26) (fun s27=>Option.bind (app 16 (cond (cR d) [nR d.Rate] []) [s27]) (fun l30=>some l30)))))) (some (cond (cR d) [nR d.Rate] []))=some (cond (cR d) [nR d.Rate] []++cond (cA d) [iP d] []):=by
  show cond (cA d) _ _=_
  cases cA d
  ·simp
  have e:gz d.Amount++(⟨#[47]⟩:Xh)++dL d.Per=iP d:=by
   apply iC;unfold iP;rw [fy,fy,da];simp [bs]
  rw [cQ,aR (H2 ha0 ha1),aR (e8 (by omega)),aR (gm hp0 (by omega)),aR (e8 (by rw [dn];omega)),e,aR (cF (by cases cR d <;> simp) (by cases cR d <;> simp))];rfl
 rw [aR e2]
 have hamt:=yk h
 obtain ⟨J,hJ⟩:∃ J,J=bJ (cond (cR d) [nR d.Rate] []++cond (cA d) [iP d] []) (⟨#[32,43,32]⟩:Xh):=⟨_,rfl⟩
 have hJb:bs J=Lib.join ((AI d).map bs) [32]:=by
  rw [hJ,kF]
  unfold AI
  cases hR:cR d <;> cases hA:cA d
  ·have:=RA hR;rw [hA] at this;cases this
  ·simp [Lib.join_one]
  ·simp [Lib.join_one]
  simp [Lib.join_cons,Lib.joinTail,o1,bs]
 have hJs:J.size<=50:=by
  rw [<- dK,hJ,kF]
  rw [<- dK] at hpr hamt
  cases cR d <;> cases cA d <;> simp [Lib.join_one,Lib.join_nil,Lib.join_cons,Lib.joinTail,bs] at hpr hamt ⊢ <;> omega
 rw [aR (mi (by rw [<- hJ];omega)),<- hJ]
 have hpm:=sk h.m0 h.m1
 have hpl:=sk h.l0 h.l1
 have z5:(⟨#[32,109,97,120,32]⟩:Xh).size=5:=rfl
 have z6:(⟨#[32,109,105,110,32]⟩:Xh).size=5:=rfl
 have e3:cond d.HasMost (Option.bind (eu d.Most) (fun x38=>Option.bind (lC (⟨#[32,109,97,120,32]⟩:Xh) x38) (fun s39=>Option.bind (lC J s39) (fun s40=>some s40)))) (some J)=some (eR (bs J++Lib.joinTail [32] ((cond d.HasMost [rt,nR d.Most] []).map bs))):=by
  cases d.HasMost
  ·simp [Lib.joinTail,mk_bs]
  rw [cQ,aR (Dp h.m0 h.m1),aR (e8 (by omega)),aR (e8 (by rw [dn];omega))]
  congr 1
  apply iC
  rw [fy,fy,da];simp [Lib.joinTail,rt,bs]
 rw [aR e3]
 have z7:(eR (bs J++Lib.joinTail [32] ((cond d.HasMost [rt,nR d.Most] []).map bs))).size<=100:=by
  rw [cG,length_append,dK]
  have m3:(bs rt).length=3:=rfl
  have m4:=dK (nR d.Most)
  have:(Lib.joinTail [32] ((cond d.HasMost [rt,nR d.Most] []).map bs)).length<=30:=by
   cases d.HasMost <;> simp [Lib.joinTail] <;> omega
  omega
 have e4:cond d.HasLeast (Option.bind (eu d.Least) (fun x44=>Option.bind (lC (⟨#[32,109,105,110,32]⟩:Xh) x44) (fun s45=>Option.bind (lC (eR (bs J++Lib.joinTail [32] ((cond d.HasMost [rt,nR d.Most] []).map bs))) s45) (fun s46=>some s46)))) (some (eR (bs J++Lib.joinTail [32] ((cond d.HasMost [rt,nR d.Most] []).map bs))))=some (jB d):=by
  have hT:bs (jB d)=bs J++(Lib.joinTail [32] ((cond d.HasMost [rt,nR d.Most] []).map bs)++Lib.joinTail [32] ((cond d.HasLeast [vu,nR d.Least] []).map bs)):=by
   unfold jB
   rw [kF,hJb,map_append]
   unfold ra
   rw [map_append,<- qR]
   cases ht:AI d with
   | nil=>exact absurd ht tw_ne
   | cons x r=>rw [map_cons];exact FL _ _ _ _
  cases hLe:d.HasLeast
  ·rw [dq]
   congr 1
   apply iC
   rw [hT,hLe,da];simp [Lib.joinTail]
  rw [cQ,aR (Dp h.l0 h.l1),aR (e8 (by omega)),aR (e8 (by rw [dn];omega))]
  congr 1
  apply iC
  rw [hT,hLe,fy,fy,da];simp [Lib.joinTail,vu,bs]
 rw [aR e4]
end
section
variable {d:Zs} (h:DU d)
include h
def AJ (d:Zs):Zs:=⟨d.Rate,d.Amount,d.Per,false,0,false,0⟩
theorem cutAmt:fT (iP d) ⟨#[47]⟩=some (gz d.Amount,dL d.Per,true):=by
 have hms:=sm h.a0 h.a1
 have hml:=sL h.a0 h.a1
 have hps:=gX (n:=d.Per) (by have:=h.p1;omega)
 exact sH (H1 (by unfold mQ;decide) (by decide)) (by omega)
theorem H5:∃ l b,bs (iP d)=l++[b]/\mQ b:=by
 have hne:bs (dL d.Per)≠[]:=AB _
 refine ⟨bs (gz d.Amount)++47::(bs (dL d.Per)).dropLast,(bs (dL d.Per)).getLast hne,?_,AD _ _ (List.getLast_mem hne)⟩
 have _:=h
 unfold iP
 rw [da,append_assoc,cons_append,List.dropLast_concat_getLast]
theorem FM:fF (iP d) ⟨#[37]⟩=some (iP d,false):=by
 obtain ⟨l,b,hb,hd⟩:=H5 h
 have hs:=yk h
 have hsz:(iP d).size=l.length+1:=by rw [<- dK,hb];simp
 unfold fF fZ fY
 have z2:(⟨#[37]⟩:Xh).size=1:=rfl
 rw [z2,det (by omega),fN,ee (by omega) (by omega)]
 have e1:ff (iP d) (((iP d).size:Int) - ((1:Nat):Int)) ((iP d).size:Int)=some (eR [b]):=by
  unfold ff;rw [if_pos (by omega)]
  congr 1
  have:(((iP d).size:Int) - ((1:Nat):Int)).toNat=l.length:=by omega
  rw [this]
  show ByteArray.extract _ l.length (iP d).size=_
  rw [ql,hb,drop_left]
 have hne:decide (eR [b]=⟨#[37]⟩)=false:=bz fun he=>by
  have:=congrArg bs he
  rw [da] at this
  have:b=37:=by simpa [bs] using this
  rw [this] at hd;revert hd;unfold mQ;decide
 rw [aR e1,hne];rfl
theorem Cl:dz (iP d)=some (0,false):=by
 unfold dz
 rw [aR (FM h)]
 have hms:=sm h.a0 h.a1
 have hml:=sL h.a0 h.a1
 have hps:=gX (n:=d.Per) (by have:=h.p1;omega)
 have e:iP d=eR (bs (eR (Lib.decDigits (d.Amount.toNat / 100)))++46::bs (eR (D2 (d.Amount.toNat % 100)++47::bs (dL d.Per)))):=by
  apply iC;unfold iP gz;simp [da]
 have hc:=sH (c:=46) (a:=eR (Lib.decDigits (d.Amount.toNat / 100))) (r:=eR (D2 (d.Amount.toNat % 100)++47::bs (dL d.Per))) (fun hm=>by
  have:=qP _ 46 hm;revert this;unfold mQ;decide) (by rw [cG,cG,length_append,length_cons,dK];have:(D2 (d.Amount.toNat % 100)).length=2:=rfl;omega)
 rw [<- e] at hc
 rw [aR hc];rfl
omit h in
theorem bw_head {x:Xh} {r:List Xh} (hb:ra d=x::r):decide (x=(⟨#[43]⟩:Xh))=false:=by
 unfold ra at hb
 cases hM:d.HasMost <;> cases hL:d.HasLeast <;> rw [hM,hL] at hb
 ·cases hb
 ·injection hb with hb _;rw [<- hb];rfl
 ·injection hb with hb _;rw [<- hb];rfl
 injection hb with hb _;rw [<- hb];rfl
omit h in
theorem bw_len:(ra d).length<=4:=by unfold ra;cases d.HasMost <;> cases d.HasLeast <;> simp
theorem H6:jY (⟨0,0,0,false,0,false,0⟩:Zs) (AI d++ra d)=some (ra d,true,AJ d):=by
 have hbl:=bw_len (d:=d)
 unfold jY
 have tail:∀ (r:Int),Option.bind (bx (iP d::ra d) 0) (fun m11=>Option.bind (fT m11 (⟨#[47]⟩:Xh)) (fun x12=>Option.bind (mh x12.1) (fun x13=>Option.bind (dB x12.2.1) (fun x14=>Option.bind (sub (iP d::ra d) 1 ((iP d::ra d).length:Int)) (fun l15=>some (l15,((x13.2 == 0)&&true),(⟨r,x13.1,x14.1,false,0,false,0⟩:Zs)))))))=some (ra d,true,(⟨r,d.Amount,d.Per,false,0,false,0⟩:Zs)):=fun r=>by
  have i0:bx (iP d::ra d) 0=some (iP d):=rfl
  have i1:sub (iP d::ra d) 1 ((iP d::ra d).length:Int)=some (ra d):=by
   rw [show (1:Int)=((1:Nat):Int) from rfl,pR (by simp) (le_refl _),take_length];rfl
  rw [aR i0,aR (cutAmt h),aR (FK h.a0 h.a1),aR (qm h.p0 (by have:=h.p1;omega)),aR i1];rfl
 cases hR:cR d
 ·have htw:AI d=[iP d]:=by unfold AI;rw [hR];rfl
  have hrate:d.Rate=0:=by unfold cR at hR;simp at hR;exact hR.1
  rw [htw]
  rw [show bx ([iP d]++ra d) 0=some (iP d) from rfl,fP,aR (Cl h)]
  simp only [dq]
  refine (tail 0).trans ?_
  unfold AJ;rw [hrate]
 cases hA:cA d
 ·have htw:AI d=[nR d.Rate]:=by unfold AI;rw [hR,hA];rfl
  have ham:d.Amount=0:=by unfold cA at hA;simpa using hA
  have hper:=h.pa ham
  rw [htw]
  rw [show bx ([nR d.Rate]++ra d) 0=some (nR d.Rate) from rfl,fP,aR (uI h.r0 h.r1)]
  simp only [cQ]
  have i1:sub ([nR d.Rate]++ra d) 1 (([nR d.Rate]++ra d).length:Int)=some (ra d):=by
   rw [show (1:Int)=((1:Nat):Int) from rfl,pR (by simp) (le_refl _),take_length];rfl
  have hg:∃ m7,gd (!(decide ((([nR d.Rate]++ra d).length:Int)<3))) (bx ([nR d.Rate]++ra d) 1)=some m7/\((decide ((([nR d.Rate]++ra d).length:Int)<3))||(!decide (m7=(⟨#[43]⟩:Xh))))=true:=by
   by_cases h3:(([nR d.Rate]++ra d).length:Int)<3
   ·rw [det h3];exact ⟨_,rfl,rfl⟩
   rw [bz h3]
   cases hb:ra d with
   | nil=>rw [hb] at h3;simp at h3
   | cons x r=>exact ⟨x,rfl,by rw [bw_head hb];rfl⟩
  obtain ⟨m7,g1,g2⟩:=hg
  rw [FJ g1,g2,cQ,aR i1]
  unfold AJ
  rw [ham,hper];rfl
 have htw:AI d=[nR d.Rate,o1,iP d]:=by unfold AI;rw [hR,hA];rfl
 rw [htw]
 rw [show bx ([nR d.Rate,o1,iP d]++ra d) 0=some (nR d.Rate) from rfl,fP,aR (uI h.r0 h.r1)]
 simp only [cQ]
 have hl3:¬ (([nR d.Rate,o1,iP d]++ra d).length:Int)<3:=by simp;omega
 have i2:sub ([nR d.Rate,o1,iP d]++ra d) 2 (([nR d.Rate,o1,iP d]++ra d).length:Int)=some (iP d::ra d):=by
  rw [show (2:Int)=((2:Nat):Int) from rfl,pR (by simp) (le_refl _),take_length];rfl
 rw [bz hl3,Bool.not_false,fN,show bx ([nR d.Rate,o1,iP d]++ra d) 1=some o1 from by unfold bx;rw [if_pos (by simp <;> omega)];rfl]
 rw [fP,show decide (o1=(⟨#[43]⟩:Xh))=true from rfl]
 simp only [Bool.not_true,Bool.or_self,dq]
 rw [aR i2]
 exact tail d.Rate
theorem zC {e:Zs}:cW e rt (nR d.Most)=some (true,⟨e.Rate,e.Amount,e.Per,true,d.Most,e.HasLeast,e.Least⟩):=by
 unfold cW
 rw [aR (uI h.m0 h.m1),show decide (rt=(⟨#[109,97,120]⟩:Xh))=true from rfl];rfl
theorem zD {e:Zs}:cW e vu (nR d.Least)=some (true,⟨e.Rate,e.Amount,e.Per,e.HasMost,e.Most,true,d.Least⟩):=by
 unfold cW
 rw [aR (uI h.l0 h.l1),show decide (vu=(⟨#[109,97,120]⟩:Xh))=false from rfl,show decide (vu=(⟨#[109,105,110]⟩:Xh))=true from rfl];rfl
theorem H7:jZ (AI d++ra d)=some (d,true):=by
 unfold jZ
 rw [aR (H6 h)]
 dsimp only
 have hm:=h.hm;have hl:=h.hl
 obtain ⟨r,a,p,bm,m,bl_,l⟩:=d
 dsimp only at hm hl
 cases bm <;> cases bl_
 ·obtain rfl:=hm rfl;obtain rfl:=hl rfl;rfl
 ·obtain rfl:=hm rfl
  have e:=zD h (e:=AJ ⟨r,a,p,false,0,true,l⟩)
  show Option.bind (Option.bind (cW (AJ ⟨r,a,p,false,0,true,l⟩) vu (nR l)) _) _=_
  rw [FJ e];rfl
 ·obtain rfl:=hl rfl
  have e:=zC h (e:=AJ ⟨r,a,p,true,m,false,0⟩)
  show Option.bind (Option.bind (cW (AJ ⟨r,a,p,true,m,false,0⟩) rt (nR m)) _) _=_
  rw [FJ e];rfl
 have e:=zC h (e:=AJ ⟨r,a,p,true,m,true,l⟩)
 have e2:=zD h (e:=⟨r,a,p,true,m,false,0⟩)
 show Option.bind (Option.bind (cW (AJ ⟨r,a,p,true,m,true,l⟩) rt (nR m)) _) _=_
 rw [FJ e]
 show Option.bind (Option.bind (cW ⟨r,a,p,true,m,false,0⟩ vu (nR l)) _) _=_
 rw [FJ e2];rfl
theorem FN:oW (jB d)=some (d,0):=by
 unfold oW
 have hsp:bo (jB d) ⟨#[32]⟩=some (AI d++ra d):=iD (by simp [tw_ne]) (fun x hx=>(qS h x hx).2.1) (by have:=yl h;unfold jB at this;omega)
 rw [aR hsp,aR (H7 h)]
 simp only [Bool.not_true,Bool.not_false,fN,Bool.false_or]
 rw [aR h.v,show (!((0:Int) != 0))=true from rfl,fN,aR (Eo h),det rfl];rfl
end
structure ME (m:Zc):Prop where
 i0:0<=m.ID
 i1:m.ID<=1000000
 k0:0<=m.Kind
 k1:m.Kind<=6
 c0:0<=m.Company
 c1:m.Company<=999
 f0:0<=m.From
 f1:m.From<=40000
 t0:0<=m.To
 t1:m.To<=40000
 g0 : -1<=m.Registered
 g1:m.Registered<=40000
 lvl:eQ m.Prefix≠0
 ol:m.Origins.length<=20
 oc:∀ s∈m.Origins,sW s=true
 d:DU m.Duty
 v:cV [m]=some 0
theorem ym {s:Xh} (h:sW s=true):s.size=2/\∀ b∈bs s,65<=b.toNat/\b.toNat<=90:=by
 unfold sW at h
 split at h
 ·rename_i a b hab
  simp only [and_eq_true,decide_eq_true_eq] at h
  refine ⟨by rw [qk,hab];rfl,fun x hx=>?_⟩
  unfold bs at hx
  rw [hab] at hx
  simp only [mem_cons,not_mem_nil,or_false] at hx
  rcases hx with rfl | rfl <;> omega
 cases h
theorem wL {s:Xh} (h:sW s=true) {c:UInt8} (hc:¬ (65<=c.toNat/\c.toNat<=90)):mt c s:=fun hm=>hc ((ym h).2 c hm)
def dash:Xh:=⟨#[45]⟩
def yn (m:Zc):Xh:=cond (decide (0<(m.Origins.length:Int))) (bJ m.Origins ⟨#[44]⟩) uD
def yo (m:Zc):Xh:=cond (m.Registered != (-1)) (dL m.Registered) dash
def mP (m:Zc):List Xh:=[dL m.ID,dL m.Kind,m.Prefix,yn m,dL m.Company,dL m.From,dL m.To,yo m]
def kn (m:Zc):Xh:=bJ (mP m++[jB m.Duty]) ⟨#[32]⟩
section
variable {m:Zc} (h:ME m)
include h
theorem vw:(yn m).size<=250/\mt 32 (yn m)/\mt 10 (yn m):=by
 unfold yn
 cases decide (0<(m.Origins.length:Int))
 ·exact ⟨by rw [dq];decide,by unfold mt;rw [dq];decide,by unfold mt;rw [dq];decide⟩
 have hs:=jJ (c:=44) (M:=2) (n:=20) (xs:=m.Origins) (fun x hx=>by rw [(ym (h.oc x hx)).1];exact le_refl 2) h.ol
 exact ⟨by rw [cQ];omega,lB (by decide) fun x hx=>wL (h.oc x hx) (by decide),lB (by decide) fun x hx=>wL (h.oc x hx) (by decide)⟩
theorem FO:(yo m).size<=250/\mt 32 (yo m)/\mt 10 (yo m):=by
 unfold yo
 cases m.Registered != (-1)
 ·exact ⟨by rw [dq];decide,by unfold mt;rw [dq];decide,by unfold mt;rw [dq];decide⟩
 exact ⟨by rw [cQ];have:=gX (n:=m.Registered) (by have:=h.g1;omega);omega,oY (by unfold mQ;decide),oY (by unfold mQ;decide)⟩
theorem tX:∀ x∈mP m,x.size<=250/\mt 32 x/\mt 10 x:=fun x hx=>by
 have fn:∀ n:Int,n<=1000000->(dL n).size<=250/\mt 32 (dL n)/\mt 10 (dL n):=fun n hn=>⟨by have:=gX (n:=n) (by omega);omega,oY (by unfold mQ;decide),oY (by unfold mQ;decide)⟩
 unfold mP at hx
 simp only [mem_cons,not_mem_nil,or_false] at hx
 have h1:=h.i1;have h2:=h.k1;have h3:=h.c1;have h4:=h.f1;have h5:=h.t1
 rcases hx with rfl | rfl | rfl | rfl | rfl | rfl | rfl | rfl
 ·exact fn _ (by omega)
 ·exact fn _ (by omega)
 ·exact ⟨by have:=(mj h.lvl).1;omega,sf h.lvl (by unfold mQ;decide),sf h.lvl (by unfold mQ;decide)⟩
 ·exact vw h
 ·exact fn _ (by omega)
 ·exact fn _ (by omega)
 ·exact fn _ (by omega)
 exact FO h
theorem o2:(kn m).size<=2300:=by
 have:=jJ (c:=32) (M:=250) (n:=9) (xs:=mP m++[jB m.Duty]) (fun x hx=>by
  rcases List.mem_append.1 hx with hx | hx
  ·exact (tX h x hx).1
  rw [List.mem_singleton.1 hx];exact yl h.d) (by simp [mP])
 unfold kn;omega
theorem H8:mt 10 (kn m):=lB (by decide) fun x hx=>by
 rcases List.mem_append.1 hx with hx | hx
 ·exact (tX h x hx).2.2
 rw [List.mem_singleton.1 hx];exact H4 h.d
theorem Ep:eV m=some (kn m):=by
 unfold eV
 have h1:=h.i1;have h2:=h.k1;have h3:=h.c1;have h4:=h.f1;have h5:=h.t1;have h6:=h.g0;have h7:=h.g1
 have e1:cond (decide (0<(m.Origins.length:Int))) (Option.bind (strings_Join m.Origins (⟨#[44]⟩:Xh)) (fun x5=>some x5)) (some (⟨#[42]⟩:Xh))=some (yn m):=by
  have hs:=(vw h).1
  unfold yn at hs ⊢
  cases hd:decide (0<(m.Origins.length:Int))
  ·rfl
  rw [hd,cQ] at hs
  rw [cQ,aR (mi (by omega))];rfl
 have e2:cond (m.Registered != (-1)) (Option.bind (strconv_Itoa m.Registered) (fun x9=>some x9)) (some (⟨#[45]⟩:Xh))=some (yo m):=by
  unfold yo
  cases hd:m.Registered != (-1)
  ·rfl
  have:m.Registered ≠ -1:=by simpa using hd
  rw [cQ,aR (gm (by omega) (by omega))];rfl
 rw [aR e1,aR e2,aR (gm h.i0 (by omega)),aR (gm h.k0 (by omega)),aR (gm h.c0 (by omega)),aR (gm h.f0 (by omega)),aR (gm h.t0 (by omega)),aR (Eo h.d)]
 show Option.bind (strings_Join (mP m++[jB m.Duty]) ⟨#[32]⟩) _=_
 rw [aR (mi (by have:=o2 h;unfold kn at this;omega))];rfl
theorem vx {n:Int} (h0:0<=n) (h1:n<=1000000):cC (dL n)=some (true,n):=by
 have _:=h
 unfold cC
 rw [aR (qm h0 (by omega))]
theorem FP:cond (!decide (yn m=(⟨#[42]⟩:Xh))) (Option.bind (some (yn m)) (fun m10=>Option.bind (bo m10 (⟨#[44]⟩:Xh)) (fun x11=>some x11))) (some [])=some m.Origins:=by
 have hs:=(vw h).1
 unfold yn at hs ⊢
 by_cases h0:0<m.Origins.length
 ·have hd:decide (0<(m.Origins.length:Int))=true:=det (by omega)
  rw [hd,cQ] at hs
  rw [hd,cQ]
  have hne:decide (bJ m.Origins ⟨#[44]⟩=(⟨#[42]⟩:Xh))=false:=bz fun he=>by
   have hm:(42:UInt8)∈bs (bJ m.Origins ⟨#[44]⟩):=by rw [he];simp [bs]
   exact lB (c:=44) (d:=42) (by decide) (fun x hx=>wL (h.oc x hx) (by decide)) hm
  rw [hne,Bool.not_false,cQ,fP,aR (iD (List.length_pos_iff.1 h0) (fun x hx=>wL (h.oc x hx) (by decide)) (by omega))]
 have hd:decide (0<(m.Origins.length:Int))=false:=bz (by omega)
 rw [hd,dq,det (show uD=(⟨#[42]⟩:Xh) from rfl)]
 have:m.Origins=[]:=List.eq_nil_of_length_eq_zero (by omega)
 rw [this];rfl
theorem FQ (b:Bool):cond (!decide (yo m=(⟨#[45]⟩:Xh))) (Option.bind (some (yo m)) (fun m27=>Option.bind (cC m27) (fun x28=>some ((x28.1&&b),x28.2)))) (some (b,(-1)))=some (b,m.Registered):=by
 have h6:=h.g0;have h7:=h.g1
 unfold yo
 cases hd:m.Registered != (-1)
 ·have:m.Registered = -1:=by simpa using hd
  rw [dq,det (show dash=(⟨#[45]⟩:Xh) from rfl),this];rfl
 have:m.Registered ≠ -1:=by simpa using hd
 have hne:decide (dL m.Registered=(⟨#[45]⟩:Xh))=false:=bz fun he=>by
  have hm:(45:UInt8)∈bs (dL m.Registered):=by rw [he];simp [bs]
  exact oY (by unfold mQ;decide) hm
 rw [cQ,hne,Bool.not_false,cQ,fP,aR (vx h (by omega) (by omega))];rfl
theorem FR:gx (kn m)=some (m,true):=by
 unfold gx
 have h1:=h.i1;have h2:=h.k1;have h3:=h.c1;have h4:=h.f1;have h5:=h.t1
 have hsp:ju (kn m) ⟨#[32]⟩ 9=some (mP m++[jB m.Duty]):=Cg (ys:=mP m) (y:=jB m.Duty) (fun x hx=>(tX h x hx).2.1) (by have:=o2 h;unfold kn at this;omega) (by simp [mP])
 rw [aR hsp]
 rw [show ((((mP m++[jB m.Duty]).length:Nat):Int) != 9)=false from rfl,dq]
 rw [show bx (mP m++[jB m.Duty]) 2=some m.Prefix from rfl,show bx (mP m++[jB m.Duty]) 3=some (yn m) from rfl,show bx (mP m++[jB m.Duty]) 0=some (dL m.ID) from rfl,show bx (mP m++[jB m.Duty]) 1=some (dL m.Kind) from rfl,show bx (mP m++[jB m.Duty]) 4=some (dL m.Company) from rfl,show bx (mP m++[jB m.Duty]) 5=some (dL m.From) from rfl,show bx (mP m++[jB m.Duty]) 6=some (dL m.To) from rfl,show bx (mP m++[jB m.Duty]) 7=some (yo m) from rfl,show bx (mP m++[jB m.Duty]) 8=some (jB m.Duty) from rfl]
 rw [fP,fP,aR (FP h),fP,aR (vx h h.i0 (by omega)),fP,aR (vx h h.k0 (by omega)),fP,aR (vx h h.c0 (by omega)),fP,aR (vx h h.f0 (by omega)),fP,aR (vx h h.t0 (by omega)),fP]
 simp only [Bool.and_self]
 rw [aR (FQ h true)]
 dsimp only
 rw [fP,aR (FN h.d)]
 dsimp only
 rw [show ((!true)||((0:Int) != 0))=false from rfl,Bool.not_false,fN]
 have hE:(⟨m.ID,m.Kind,m.Prefix,m.Origins,m.Company,m.From,m.To,m.Registered,m.Duty⟩:Zc)=m:=rfl
 rw [hE,aR h.v,show (false||((0:Int) != 0))=false from rfl,Bool.not_false,fN,aR (Ep h),det rfl];rfl
end
structure MS (l:List Zc):Prop where
 v:cV l=some 0
 e:∀ m∈l,ME m
 len:l.length<=300
theorem Cm:∀ L:List Xh,Lib.join (L.map bs++[[]]) [10]=sK L
 | []=>by rw [List.map_nil,List.nil_append,Lib.join_one];rfl
 | [l]=>by rw [map_singleton,List.singleton_append,jf,Lib.join_one,wI]
 | l::l2::L=>by
  have ih:=Cm (l2::L)
  rw [map_cons,cons_append] at *
  rw [map_cons,cons_append] at *
  rw [jf,ih];exact (yh _ _).symm
theorem H9 {l:List Zc} (h:MS l):kC l=some (eR (sK (l.map kn))):=by
 unfold kC
 have hlen:=h.len
 rw [aR h.v,show ((0:Int) != 0)=false from rfl,dq]
 refine (aR (dt (fun k=>((k:Int),sK ((l.take k).map kn))) l.length (by omega) (sK (l.map kn)) (fun k hk=>?_) ?_)).trans rfl
 ·dsimp only
  have hm:=h.e _ (getElem_mem hk)
  have hs:=o2 hm
  have hl:=qQ (M:=2300) (L:=(l.take k).map kn) fun x hx=>by
   obtain ⟨e,he,rfl⟩:=List.mem_map.1 hx;exact o2 (h.e e (List.mem_of_mem_take he))
  rw [length_map,length_take] at hl
  rw [mr hk,cQ,aR (bf hk),aR (Ep hm),aR (Dn (by omega)),aR (cF (by rw [length_append,dK,length_singleton];omega) (by rw [length_append,dK,length_singleton];omega)),cI hk (by omega),take_succ' hk,map_append,wH,map_singleton,wI,append_assoc]
 dsimp only;rw [fO,take_length];rfl
theorem Dr {l:List Zc} (h:MS l):∃ n,lz (eR (sK (l.map kn)))=some (l,n,0):=by
 unfold lz
 have hlen:=h.len
 have hj:eR (sK (l.map kn))=bJ (l.map kn++[⟨#[]⟩]) ⟨#[10]⟩:=by
  apply iC;rw [kF,map_append];exact (Cm _).symm
 have hts:=qQ (M:=2300) (L:=l.map kn) fun x hx=>by
  obtain ⟨e,he,rfl⟩:=List.mem_map.1 hx;exact o2 (h.e e he)
 rw [length_map] at hts
 have hsp:bo (eR (sK (l.map kn))) ⟨#[10]⟩=some (l.map kn++[⟨#[]⟩]):=by
  have hsz:(bJ (l.map kn++[⟨#[]⟩]) ⟨#[10]⟩).size<4294967281:=by rw [<- hj,cG];omega
  rw [hj]
  exact iD (by simp) (fun x hx=>by
   rcases List.mem_append.1 hx with hx | hx
   ·obtain ⟨e,he,rfl⟩:=List.mem_map.1 hx;exact H8 (h.e e he)
   rw [List.mem_singleton.1 hx];intro hm;cases hm) hsz
 have hl1:(((l.map kn++[(⟨#[]⟩:Xh)]).length:Nat):Int) - 1=((l.length:Nat):Int):=by rw [length_append,length_map];simp
 have i1:sub (l.map kn++[(⟨#[]⟩:Xh)]) 0 ((l.length:Nat):Int)=some (l.map kn):=by
  rw [show (0:Int)=((0:Nat):Int) from rfl,pR (zero_le _) (by simp),drop_zero,List.take_append_of_le_length (by simp),take_of_length_le (by simp)]
 have i2:bx (l.map kn++[(⟨#[]⟩:Xh)]) ((l.length:Nat):Int)=some ⟨#[]⟩:=by
  rw [bf (by simp)]
  congr 1
  rw [List.getElem_append_right (by simp)];simp
 refine ⟨((l.length:Nat):Int),?_⟩
 rw [aR hsp,hl1,ee (by omega) (by omega),aR i1]
 refine (aR (dt (fun k=>(l.take k,(k:Int))) (l.map kn).length (by rw [length_map];omega) (Sum.inl l) (fun k hk=>?_) ?_)).trans ?_
 ·dsimp only
  have hk':k<l.length:=by simpa using hk
  rw [mr hk,cQ,aR (bf hk),getElem_map,aR (FR (h.e _ (getElem_mem hk')))]
  simp only [Bool.not_true,dq]
  rw [aR (cF (by simp;omega) (by simp;omega)),cI hk (by rw [length_map];omega),take_succ' hk']
 ·dsimp only;rw [fO,length_map,take_length];rfl
 dsimp only
 rw [aR i2,det rfl,Bool.not_true,dq,aR h.v];rfl
theorem Y.forN {S T:Type} {body:S->Option (S⊕T)} {R:T->Prop} (n:Nat) (I:Nat->S->Prop) (step:∀ k s,k<n->I k s->Y (body s) (fun o=>match o with | .inl s'=>I (k+1) s' | .inr t=>R t)) (fin:∀ s,I n s->Y (body s) (fun o=>match o with | .inl _=>False | .inr t=>R t)):∀ (m k N:Nat) (s:S),m=n - k->k<=n->m<N->I k s->Y (aW body N s) R:=by
 intro m
 induction m with
 | zero =>
  intro k N s hm hk hN hI
  have:k=n:=by omega
  subst this
  obtain ⟨N,rfl⟩:∃ M,N=M+1:=⟨N - 1,by omega⟩
  obtain ⟨o,h1,h2⟩:=fin s hI
  rw [fe,h1]
  cases o with
  | inl s'=>exact absurd h2 (by simp)
  | inr t=>exact ⟨t,rfl,h2⟩
 | succ m ih =>
  intro k N s hm hk hN hI
  obtain ⟨N,rfl⟩:∃ M,N=M+1:=⟨N - 1,by omega⟩
  obtain ⟨o,h1,h2⟩:=step k s (by omega) hI
  rw [fe,h1]
  cases o with
  | inl s'=>exact ih (k+1) N s' (by omega) (by omega) (by omega) h2
  | inr t=>exact ⟨t,rfl,h2⟩
theorem Y.for {S T:Type} {body:S->Option (S⊕T)} {R:T->Prop} {s0:S} (n:Nat) (hn:n<=1000000000000000) (I:Nat->S->Prop) (h0:I 0 s0) (step:∀ k s,k<n->I k s->Y (body s) (fun o=>match o with | .inl s'=>I (k+1) s' | .inr t=>R t)) (fin:∀ s,I n s->Y (body s) (fun o=>match o with | .inl _=>False | .inr t=>R t)):Y (aW body Va s0) R :=
 Y.forN n I step fin n 0 Va s0 (by omega) (by omega) (mL (by omega)) h0
abbrev Tt {α:Type} (_:α):Prop:=True
theorem yp {a b:List Xh} (ha:a.length<=1000) (hb:b.length<=50):Y (jE a b) Tt:=by
 unfold jE kL
 rw [det (show (b.length:Int)<=50 by omega),cQ,fP]
 refine Y.bind (P:=Tt) (Y.for a.length (by omega) (fun k s=>s=(k:Int)) rfl ?_ ?_) (fun q _=>?_)
 ·rintro k _ hk rfl
  (try dsimp only)
  unfold dH
  rw [mr hk,cQ,aR (bf hk),sG b _ (by omega),fP,fP]
  cases B4 b a[k]
  ·exact Y.ret trivial
  exact Y.ret (cI hk (by omega))
 ·rintro _ rfl
  (try dsimp only)
  rw [fO];exact Y.ret trivial
 cases q <;> exact Y.ret trivial
structure CE (e:Za):Prop where
 c:e.Code.size=2\/e.Code.size=4\/e.Code.size=6\/e.Code.size=8
 tl:e.Terms.length<=6
 tw:∀ t∈e.Terms,t.length<=8/\∀ w∈t,w.size<=12
theorem Qe.ce {e:Za} (h:Qe e):CE e:=⟨(mj h.lvl).1,h.tl,fun t ht=>⟨(h.tw t ht).len,fun w hw=>(kU ((h.tw t ht).word hw)).2⟩⟩
structure CB (b:Zh):Prop where
 e:∀ e∈b.Entries,CE e
 n:∀ n∈b.Notes,n.Words.length<=8/\∀ w∈n.Words,w.size<=12
 le:b.Entries.length<=300
 ln:b.Notes.length<=100
theorem BOK.cb {b:Zh} (h:BOK b):CB b:=⟨fun e he=>(h.e e he).ce,fun n hn=>⟨(h.n n hn).w.len,fun w hw=>(kU ((h.n n hn).w.word hw)).2⟩,h.le,h.ln⟩
theorem sn {l:List Xh} (h:l.length<=1000):bd l=some l:=by
 unfold bd;exact cF (by simp;omega) (by simp;omega)
theorem tm {l:List (List Xh)} (h:l.length<=1000) (hw:∀ t∈l,t.length<=1000):ed l=some l:=by
 unfold ed
 refine (aR (dt (fun k=>(l.take k,(k:Int))) l.length (by omega) l (fun k hk=>?_) ?_)).trans rfl
 ·dsimp only
  rw [mr hk,cQ,aR (bf hk),aR (sn (hw _ (getElem_mem hk))),aR (cF (by simp;omega) (by simp;omega)),cI hk (by omega),take_succ' hk]
 dsimp only;rw [fO,take_length];rfl
theorem wM {e:Za} (h:CE e):gw e=some e:=by
 have h1:=h.tl
 unfold gw
 refine (aR (dt (fun k=>((k:Int),e.Terms.take k)) e.Terms.length (by omega) e.Terms (fun k hk=>?_) ?_)).trans rfl
 ·dsimp only
  rw [mr hk,cQ,aR (bf hk),aR (sn (by have:=(h.tw _ (getElem_mem hk)).1;omega)),aR (cF (by simp;omega) (by simp;omega)),cI hk (by omega),take_succ' hk]
 dsimp only;rw [fO,take_length];rfl
section
variable {b:Zh} (h:CB b)
include h
theorem Ds (code:Xh) {words:List Xh} (hw:words.length<=50):Y (dT b code words) Tt:=by
 have hln:=h.ln
 unfold dT
 refine Y.bind (P:=Tt) (Y.for b.Notes.length (by omega) (fun k s=>s=(k:Int)) rfl ?_ ?_) (fun q _=>?_)
 ·rintro k _ hk rfl
  (try dsimp only)
  rw [mr hk,cQ,aR (bf hk),aR (uz _ _)]
  have hs:=yp (a:=b.Notes[k].Words) (b:=words) (by have:=(h.n _ (getElem_mem hk)).1;omega) hw
  cases pfx code b.Notes[k].Scope
  ·rw [vP,fP,Bool.false_and,dq];exact Y.ret (cI hk (by omega))
  rw [fN]
  refine Y.bind hs (fun x _=>?_)
  cases x
  ·exact Y.ret (cI hk (by omega))
  exact Y.ret trivial
 ·rintro _ rfl
  (try dsimp only)
  rw [fO];exact Y.ret trivial
 cases q <;> exact Y.ret trivial
def AltOK (l:List (List Xh)):Prop:=l.length<=106/\∀ t∈l,t.length<=8/\∀ w∈t,w.size<=12
theorem Ia {e:Za} (he:CE e):Y (cT b e) AltOK:=by
 have hln:=h.ln
 have htl:=he.tl
 unfold cT
 rw [aR (tm (l:=e.Terms) (by omega) (fun t ht=>by have:=(he.tw t ht).1;omega))]
 refine Y.bind (P:=AltOK) (Y.for b.Notes.length (by omega) (fun k s=>s.2=(k:Int)/\s.1.length<=6+k/\∀ t∈s.1,t.length<=8/\∀ w∈t,w.size<=12) ⟨rfl,by simpa using htl,he.tw⟩ ?_ ?_) (fun q hq=>Y.ret hq)
 ·rintro k ⟨l,_⟩ hk ⟨rfl,hl,hw⟩
  dsimp only at hl hw ⊢
  rw [mr hk,cQ,aR (bf hk),cI hk (by omega)]
  have hn:=h.n _ (getElem_mem hk)
  cases decide (b.Notes[k].Target=e.Code)
  ·exact Y.ret ⟨rfl,by dsimp only;omega,hw⟩
  rw [cQ,aR (sn (by omega)),aR (cF (by simp;omega) (by simp;omega))]
  refine Y.ret ⟨rfl,by simp;omega,fun t ht=>?_⟩
  rcases List.mem_append.1 ht with ht | ht
  ·exact hw t ht
  rw [List.mem_singleton.1 ht];exact hn
 rintro ⟨l,_⟩ ⟨rfl,hl,hw⟩
 dsimp only at hl hw ⊢
 rw [fO];exact Y.ret ⟨by omega,hw⟩
theorem AK {e:Za} (he:CE e) {words:List Xh} (hw:words.length<=50):Y (dc b e words) (fun r=>0<=r):=by
 unfold dc
 refine Y.bind (Ds h e.Code hw) (fun x _=>?_)
 cases x
 ·rw [dq]
  refine Y.bind (Ia h he) (fun l hl=>?_)
  obtain ⟨hl1,hl2⟩:=hl
  refine Y.bind (P:=fun r:Int=>0<=r) (Y.for l.length (by omega) (fun k s=>s.2=(k:Int)/\0<=s.1) ⟨rfl,Int.le_refl 0⟩ ?_ ?_) (fun q hq=>Y.ret hq)
  ·rintro k ⟨v,_⟩ hk ⟨rfl,hv⟩
   dsimp only at hv ⊢
   rw [mr hk,cQ,aR (bf hk),cI hk (by omega)]
   have hs:=yp (a:=l[k]) (b:=words) (by have:=(hl2 _ (getElem_mem hk)).1;omega) hw
   cases decide (v<(l[k].length:Int))
   ·exact Y.ret ⟨rfl,hv⟩
   rw [fN]
   refine Y.bind (P:=fun r:Int=>0<=r) (Y.bind hs (fun x _=>?_)) (fun _ hr=>Y.ret ⟨rfl,hr⟩)
   cases x
   ·exact Y.ret hv
   exact Y.ret (Int.natCast_nonneg _)
  rintro ⟨v,_⟩ ⟨rfl,hv⟩
  dsimp only at hv ⊢
  rw [fO];exact Y.ret hv
 exact Y.ret (Int.le_refl 0)
end
def Sb (l:List Za) (r:List Za):Prop:=r.length<=l.length/\∀ x∈r,x∈l
theorem yq {l:List Za} (hl:l.length<=300) {f:Za->Option Bool} (hf:∀ e∈l,Y (f e) Tt):Y (ep l f) (Sb l):=by
 unfold ep
 refine Y.bind (P:=Sb l) (Y.for l.length (by omega) (fun k s=>s.2=(k:Int)/\s.1.length<=k/\∀ x∈s.1,x∈l) ⟨rfl,by simp,by simp⟩ ?_ ?_) (fun q hq=>Y.ret hq)
 ·rintro k ⟨r,_⟩ hk ⟨rfl,hr,hm⟩
  dsimp only at hr hm ⊢
  rw [mr hk,cQ,aR (bf hk),cI hk (by omega)]
  refine Y.bind (P:=fun r'=>r'.length<=k+1/\∀ x∈r',x∈l) (Y.bind (hf _ (getElem_mem hk)) (fun x _=>?_)) (fun r' hr'=>Y.ret ⟨rfl,hr'⟩)
  cases x
  ·exact Y.ret ⟨by omega,hm⟩
  rw [cQ,aR (cF (by simp;omega) (by simp;omega))]
  refine Y.ret ⟨by simp;omega,fun x hx=>?_⟩
  rcases List.mem_append.1 hx with hx | hx
  ·exact hm x hx
  rw [List.mem_singleton.1 hx];exact getElem_mem hk
 rintro ⟨r,_⟩ ⟨rfl,hr,hm⟩
 dsimp only at hr hm ⊢
 rw [fO];exact Y.ret ⟨hr,hm⟩
theorem yr {b:Zh} (h:CB b) {l:List Za} (hl:l.length<=300) (he:∀ e∈l,CE e) {words:List Xh} (hw:words.length<=50):Y (gJ b l words) (Sb l):=by
 unfold gJ
 refine Y.bind (yq hl (fun e hm=>?_)) (fun q hq=>Y.ret hq)
 unfold kg
 exact Y.bind (AK h (he e hm) hw) (fun _ _=>Y.ret trivial)
theorem Er {S T:Type} {body:S->Option (S⊕T)} (s0 s1 s2:S) (t:T) (h0:body s0=some (.inl s1)) (h1:body s1=some (.inl s2)) (h2:body s2=some (.inr t)):aW body Va s0=some t:=by
 have hf:Va=(Va - 3)+1+1+1:=by unfold Va;omega
 rw [hf,fe,h0]
 dsimp only
 rw [fe,h1]
 dsimp only
 rw [fe,h2]
theorem FS {x y:List Xh} (hx:x.length<=1000) (hy:y.length<=1000):dX [x,y]=some (x++y):=by
 unfold dX
 refine (aR (Er ((0:Int),(0:Int)) ((x.length:Int),(1:Int)) ((x.length:Int)+(y.length:Int),(2:Int)) ((x.length:Int)+(y.length:Int)) ?_ ?_ rfl)).trans ?_
 ·dsimp only
  rw [show decide ((0:Int)<(([x,y]:List (List Xh)).length:Int))=true from rfl,cQ,show bx [x,y] 0=some x from rfl,fP,ee (r:=0+(x.length:Int)) (by omega) (by omega),bz (show ¬ 0+(x.length:Int)<0 by omega),dq,Int.zero_add];rfl
 ·dsimp only
  rw [show decide ((1:Int)<(([x,y]:List (List Xh)).length:Int))=true from rfl,cQ,show bx [x,y] 1=some y from rfl,fP,ee (r:=(x.length:Int)+(y.length:Int)) (by omega) (by omega),bz (show ¬ (x.length:Int)+(y.length:Int)<0 by omega),dq];rfl
 have hg:eJ ((x.length:Int)+(y.length:Int))=some []:=by
  unfold eJ
  have:=Hw (b:=16) (n:=x.length+y.length) (by omega) (by omega)
  rw [show ((x.length+y.length:Nat):Int)=(x.length:Int)+(y.length:Int) by omega] at this
  rw [aR this]
 rw [aR hg]
 refine (aR (Er (([]:List Xh),(0:Int)) (x,(1:Int)) (x++y,(2:Int)) (x++y) ?_ ?_ rfl)).trans rfl
 ·dsimp only
  rw [show decide ((0:Int)<(([x,y]:List (List Xh)).length:Int))=true from rfl,cQ,show bx [x,y] 0=some x from rfl,fP,aR (cF (by simp;omega) (by simp;omega))];rfl
 dsimp only
 rw [show decide ((1:Int)<(([x,y]:List (List Xh)).length:Int))=true from rfl,cQ,show bx [x,y] 1=some y from rfl,fP,aR (cF (by omega) (by omega))];rfl
theorem AL {α:Type} {l:List α} {i:Int} (h0:0<=i) (h1:i<(l.length:Int)):Y (bx l i) Tt:=by
 obtain ⟨k,rfl⟩:∃ k:Nat,i=(k:Int):=⟨i.toNat,by omega⟩
 exact ⟨_,bf (by omega),trivial⟩
theorem FT {l:List Xh} (hl:l.length<=1000):Y (dG l) (fun r=>r.length<=l.length):=by
 unfold dG
 by_cases h2:((l.length:Nat):Int)<2
 ·rw [det h2];exact Y.ret (le_refl _)
 rw [bz h2,dq]
 refine Y.bind (P:=fun q:Unit⊕List Xh=>match q with | .inl _=>True | .inr r=>r.length<=l.length) (Y.for (l.length - 1) (by omega) (fun k s=>s=((k+1:Nat):Int)) rfl ?_ ?_) (fun q hq=>?_)
 ·rintro k _ hk rfl
  (try dsimp only)
  have hk1:k+1<l.length:=by omega
  have hp:i64.wrap (((k+1:Nat):Int) - 1)=((k:Nat):Int):=by rw [ee (by omega) (by omega)];omega
  rw [mr hk1,cQ,aR (bf hk1),hp,aR (bf (show k<l.length by omega))]
  cases decide (l[k+1]=l[k])
  ·rw [dq];exact Y.ret (cI hk1 (by omega))
  rw [cQ,aR (pR (show k+1<=l.length by omega) (le_refl _))]
  refine Y.bind (P:=fun p:List Xh×Int=>p.1.length=l.length/\((k+1:Nat):Int)<=p.2/\p.2<=(l.length:Int)) (Y.for (l.length - (k+1) - 1) (by omega) (fun j s=>s.2.2=((j+1:Nat):Int)/\s.1.length=l.length/\((k+1:Nat):Int)<=s.2.1/\s.2.1<=((k+1+j:Nat):Int)) ⟨rfl,rfl,Int.le_refl _,Int.le_refl _⟩ ?_ ?_) (fun p hp2=>?_)
  ·rintro j ⟨r,v,_⟩ hj ⟨rfl,hr,hv1,hv2⟩
   dsimp only at hr hv1 hv2 ⊢
   have hn:(((k+1:Nat):Int)).toNat=k+1:=by omega
   have hq:i64.wrap (((j+1:Nat):Int) - 1)=((j:Nat):Int):=by rw [ee (by omega) (by omega)];omega
   rw [hn,det (show ((j+1:Nat):Int)<((l.length - (k+1):Nat):Int) by omega),cQ,hq]
   refine Y.bind (P:=fun p:List Xh×Int=>p.1.length=l.length/\((k+1:Nat):Int)<=p.2/\p.2<=((k+1+(j+1):Nat):Int)) ?_ (fun p hp3=>?_)
   ·rw [aR (xY (b:=((j+1:Nat):Int)) (by omega))]
    refine Y.bind (AL (by omega) (by omega)) (fun m26 _=>?_)
    rw [aR (xY (b:=((j:Nat):Int)) (by omega))]
    refine Y.bind (AL (by omega) (by omega)) (fun m28 _=>?_)
    cases decide (m26=m28)
    ·rw [Bool.not_false,cQ,aR (xY (b:=((j+1:Nat):Int)) (by omega))]
     refine Y.bind (AL (by omega) (by omega)) (fun m31 _=>?_)
     refine Y.bind (AL (by omega) (by omega)) (fun m32 _=>?_)
     rw [ee (by omega) (by omega)]
     exact Y.ret ⟨by simp [hr],by dsimp only;omega,by dsimp only;omega⟩
    exact Y.ret ⟨hr,by dsimp only;omega,by dsimp only;omega⟩
   exact Y.ret ⟨by dsimp only;rw [ee (by omega) (by omega)];omega,hp3.1,hp3.2.1,hp3.2.2⟩
  ·rintro ⟨r,v,_⟩ ⟨rfl,hr,hv1,hv2⟩
   dsimp only at hr hv1 hv2 ⊢
   have hn:(((k+1:Nat):Int)).toNat=k+1:=by omega
   rw [hn,bz (show ¬ ((l.length - (k+1) - 1+1:Nat):Int)<((l.length - (k+1):Nat):Int) by omega),dq]
   exact Y.ret ⟨hr,hv1,by dsimp only;omega⟩
  obtain ⟨hp3,hp4,hp5⟩:=hp2
  (try dsimp only)
  have e1:sub p.1 p.2 (p.1.length:Int)=some ((p.1.take p.1.length).drop p.2.toNat):=by
   have:=pR (xs:=p.1) (a:=p.2.toNat) (b:=p.1.length) (by omega) (le_refl _)
   rw [show ((p.2.toNat:Nat):Int)=p.2 by omega] at this;exact this
  have hle:p.2.toNat<=(List.take p.2.toNat p.1++List.replicate (l.length - p.2.toNat) Uh).length:=by simp;omega
  have e2:sub (List.take p.2.toNat p.1++List.replicate (l.length - p.2.toNat) Uh) 0 p.2=some (((List.take p.2.toNat p.1++List.replicate (l.length - p.2.toNat) Uh).take p.2.toNat).drop 0):=by
   have:=pR (a:=0) (b:=p.2.toNat) (zero_le _) hle
   rw [show ((p.2.toNat:Nat):Int)=p.2 by omega] at this;exact this
  rw [aR e1,aR e2]
  refine Y.ret ?_
  show (List.drop 0 (List.take _ _)).length<=l.length
  rw [drop_zero,length_take];omega
 ·rintro _ rfl
  (try dsimp only)
  rw [bz (show ¬ ((l.length - 1+1:Nat):Int)<(((l.length:Nat)):Int) by omega)];exact Y.ret trivial
 cases q with
 | inl _=>exact Y.ret (le_refl _)
 | inr r=>exact Y.ret hq
theorem inc_Y {g:Zu} (h:g.Words.length<=8):Y (dQ g) (fun r=>r.length<=9):=by
 unfold dQ pt iO
 rw [FS (by omega) (by simp),fP,fP]
 have hl:(us uS (g.Words++[(⟨#[112,97,114,116,115]⟩:Xh)])).length<=9:=by rw [zi];simp;omega
 refine Y.bind (P:=fun r=>r.length<=9) (Y.bind (FT (by omega)) (fun r hr=>Y.ret (by omega))) (fun r hr=>Y.ret hr)
theorem uJ {α:Type} {P:α->Prop} {l:List α} {i:Int} (h0:0<=i) (h1:i<(l.length:Int)) (h:∀ x∈l,P x):∃ a,bx l i=some a/\P a:=by
 obtain ⟨k,rfl⟩:∃ k:Nat,i=(k:Int):=⟨i.toNat,by omega⟩
 have hk:k<l.length:=by omega
 exact ⟨_,bf hk,h _ (getElem_mem hk)⟩
theorem set_P {α:Type} {P:α->Prop} {l:List α} {n:Nat} {a:α} (h:∀ x∈l,P x) (ha:P a):∀ x∈l.set n a,P x:=fun x hx=>by
 rcases List.mem_or_eq_of_mem_set hx with hx | rfl
 ·exact h x hx
 exact ha
theorem ins_Y {P:Zb->Prop} {f:Zb->Zb->Option Int} (hf:∀ x y,∃ r,f x y=some r) {l:List Zb} (hl:l.length<=1000) (hP:∀ x∈l,P x):Y (bB l 0 (l.length:Int) f) (fun r=>r.length=l.length/\∀ x∈r,P x):=by
 unfold bB
 have e1:i64.wrap (0+1)=1:=by decide
 rw [e1]
 refine Y.bind (P:=fun r:List Zb=>r.length=l.length/\∀ x∈r,P x) (Y.loop (fun s:List Zb×Int=>1<=s.2/\s.2<=1001/\s.1.length=l.length/\∀ x∈s.1,P x) (fun s=>(1001 - s.2).toNat) ⟨by dsimp only;omega,by dsimp only;omega,rfl,hP⟩ (by dsimp only;omega) ?_) (fun r hr=>Y.ret hr)
 rintro ⟨r,v⟩ ⟨h1,h2,h3,h4⟩
 dsimp only at h1 h2 h3 h4 ⊢
 refine Y.cond (fun hc=>?_) (fun _=>Y.ret ⟨h3,h4⟩)
 have hc:=of_decide_eq_true hc
 refine Y.bind (P:=fun r:List Zb=>r.length=l.length/\∀ x∈r,P x) (Y.loop (fun s:List Zb×Int=>0<=s.2/\s.2<(l.length:Int)/\s.1.length=l.length/\∀ x∈s.1,P x) (fun s=>s.2.toNat) ⟨by dsimp only;omega,by dsimp only;omega,h3,h4⟩ (by dsimp only;omega) ?_) (fun r' hr'=>?_)
 ·rintro ⟨q,w⟩ ⟨g1,g2,g3,g4⟩
  dsimp only at g1 g2 g3 g4 ⊢
  cases hw:decide ((0:Int)<w)
  ·simp only [vP,fP,Bool.false_and,dq];exact Y.ret ⟨g3,g4⟩
  have hw:=of_decide_eq_true hw
  obtain ⟨a,ha,hPa⟩:=uJ (l:=q) (i:=w) (by omega) (by omega) g4
  obtain ⟨b,hb,hPb⟩:=uJ (l:=q) (i:=w - 1) (by omega) (by omega) g4
  obtain ⟨c,hc2⟩:=hf a b
  obtain ⟨z,hz,_⟩:=uJ (P:=fun _=>True) (l:=q.set w.toNat b) (i:=w - 1) (by omega) (by rw [List.length_set];omega) (fun _ _=>trivial)
  rw [ee (r:=w - 1) (by omega) (by omega)]
  simp only [fN,ha,hb,hc2,fP,Bool.true_and]
  refine Y.cond (fun _=>?_) (fun _=>Y.ret ⟨g3,g4⟩)
  simp only [hz,fP]
  exact Y.ret ⟨⟨by dsimp only;omega,by dsimp only;omega,by simp only [List.length_set];exact g3,set_P (set_P g4 hPb) hPa⟩,by dsimp only;omega⟩
 rw [ee (r:=v+1) (by omega) (by omega)]
 exact Y.ret ⟨⟨by dsimp only;omega,by dsimp only;omega,hr'.1,hr'.2⟩,by dsimp only;omega⟩
theorem sortC_Y {P:Zb->Prop} {f:Zb->Zb->Option Int} (hf:∀ x y,∃ r,f x y=some r) {l:List Zb} (hl:l.length<=19) (hP:∀ x∈l,P x):Y (bA l f) (fun r=>r.length=l.length/\∀ x∈r,P x):=by
 unfold bA dA
 refine Y.bind (P:=fun r:List Zb=>r.length=l.length/\∀ x∈r,P x) ?_ (fun r hr=>Y.ret hr)
 refine Y.eq (dt (fun _=>(l,(0:Int),(20:Int))) 0 (by omega) (l,(0:Int)) (fun k hk=>absurd hk (by omega)) (by (try dsimp only);rw [bz (by omega)];rfl)) ?_
 dsimp only
 refine Y.bind (ins_Y hf (by omega) hP) (fun r hr=>?_)
 refine Y.eq (dt (fun _=>(20:Int)) 0 (by omega) () (fun k hk=>absurd hk (by omega)) (by (try dsimp only);rw [bz (by omega)];rfl)) ?_
 exact Y.ret hr
theorem cmpI_ex (a b:Int):∃ r,eo a b=some r:=by
 unfold eo jc
 rw [fP,fP]
 cases (a != a) <;> cases (b != b) <;> cases decide (a<b) <;> cases decide (b<a) <;> exact ⟨_,rfl⟩
structure GG (g:Zu):Prop where
 w:g.Words.length<=8
 m:g.Materials.length<=4
 p:g.Parts.length<=3
 pw:∀ p∈g.Parts,p.Words.length<=8
theorem Es {g:Zu} (h:GG g):Y (ik g) (fun r=>r.length<=8/\∀ x∈r,x.Words.length<=8):=by
 have hm:=h.m;have hp:=h.p
 unfold ik
 refine Y.eq (dt (fun k=>(g.Parts.take k,(k:Int))) g.Parts.length (by omega) g.Parts (fun k hk=>by
  dsimp only
  rw [mr hk,cQ,aR (bf hk),aR (sn (by have:=h.pw _ (getElem_mem hk);omega)),aR (cF (by simp;omega) (by simp;omega)),cI hk (by omega),take_succ' hk]) (by dsimp only;rw [fO,take_length];rfl)) ?_
 refine Y.bind (P:=fun r:List Zb=>r.length<=8/\∀ x∈r,x.Words.length<=8) (Y.cond (fun _=>?_) (fun _=>Y.ret ⟨by omega,h.pw⟩)) (fun r hr=>?_)
 ·refine Y.bind (P:=fun r:List Zb=>r.length<=8/\∀ x∈r,x.Words.length<=8) (Y.for g.Materials.length (by omega) (fun k s=>s.2=(k:Int)/\s.1.length<=3+k/\∀ x∈s.1,x.Words.length<=8) ⟨rfl,by simpa using hp,h.pw⟩ ?_ ?_) (fun r hr=>Y.ret hr)
  ·rintro k ⟨r,_⟩ hk ⟨rfl,hr,hx⟩
   dsimp only at hr hx ⊢
   rw [mr hk,cQ,aR (bf hk),aR (cF (by simp;omega) (by simp;omega)),cI hk (by omega)]
   refine Y.ret ⟨rfl,by simp;omega,fun x hx2=>?_⟩
   rcases List.mem_append.1 hx2 with hx2 | hx2
   ·exact hx x hx2
   rw [List.mem_singleton.1 hx2];show ([_]:List Xh).length<=8;simp
  rintro ⟨r,_⟩ ⟨rfl,hr,hx⟩
  dsimp only at hr hx ⊢
  rw [fO];exact Y.ret ⟨by omega,hx⟩
 refine Y.bind (sortC_Y (P:=fun x=>x.Words.length<=8) (fun x y=>?_) (by omega) hr.2) (fun q hq=>Y.ret ⟨by rw [hq.1];exact hr.1,hq.2⟩)
 obtain ⟨c,hc⟩:=cmpI_ex y.Share x.Share
 exact ⟨c,by unfold jF;rw [aR hc]⟩
theorem Dt {m:List (Xh×Bool)} {w:Xh} {v:Bool} (hw:w.size<=12):(∀ p∈m,p.1.size<=12)->(rK m w v).length<=m.length+1/\∀ p∈rK m w v,p.1.size<=12:=by
 induction m with
 | nil=>intro _;exact ⟨by simp [rK],fun p hp=>by rw [List.mem_singleton.1 (show p∈[(w,v)] from hp)];exact hw⟩
 | cons q m ih =>
  intro h
  obtain ⟨a,u⟩:=q
  obtain ⟨i1,i2⟩:=ih fun p hp=>h p (mem_cons_of_mem _ hp)
  unfold rK
  split
  ·exact ⟨by simp,fun p hp=>by
    rcases List.mem_cons.1 hp with rfl | hp
    ·exact hw
    exact h p (mem_cons_of_mem _ hp)⟩
  ·exact ⟨by simp;omega,fun p hp=>by
    rcases List.mem_cons.1 hp with rfl | hp
    ·exact h _ (List.mem_cons_self)
    exact i2 p hp⟩
theorem Ib {a b:List Xh} (ha:a.length<=8) (hw:∀ w∈a,w.size<=12) (hb:b.length<=50):Y (mK a b) Tt:=by
 unfold mK kL pr
 rw [det (show (b.length:Int)<=50 by omega),cQ,fP]
 refine Y.bind (P:=fun m:List (Xh×Bool)=>m.length<=8/\∀ p∈m,p.1.size<=12) (Y.bind (P:=fun m:List (Xh×Bool)=>m.length<=8/\∀ p∈m,p.1.size<=12) (Y.for a.length (by omega) (fun k s=>s.1=(k:Int)/\s.2.length<=k/\∀ p∈s.2,p.1.size<=12) ⟨rfl,by simp,by simp⟩ ?_ ?_) (fun r hr=>Y.ret hr)) (fun m hm=>?_)
 ·rintro k ⟨_,r⟩ hk ⟨rfl,hr,hx⟩
  dsimp only at hr hx ⊢
  rw [mr hk,cQ,aR (bf hk),cI hk (by omega)]
  obtain ⟨i1,i2⟩:=Dt (m:=r) (w:=a[k]) (v:=true) (hw _ (getElem_mem hk)) hx
  exact Y.ret ⟨rfl,by dsimp only;omega,i2⟩
 ·rintro ⟨_,r⟩ ⟨rfl,hr,hx⟩
  dsimp only at hr hx ⊢
  rw [fO];exact Y.ret ⟨by omega,hx⟩
 have h1:(m.all fun p=>sM (.string p.1)&&(dH p.1 b).isSome)=true:=by
  refine List.all_eq_true.2 fun p hp=>?_
  have h2:=hm.2 p hp
  have h3:sM (.string p.1)=true:=by simp [sM];omega
  have h4:(dH p.1 b).isSome=true:=by
   unfold dH
   rw [sG b _ (by omega),fP];rfl
  rw [h3,h4];rfl
 have h5:Nat.ble m.length 1000000=true:=ble_eq_true_of_le (by have:=hm.1;omega)
 rw [h1,h5];exact Y.ret trivial
section
variable {b:Zh} (h:CB b) {g:Zu} (hg:GG g)
include h hg
theorem Ic {e:Za} (he:CE e):Y (gH b e g) Tt:=by
 have hw:=hg.w;have hm:=hg.m;have hp:=hg.p
 unfold gH
 refine Y.bind (Ds h e.Code (by omega)) (fun x _=>?_)
 cases x
 ·rw [dq,aR (sn (by omega))]
  refine Y.bind (P:=fun r:List Xh=>r.length<=12) (Y.for g.Materials.length (by omega) (fun k s=>s.2=(k:Int)/\s.1.length<=8+k) ⟨rfl,by simpa using hw⟩ ?_ ?_) (fun r hr=>?_)
  ·rintro k ⟨r,_⟩ hk ⟨rfl,hr⟩
   dsimp only at hr ⊢
   rw [mr hk,cQ,aR (bf hk),aR (cF (by simp;omega) (by simp;omega)),cI hk (by omega)]
   exact Y.ret ⟨rfl,by simp;omega⟩
  ·rintro ⟨r,_⟩ ⟨rfl,hr⟩
   dsimp only at hr ⊢
   rw [fO];exact Y.ret (by omega)
  refine Y.bind (P:=fun r:List Xh=>r.length<=36) (Y.for g.Parts.length (by omega) (fun k s=>s.2=(k:Int)/\s.1.length<=12+8*k) ⟨rfl,by simpa using hr⟩ ?_ ?_) (fun r2 hr2=>?_)
  ·rintro k ⟨r,_⟩ hk ⟨rfl,hr⟩
   dsimp only at hr ⊢
   have hpw:=hg.pw _ (getElem_mem hk)
   rw [mr hk,cQ,aR (bf hk),aR (cF (by omega) (by omega)),cI hk (by omega)]
   exact Y.ret ⟨rfl,by simp;omega⟩
  ·rintro ⟨r,_⟩ ⟨rfl,hr⟩
   dsimp only at hr ⊢
   rw [fO];exact Y.ret (by omega)
  refine Y.bind (Ia h he) (fun l hl=>?_)
  obtain ⟨hl1,hl2⟩:=hl
  refine Y.bind (P:=Tt) (Y.for l.length (by omega) (fun k s=>s.1=r2/\s.2.2=(k:Int)) ⟨rfl,rfl⟩ ?_ ?_) (fun q _=>Y.ret trivial)
  ·rintro k ⟨_,v,_⟩ hk ⟨rfl,rfl⟩
   dsimp only at hr2 ⊢
   have hx:=hl2 _ (getElem_mem hk)
   rw [mr hk,cQ,aR (bf hk),cI hk (by omega)]
   exact Y.bind (Ib hx.1 hx.2 (by omega)) (fun _ _=>Y.ret ⟨rfl,rfl⟩)
  rintro ⟨_,v,_⟩ ⟨rfl,rfl⟩
  dsimp only
  rw [fO];exact Y.ret trivial
 exact Y.ret trivial
end
theorem keep_ok {l:List Za} (hl:l.length<=300) {f:Za->Option Bool} {p:Za->Bool} (hf:∀ e∈l,f e=some (p e)):ep l f=some (l.filter p):=by
 unfold ep
 refine (aR (dt (fun k=>((l.take k).filter p,(k:Int))) l.length (by omega) (l.filter p) (fun k hk=>?_) ?_)).trans rfl
 ·dsimp only
  have hlen:=List.length_filter_le p (l.take k)
  rw [length_take] at hlen
  rw [mr hk,cQ,aR (bf hk),hf _ (getElem_mem hk),fP,cI hk (by omega),take_succ' hk,List.filter_append]
  cases hp:p l[k]
  ·rw [dq,fP,List.filter_cons_of_neg (by simp [hp]),List.filter_nil,append_nil]
  rw [cQ,aR (cF (by rw [length_singleton];omega) (by rw [length_singleton];omega)),fP,List.filter_cons_of_pos hp,List.filter_nil]
 dsimp only;rw [fO,take_length];rfl
theorem most_Y {b:Zh} (h:CB b) {l:List Za} (hl:l.length<=300) (he:∀ e∈l,CE e) (hne:l≠[]) {words:List Xh} (hw:words.length<=50):Y (f8 b l words) (fun r=>Sb l r/\r≠[]):=by
 obtain ⟨sc,hsc⟩:∃ sc:Za->Int,∀ e∈l,dc b e words=some (sc e)/\0<=sc e:=⟨fun e=>(dc b e words).getD 0,fun e hm=>by
  obtain ⟨r,h1,h2⟩:=AK h (he e hm) hw
  dsimp only
  rw [h1];exact ⟨rfl,h2⟩⟩
 unfold f8
 refine Y.bind (P:=fun m:Int=>∃ e∈l,sc e=m) (Y.for l.length (by omega) (fun k s=>s.1=(k:Int)/\0<=s.2/\(∀ e∈l.take k,sc e<=s.2)/\(s.2=0\/∃ e∈l.take k,sc e=s.2)) ⟨rfl,Int.le_refl 0,by simp,.inl rfl⟩ ?_ ?_) (fun m hm=>?_)
 ·rintro k ⟨_,m⟩ hk ⟨rfl,h0,h1,h2⟩
  dsimp only at h0 h1 h2 ⊢
  have hq:=hsc _ (getElem_mem hk)
  rw [mr hk,cQ,aR (bf hk),hq.1,fP,cI hk (by omega)]
  refine Y.ret ⟨rfl,?_,fun e he2=>?_,?_⟩
  ·dsimp only;unfold eO;split <;> omega
  ·dsimp only
   rw [take_succ' hk] at he2
   rcases List.mem_append.1 he2 with he2 | he2
   ·have:=h1 e he2
    unfold eO;split <;> omega
   rw [List.mem_singleton.1 he2];unfold eO;split <;> omega
  dsimp only
  unfold eO;split
  ·rw [take_succ' hk];exact .inr ⟨l[k],List.mem_append_right _ (List.mem_singleton.2 rfl),rfl⟩
  rcases h2 with h2 | ⟨e,he2,h3⟩
  ·exact .inl h2
  rw [take_succ' hk];exact .inr ⟨e,List.mem_append_left _ he2,h3⟩
 ·rintro ⟨_,m⟩ ⟨rfl,h0,h1,h2⟩
  dsimp only at h0 h1 h2 ⊢
  rw [fO]
  refine Y.ret ?_
  rw [take_length] at h1 h2
  rcases h2 with rfl | h2
  ·obtain ⟨e,hm⟩:=List.exists_mem_of_ne_nil l hne
   refine ⟨e,hm,?_⟩
   have:=h1 e hm
   have:=(hsc e hm).2
   omega
  exact h2
 obtain ⟨e,hm,hs⟩:=hm
 rw [keep_ok (p:=fun e=>sc e == m) hl (fun e he2=>by unfold gG;rw [(hsc e he2).1];rfl),fP]
 refine Y.ret ⟨⟨List.length_filter_le _ _,fun x hx=>(List.mem_filter.1 hx).1⟩,fun hn=>?_⟩
 have hx:e∈l.filter (fun e=>sc e == m):=List.mem_filter.2 ⟨hm,beq_iff_eq.2 hs⟩
 rw [hn] at hx;cases hx
theorem Et {α:Type} {l:List α} (hl:l.length<=300) (hne:l≠[]):∃ a,bx l (i64.wrap ((l.length:Int) - 1))=some a/\a∈l:=by
 have:=List.length_pos_iff.2 hne
 rw [ee (by omega) (by omega)]
 exact uJ (P:=fun x=>x∈l) (by omega) (by omega) (fun _ hx=>hx)
theorem Cn {α:Type} {l:List α} (hne:0<l.length):∃ a,bx l 0=some a/\a∈l:=uJ (P:=fun x=>x∈l) (by omega) (by omega) (fun _ hx=>hx)
def RQ (l:List Za) (q:List Za⊕(Int×Za)):Prop:=match q with | .inl c=>Sb l c/\c≠[] | .inr r=>r.2∈l
theorem Id {b:Zh} (h:CB b) {g:Zu} (hg:GG g) {l:List Za} (hl:l.length<=300) (he:∀ e∈l,CE e) (hne:l≠[]) (basis:Int):Y (j0 b g basis l) (fun r=>r.2∈l):=by
 have hpos:=List.length_pos_iff.2 hne
 have hgw:=hg.w
 unfold j0
 rw [show ((l.length:Int) == 0)=false from beq_false_of_ne (by omega),dq]
 refine Y.cond (fun _=>?_) (fun _=>?_)
 ·obtain ⟨a,h1,h2⟩:=Et hl hne
  rw [aR h1,aR (wM (he a h2))];exact Y.ret h2
 refine Y.bind (P:=RQ l) (Y.cond (fun _=>?_) (fun _=>Y.ret ⟨⟨le_refl _,fun _ hx=>hx⟩,hne⟩)) (fun q hq=>?_)
 ·refine Y.bind (P:=fun w:List Xh=>w.length<=50) (Y.cond (fun _=>Y.bind (inc_Y hgw) (fun r hr=>Y.ret (by omega))) (fun _=>Y.ret (by omega))) (fun w hw=>?_)
  refine Y.bind (most_Y h hl he hne hw) (fun r hr=>?_)
  refine Y.cond (fun _=>?_) (fun _=>Y.ret hr)
  obtain ⟨a,h2,h3⟩:=Cn (List.length_pos_iff.2 hr.2)
  rw [aR h2,aR (wM (he a (hr.1.2 a h3)))];exact Y.ret (show a∈l from hr.1.2 a h3)
 cases q with
 | inr r=>exact Y.ret hq
 | inl c =>
  obtain ⟨⟨c1,c2⟩,c3⟩:=hq
  dsimp only
  have hce:∀ e∈c,CE e:=fun e hm=>he e (c2 e hm)
  refine Y.bind (Es hg) (fun ch hch=>?_)
  refine Y.bind (P:=RQ l) (Y.for ch.length (by omega) (fun k s=>s=(k:Int)) rfl ?_ ?_) (fun q hq=>?_)
  ·rintro k _ hk rfl
   (try dsimp only)
   rw [mr hk,cQ,aR (bf hk),cI hk (by omega)]
   refine Y.bind (yr h (by omega) hce (by have:=hch.2 _ (getElem_mem hk);omega)) (fun r hr=>?_)
   refine Y.cond (fun h1=>?_) (fun _=>Y.cond (fun h1=>?_) (fun _=>Y.ret rfl))
   ·have h1:(r.length:Int)=1:=eq_of_beq h1
    obtain ⟨a,h2,h3⟩:=Cn (l:=r) (by omega)
    rw [aR h2,aR (wM (hce a (hr.2 a h3)))];exact Y.ret (show a∈l from c2 a (hr.2 a h3))
   have h1:=of_decide_eq_true h1
   have hr1:=hr.1
   exact Y.ret (show Sb l r/\r≠[] from ⟨⟨by omega,fun x hx=>c2 x (hr.2 x hx)⟩,List.length_pos_iff.1 (by omega)⟩)
  ·rintro _ rfl
   (try dsimp only)
   rw [fO];exact Y.ret (show Sb l c/\c≠[] from ⟨⟨c1,c2⟩,c3⟩)
  cases q with
  | inr r=>exact Y.ret hq
  | inl d =>
   obtain ⟨⟨d1,d2⟩,d3⟩:=hq
   dsimp only
   obtain ⟨a,h1,h2⟩:=Et (l:=d) (by omega) d3
   rw [aR h1,aR (wM (he a (d2 a h2)))];exact Y.ret (show a∈l from d2 a h2)
theorem vy {s:Xh} {n:Nat} (h:n<=s.size):ff s 0 (n:Int)=some (eR ((bs s).take n)):=by
 unfold ff;rw [if_pos (by omega)]
 congr 1
 show ByteArray.extract _ 0 n=_
 exact se _ _
def BE (parent:Xh) (e:Za):Prop:=CE e/\(parent.size<e.Code.size)
section
variable {b:Zh} (h:CB b)
include h
theorem at_Y (day:Int):Y (jP b day) (fun r=>r.length<=300/\∀ e∈r,CE e):=by
 have hle:=h.le
 unfold jP
 refine Y.bind (P:=fun r:List Za=>r.length<=300/\∀ e∈r,CE e) (Y.for b.Entries.length (by omega) (fun k s=>s.2=(k:Int)/\s.1.length<=k/\∀ e∈s.1,CE e) ⟨rfl,by simp,by simp⟩ ?_ ?_) (fun r hr=>Y.ret hr)
 ·rintro k ⟨r,_⟩ hk ⟨rfl,hr,hx⟩
  dsimp only at hr hx ⊢
  have hc:=h.e _ (getElem_mem hk)
  have htl:=hc.tl
  rw [mr hk,cQ,aR (bf hk),cI hk (by omega)]
  refine Y.bind (P:=fun r:List Za=>r.length<=k+1/\∀ e∈r,CE e) (Y.cond (fun _=>?_) (fun _=>Y.ret ⟨by omega,hx⟩)) (fun r hr=>Y.ret ⟨rfl,hr⟩)
  rw [aR (tm (by omega) (fun t ht=>by have:=(hc.tw t ht).1;omega)),aR (cF (by simp;omega) (by simp;omega))]
  refine Y.ret ⟨by simp;omega,fun e he=>?_⟩
  rcases List.mem_append.1 he with he | he
  ·exact hx e he
  rw [List.mem_singleton.1 he];exact hc
 rintro ⟨r,_⟩ ⟨rfl,hr,hx⟩
 dsimp only at hr hx ⊢
 rw [fO];exact Y.ret ⟨by omega,hx⟩
theorem below_Y (day:Int) (parent:Xh):Y (ir b day parent) (fun r=>r.length<=300/\∀ e∈r,BE parent e):=by
 unfold ir
 refine Y.bind (at_Y h day) (fun l hl=>?_)
 obtain ⟨hl1,hl2⟩:=hl
 refine Y.bind (P:=fun r:List Za=>r.length<=300/\∀ e∈r,BE parent e) (Y.for l.length (by omega) (fun k s=>s.2=(k:Int)/\s.1.length<=k/\∀ e∈s.1,BE parent e) ⟨rfl,by simp,by simp⟩ ?_ ?_) (fun r hr=>Y.ret hr)
 ·rintro k ⟨r,_⟩ hk ⟨rfl,hr,hx⟩
  dsimp only at hr hx ⊢
  have hc:=hl2 _ (getElem_mem hk)
  rw [mr hk,cQ,aR (bf hk),cI hk (by omega)]
  generalize l[k]=e at hc
  have add:parent.size<e.Code.size->Y (app 64 r [e]) (fun r=>r.length<=k+1/\∀ e∈r,BE parent e):=fun hs=>by
   rw [cF (by simp;omega) (by simp;omega)]
   refine Y.ret ⟨by simp;omega,fun x he=>?_⟩
   rcases List.mem_append.1 he with he | he
   ·exact hx x he
   rw [List.mem_singleton.1 he];exact ⟨hc,hs⟩
  have keep:Y (some r) (fun r=>r.length<=k+1/\∀ e∈r,BE parent e):=Y.ret ⟨by omega,hx⟩
  refine Y.bind (P:=fun r:List Za=>r.length<=k+1/\∀ e∈r,BE parent e) ?_ (fun r hr=>Y.ret ⟨rfl,hr⟩)
  by_cases hp:parent=(⟨#[]⟩:Xh)
  ·rw [det hp]
   simp only [Bool.not_true,Bool.false_and,Bool.and_false,vP,fP,Bool.or_false,Bool.true_and]
   refine Y.cond (fun h4=>?_) (fun _=>keep)
   have h4:(e.Code.size:Int)=4:=eq_of_beq h4
   refine Y.bind (add ?_) (fun r hr=>Y.ret hr)
   rw [hp];show 0<e.Code.size;omega
  rw [bz hp]
  simp only [Bool.not_false,Bool.false_and,Bool.true_and,Bool.false_or]
  by_cases h2:(2:Int)<(e.Code.size:Int)
  ·have h3:i64.wrap ((e.Code.size:Int) - 2)=((e.Code.size - 2:Nat):Int):=by
    have:=hc.c
    rw [ee (by omega) (by omega)];omega
   rw [det h2,fN,h3,aR (vy (by omega))]
   simp only [Bool.true_and]
   refine Y.cond (fun h4=>?_) (fun _=>keep)
   have h4:=of_decide_eq_true h4
   refine Y.bind (add ?_) (fun r hr=>Y.ret hr)
   rw [<- h4,cG,length_take,dK];omega
  ·rw [bz h2,vP,fP]
   simp only [Bool.false_and,dq]
   exact keep
 rintro ⟨r,_⟩ ⟨rfl,hr,hx⟩
 dsimp only at hr hx ⊢
 rw [fO];exact Y.ret ⟨by omega,hx⟩
end
theorem AM (l:List Za):Sb l []:=⟨zero_le _,fun x hx=>by cases hx⟩
structure LV (v:Zl):Prop where
 b:CB v.book
 g:GG v.good
 e:∀ e∈v.entries,CE e
 n:v.entries.length<=300
section
variable {v:Zl} (h:LV v)
include h
theorem Ie {e:Za} (he:CE e) {w:List Xh} (hw:w.length<=50):Y (eX e v w) Tt:=by
 unfold eX
 refine Y.bind (Ds h.b e.Code hw) (fun x _=>?_)
 cases x
 ·rw [dq]
  refine Y.bind (Ia h.b he) (fun l hl=>?_)
  obtain ⟨hl1,hl2⟩:=hl
  refine Y.bind (P:=Tt) (Y.for l.length (by omega) (fun k s=>s=(k:Int)) rfl ?_ ?_) (fun q _=>?_)
  ·rintro k _ hk rfl
   (try dsimp only)
   have hx:=hl2 _ (getElem_mem hk)
   rw [mr hk,cQ,aR (bf hk),sG l[k] _ (by omega),fP,cI hk (by omega)]
   have hs:=yp (a:=l[k]) (b:=w) (by omega) hw
   cases B4 l[k] (⟨#[112,97,114,116,115]⟩:Xh)
   ·rw [vP,fP];exact Y.ret rfl
   rw [fN]
   refine Y.bind hs (fun x _=>?_)
   cases x
   ·exact Y.ret rfl
   exact Y.ret trivial
  ·rintro _ rfl
   (try dsimp only)
   rw [fO];exact Y.ret trivial
  cases q <;> exact Y.ret trivial
 exact Y.ret trivial
theorem FU:Y (fL v) (Sb v.entries):=by
 have hgw:=h.g.w
 unfold fL
 refine Y.cond (fun _=>Y.bind (yr h.b h.n h.e (by omega)) (fun r hr=>Y.ret hr)) (fun _=>?_)
 refine Y.bind (inc_Y hgw) (fun w hw=>?_)
 exact Y.bind (yq h.n fun e he=>Ie h (h.e e he) (by omega)) (fun r hr=>Y.ret hr)
theorem AN:Y (eK v) (Sb v.entries):=by
 have hgw:=h.g.w
 unfold eK
 exact Y.cond (fun _=>Y.ret (AM _)) (fun _=>Y.bind (yr h.b h.n h.e (by omega)) (fun r hr=>Y.ret hr))
theorem yM:Y (el v) (Sb v.entries):=by
 unfold el
 refine Y.bind (Es h.g) (fun ch hch=>?_)
 refine Y.bind (yq h.n fun e he=>?_) (fun r hr=>Y.ret hr)
 unfold e9 bW cr
 refine Y.bind (P:=Tt) (Y.bind (P:=Tt) (Y.bind (P:=Tt) (Y.for ch.length (by omega) (fun k s=>s=(k:Int)) rfl ?_ ?_) (fun q _=>?_)) (fun _ _=>Y.ret trivial)) (fun _ _=>Y.ret trivial)
 ·rintro k _ hk rfl
  (try dsimp only)
  rw [mr hk,cQ,aR (bf hk),cI hk (by omega)]
  unfold ez
  refine Y.bind (P:=Tt) (Y.bind (AK h.b (h.e e he) (by have:=hch.2 _ (getElem_mem hk);omega)) (fun _ _=>Y.ret trivial)) (fun x _=>?_)
  cases x
  ·exact Y.ret rfl
  exact Y.ret trivial
 ·rintro _ rfl
  (try dsimp only)
  rw [fO];exact Y.ret trivial
 cases q <;> exact Y.ret trivial
theorem Du:Y (fu v) (Sb v.entries):=by
 unfold fu
 refine Y.cond (fun _=>Y.ret (AM _)) (fun _=>Y.bind (yq h.n fun e _=>?_) (fun r hr=>Y.ret hr))
 exact Y.ret trivial
theorem akin_Y:Y (gU v) (Sb v.entries):=by
 have hn:=h.n
 unfold gU
 refine Y.bind (P:=Tt) (Y.for v.entries.length (by omega) (fun k s=>s.1=(k:Int)) rfl ?_ ?_) (fun m _=>?_)
 ·rintro k ⟨_,m⟩ hk rfl
  dsimp only
  rw [mr hk,cQ,aR (bf hk),cI hk (by omega)]
  exact Y.bind (Ic h.b h.g (h.e _ (getElem_mem hk))) (fun _ _=>Y.ret rfl)
 ·rintro ⟨_,m⟩ rfl
  dsimp only
  rw [fO];exact Y.ret trivial
 refine Y.cond (fun _=>Y.ret (AM _)) (fun _=>Y.bind (yq h.n fun e he=>?_) (fun r hr=>Y.ret hr))
 unfold iI
 exact Y.bind (Ic h.b h.g (h.e e he)) (fun _ _=>Y.ret trivial)
theorem all_Y:Y (iv v) (Sb v.entries):=by
 have _:=h
 unfold iv
 exact Y.cond (fun _=>Y.ret (AM _)) (fun _=>Y.ret ⟨le_refl _,fun _ hx=>hx⟩)
def FV:List Zq:=[(⟨1,86⟩:Zq),(⟨2,87⟩:Zq),(⟨3,88⟩:Zq),(⟨8,89⟩:Zq),(⟨7,90⟩:Zq),(⟨7,91⟩:Zq)]
theorem If {w:Zq} (hw:w∈FV):Y (lG w.choose v) (Sb v.entries):=by
 unfold FV at hw
 simp only [mem_cons,not_mem_nil,or_false] at hw
 rcases hw with rfl | rfl | rfl | rfl | rfl | rfl
 ·exact FU h
 ·exact AN h
 ·exact yM h
 ·exact Du h
 ·exact akin_Y h
 exact all_Y h
end
section
variable {b:Zh} (h:CB b) {g:Zu} (hg:GG g)
include h hg
theorem basis_Y (day:Int) (parent:Xh):Y (kA b day g parent) (fun r=>r.2.length<=300/\∀ e∈r.2,BE parent e):=by
 unfold kA
 refine Y.bind (below_Y h day parent) (fun l hl=>?_)
 have hv:LV (⟨b,g,parent,l⟩:Zl):=⟨h,hg,fun e he=>(hl.2 e he).1,hl.1⟩
 refine Y.bind (P:=fun q:Unit⊕(Int×List Za)=>match q with | .inl _=>True | .inr r=>r.2.length<=300/\∀ e∈r.2,BE parent e) (Y.for 6 (by omega) (fun k s=>s=(k:Int)) rfl ?_ ?_) (fun q hq=>?_)
 ·rintro k _ hk rfl
  (try dsimp only)
  rw [mr hk,cQ]
  have hk2:k<FV.length:=hk
  refine Y.eq (show bx FV (k:Int)=some FV[k] from bf (xs:=FV) hk2) ?_
  rw [cI hk (by omega)]
  refine Y.bind (If hv (getElem_mem hk2)) (fun r hr=>?_)
  refine Y.cond (fun _=>?_) (fun _=>Y.ret rfl)
  have hr1:=hr.1
  have hl1:=hl.1
  exact Y.ret (show r.length<=300/\∀ e∈r,BE parent e from ⟨Nat.le_trans hr1 hl1,fun e he=>hl.2 e (hr.2 e he)⟩)
 ·rintro _ rfl
  (try dsimp only)
  rw [fO];exact Y.ret trivial
 cases q with
 | inl _=>exact Y.ret (show ([]:List Za).length<=300/\∀ e∈([]:List Za),BE parent e from ⟨by simp,by simp⟩)
 | inr r=>exact Y.ret hq
def CR (r:Xh×List Zm×Int):Prop:=r.1.size<=8/\r.2.1.length<=8/\∀ s∈r.2.1,s.Candidates.length<=300
theorem Dv (hb:cN b=some 0) (hgv:fK g=some 0) (day:Int):Y (fM b day g) CR:=by
 have hnil:∀ n:Int,CR ((⟨#[]⟩:Xh),[],n):=fun n=>⟨zero_le 8,by simp,by simp⟩
 unfold fM
 rw [aR hb,show ((0:Int) != 0)=false from rfl,dq,aR hgv,show ((0:Int) != 0)=false from rfl,dq]
 refine Y.cond (fun _=>Y.ret (hnil _)) (fun _=>?_)
 refine Y.bind (P:=fun s:List Zm×Xh=>s.1.length<=8/\s.2.size<=8/\∀ x∈s.1,x.Candidates.length<=300) (Y.loop (fun s=>s.1.length<=s.2.size/\s.2.size<=8/\∀ x∈s.1,x.Candidates.length<=300) (fun s=>10 - s.2.size) ⟨le_refl 0,zero_le 8,by simp⟩ (by omega) ?_) (fun s hs=>?_)
 ·rintro ⟨l,c⟩ ⟨h1,h2,h3⟩
  dsimp only at h1 h2 h3 ⊢
  refine Y.bind (basis_Y h hg day c) (fun x hx=>?_)
  refine Y.cond (fun _=>Y.ret ⟨by dsimp only;omega,h2,h3⟩) (fun hc=>?_)
  have hne:x.2≠[]:=fun hn=>by rw [hn] at hc;cases hc
  refine Y.bind (Id h hg hx.1 (fun e he=>(hx.2 e he).1) hne x.1) (fun y hy=>?_)
  have hx1:=hx.1
  refine Y.bind (P:=fun r:List Xh=>r.length<=300) (Y.for x.2.length (by omega) (fun k s=>s.1=(k:Int)/\s.2.length<=k) ⟨rfl,by simp⟩ ?_ ?_) (fun r hr=>?_)
  ·rintro k ⟨_,r⟩ hk ⟨rfl,hr⟩
   dsimp only at hr ⊢
   rw [mr hk,cQ,aR (bf hk),aR (cF (by simp;omega) (by simp;omega)),cI hk (by omega)]
   exact Y.ret ⟨rfl,by simp;omega⟩
  ·rintro ⟨_,r⟩ ⟨rfl,hr⟩
   dsimp only at hr ⊢
   rw [fO];exact Y.ret (by omega)
  have hbe:=hx.2 _ hy
  have hsz:=hbe.1.c
  have hlt:=hbe.2
  rw [aR (cF (by simp;omega) (by simp;omega))]
  refine Y.ret ⟨⟨by simp;omega,by dsimp only;omega,fun s hs=>?_⟩,by dsimp only;omega⟩
  rcases List.mem_append.1 hs with hs | hs
  ·exact h3 s hs
  rw [List.mem_singleton.1 hs];exact hr
 obtain ⟨l,c⟩:=s
 obtain ⟨h1,h2,h3⟩:=hs
 dsimp only at h1 h2 h3 ⊢
 exact Y.cond (fun _=>Y.ret (hnil _)) (fun _=>Y.ret ⟨h2,h1,h3⟩)
end
theorem vz (a:List Xh) (h:a.length<=1000):iZ a a=some true:=by
 unfold iZ
 rw [bne_self_eq_false,dq]
 exact (aR (dt (fun k=>(k:Int)) a.length (by omega) (.inl ()) (fun k hk=>by
  (try dsimp only)
  rw [mr hk,cQ,aR (bf hk),aR (bf hk),cI hk (by omega),det rfl];rfl) (by (try dsimp only);rw [fO];rfl))).trans rfl
theorem yN (s:Zm) (h:s.Candidates.length<=1000):kx s s=some true:=by
 unfold kx
 rw [det rfl,det rfl,beq_self_eq_true,beq_self_eq_true,vz _ h];rfl
theorem yt (l:List Zm) (hl:l.length<=1000) (h:∀ s∈l,s.Candidates.length<=1000):jQ l l=some true:=by
 unfold jQ
 rw [bne_self_eq_false,dq]
 exact (aR (dt (fun k=>(k:Int)) l.length (by omega) (.inl ()) (fun k hk=>by
  (try dsimp only)
  rw [mr hk,cQ,aR (bf hk),aR (bf hk),aR (yN _ (h _ (getElem_mem hk))),cI hk (by omega)];rfl) (by (try dsimp only);rw [fO];rfl))).trans rfl
theorem line_Y {c:Xh} (h:c.size<=8):Y (gK c) Tt:=by
 unfold gK
 refine Y.bind (P:=fun s:Xh=>8<=s.size) (Y.loop (fun s=>s.size<=9) (fun s=>9 - s.size) (by omega) (by omega) ?_) (fun s hs=>?_)
 ·intro s hs
  refine Y.cond (fun hc=>?_) (fun hc=>Y.ret (by have:=of_decide_eq_false hc;omega))
  have hc:=of_decide_eq_true hc
  have h2:(⟨#[48,48]⟩:Xh).size=2:=rfl
  rw [aR (e8 (by omega))]
  exact Y.ret ⟨by rw [dn];omega,by rw [dn];omega⟩
 rw [aR (show ff s 0 8=_ from vy (n:=8) hs)];exact Y.ret trivial
end SX
end Go.Proofs.YtbedcfghfcmkdaaGreatDoor
