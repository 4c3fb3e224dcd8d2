/- A part of the proof. No condition. -/
import Derived.Test.YtbedcfghfcmkdaaGreatDoorM3
open Bool (and_eq_true)
open Nat (le_refl lt_or_ge mul_one zero_le)
open List (cons_append length_set)
open Go.IntKind (i64 u64 u8 u32 i32)
set_option linter.unusedVariables false
set_option linter.unusedSimpArgs false
set_option maxHeartbeats 4000000
set_option maxRecDepth 100000
namespace Go.Proofs.YtbedcfghfcmkdaaGreatDoor
namespace SX
open Go
attribute [local irreducible] Wa Ka Vc Ye Td Qb Na Ra Pa Vb Ub Nc Jb Uc Qd PF Yc La Lb dU dM ke kV ip jN Yd Ya aW bx app mk gd lb nz sN lC sub ff ji xi rE ja ex lJ eO IntKind.wrap Int.tmod Int.tdiv Op.bytesLess strOfNums
def jQ (p0:(List Zm)) (p1:(List Zm)):Option Bool:=cond ((p0.length:Int) != (p1.length:Int)) (some false) ((aW (S:=Int) (T:=(Unit)⊕(_)) (fun v2=>cond (decide (v2<(p0.length:Int))) ((bx p0 v2).bind fun m6=>(bx p1 v2).bind fun m7=>(kx m6 m7).bind fun x8=>cond (!x8) (some (.inr (.inr false))) (some (.inl (i64.wrap (v2+1))))) (some (.inr (.inl ())))) Va 0).bind fun q=>match q with | .inl _=>some true | .inr e=>some e)
theorem tD {p0:(List Zm)} {p1:(List Zm)} {r:Bool}  (h:jQ p0 p1=some r):PF 16 [pL Zm.enc p0,pL Zm.enc p1] (pB r):=by
 unfold jQ at h
 refine aV ?_
 refine dk Tryz.func16 rfl Tryz.ntmps16 Tryz.results16 rfl (aQ [4] (by kernel_rfl) (bM (bF [6,7,8,9] [(10,pB ((p0.length:Int) != (p1.length:Int)))] (by kernel_rfl) rfl h (fun hc1 h=>?_) fun hc1 h=>?_)))
 ·refine ag ?_
  refine de [(4,pB false)] (by kernel_rfl) ?_
  exact zz r h rfl
 refine af ?_
 refine bM (aA [(5,pI 0)] (by kernel_rfl) (ey h fun q4 hq4 h=>?_))
 refine ap (Y:=Unit×Unit) (fun (_,_)=>[]) (fun (_,_)=>[]) (fun (_,_)=>q4=Sum.inl ()) ?_ ?_
 ·refine aG ?_
  refine aJ (Y:=Unit) (S:=Int) _ hq4 (fun _ v2=>[(0,pL Zm.enc p0),(1,pL Zm.enc p1),(5,pI v2)]) (fun _ v2=>[]) () (nt rfl) bq ?_
  rintro _ v2 o τ hb3;(try dsimp only at hb3);dsimp only [aw]
  refine dV (bF [11,12,13] [(14,pB (decide (v2<(p0.length:Int))))] (by kernel_rfl) rfl hb3 (fun hc5 hb3=>?_) fun hc5 hb3=>?_)
  ·refine af ?_
   refine eT (bE (ρd:=[]) [(0,0),(1,0),(2,0),(3,0),(4,0),(5,0),(6,0),(7,0),(8,1),(9,0)] _ Vh (by kernel_rfl) rfl (ae hb3 fun m6 hm6 hb3=>ae hb3 fun m7 hm7 hb3=>ae hb3 fun x8 hx8 hb3=>ca 10 [] (rg 17 9) [(26,pB (!x8))] (bX 2 Zm.enc hm6 (bX 6 Zm.enc hm7 (aU 8 (ul hx8) aY))) (by kernel_rfl) (bZ (fi rfl hb3 (fun hc9 hb3=>?_) fun hc9 hb3=>?_))))
   ·refine ag ?_
    refine aA [(4,pB false)] (by kernel_rfl) (cK (iq ?_))
    refine aX hb3 (fun ht=>?_);subst ht
    refine aO (aS ?_)
    exact zz r h rfl
   refine af ?_
   refine eH (ah [15,16] [(5,pI (i64.wrap (v2+1)))] (by kernel_rfl) ?_)
   exact aT hb3 () (nt rfl) bq
  refine aL ?_
  refine cJ hb3 (fun ht=>an rfl ?_)
  exact am ((),()) qr bq ht.symm
 rintro ⟨_,_⟩ τ hz;(try dsimp only at hz);subst q4;(try dsimp only at h);dsimp only [aw]
 refine cH [(4,pB true)] (by kernel_rfl) (cK ?_)
 exact zz r h rfl
def gK (p0:Xh):Option Xh:=(aW (S:=Xh) (T:=(Xh)) (fun v1=>cond (decide ((v1.size:Int)<8)) ((lC v1 (⟨#[48,48]⟩:Xh)).bind fun s6=>some (.inl s6)) (some (.inr v1))) Va p0).bind fun v2=>(ff v2 0 8).bind fun s7=>some s7
theorem oQ {p0:Xh} {r:Xh}  (h:gK p0=some r):PF 17 [pS p0] (pS r):=by
 unfold gK at h
 refine aV ?_
 refine dk Tryz.func17 rfl Tryz.ntmps17 Tryz.results17 rfl (aQ [2] (by kernel_rfl) (cP h fun q4 hq4 h=>?_))
 refine ap (Y:=Unit×Xh) (fun (_,v2)=>[(0,pS v2)]) (fun (_,v2)=>[]) (fun (_,v2)=>q4=v2) ?_ ?_
 ·refine aG ?_
  refine aJ (Y:=Unit) (S:=Xh) _ hq4 (fun _ v1=>[(0,pS v1)]) (fun _ v1=>[]) () (oC rfl) bq ?_
  rintro _ v1 o τ hb3;(try dsimp only at hb3);dsimp only [aw]
  refine dV (bF [3,4] [(5,pB (decide ((v1.size:Int)<8)))] (by kernel_rfl) rfl hb3 (fun hc5 hb3=>?_) fun hc5 hb3=>?_)
  ·refine af ?_
   refine aD (aG (ae hb3 fun s6 hs6 hb3=>ai [] [6,7] [(0,pS s6)] (ml 1 hs6 aY) (by kernel_rfl) (aF ?_)))
   exact aT hb3 () (oC rfl) bq
  refine aL ?_
  refine cJ hb3 (fun ht=>an rfl ?_)
  exact am ((),v1) (oC rfl) bq ht.symm
 rintro ⟨_,v2⟩ τ hz;(try dsimp only at hz);subst q4;(try dsimp only at h);dsimp only [aw]
 refine ag (ae h fun s7 hs7 h=>ai [] [8,9] [(2,pS s7)] (yC 1 hs7 aY) (by kernel_rfl) (cK ?_))
 exact zz r h rfl
def lE (p0:Zc) (p1:Int):Option Bool:=some (((decide (p0.From<=p1))&&(decide (p1<p0.To)))||(((p0.Registered != (-1))&&(decide (p0.Registered<=p1)))&&(decide (p1<p0.From))))
theorem tE {p0:Zc} {p1:Int} {r:Bool}  (h:lE p0 p1=some r):PF 151 [.agg (bL p0),pI p1] (pB r):=by
 unfold lE at h
 refine aV ?_
 refine dk Tryz.func151 rfl Tryz.ntmps151 Tryz.results151 rfl (cL rfl (be (cs:=(bL p0)) rfl rfl (fun b1=>aZ [4] (by kernel_rfl) (br (aK [0,0,0,0,0] (rg 5 27) [(4,pB (((decide (p0.From<=p1))&&(decide (p1<p0.To)))||(((p0.Registered != (-1))&&(decide (p0.Registered<=p1)))&&(decide (p1<p0.From)))))] (by kernel_rfl) (cK ?_))))))
 exact zz r h rfl
def fI (p0:Zc) (p1:Xh) (p2:Xh) (p3:Int) (p4:Int):Option Bool:=(lE p0 p4).bind fun x2=>(gd x2 (gF p1 p0.Prefix)).bind fun x3=>(gd ((x2&&x3)&&(!((p0.Origins.length:Int) == 0))) (ck p0.Origins p2)).bind fun x4=>some (((x2&&x3)&&(((p0.Origins.length:Int) == 0)||x4))&&((p0.Company == 0)||(p0.Company == p3)))
theorem um {p0:Zc} {p1:Xh} {p2:Xh} {p3:Int} {p4:Int} {r:Bool}  (h:fI p0 p1 p2 p3 p4=some r):PF 99 [.agg (bL p0),pS p1,pS p2,pI p3,pI p4] (pB r):=by
 unfold fI at h
 refine aV ?_
 refine dk Tryz.func99 rfl Tryz.ntmps99 Tryz.results99 rfl (cL rfl (be (cs:=(bL p0)) rfl rfl (fun b1=>aZ [10] (by kernel_rfl) (cP h fun x2 hx2 h=>ae h fun x3 hx3 h=>ae h fun x4 hx4 h=>ai [0,0,0,0,0,0] (rg 11 32) [(10,pB (((x2&&x3)&&(((p0.Origins.length:Int) == 0)||x4))&&((p0.Company == 0)||(p0.Company == p3))))] (aU 2 (tE hx2) (iJ 7 (fun hc=>nL (fU hx3 hc)) (iJ 18 (fun hc=>fH (fU hx4 hc)) aY))) (by kernel_rfl) (cK ?_)))))
 exact zz r h rfl
def eA (p0:Zc) (p1:Zc):Option Bool:=cond ((p0.Prefix.size:Int) != (p1.Prefix.size:Int)) (some (decide ((p1.Prefix.size:Int)<(p0.Prefix.size:Int)))) (cond ((p0.Company != 0) != (p1.Company != 0)) (some (p0.Company != 0)) (cond ((p0.Origins.length:Int) != (p1.Origins.length:Int)) (some (((p1.Origins.length:Int) == 0)||(((p0.Origins.length:Int) != 0)&&(decide ((p0.Origins.length:Int)<(p1.Origins.length:Int)))))) (some (decide (p1.ID<p0.ID)))))
theorem sP {p0:Zc} {p1:Zc} {r:Bool}  (h:eA p0 p1=some r):PF 100 [.agg (bL p0),.agg (bL p1)] (pB r):=by
 unfold eA at h
 refine aV ?_
 refine dk Tryz.func100 rfl Tryz.ntmps100 Tryz.results100 rfl (cL rfl (be (cs:=(bL p0)) rfl rfl (fun b1=>aj rfl (be (cs:=(bL p1)) rfl rfl (fun b2=>aZ [4] (by kernel_rfl) (bM (aK [1,0] (rg 5 6) [(11,pB ((p0.Prefix.size:Int) != (p1.Prefix.size:Int)))] (by kernel_rfl) (fi rfl h (fun hc3 h=>?_) fun hc3 h=>?_))))))))
 ·refine ag ?_
  refine aK [1,0] (rg 12 7) [(4,pB (decide ((p1.Prefix.size:Int)<(p0.Prefix.size:Int))))] (by kernel_rfl) (sO ?_)
  exact zz r h rfl
 refine af ?_
 refine bM (aK [1,0] (rg 19 6) [(25,pB ((p0.Company != 0) != (p1.Company != 0)))] (by kernel_rfl) (fi rfl h (fun hc4 h=>?_) fun hc4 h=>?_))
 ·refine ag ?_
  refine aK [1] [26,27,28] [(4,pB (p0.Company != 0))] (by kernel_rfl) (sO ?_)
  exact zz r h rfl
 refine af ?_
 refine bM (aK [1,0] (rg 29 6) [(35,pB ((p0.Origins.length:Int) != (p1.Origins.length:Int)))] (by kernel_rfl) (fi rfl h (fun hc5 h=>?_) fun hc5 h=>?_))
 ·refine ag ?_
  refine aK [0,1,1,0] (rg 36 19) [(4,pB (((p1.Origins.length:Int) == 0)||(((p0.Origins.length:Int) != 0)&&(decide ((p0.Origins.length:Int)<(p1.Origins.length:Int))))))] (by kernel_rfl) (sO ?_)
  exact zz r h rfl
 refine af ?_
 refine br (aK [1,0] (rg 55 5) [(4,pB (decide (p1.ID<p0.ID)))] (by kernel_rfl) (cK ?_))
 exact zz r h rfl
def iw (p0:(List Zc)) (p1:Xh) (p2:Xh) (p3:Int) (p4:Int):Option (List Zc):=(aW (S:=(List Zc)×Int) (T:=((List Zc))) (fun (l2,v5)=>cond (decide (v5<=6)) (((aW (S:=Int×Int) (T:=(Int)) (fun (v19,v20)=>cond (decide (v20<(p0.length:Int))) (((bx p0 v20).bind fun m29=>(gd (m29.Kind == v5) (fI m29 p1 p2 p3 p4)).bind fun x31=>(gd (((m29.Kind == v5)&&x31)&&(!(decide (v19<0)))) (bx p0 v19)).bind fun m32=>(gd (((m29.Kind == v5)&&x31)&&(!(decide (v19<0)))) (eA m29 m32)).bind fun x33=>cond (((m29.Kind == v5)&&x31)&&((decide (v19<0))||x33)) (some v20) (some v19)).bind fun v27=>some (.inl (v27,(i64.wrap (v20+1))))) (some (.inr v19))) Va ((-1),0)).bind fun v22=>cond (decide (0<=v22)) ((bx p0 v22).bind fun m36=>(bd m36.Origins).bind fun x38=>(app 144 l2 [(⟨m36.ID,m36.Kind,m36.Prefix,x38,m36.Company,m36.From,m36.To,m36.Registered,m36.Duty⟩:Zc)]).bind fun l44=>some l44) (some l2)).bind fun l17=>some (.inl (l17,(i64.wrap (v5+1))))) (some (.inr l2))) Va (([]:List Zc),1)).bind fun l9=>some l9
theorem rl {p0:(List Zc)} {p1:Xh} {p2:Xh} {p3:Int} {p4:Int} {r:(List Zc)}  (h:iw p0 p1 p2 p3 p4=some r):PF 50 [pL Zc.enc p0,pS p1,pS p2,pI p3,pI p4] (pL Zc.enc r):=by
 unfold iw at h
 refine aV ?_
 refine dk Tryz.func50 rfl Tryz.ntmps50 Tryz.results50 rfl (aQ [10] (by kernel_rfl) (br (aA [(11,pN)] (by kernel_rfl) (bM (aA [(12,pI 1)] (by kernel_rfl) (aD (bC 81 15 (ae h fun q11 hq11 h=>?_))))))))
 refine ap (Y:=(Option Addr×Nat)×((List Zc))) (fun ((a7,c8),l9)=>[(11,pO a7 l9.length c8)]) (fun ((a7,c8),l9)=>[Qa.row a7 l9.length c8 81 15 (List.map Zc.enc l9)]) (fun ((a7,c8),l9)=>q11=l9) ?_ ?_
 ·refine aG ?_
  refine aJ (Y:=Option Addr×Nat) (S:=(List Zc)×Int) _ hq11 (fun (a3,c4) (l2,v5)=>[(0,pL Zc.enc p0),(1,pS p1),(2,pS p2),(3,pI p3),(4,pI p4),(11,pO a3 l2.length c4),(12,pI v5)]) (fun (a3,c4) (l2,v5)=>[Qa.row a3 l2.length c4 81 15 (List.map Zc.enc l2)]) (none,0) (yB rfl) bN ?_
  rintro ⟨a3,c4⟩ ⟨l2,v5⟩ o τ hb10;(try dsimp only at hb10);dsimp only [aw]
  refine dV (bF [17] [(18,pB (decide (v5<=6)))] (by kernel_rfl) rfl hb10 (fun hc13 hb10=>?_) fun hc13 hb10=>?_)
  ·refine af ?_
   refine cP hb10 fun q18 hq18 hb10=>?_
   refine ap (Y:=(Option Addr×Nat)×((List Zc))) (fun ((a15,c16),l17)=>[(0,pL Zc.enc p0),(1,pS p1),(2,pS p2),(3,pI p3),(4,pI p4),(11,pO a15 l17.length c16),(12,pI v5)]) (fun ((a15,c16),l17)=>[Qa.row a15 l17.length c16 81 15 (List.map Zc.enc l17)]) (fun ((a15,c16),l17)=>q18=l17) ?_ ?_
   ·skip
    refine rx (aA [(13,pI (-1))] (by kernel_rfl) (bM (aA [(21,pL Zc.enc p0),(22,pI (p0.length:Int)),(23,pI 0)] (by kernel_rfl) (ey hq18 fun q24 hq24 hq18=>?_))))
    refine ap (Y:=Unit×Int) (fun (_,v22)=>[(0,pL Zc.enc p0),(1,pS p1),(2,pS p2),(3,pI p3),(4,pI p4),(11,pO a3 l2.length c4),(12,pI v5),(13,pI v22)]) (fun (_,v22)=>[Qa.row a3 l2.length c4 81 15 (List.map Zc.enc l2)]) (fun (_,v22)=>q24=v22) ?_ ?_
    ·refine aG ?_
     refine aJ (Y:=Unit) (S:=Int×Int) _ hq24 (fun _ (v19,v20)=>[(0,pL Zc.enc p0),(1,pS p1),(2,pS p2),(3,pI p3),(4,pI p4),(11,pO a3 l2.length c4),(12,pI v5),(13,pI v19),(21,pL Zc.enc p0),(22,pI (p0.length:Int)),(23,pI v20)]) (fun _ (v19,v20)=>[Qa.row a3 l2.length c4 81 15 (List.map Zc.enc l2)]) () (jK rfl (jK rfl (wv rfl))) bN ?_
     rintro _ ⟨v19,v20⟩ o τ hb23;(try dsimp only at hb23);dsimp only [aw]
     refine cH [(24,pB (decide (v20<(p0.length:Int))))] (by kernel_rfl) (br (fh rfl hb23 (fun hc25 hb23=>?_) fun hc25 hb23=>?_))
     ·refine af ?_
      refine cP hb23 fun q28 hq28 hb23=>?_
      refine ap (Y:=Unit×Int) (fun (_,v27)=>[(0,pL Zc.enc p0),(1,pS p1),(2,pS p2),(3,pI p3),(4,pI p4),(11,pO a3 l2.length c4),(12,pI v5),(13,pI v27),(21,pL Zc.enc p0),(22,pI (p0.length:Int)),(23,pI v20)]) (fun (_,v27)=>[Qa.row a3 l2.length c4 81 15 (List.map Zc.enc l2)]) (fun (_,v27)=>q28=v27) ?_ ?_
      ·skip
       refine rx (ae hq28 fun m29 hm29 hq28=>cS 3 [] [26] [(25,pI v20),(27,.agg (bL m29))] (bX 1 Zc.enc hm29 aY) (by kernel_rfl) (aj rfl (aP (cs:=[pI 0,pI 0,pS Uh,pN,pI 0,pI 0,pI 0,pI 0,pI 0,pI 0,pI 0,pB false,pI 0,pB false,pI 0]) rfl rfl rfl rfl (fun b30=>ba 1 [(14,pI v20)] (by kernel_rfl) (aM rfl rfl (al (vs:=(bL m29)) rfl rfl rfl rfl rfl bT (gr (gr (gr (gr (gr (gr GT)))))) (au (br (bE (ρd:=[]) [(0,0),(1,0),(2,0),(3,0),(4,0),(5,0),(6,0),(7,0),(8,0),(9,0),(10,1),(11,0),(12,0),(13,0),(14,0),(15,0),(16,0),(17,0),(18,0),(19,0),(20,0),(21,1),(22,0),(23,0)] _ Vh (by kernel_rfl) rfl (ae hq28 fun x31 hx31 hq28=>ae hq28 fun m32 hm32 hq28=>ae hq28 fun x33 hx33 hq28=>ca 24 [0,0,0] (rg 28 23) [(51,pB (((m29.Kind == v5)&&x31)&&((decide (v19<0))||x33)))] (iJ 10 (fun hc=>um (fU hx31 hc)) (xt 19 Zc.enc (fU hm32) (iJ 21 (fun hc=>sP (fU hx33 hc)) aY))) (by kernel_rfl) (bZ (fi rfl hq28 (fun hc34 hq28=>?_) fun hc34 hq28=>?_))))))))))))
       ·refine ah [52] [(13,pI v20)] (by kernel_rfl) ?_
        refine aF ?_
        obtain rfl:=osi hq28
        exact am ((),v20) (jK rfl (jK rfl (wv rfl))) (bg (aC aN) bq) rfl
       refine af ?_
       refine aF ?_
       obtain rfl:=osi hq28
       exact am ((),v19) (jK rfl (jK rfl (wv rfl))) (bg (aC aN) bq) rfl
      rintro ⟨_,v27⟩ τ hz;(try dsimp only at hz);subst q28;(try dsimp only at hb23);dsimp only [aw]
      refine ah [53] [(23,pI (i64.wrap (v20+1)))] (by kernel_rfl) ?_
      exact aT hb23 () (jK rfl (jK rfl (wv rfl))) bN
     refine aL ?_
     refine cJ hb23 (fun ht=>an rfl ?_)
     exact am ((),v19) (Iq rfl) bN ht.symm
    rintro ⟨_,v22⟩ τ hz;(try dsimp only at hz);subst q24;(try dsimp only at hq18);dsimp only [aw]
    refine ag (bF [54] [(55,pB (decide (0<=v22)))] (by kernel_rfl) rfl hq18 (fun hc35 hq18=>?_) fun hc35 hq18=>?_)
    ·refine ag ?_
     refine ae hq18 fun m36 hm36 hq18=>cS 4 [] [56,57,58] [(59,.agg (bL m36))] (bX 2 Zc.enc hm36 aY) (by kernel_rfl) (aj rfl (aP (cs:=[pI 0,pI 0,pS Uh,pN,pI 0,pI 0,pI 0,pI 0,pI 0,pI 0,pI 0,pB false,pI 0,pB false,pI 0]) rfl rfl rfl rfl (fun b37=>aM rfl rfl (al (vs:=(bL m36)) rfl rfl rfl rfl rfl bT (gr (gr (gr (gr (gr (gr GT)))))) (au (cP hq18 fun x38 hx38 hq18=>ak (bH 2 [0] [60] [(61,pL eS m36.Origins)] (by kernel_rfl) ?_)))))))
     refine aj rfl (aI rfl rfl (ρ1:=[]) Vh (cO hx38) ?_);rintro _ _ ⟨a39,c40,rfl,rfl⟩
     refine ba 1 [(63,pP b37 3)] (by kernel_rfl) (aM rfl rfl (al (vs:=[pO a39 x38.length c40]) rfl rfl rfl rfl rfl (cE bT) (bV (bV (bV ii))) (au (aD (fC 1 [(64,pO a3 l2.length c4)] (by kernel_rfl) ?_)))))
     refine kH (css:=List.map eS x38) (a:=a39) (by exact aN) ?_
     refine iR (k:=3) (enc:=eS) (xs:=x38) (b:=b37) (a:=a39) rfl eG (cE bT) (dE 1 [1] [(65,.agg [pI m36.ID,pI m36.Kind,pS m36.Prefix,pL eS x38,pI m36.Company,pI m36.From,pI m36.To,pI m36.Registered,pI m36.Duty.Rate,pI m36.Duty.Amount,pI m36.Duty.Per,pB m36.Duty.HasMost,pI m36.Duty.Most,pB m36.Duty.HasLeast,pI m36.Duty.Least])] (by kernel_rfl) (aj rfl (bp rfl rfl rfl rfl rfl (eE rfl jy) rfl rfl rfl rfl (fun b42=>ae hq18 fun l44 hl44 hq18=>?_))))
     refine aj rfl (bw (enc:=Zc.enc) rfl rfl rfl rfl rfl rfl rfl rfl rfl eG (by exact aC (aC (aC aN))) hl44 (fun a45 c46=>?_))
     refine aE [(11,pO a45 l44.length c46)] (by kernel_rfl) (aF ?_)
     obtain rfl:=osi hq18
     exact am ((a45,c46),l44) (yB rfl) bN rfl
    refine af ?_
    refine aF ?_
    obtain rfl:=osi hq18
    exact am ((a3,c4),l2) (yB rfl) bN rfl
   rintro ⟨⟨a15,c16⟩,l17⟩ τ hz;(try dsimp only at hz);subst q18;(try dsimp only at hb10);dsimp only [aw]
   refine ah [19,20] [(12,pI (i64.wrap (v5+1)))] (by kernel_rfl) ?_
   exact aT hb10 (a15,c16) (yB rfl) bN
  refine aL ?_
  refine cJ hb10 (fun ht=>an rfl ?_)
  exact am ((a3,c4),l2) (oC rfl) bN ht.symm
 rintro ⟨⟨a7,c8⟩,l9⟩ τ hz;(try dsimp only at hz);subst q11;(try dsimp only at h);dsimp only [aw]
 refine ag (ah [68] [(10,pO a7 l9.length c8)] (by kernel_rfl) (aD ?_))
 refine fj (enc:=Zc.enc) (xs:=l9) 10 rfl (by exact aN) ?_
 refine bi ?_
 exact zz r h rfl
def cM (p0:(List Zc)) (p1:(Zc->Option Bool)):Option Int:=(aW (S:=Int) (T:=(Unit)⊕(_)) (fun v1=>cond (decide (v1<(p0.length:Int))) ((bx p0 v1).bind fun m5=>(p1 m5).bind fun x6=>cond x6 (some (.inr (.inr v1))) (some (.inl (i64.wrap (v1+1))))) (some (.inr (.inl ())))) Va 0).bind fun q=>match q with | .inl _=>some (-1) | .inr e=>some e
theorem jz {p0:(List Zc)} {p1:(Zc->Option Bool)} {r:Int} {g1:PV} (hg1:∀ {y0:Zc} {w:Bool},p1 y0=some w->Yc g1 [.agg (bL y0)] (pB w)) (h:cM p0 p1=some r):PF 102 [pL Zc.enc p0,g1] (pI r):=by
 unfold cM at h
 refine aV ?_
 refine dk Tryz.func102 rfl Tryz.ntmps102 Tryz.results102 rfl (aQ [4] (by kernel_rfl) (bM (ah [6] [(7,pI (p0.length:Int)),(8,pI 0)] (by kernel_rfl) (ey h fun q3 hq3 h=>?_))))
 refine ap (Y:=Unit×Unit) (fun (_,_)=>[]) (fun (_,_)=>[]) (fun (_,_)=>q3=Sum.inl ()) ?_ ?_
 ·refine aG ?_
  refine aJ (Y:=Unit) (S:=Int) _ hq3 (fun _ v1=>[(0,pL Zc.enc p0),(1,g1),(7,pI (p0.length:Int)),(8,pI v1)]) (fun _ v1=>[]) () (jC rfl) bq ?_
  rintro _ v1 o τ hb2;(try dsimp only at hb2);dsimp only [aw]
  refine cH [(9,pB (decide (v1<(p0.length:Int))))] (by kernel_rfl) (br (fh rfl hb2 (fun hc4 hb2=>?_) fun hc4 hb2=>?_))
  ·refine af ?_
   refine eT (ah [10] [(5,pI v1)] (by kernel_rfl) (cP hb2 fun m5 hm5 hb2=>ae hb2 fun x6 hx6 hb2=>ai [] (rg 11 5) [(16,pB x6)] (bX 3 Zc.enc hm5 (yD 5 (hg1 hx6) aY)) (by kernel_rfl) (fi rfl hb2 (fun hc7 hb2=>?_) fun hc7 hb2=>?_)))
   ·refine ag ?_
    refine ah [17] [(4,pI v1)] (by kernel_rfl) (cK (iq ?_))
    refine aX hb2 (fun ht=>?_);subst ht
    refine aO (aS ?_)
    exact zz r h rfl
   refine af ?_
   refine eH (ah [18] [(8,pI (i64.wrap (v1+1)))] (by kernel_rfl) ?_)
   exact aT hb2 () (jC rfl) bq
  refine aL ?_
  refine cJ hb2 (fun ht=>an rfl ?_)
  exact am ((),()) qr bq ht.symm
 rintro ⟨_,_⟩ τ hz;(try dsimp only at hz);subst q3;(try dsimp only at h);dsimp only [aw]
 refine cH [(4,pI (-1))] (by kernel_rfl) (cK ?_)
 exact zz r h rfl
def bO (p0:(List Zc)) (p1:(Zc->Option Bool)):Option Bool:=(cM p0 p1).bind fun x1=>some (decide (0<=x1))
theorem je {p0:(List Zc)} {p1:(Zc->Option Bool)} {r:Bool} {g1:PV} (hg1:∀ {y0:Zc} {w:Bool},p1 y0=some w->Yc g1 [.agg (bL y0)] (pB w)) (h:bO p0 p1=some r):PF 51 [pL Zc.enc p0,g1] (pB r):=by
 unfold bO at h
 refine aV ?_
 refine dk Tryz.func51 rfl Tryz.ntmps51 Tryz.results51 rfl (aQ [4] (by kernel_rfl) (cP h fun x1 hx1 h=>ai [] [5,6,7,8] [(4,pB (decide (0<=x1)))] (aU 2 (jz hg1 hx1) aY) (by kernel_rfl) (cK ?_)))
 exact zz r h rfl
def jR (p0:Zc):Option Bool:=some (p0.Kind == 1)
theorem tF {p0:Zc} {r:Bool}  (h:jR p0=some r):PF 52 [.agg (bL p0)] (pB r):=by
 unfold jR at h
 refine aV ?_
 refine dk Tryz.func52 rfl Tryz.ntmps52 Tryz.results52 rfl (cL rfl (be (cs:=(bL p0)) rfl rfl (fun b1=>aZ [2] (by kernel_rfl) (br (aK [0] [3,4,5] [(2,pB (p0.Kind == 1))] (by kernel_rfl) (cK ?_))))))
 exact zz r h rfl
def jS (p0:Int) (p1:(List Int)):Option Int:=cond (decide (1000<(p1.length:Int))) (some (8:Int)) (cond ((decide (p0<0))||(decide (1000000000000<p0))) (some (2:Int)) ((aW (S:=Int) (T:=(Unit)⊕(_)) (fun v3=>cond (decide (v3<(p1.length:Int))) ((bx p1 v3).bind fun m7=>cond ((decide (m7<0))||(decide (1000000000000<m7))) (some (.inr (.inr (2:Int)))) (some (.inl (i64.wrap (v3+1))))) (some (.inr (.inl ())))) Va 0).bind fun q=>match q with | .inl _=>cond (((p1.length:Int) == 0)&&(decide (0<p0))) (some (7:Int)) (some (0:Int)) | .inr e=>some e))
theorem tG {p0:Int} {p1:(List Int)} {r:Int}  (h:jS p0 p1=some r):PF 153 [pI p0,pL eI p1] (pI r):=by
 unfold jS at h
 refine aV ?_
 refine dk Tryz.func153 rfl Tryz.ntmps153 Tryz.results153 rfl (aQ [4] (by kernel_rfl) (bM (bF [7,8] [(9,pB (decide (1000<(p1.length:Int))))] (by kernel_rfl) rfl h (fun hc1 h=>?_) fun hc1 h=>?_)))
 ·refine ag ?_
  refine de [(4,pI 8)] (by kernel_rfl) ?_
  exact zz r h rfl
 refine af ?_
 refine bM (bF (rg 10 5) [(15,pB ((decide (p0<0))||(decide (1000000000000<p0))))] (by kernel_rfl) rfl h (fun hc2 h=>?_) fun hc2 h=>?_)
 ·refine ag ?_
  refine de [(4,pI 2)] (by kernel_rfl) ?_
  exact zz r h rfl
 refine af ?_
 refine bM (aA [(16,pL eI p1),(17,pI (p1.length:Int)),(18,pI 0)] (by kernel_rfl) (ey h fun q5 hq5 h=>?_))
 refine ap (Y:=Unit×Unit) (fun (_,_)=>[(0,pI p0),(1,pL eI p1)]) (fun (_,_)=>[]) (fun (_,_)=>q5=Sum.inl ()) ?_ ?_
 ·refine aG ?_
  refine aJ (Y:=Unit) (S:=Int) _ hq5 (fun _ v3=>[(0,pI p0),(1,pL eI p1),(16,pL eI p1),(17,pI (p1.length:Int)),(18,pI v3)]) (fun _ v3=>[]) () (gA rfl) bq ?_
  rintro _ v3 o τ hb4;(try dsimp only at hb4);dsimp only [aw]
  refine cH [(19,pB (decide (v3<(p1.length:Int))))] (by kernel_rfl) (br (fh rfl hb4 (fun hc6 hb4=>?_) fun hc6 hb4=>?_))
  ·refine af ?_
   refine eT (ae hb4 fun m7 hm7 hb4=>ai [] [20,21] [(6,pI m7)] (bX 0 eI hm7 aY) (by kernel_rfl) (br (bF (rg 22 5) [(27,pB ((decide (m7<0))||(decide (1000000000000<m7))))] (by kernel_rfl) rfl hb4 (fun hc8 hb4=>?_) fun hc8 hb4=>?_)))
   ·refine ag ?_
    refine aA [(4,pI 2)] (by kernel_rfl) (cK (iq ?_))
    refine aX hb4 (fun ht=>?_);subst ht
    refine aO (aS ?_)
    exact zz r h rfl
   refine af ?_
   refine eH (ah [28] [(18,pI (i64.wrap (v3+1)))] (by kernel_rfl) ?_)
   exact aT hb4 () (gA rfl) bq
  refine aL ?_
  refine cJ hb4 (fun ht=>an rfl ?_)
  exact am ((),()) (lK rfl) bq ht.symm
 rintro ⟨_,_⟩ τ hz;(try dsimp only at hz);subst q5;(try dsimp only at h);dsimp only [aw]
 refine dV (bF (rg 29 6) [(35,pB (((p1.length:Int) == 0)&&(decide (0<p0))))] (by kernel_rfl) rfl h (fun hc9 h=>?_) fun hc9 h=>?_)
 ·refine ag ?_
  refine de [(4,pI 7)] (by kernel_rfl) ?_
  exact zz r h rfl
 refine af ?_
 refine br (aA [(4,pI 0)] (by kernel_rfl) (cK ?_))
 exact zz r h rfl
def jT (p0:(List Int)):Option Int:=(aW (S:=Int×Int) (T:=(Int)) (fun (v1,v2)=>cond (decide (v2<(p0.length:Int))) ((bx p0 v2).bind fun m7=>some (.inl ((i64.wrap (v1+m7)),(i64.wrap (v2+1))))) (some (.inr v1))) Va (0,0)).bind fun v3=>some v3
theorem tH {p0:(List Int)} {r:Int}  (h:jT p0=some r):PF 154 [pL eI p0] (pI r):=by
 unfold jT at h
 refine aV ?_
 refine dk Tryz.func154 rfl Tryz.ntmps154 Tryz.results154 rfl (aQ [2] (by kernel_rfl) (br (aA [(3,pI 0)] (by kernel_rfl) (bM (aA [(6,pL eI p0),(7,pI (p0.length:Int)),(8,pI 0)] (by kernel_rfl) (ey h fun q5 hq5 h=>?_))))))
 refine ap (Y:=Unit×Int) (fun (_,v3)=>[(3,pI v3)]) (fun (_,v3)=>[]) (fun (_,v3)=>q5=v3) ?_ ?_
 ·refine aG ?_
  refine aJ (Y:=Unit) (S:=Int×Int) _ hq5 (fun _ (v1,v2)=>[(3,pI v1),(6,pL eI p0),(7,pI (p0.length:Int)),(8,pI v2)]) (fun _ (v1,v2)=>[]) () (jC rfl) bq ?_
  rintro _ ⟨v1,v2⟩ o τ hb4;(try dsimp only at hb4);dsimp only [aw]
  refine cH [(9,pB (decide (v2<(p0.length:Int))))] (by kernel_rfl) (br (fh rfl hb4 (fun hc6 hb4=>?_) fun hc6 hb4=>?_))
  ·refine af ?_
   refine eT (ae hb4 fun m7 hm7 hb4=>ai [] [10,11] [(5,pI m7)] (bX 0 eI hm7 aY) (by kernel_rfl) (aD (ah [12,13,14] [(3,pI (i64.wrap (v1+m7)))] (by kernel_rfl) (eH (ah [15] [(8,pI (i64.wrap (v2+1)))] (by kernel_rfl) ?_)))))
   exact aT hb4 () (jC rfl) bq
  refine aL ?_
  refine cJ hb4 (fun ht=>an rfl ?_)
  exact am ((),v1) (oC rfl) bq ht.symm
 rintro ⟨_,v3⟩ τ hz;(try dsimp only at hz);subst q5;(try dsimp only at h);dsimp only [aw]
 refine ag (ah [16] [(2,pI v3)] (by kernel_rfl) (cK ?_))
 exact zz r h rfl
def jU (p0:Int) (p1:Int):Option (Int×Int):=lb ((u64.wrap ((ji .u64 p0 4294967295)*(ji .u64 p1 4294967295)))) (fun w1=>lb ((u64.wrap ((u64.wrap ((ex .u64 p0 32)*(ji .u64 p1 4294967295)))+(ex .u64 w1 32)))) (fun w2=>lb ((u64.wrap ((ji .u64 w2 4294967295)+(u64.wrap ((ji .u64 p0 4294967295)*(ex .u64 p1 32)))))) (fun w3=>lb ((u64.wrap ((u64.wrap ((u64.wrap ((ex .u64 p0 32)*(ex .u64 p1 32)))+(ex .u64 w2 32)))+(ex .u64 w3 32)))) (fun w4=>some (w4,(u64.wrap (p0*p1)))))))
theorem tI {p0:Int} {p1:Int} {r:(Int×Int)}  (h:jU p0 p1=some r):PF 210 [pU p0,pU p1] (.tup [pU r.1,pU r.2]):=by
 unfold jU at h
 refine aV ?_
 refine dk Tryz.func210 rfl Tryz.ntmps210 Tryz.results210 rfl (aQ [4,5] (by kernel_rfl) (br (ah [14,15] [(6,pU (ji .u64 p0 4294967295))] (by kernel_rfl) (br (ah [16,17] [(7,pU (ex .u64 p0 32))] (by kernel_rfl) (br (ah [18,19] [(8,pU (ji .u64 p1 4294967295))] (by kernel_rfl) (br (ah [20,21] [(9,pU (ex .u64 p1 32))] (by kernel_rfl) (br ?_))))))))))
 refine gD h ?_;clear h;intro w1 hw1 h
 refine ak (bU 3 [22,23] [(24,pU (u64.wrap ((ji .u64 p0 4294967295)*(ji .u64 p1 4294967295))))] (by kernel_rfl) (cg rfl rfl rfl (cD rfl (.p (congrArg (fun z=>PV.v (Value.int .u64 z)) hw1))) (au (br ?_))))
 refine gD h ?_;clear h;intro w2 hw2 h
 refine ak (bU 6 (rg 25 5) [(30,pU (u64.wrap ((u64.wrap ((ex .u64 p0 32)*(ji .u64 p1 4294967295)))+(ex .u64 w1 32))))] (by kernel_rfl) (cg rfl rfl rfl (cD rfl (.p (congrArg (fun z=>PV.v (Value.int .u64 z)) hw2))) (au (br (ah [31,32] [(12,pU (ji .u64 w2 4294967295))] (by kernel_rfl) (br (ah [33,34] [(13,pU (ex .u64 w2 32))] (by kernel_rfl) (br ?_))))))))
 refine gD h ?_;clear h;intro w3 hw3 h
 refine ak (bU 5 [35,36,37,38] [(39,pU (u64.wrap ((ji .u64 w2 4294967295)+(u64.wrap ((ji .u64 p0 4294967295)*(ex .u64 p1 32))))))] (by kernel_rfl) (cg rfl rfl rfl (cD rfl (.p (congrArg (fun z=>PV.v (Value.int .u64 z)) hw3))) (au (br ?_))))
 refine gD h ?_;clear h;intro w4 hw4 h
 refine ak (bU 8 (rg 40 7) [(47,pU (u64.wrap ((u64.wrap ((u64.wrap ((ex .u64 p0 32)*(ex .u64 p1 32)))+(ex .u64 w2 32)))+(ex .u64 w3 32))))] (by kernel_rfl) (cg rfl rfl rfl (cD rfl (.p (congrArg (fun z=>PV.v (Value.int .u64 z)) hw4))) (au (br (ah [48,49,50] [(5,pU (u64.wrap (p0*p1)))] (by kernel_rfl) (cK ?_))))))
 obtain rfl:=osi h
 exact aH (bK (az rfl) (az rfl)) bq ⟨rfl,rfl⟩
def kN (p0:Int) (p1:Int):Option Zn:=(jU p0 p1).bind fun x2=>some (⟨x2.1,x2.2⟩:Zn)
theorem oj {p0:Int} {p1:Int} {r:Zn}  (h:kN p0 p1=some r):PF 160 [pU p0,pU p1] (.agg [pU r.Hi,pU r.Lo]):=by
 unfold kN at h
 refine aV ?_
 refine dk Tryz.func160 rfl Tryz.ntmps160 Tryz.results160 rfl (cL rfl (aP (cs:=[pU 0,pU 0]) rfl rfl rfl rfl (fun b1=>au (cP h fun x2 hx2 h=>ai [] [8,9,10,7,11,12] [(5,pU x2.1),(6,pU x2.2)] (aU 2 (tI hx2) aY) (by kernel_rfl) (br (ak (bU 3 [13,14] [(15,.agg [pU x2.1,pU x2.2])] (by kernel_rfl) (aM rfl rfl (al (vs:=[pU x2.1,pU x2.2]) rfl rfl rfl rfl rfl bT pV (au (cK ?_)))))))))))
 obtain rfl:=osi h
 exact aH (dZ (di rfl eG rfl)) bq ⟨rfl,rfl⟩
def gM (p0:Int):Option Int:=Option.bind (cond (decide (4294967296<=p0)) (some ((ex .u64 p0 32),32)) (some (p0,0))) (fun (v1,v2)=>Option.bind (cond (decide (65536<=v1)) (some ((ex .u64 v1 16),(i64.wrap (v2+16)))) (some (v1,v2))) (fun (v5,v6)=>Option.bind (cond (decide (256<=v5)) (some ((ex .u64 v5 8),(i64.wrap (v6+8)))) (some (v5,v6))) (fun (v9,v10)=>(bx (⟨#[0,1,2,2,3,3,3,3,4,4,4,4,4,4,4,4,5,5,5,5,5,5,5,5,5,5,5,5,5,5,5,5,6,6,6,6,6,6,6,6,6,6,6,6,6,6,6,6,6,6,6,6,6,6,6,6,6,6,6,6,6,6,6,6,7,7,7,7,7,7,7,7,7,7,7,7,7,7,7,7,7,7,7,7,7,7,7,7,7,7,7,7,7,7,7,7,7,7,7,7,7,7,7,7,7,7,7,7,7,7,7,7,7,7,7,7,7,7,7,7,7,7,7,7,7,7,7,7,8,8,8,8,8,8,8,8,8,8,8,8,8,8,8,8,8,8,8,8,8,8,8,8,8,8,8,8,8,8,8,8,8,8,8,8,8,8,8,8,8,8,8,8,8,8,8,8,8,8,8,8,8,8,8,8,8,8,8,8,8,8,8,8,8,8,8,8,8,8,8,8,8,8,8,8,8,8,8,8,8,8,8,8,8,8,8,8,8,8,8,8,8,8,8,8,8,8,8,8,8,8,8,8,8,8,8,8,8,8,8,8,8,8,8,8,8,8,8,8,8,8,8,8,8,8,8,8]⟩:Xh).data.toList (u8.wrap v9)).bind fun c13=>lb ((i64.wrap (v10+(i64.wrap (c13.toNat:Int))))) (fun w14=>some w14))))
theorem oR {p0:Int} {r:Int}  (h:gM p0=some r):PF 225 [pU p0] (pI r):=by
 unfold gM at h
 refine aV ?_
 refine dk Tryz.func225 rfl Tryz.ntmps225 Tryz.results225 rfl (aA [(2,pI 0)] (by kernel_rfl) (bM (ah [3] [(4,pB (decide (4294967296<=p0)))] (by kernel_rfl) (ey h fun q3 hq3 h=>?_))))
 refine ap (Y:=Unit×(Int×Int)) (fun (_,(v1,v2))=>[(0,pU v1),(2,pI v2)]) (fun (_,(v1,v2))=>[]) (fun (_,(v1,v2))=>q3=(v1,v2)) ?_ ?_
 ·skip
  refine fh rfl hq3 (fun hc4 hq3=>?_) fun hc4 hq3=>?_
  ·refine ag ?_
   refine ah [5,6] [(0,pU (ex .u64 p0 32))] (by kernel_rfl) (aD (aA [(2,pI 32)] (by kernel_rfl) ?_))
   obtain rfl:=osi hq3
   exact am ((),((ex .u64 p0 32),32)) (lK rfl) bq rfl
  refine af ?_
  obtain rfl:=osi hq3
  exact am ((),(p0,0)) (lK rfl) bq rfl
 rintro ⟨_,⟨v1,v2⟩⟩ τ hz;(try dsimp only at hz);subst q3;(try dsimp only at h);dsimp only [aw]
 refine dV (ah [7] [(8,pB (decide (65536<=v1)))] (by kernel_rfl) (ey h fun q7 hq7 h=>?_))
 refine ap (Y:=Unit×(Int×Int)) (fun (_,(v5,v6))=>[(0,pU v5),(2,pI v6)]) (fun (_,(v5,v6))=>[]) (fun (_,(v5,v6))=>q7=(v5,v6)) ?_ ?_
 ·skip
  refine fh rfl hq7 (fun hc8 hq7=>?_) fun hc8 hq7=>?_
  ·refine ag ?_
   refine ah [9,10] [(0,pU (ex .u64 v1 16))] (by kernel_rfl) (aD (ah [11,12] [(2,pI (i64.wrap (v2+16)))] (by kernel_rfl) ?_))
   obtain rfl:=osi hq7
   exact am ((),((ex .u64 v1 16),(i64.wrap (v2+16)))) (lK rfl) bq rfl
  refine af ?_
  obtain rfl:=osi hq7
  exact am ((),(v1,v2)) (lK rfl) bq rfl
 rintro ⟨_,⟨v5,v6⟩⟩ τ hz;(try dsimp only at hz);subst q7;(try dsimp only at h);dsimp only [aw]
 refine dV (ah [13] [(14,pB (decide (256<=v5)))] (by kernel_rfl) (ey h fun q11 hq11 h=>?_))
 refine ap (Y:=Unit×(Int×Int)) (fun (_,(v9,v10))=>[(0,pU v9),(2,pI v10)]) (fun (_,(v9,v10))=>[]) (fun (_,(v9,v10))=>q11=(v9,v10)) ?_ ?_
 ·skip
  refine fh rfl hq11 (fun hc12 hq11=>?_) fun hc12 hq11=>?_
  ·refine ag ?_
   refine ah [15,16] [(0,pU (ex .u64 v5 8))] (by kernel_rfl) (aD (ah [17,18] [(2,pI (i64.wrap (v6+8)))] (by kernel_rfl) ?_))
   obtain rfl:=osi hq11
   exact am ((),((ex .u64 v5 8),(i64.wrap (v6+8)))) (lK rfl) bq rfl
  refine af ?_
  obtain rfl:=osi hq11
  exact am ((),(v5,v6)) (lK rfl) bq rfl
 rintro ⟨_,⟨v9,v10⟩⟩ τ hz;(try dsimp only at hz);subst q11;(try dsimp only at h);dsimp only [aw]
 refine ag (ae h fun c13 hc13 h=>?_)
 refine gD h ?_;clear h;intro w14 hw14 h
 refine cS 6 [] (rg 19 5) [(24,pI (i64.wrap (v10+(i64.wrap (c13.toNat:Int)))))] (fosx 3 (s:=(⟨#[0,1,2,2,3,3,3,3,4,4,4,4,4,4,4,4,5,5,5,5,5,5,5,5,5,5,5,5,5,5,5,5,6,6,6,6,6,6,6,6,6,6,6,6,6,6,6,6,6,6,6,6,6,6,6,6,6,6,6,6,6,6,6,6,7,7,7,7,7,7,7,7,7,7,7,7,7,7,7,7,7,7,7,7,7,7,7,7,7,7,7,7,7,7,7,7,7,7,7,7,7,7,7,7,7,7,7,7,7,7,7,7,7,7,7,7,7,7,7,7,7,7,7,7,7,7,7,7,8,8,8,8,8,8,8,8,8,8,8,8,8,8,8,8,8,8,8,8,8,8,8,8,8,8,8,8,8,8,8,8,8,8,8,8,8,8,8,8,8,8,8,8,8,8,8,8,8,8,8,8,8,8,8,8,8,8,8,8,8,8,8,8,8,8,8,8,8,8,8,8,8,8,8,8,8,8,8,8,8,8,8,8,8,8,8,8,8,8,8,8,8,8,8,8,8,8,8,8,8,8,8,8,8,8,8,8,8,8,8,8,8,8,8,8,8,8,8,8,8,8,8,8,8,8,8,8]⟩:Xh)) hc13 aY) (by kernel_rfl) (cg rfl rfl rfl (cD rfl (.p (congrArg (fun z=>PV.v (Value.int .i64 z)) hw14))) (au (cK ?_)))
 exact zz r h rfl
def eZ (p0:Int):Option Int:=(gM p0).bind fun x1=>some (i64.wrap (64 - x1))
theorem om {p0:Int} {r:Int}  (h:eZ p0=some r):PF 244 [pU p0] (pI r):=by
 unfold eZ at h
 refine aV ?_
 refine dk Tryz.func244 rfl Tryz.ntmps244 Tryz.results244 rfl (aQ [2] (by kernel_rfl) (cP h fun x1 hx1 h=>ai [] [3,4,5] [(2,pI (i64.wrap (64 - x1)))] (aU 1 (oR hx1) aY) (by kernel_rfl) (cK ?_)))
 exact zz r h rfl
def iS (p0:Int) (p1:Int) (p2:Int):Option (Int×Int):=cond (p2 == 0) (none) (cond (decide (p2<=p0)) (none) (cond (p0 == 0) ((nz p2).bind fun u4=>(nz p2).bind fun u5=>some ((u64.wrap (Int.tdiv p1 p2)),(Int.tmod p1 p2))) ((eZ p2).bind fun x6=>(sN (u64.wrap x6)).bind fun u7=>lb ((ex .u64 (ja .u64 p2 (u64.wrap x6)) 32)) (fun w8=>lb ((ji .u64 (ja .u64 p2 (u64.wrap x6)) 4294967295)) (fun w9=>(sN (u64.wrap x6)).bind fun u10=>(sN (u64.wrap (64 - (u64.wrap x6)))).bind fun u11=>lb ((xi .u64 (ja .u64 p0 (u64.wrap x6)) (ex .u64 p1 (u64.wrap (64 - (u64.wrap x6)))))) (fun w12=>(sN (u64.wrap x6)).bind fun u13=>lb ((ex .u64 (ja .u64 p1 (u64.wrap x6)) 32)) (fun w14=>lb ((ji .u64 (ja .u64 p1 (u64.wrap x6)) 4294967295)) (fun w15=>(nz w8).bind fun u16=>lb ((u64.wrap (w12 - (u64.wrap ((u64.wrap (Int.tdiv w12 w8))*w8))))) (fun w17=>(aW (S:=Int×Int) (T:=(Int)) (fun (v18,v19)=>cond ((decide (4294967296<=v18))||(decide ((u64.wrap ((u64.wrap (4294967296*v19))+w14))<(u64.wrap (v18*w9))))) (cond (decide (4294967296<=(u64.wrap (v19+w8)))) (some (.inr (u64.wrap (v18 - 1)))) (some (.inl ((u64.wrap (v18 - 1)),(u64.wrap (v19+w8)))))) (some (.inr v18))) Va ((u64.wrap (Int.tdiv w12 w8)),w17)).bind fun v20=>lb ((u64.wrap ((u64.wrap ((u64.wrap (w12*4294967296))+w14)) - (u64.wrap (v20*(ja .u64 p2 (u64.wrap x6))))))) (fun w25=>(nz w8).bind fun u26=>lb ((u64.wrap (w25 - (u64.wrap ((u64.wrap (Int.tdiv w25 w8))*w8))))) (fun w27=>(aW (S:=Int×Int) (T:=(Int)) (fun (v28,v29)=>cond ((decide (4294967296<=v29))||(decide ((u64.wrap ((u64.wrap (4294967296*v28))+w15))<(u64.wrap (v29*w9))))) (cond (decide (4294967296<=(u64.wrap (v28+w8)))) (some (.inr (u64.wrap (v29 - 1)))) (some (.inl ((u64.wrap (v28+w8)),(u64.wrap (v29 - 1)))))) (some (.inr v29))) Va (w27,(u64.wrap (Int.tdiv w25 w8)))).bind fun v30=>(sN (u64.wrap x6)).bind fun u35=>lb ((u64.wrap ((u64.wrap (v20*4294967296))+v30))) (fun w36=>lb ((ex .u64 (u64.wrap ((u64.wrap ((u64.wrap (w25*4294967296))+w15)) - (u64.wrap (v30*(ja .u64 p2 (u64.wrap x6)))))) (u64.wrap x6))) (fun w37=>some (w36,w37))))))))))))))
theorem oS {p0:Int} {p1:Int} {p2:Int} {r:(Int×Int)}  (h:iS p0 p1 p2=some r):PF 212 [pU p0,pU p1,pU p2] (.tup [pU r.1,pU r.2]):=by
 unfold iS at h
 refine aV ?_
 refine dk Tryz.func212 rfl Tryz.ntmps212 Tryz.results212 rfl (aQ [6,7] (by kernel_rfl) (bM (bF [19] [(20,pB (p2 == 0))] (by kernel_rfl) rfl h (fun hc1 h=>?_) fun hc1 h=>?_)))
 ·refine ak ?_
  exact absurd h (by simp)
 refine af ?_
 refine bM (bF [22,23] [(24,pB (decide (p2<=p0)))] (by kernel_rfl) rfl h (fun hc2 h=>?_) fun hc2 h=>?_)
 ·refine ak ?_
  exact absurd h (by simp)
 refine af ?_
 refine bM (bF [26] [(27,pB (p0 == 0))] (by kernel_rfl) rfl h (fun hc3 h=>?_) fun hc3 h=>?_)
 ·refine ag ?_
  refine bE (ρd:=[]) [(0,0),(1,0),(2,0),(3,0),(4,0),(5,0),(6,0),(7,0)] _ Vh (by kernel_rfl) rfl (ae h fun u4 hu4 h=>ae h fun u5 hu5 h=>ca 8 [] (rg 28 6) [(6,pU (u64.wrap (Int.tdiv p1 p2))),(7,pU (Int.tmod p1 p2))] (Ah 2 hu4 (Ah 5 hu5 aY)) (by kernel_rfl) (bZ (sO ?_)))
  obtain rfl:=osi h
  exact aH (bK (az rfl) (az rfl)) bq ⟨rfl,rfl⟩
 refine af ?_
 refine cP h fun x6 hx6 h=>ai [] [34,35,36] [(8,pU (u64.wrap x6))] (aU 1 (om hx6) aY) (by kernel_rfl) (cP h fun u7 hu7 h=>ai [] [37,38,39] [(2,pU (ja .u64 p2 (u64.wrap x6)))] (CV 2 hu7 aY) (by kernel_rfl) (br ?_))
 refine gD h ?_;clear h;intro w8 hw8 h
 refine ak (bU 2 [40] [(41,pU (ex .u64 (ja .u64 p2 (u64.wrap x6)) 32))] (by kernel_rfl) (cg rfl rfl rfl (cD rfl (.p (congrArg (fun z=>PV.v (Value.int .u64 z)) hw8))) (au (br ?_))))
 refine gD h ?_;clear h;intro w9 hw9 h
 refine ak (bU 2 [42] [(43,pU (ji .u64 (ja .u64 p2 (u64.wrap x6)) 4294967295))] (by kernel_rfl) (cg rfl rfl rfl (cD rfl (.p (congrArg (fun z=>PV.v (Value.int .u64 z)) hw9))) (au (cP h fun u10 hu10 h=>ae h fun u11 hu11 h=>?_))))
 refine gD h ?_;clear h;intro w12 hw12 h
 refine cS 8 [] (rg 44 7) [(51,pU (xi .u64 (ja .u64 p0 (u64.wrap x6)) (ex .u64 p1 (u64.wrap (64 - (u64.wrap x6))))))] (CV 2 hu10 (CV 6 hu11 aY)) (by kernel_rfl) (cg rfl rfl rfl (cD rfl (.p (congrArg (fun z=>PV.v (Value.int .u64 z)) hw12))) (au (cP h fun u13 hu13 h=>ai [] [52,53,54] [(12,pU (ja .u64 p1 (u64.wrap x6)))] (CV 2 hu13 aY) (by kernel_rfl) (br ?_))))
 refine gD h ?_;clear h;intro w14 hw14 h
 refine ak (bU 2 [55] [(56,pU (ex .u64 (ja .u64 p1 (u64.wrap x6)) 32))] (by kernel_rfl) (cg rfl rfl rfl (cD rfl (.p (congrArg (fun z=>PV.v (Value.int .u64 z)) hw14))) (au (br ?_))))
 refine gD h ?_;clear h;intro w15 hw15 h
 refine ak (bU 2 [57] [(58,pU (ji .u64 (ja .u64 p1 (u64.wrap x6)) 4294967295))] (by kernel_rfl) (cg rfl rfl rfl (cD rfl (.p (congrArg (fun z=>PV.v (Value.int .u64 z)) hw15))) (au (cP h fun u16 hu16 h=>ai [] [59,60,61] [(15,pU (u64.wrap (Int.tdiv w12 w8)))] (Ah 2 hu16 aY) (by kernel_rfl) (br ?_)))))
 refine gD h ?_;clear h;intro w17 hw17 h
 refine ak (bU 5 [62,63,64,65] [(66,pU (u64.wrap (w12 - (u64.wrap ((u64.wrap (Int.tdiv w12 w8))*w8)))))] (by kernel_rfl) (cg rfl rfl rfl (cD rfl (.p (congrArg (fun z=>PV.v (Value.int .u64 z)) hw17))) (au (cP h fun q22 hq22 h=>?_))))
 refine ap (Y:=Unit×Int) (fun (_,v20)=>[(2,pU (ja .u64 p2 (u64.wrap x6))),(8,pU (u64.wrap x6)),(9,pU w8),(10,pU w9),(11,pU w12),(13,pU w14),(14,pU w15),(15,pU v20)]) (fun (_,v20)=>[]) (fun (_,v20)=>q22=v20) ?_ ?_
 ·refine aG ?_
  refine aJ (Y:=Unit) (S:=Int×Int) _ hq22 (fun _ (v18,v19)=>[(2,pU (ja .u64 p2 (u64.wrap x6))),(8,pU (u64.wrap x6)),(9,pU w8),(10,pU w9),(11,pU w12),(13,pU w14),(14,pU w15),(15,pU v18),(16,pU v19)]) (fun _ (v18,v19)=>[]) () (wv rfl) bq ?_
  rintro _ ⟨v18,v19⟩ o τ hb21;(try dsimp only at hb21);dsimp only [aw]
  refine dV (bF (rg 67 11) [(78,pB ((decide (4294967296<=v18))||(decide ((u64.wrap ((u64.wrap (4294967296*v19))+w14))<(u64.wrap (v18*w9))))))] (by kernel_rfl) rfl hb21 (fun hc23 hb21=>?_) fun hc23 hb21=>?_)
  ·refine af ?_
   refine aD (rx (ah [79,80] [(15,pU (u64.wrap (v18 - 1)))] (by kernel_rfl) (br (ah [81,82,83] [(16,pU (u64.wrap (v19+w8)))] (by kernel_rfl) (br (bF [84] [(85,pB (decide (4294967296<=(u64.wrap (v19+w8)))))] (by kernel_rfl) rfl hb21 (fun hc24 hb21=>?_) fun hc24 hb21=>?_))))))
   ·refine aL ?_
    refine du rfl (mz hb21 (fun ht=>an rfl ?_))
    exact am ((),(u64.wrap (v18 - 1))) (Iq rfl) bq ht.symm
   refine af ?_
   refine aF ?_
   exact aT hb21 () (wv rfl) bq
  refine aL ?_
  refine cJ hb21 (fun ht=>an rfl ?_)
  exact am ((),v18) (Iq rfl) bq ht.symm
 rintro ⟨_,v20⟩ τ hz;(try dsimp only at hz);subst q22;(try dsimp only at h);dsimp only [aw]
 refine ag ?_
 refine gD h ?_;clear h;intro w25 hw25 h
 refine ak (bU 8 (rg 86 7) [(93,pU (u64.wrap ((u64.wrap ((u64.wrap (w12*4294967296))+w14)) - (u64.wrap (v20*(ja .u64 p2 (u64.wrap x6)))))))] (by kernel_rfl) (cg rfl rfl rfl (cD rfl (.p (congrArg (fun z=>PV.v (Value.int .u64 z)) hw25))) (au (cP h fun u26 hu26 h=>ai [] [94,95,96] [(18,pU (u64.wrap (Int.tdiv w25 w8)))] (Ah 2 hu26 aY) (by kernel_rfl) (br ?_)))))
 refine gD h ?_;clear h;intro w27 hw27 h
 refine ak (bU 5 [97,98,99,100] [(101,pU (u64.wrap (w25 - (u64.wrap ((u64.wrap (Int.tdiv w25 w8))*w8)))))] (by kernel_rfl) (cg rfl rfl rfl (cD rfl (.p (congrArg (fun z=>PV.v (Value.int .u64 z)) hw27))) (au (cP h fun q32 hq32 h=>?_))))
 refine ap (Y:=Unit×Int) (fun (_,v30)=>[(2,pU (ja .u64 p2 (u64.wrap x6))),(8,pU (u64.wrap x6)),(14,pU w15),(15,pU v20),(17,pU w25),(18,pU v30)]) (fun (_,v30)=>[]) (fun (_,v30)=>q32=v30) ?_ ?_
 ·refine aG ?_
  refine aJ (Y:=Unit) (S:=Int×Int) _ hq32 (fun _ (v28,v29)=>[(2,pU (ja .u64 p2 (u64.wrap x6))),(8,pU (u64.wrap x6)),(9,pU w8),(10,pU w9),(14,pU w15),(15,pU v20),(16,pU v28),(17,pU w25),(18,pU v29)]) (fun _ (v28,v29)=>[]) () (wv rfl) bq ?_
  rintro _ ⟨v28,v29⟩ o τ hb31;(try dsimp only at hb31);dsimp only [aw]
  refine dV (bF (rg 102 11) [(113,pB ((decide (4294967296<=v29))||(decide ((u64.wrap ((u64.wrap (4294967296*v28))+w15))<(u64.wrap (v29*w9))))))] (by kernel_rfl) rfl hb31 (fun hc33 hb31=>?_) fun hc33 hb31=>?_)
  ·refine af ?_
   refine aD (rx (ah [114,115] [(18,pU (u64.wrap (v29 - 1)))] (by kernel_rfl) (br (ah [116,117,118] [(16,pU (u64.wrap (v28+w8)))] (by kernel_rfl) (br (bF [119] [(120,pB (decide (4294967296<=(u64.wrap (v28+w8)))))] (by kernel_rfl) rfl hb31 (fun hc34 hb31=>?_) fun hc34 hb31=>?_))))))
   ·refine aL ?_
    refine du rfl (mz hb31 (fun ht=>an rfl ?_))
    exact am ((),(u64.wrap (v29 - 1))) (o3 rfl) bq ht.symm
   refine af ?_
   refine aF ?_
   exact aT hb31 () (wv rfl) bq
  refine aL ?_
  refine cJ hb31 (fun ht=>an rfl ?_)
  exact am ((),v29) (o3 rfl) bq ht.symm
 rintro ⟨_,v30⟩ τ hz;(try dsimp only at hz);subst q32;(try dsimp only at h);dsimp only [aw]
 refine ag (ae h fun u35 hu35 h=>?_)
 refine gD h ?_;clear h;intro w36 hw36 h
 refine cS 14 [] [121,122,123,125,126,127,128,129,130,131,132,133] [(124,pU (u64.wrap ((u64.wrap (v20*4294967296))+v30))),(134,pU (ex .u64 (u64.wrap ((u64.wrap ((u64.wrap (w25*4294967296))+w15)) - (u64.wrap (v30*(ja .u64 p2 (u64.wrap x6)))))) (u64.wrap x6)))] (CV 13 hu35 aY) (by kernel_rfl) (cg rfl rfl rfl (cD rfl (.p (congrArg (fun z=>PV.v (Value.int .u64 z)) hw36))) ?_)
 refine gD h ?_;clear h;intro w37 hw37 h
 refine cg rfl rfl rfl (cD rfl (.p (congrArg (fun z=>PV.v (Value.int .u64 z)) hw37))) (au (cK ?_))
 obtain rfl:=osi h
 exact aH (bK (az rfl) (az rfl)) bq ⟨rfl,rfl⟩
def mD (p0:Int) (p1:Int) (p2:Int) (p3:Int):Option Bool:=cond (p3 == 1) (some (decide (0<p1))) (cond (p3 == 2) (some (decide ((u64.wrap (p2 - p1))<=p1))) (cond (p3 == 3) (some ((decide ((u64.wrap (p2 - p1))<p1))||((p1 == (u64.wrap (p2 - p1)))&&((Int.tmod p0 2) == 1)))) (some false)))
theorem wc {p0:Int} {p1:Int} {p2:Int} {p3:Int} {r:Bool}  (h:mD p0 p1 p2 p3=some r):PF 213 [pU p0,pU p1,pU p2,pI p3] (pB r):=by
 unfold mD at h
 refine aV ?_
 refine dk Tryz.func213 rfl Tryz.ntmps213 Tryz.results213 rfl (aQ [8] (by kernel_rfl) (br (ah [10,11,12] [(9,pU (u64.wrap (p2 - p1)))] (by kernel_rfl) (bM (aA [(13,pI p3)] (by kernel_rfl) (aD (rx (bF [15] [(14,pB (p3 == 1))] (by kernel_rfl) rfl h (fun hc1 h=>?_) fun hc1 h=>?_))))))))
 ·refine ag ?_
  refine ah [16,17] [(8,pB (decide (0<p1)))] (by kernel_rfl) (cK (iq ?_))
  exact zz r h rfl
 refine ag ?_
 refine bF [19] [(18,pB (p3 == 2))] (by kernel_rfl) rfl h (fun hc2 h=>?_) fun hc2 h=>?_
 ·refine ag ?_
  refine ah [20,21,22] [(8,pB (decide ((u64.wrap (p2 - p1))<=p1)))] (by kernel_rfl) (cK (iq ?_))
  exact zz r h rfl
 refine ag ?_
 refine bF [24] [(23,pB (p3 == 3))] (by kernel_rfl) rfl h (fun hc3 h=>?_) fun hc3 h=>?_
 ·refine ag ?_
  refine ah (rg 25 13) [(8,pB ((decide ((u64.wrap (p2 - p1))<p1))||((p1 == (u64.wrap (p2 - p1)))&&((Int.tmod p0 2) == 1))))] (by kernel_rfl) (cK (iq ?_))
  exact zz r h rfl
 refine af ?_
 refine aF (br (aA [(8,pB false)] (by kernel_rfl) (cK ?_)))
 exact zz r h rfl
def ni (p0:Zn) (p1:Int) (p2:Int):Option (Int×Int):=cond (((p1 == 0)||(decide (p2<0)))||(decide (3<p2))) (some ((0:Int),(2:Int))) (cond (decide (p1<=p0.Hi)) (some ((0:Int),(3:Int))) ((iS p0.Hi p0.Lo p1).bind fun x4=>(mD x4.1 x4.2 p1 p2).bind fun x5=>cond (!x5) (some (x4.1,(0:Int))) (cond (x4.1 == 18446744073709551615) (some ((0:Int),(3:Int))) (some ((u64.wrap (x4.1+1)),(0:Int))))))
theorem un {p0:Zn} {p1:Int} {p2:Int} {r:(Int×Int)}  (h:ni p0 p1 p2=some r):PF 163 [.agg [pU p0.Hi,pU p0.Lo],pU p1,pI p2] (.tup [pU r.1,pI r.2]):=by
 unfold ni at h
 refine aV ?_
 refine dk Tryz.func163 rfl Tryz.ntmps163 Tryz.results163 rfl (cL rfl (be (cs:=[pU p0.Hi,pU p0.Lo]) rfl rfl (fun b1=>aZ [6,7] (by kernel_rfl) (bM (bF (rg 10 9) [(19,pB (((p1 == 0)||(decide (p2<0)))||(decide (3<p2))))] (by kernel_rfl) rfl h (fun hc2 h=>?_) fun hc2 h=>?_)))))
 ·refine ag ?_
  refine de [(6,pU 0),(7,pI 2)] (by kernel_rfl) ?_
  obtain rfl:=osi h
  exact aH (bK (az rfl) (az rfl)) bq ⟨rfl,rfl⟩
 refine af ?_
 refine bM (aK [0] [20,21,22] [(23,pB (decide (p1<=p0.Hi)))] (by kernel_rfl) (fi rfl h (fun hc3 h=>?_) fun hc3 h=>?_))
 ·refine ag ?_
  refine de [(6,pU 0),(7,pI 3)] (by kernel_rfl) ?_
  obtain rfl:=osi h
  exact aH (bK (az rfl) (az rfl)) bq ⟨rfl,rfl⟩
 refine af ?_
 refine cP h fun x4 hx4 h=>ai [0,0] ((rg 25 6)++[24,31,32]) [(8,pU x4.1),(9,pU x4.2)] (aU 5 (oS hx4) aY) (by kernel_rfl) (bM (ae h fun x5 hx5 h=>ai [] (rg 33 5) [(38,pB (!x5))] (aU 4 (wc hx5) aY) (by kernel_rfl) (fi rfl h (fun hc6 h=>?_) fun hc6 h=>?_)))
 ·refine ag ?_
  refine ah [39] [(6,pU x4.1),(7,pI 0)] (by kernel_rfl) (sO ?_)
  obtain rfl:=osi h
  exact aH (bK (az rfl) (az rfl)) bq ⟨rfl,rfl⟩
 refine af ?_
 refine bM (bF [40] [(41,pB (x4.1 == 18446744073709551615))] (by kernel_rfl) rfl h (fun hc7 h=>?_) fun hc7 h=>?_)
 ·refine ag ?_
  refine de [(6,pU 0),(7,pI 3)] (by kernel_rfl) ?_
  obtain rfl:=osi h
  exact aH (bK (az rfl) (az rfl)) bq ⟨rfl,rfl⟩
 refine af ?_
 refine br (ah [42,43] [(6,pU (u64.wrap (x4.1+1))),(7,pI 0)] (by kernel_rfl) (cK ?_))
 obtain rfl:=osi h
 exact aH (bK (az rfl) (az rfl)) bq ⟨rfl,rfl⟩
def kO (p0:Int) (p1:Int) (p2:Int) (p3:Int):Option (Int×Int):=(kN p0 p1).bind fun x1=>(ni x1 p2 p3).bind fun x2=>some (x2.1,x2.2)
theorem qW {p0:Int} {p1:Int} {p2:Int} {p3:Int} {r:(Int×Int)}  (h:kO p0 p1 p2 p3=some r):PF 155 [pU p0,pU p1,pU p2,pI p3] (.tup [pU r.1,pI r.2]):=by
 unfold kO at h
 refine aV ?_
 refine dk Tryz.func155 rfl Tryz.ntmps155 Tryz.results155 rfl (aQ [8,9] (by kernel_rfl) (cP h fun x1 hx1 h=>ae h fun x2 hx2 h=>ai [] (rg 10 8) [(8,pU x2.1),(9,pI x2.2)] (aU 2 (oj hx1) (aU 5 (un hx2) aY)) (by kernel_rfl) (cK ?_)))
 obtain rfl:=osi h
 exact aH (bK (az rfl) (az rfl)) bq ⟨rfl,rfl⟩
def lF (p0:Int) (p1:Int) (p2:Int):Option Int:=(nz p2).bind fun u1=>(iS (Int.tmod p0 p2) p1 p2).bind fun x2=>some x2.2
theorem tJ {p0:Int} {p1:Int} {p2:Int} {r:Int}  (h:lF p0 p1 p2=some r):PF 206 [pU p0,pU p1,pU p2] (pU r):=by
 unfold lF at h
 refine aV ?_
 refine dk Tryz.func206 rfl Tryz.ntmps206 Tryz.results206 rfl (aQ [6] (by kernel_rfl) (cP h fun u1 hu1 h=>ae h fun x2 hx2 h=>ai [] ((rg 10 6)++[9,16,17,7]) [(8,pU x2.2)] (Ah 2 hu1 (aU 5 (oS hx2) aY)) (by kernel_rfl) (br (ah [18] [(6,pU x2.2)] (by kernel_rfl) (cK ?_)))))
 exact zz r h rfl
def mE (p0:Int) (p1:Int) (p2:Int):Option Int:=cond (p2 == 0) (some (0:Int)) ((kN p0 p1).bind fun x2=>(lF x2.Hi x2.Lo p2).bind fun x4=>some x4)
theorem wd {p0:Int} {p1:Int} {p2:Int} {r:Int}  (h:mE p0 p1 p2=some r):PF 156 [pU p0,pU p1,pU p2] (pU r):=by
 unfold mE at h
 refine aV ?_
 refine dk Tryz.func156 rfl Tryz.ntmps156 Tryz.results156 rfl (aQ [6] (by kernel_rfl) (bM (bF [8] [(9,pB (p2 == 0))] (by kernel_rfl) rfl h (fun hc1 h=>?_) fun hc1 h=>?_)))
 ·refine ag ?_
  refine de [(6,pU 0)] (by kernel_rfl) ?_
  exact zz r h rfl
 refine af ?_
 refine cP h fun x2 hx2 h=>cS 3 [] [10,11] [(12,.agg [pU x2.Hi,pU x2.Lo])] (aU 2 (oj hx2) aY) (by kernel_rfl) (aj rfl (aP (cs:=[pU 0,pU 0]) rfl rfl rfl rfl (fun b3=>aM rfl rfl (al (vs:=[pU x2.Hi,pU x2.Lo]) rfl rfl rfl rfl rfl bT pV (au (cP h fun x4 hx4 h=>ai [0,0] (rg 13 6) [(6,pU x4)] (aU 5 (tJ hx4) aY) (by kernel_rfl) (cK ?_)))))))
 exact zz r h rfl
def js (p0:Int):Option Bool:=some (p0 != p0)
theorem n9 {p0:Int} {r:Bool}  (h:js p0=some r):PF 242 [pU p0] (pB r):=by
 unfold js at h
 refine aV ?_
 refine dk Tryz.func242 rfl Tryz.ntmps242 Tryz.results242 rfl (aQ [2] (by kernel_rfl) (br (ah [3,4,5] [(2,pB (p0 != p0))] (by kernel_rfl) (cK ?_))))
 exact zz r h rfl
def iy (p0:Int) (p1:Int):Option Int:=(js p0).bind fun x1=>(js p1).bind fun x2=>cond x1 (cond x2 (some (0:Int)) (some (-1))) (cond x2 (some (1:Int)) (cond (decide (p0<p1)) (some (-1)) (cond (decide (p1<p0)) (some (1:Int)) (some (0:Int)))))
theorem rm {p0:Int} {p1:Int} {r:Int}  (h:iy p0 p1=some r):PF 207 [pU p0,pU p1] (pI r):=by
 unfold iy at h
 refine aV ?_
 refine dk Tryz.func207 rfl Tryz.ntmps207 Tryz.results207 rfl (aQ [4] (by kernel_rfl) (cP h fun x1 hx1 h=>ai [] [7,8] [(5,pB x1)] (aU 1 (n9 hx1) aY) (by kernel_rfl) (cP h fun x2 hx2 h=>ai [] [9,10] [(6,pB x2)] (aU 1 (n9 hx2) aY) (by kernel_rfl) (bM (aA [(11,pB x1)] (by kernel_rfl) (fi rfl h (fun hc3 h=>?_) fun hc3 h=>?_))))))
 ·refine ag ?_
  refine cH [(12,pB x2)] (by kernel_rfl) (fi rfl h (fun hc4 h=>?_) fun hc4 h=>?_)
  ·refine ag ?_
   refine de [(4,pI 0)] (by kernel_rfl) (bc ?_)
   exact zz r h rfl
  refine af ?_
  refine br (de [(4,pI (-1))] (by kernel_rfl) ?_)
  exact zz r h rfl
 refine af ?_
 refine bM (aA [(13,pB x2)] (by kernel_rfl) (fi rfl h (fun hc5 h=>?_) fun hc5 h=>?_))
 ·refine ag ?_
  refine de [(4,pI 1)] (by kernel_rfl) ?_
  exact zz r h rfl
 refine af ?_
 refine bM (bF [14,15] [(16,pB (decide (p0<p1)))] (by kernel_rfl) rfl h (fun hc6 h=>?_) fun hc6 h=>?_)
 ·refine ag ?_
  refine de [(4,pI (-1))] (by kernel_rfl) ?_
  exact zz r h rfl
 refine af ?_
 refine bM (bF [17,18] [(19,pB (decide (p1<p0)))] (by kernel_rfl) rfl h (fun hc7 h=>?_) fun hc7 h=>?_)
 ·refine ag ?_
  refine de [(4,pI 1)] (by kernel_rfl) ?_
  exact zz r h rfl
 refine af ?_
 refine br (aA [(4,pI 0)] (by kernel_rfl) (cK ?_))
 exact zz r h rfl
def kP (p0:Zd) (p1:Zd):Option Int:=(iy p1.rest p0.rest).bind fun x3=>cond (x3 != 0) (some x3) ((eo p0.index_ p1.index_).bind fun x5=>some x5)
theorem sQ {p0:Zd} {p1:Zd} {r:Int}  (h:kP p0 p1=some r):PF 157 [.agg [pI p0.index_,pU p0.share,pU p0.rest],.agg [pI p1.index_,pU p1.share,pU p1.rest]] (pI r):=by
 unfold kP at h
 refine aV ?_
 refine dk Tryz.func157 rfl Tryz.ntmps157 Tryz.results157 rfl (cL rfl (be (cs:=[pI p0.index_,pU p0.share,pU p0.rest]) rfl rfl (fun b1=>aj rfl (be (cs:=[pI p1.index_,pU p1.share,pU p1.rest]) rfl rfl (fun b2=>aZ [4] (by kernel_rfl) (bM (ae h fun x3 hx3 h=>ai [0,1] (rg 6 5) [(5,pI x3)] (aU 4 (rm hx3) aY) (by kernel_rfl) (br (bF [11] [(12,pB (x3 != 0))] (by kernel_rfl) rfl h (fun hc4 h=>?_) fun hc4 h=>?_)))))))))
 ·refine ag ?_
  refine ah [13] [(4,pI x3)] (by kernel_rfl) (sO ?_)
  exact zz r h rfl
 refine af ?_
 refine cP h fun x5 hx5 h=>ai [1,0] (rg 14 5) [(4,pI x5)] (aU 4 (lL hx5) aY) (by kernel_rfl) (cK ?_)
 exact zz r h rfl
def nZ (p0:Int):Option Int:=Option.bind (cond (decide (65536<=p0)) (some ((ex .u32 p0 16),16)) (some (p0,0))) (fun (v1,v2)=>Option.bind (cond (decide (256<=v1)) (some ((ex .u32 v1 8),(i64.wrap (v2+8)))) (some (v1,v2))) (fun (v5,v6)=>(bx (⟨#[0,1,2,2,3,3,3,3,4,4,4,4,4,4,4,4,5,5,5,5,5,5,5,5,5,5,5,5,5,5,5,5,6,6,6,6,6,6,6,6,6,6,6,6,6,6,6,6,6,6,6,6,6,6,6,6,6,6,6,6,6,6,6,6,7,7,7,7,7,7,7,7,7,7,7,7,7,7,7,7,7,7,7,7,7,7,7,7,7,7,7,7,7,7,7,7,7,7,7,7,7,7,7,7,7,7,7,7,7,7,7,7,7,7,7,7,7,7,7,7,7,7,7,7,7,7,7,7,8,8,8,8,8,8,8,8,8,8,8,8,8,8,8,8,8,8,8,8,8,8,8,8,8,8,8,8,8,8,8,8,8,8,8,8,8,8,8,8,8,8,8,8,8,8,8,8,8,8,8,8,8,8,8,8,8,8,8,8,8,8,8,8,8,8,8,8,8,8,8,8,8,8,8,8,8,8,8,8,8,8,8,8,8,8,8,8,8,8,8,8,8,8,8,8,8,8,8,8,8,8,8,8,8,8,8,8,8,8,8,8,8,8,8,8,8,8,8,8,8,8,8,8,8,8,8,8]⟩:Xh).data.toList (u8.wrap v5)).bind fun c9=>lb ((i64.wrap (v6+(i64.wrap (c9.toNat:Int))))) (fun w10=>some w10)))
theorem tK {p0:Int} {r:Int}  (h:nZ p0=some r):PF 263 [.v (.int .u32 p0)] (pI r):=by
 unfold nZ at h
 refine aV ?_
 refine dk Tryz.func263 rfl Tryz.ntmps263 Tryz.results263 rfl (aA [(2,pI 0)] (by kernel_rfl) (bM (ah [3] [(4,pB (decide (65536<=p0)))] (by kernel_rfl) (ey h fun q3 hq3 h=>?_))))
 refine ap (Y:=Unit×(Int×Int)) (fun (_,(v1,v2))=>[(0,.v (.int .u32 v1)),(2,pI v2)]) (fun (_,(v1,v2))=>[]) (fun (_,(v1,v2))=>q3=(v1,v2)) ?_ ?_
 ·skip
  refine fh rfl hq3 (fun hc4 hq3=>?_) fun hc4 hq3=>?_
  ·refine ag ?_
   refine ah [5,6] [(0,.v (.int .u32 (ex .u32 p0 16)))] (by kernel_rfl) (aD (aA [(2,pI 16)] (by kernel_rfl) ?_))
   obtain rfl:=osi hq3
   exact am ((),((ex .u32 p0 16),16)) (lK rfl) bq rfl
  refine af ?_
  obtain rfl:=osi hq3
  exact am ((),(p0,0)) (lK rfl) bq rfl
 rintro ⟨_,⟨v1,v2⟩⟩ τ hz;(try dsimp only at hz);subst q3;(try dsimp only at h);dsimp only [aw]
 refine dV (ah [7] [(8,pB (decide (256<=v1)))] (by kernel_rfl) (ey h fun q7 hq7 h=>?_))
 refine ap (Y:=Unit×(Int×Int)) (fun (_,(v5,v6))=>[(0,.v (.int .u32 v5)),(2,pI v6)]) (fun (_,(v5,v6))=>[]) (fun (_,(v5,v6))=>q7=(v5,v6)) ?_ ?_
 ·skip
  refine fh rfl hq7 (fun hc8 hq7=>?_) fun hc8 hq7=>?_
  ·refine ag ?_
   refine ah [9,10] [(0,.v (.int .u32 (ex .u32 v1 8)))] (by kernel_rfl) (aD (ah [11,12] [(2,pI (i64.wrap (v2+8)))] (by kernel_rfl) ?_))
   obtain rfl:=osi hq7
   exact am ((),((ex .u32 v1 8),(i64.wrap (v2+8)))) (lK rfl) bq rfl
  refine af ?_
  obtain rfl:=osi hq7
  exact am ((),(v1,v2)) (lK rfl) bq rfl
 rintro ⟨_,⟨v5,v6⟩⟩ τ hz;(try dsimp only at hz);subst q7;(try dsimp only at h);dsimp only [aw]
 refine ag (ae h fun c9 hc9 h=>?_)
 refine gD h ?_;clear h;intro w10 hw10 h
 refine cS 6 [] (rg 13 5) [(18,pI (i64.wrap (v6+(i64.wrap (c9.toNat:Int)))))] (fosx 3 (s:=(⟨#[0,1,2,2,3,3,3,3,4,4,4,4,4,4,4,4,5,5,5,5,5,5,5,5,5,5,5,5,5,5,5,5,6,6,6,6,6,6,6,6,6,6,6,6,6,6,6,6,6,6,6,6,6,6,6,6,6,6,6,6,6,6,6,6,7,7,7,7,7,7,7,7,7,7,7,7,7,7,7,7,7,7,7,7,7,7,7,7,7,7,7,7,7,7,7,7,7,7,7,7,7,7,7,7,7,7,7,7,7,7,7,7,7,7,7,7,7,7,7,7,7,7,7,7,7,7,7,7,8,8,8,8,8,8,8,8,8,8,8,8,8,8,8,8,8,8,8,8,8,8,8,8,8,8,8,8,8,8,8,8,8,8,8,8,8,8,8,8,8,8,8,8,8,8,8,8,8,8,8,8,8,8,8,8,8,8,8,8,8,8,8,8,8,8,8,8,8,8,8,8,8,8,8,8,8,8,8,8,8,8,8,8,8,8,8,8,8,8,8,8,8,8,8,8,8,8,8,8,8,8,8,8,8,8,8,8,8,8,8,8,8,8,8,8,8,8,8,8,8,8,8,8,8,8,8,8]⟩:Xh)) hc9 aY) (by kernel_rfl) (cg rfl rfl rfl (cD rfl (.p (congrArg (fun z=>PV.v (Value.int .i64 z)) hw10))) (au (cK ?_)))
 exact zz r h rfl
def nu (p0:Int):Option Int:=cond false ((nZ (u32.wrap p0)).bind fun x2=>some x2) ((gM p0).bind fun x3=>some x3)
theorem vg {p0:Int} {r:Int}  (h:nu p0=some r):PF 239 [pU p0] (pI r):=by
 unfold nu at h
 refine aV ?_
 refine dk Tryz.func239 rfl Tryz.ntmps239 Tryz.results239 rfl (aQ [2] (by kernel_rfl) (br (fh rfl h (fun hc1 h=>?_) fun hc1 h=>?_)))
 ·refine ag ?_
  refine ae h fun x2 hx2 h=>ai [] [3,4,5] [(2,pI x2)] (aU 2 (tK hx2) aY) (by kernel_rfl) (sO ?_)
  exact zz r h rfl
 refine af ?_
 refine cP h fun x3 hx3 h=>ai [] [6,7] [(2,pI x3)] (aU 1 (oR hx3) aY) (by kernel_rfl) (cK ?_)
 exact zz r h rfl
def bI (p0:(List Zd)) (p1:Int) (p2:Int) (p3:(Zd->Zd->Option Int)):Option (List Zd):=(aW (S:=(List Zd)×Int) (T:=((List Zd))) (fun (l2,v3)=>cond (decide (v3<p2)) ((aW (S:=(List Zd)×Int) (T:=((List Zd))) (fun (l10,v11)=>(gd (decide (p1<v11)) (bx l10 v11)).bind fun m16=>(gd (decide (p1<v11)) (bx l10 (i64.wrap (v11 - 1)))).bind fun m17=>(gd (decide (p1<v11)) (p3 m16 m17)).bind fun x18=>cond ((decide (p1<v11))&&(decide (x18<0))) ((bx l10 (i64.wrap (v11 - 1))).bind fun m22=>(bx l10 v11).bind fun m23=>(bx l10 v11).bind fun m24=>(bx (l10.set v11.toNat m22) (i64.wrap (v11 - 1))).bind fun m26=>some (.inl (((l10.set v11.toNat m22).set (i64.wrap (v11 - 1)).toNat m23),(i64.wrap (v11 - 1))))) (some (.inr l10))) Va (l2,v3)).bind fun l13=>some (.inl (l13,(i64.wrap (v3+1))))) (some (.inr l2))) Va (p0,(i64.wrap (p1+1)))).bind fun l5=>some l5
theorem iN {p0:(List Zd)} {p1:Int} {p2:Int} {p3:(Zd->Zd->Option Int)} {a_0:Option Addr}  {n_0:Nat}  {c_0:Nat} {r:(List Zd)} {g3:PV} (hg3:∀ {y0:Zd} {y1:Zd} {w:Int},p3 y0 y1=some w->Yc g3 [.agg [pI y0.index_,pU y0.share,pU y0.rest],.agg [pI y1.index_,pU y1.share,pU y1.rest]] (pI w)) (h:bI p0 p1 p2 p3=some r):La 265 [.v (.slice a_0 n_0 c_0),pI p1,pI p2,g3] [Qa.row a_0 n_0 c_0 238 3 (List.map Zd.enc p0)] (fun pv ρ'=>pv=.tup []/\ρ'=[Qa.row a_0 n_0 c_0 238 3 (List.map Zd.enc r)]):=by
 unfold bI at h
 refine gC Tryz.func265 rfl Tryz.ntmps265 Tryz.results265 rfl ?_
 refine dR (enc:=Zd.enc) (xs:=p0) (a:=a_0) eG (fun hl ha=>?_);subst hl;clear ha
 refine ag (ah [10,11] [(8,pI (i64.wrap (p1+1)))] (by kernel_rfl) (ey h fun q7 hq7 h=>?_))
 refine eD (Y:=Unit×((List Zd))) (fun (_,l5)=>[]) (fun (_,l5)=>[Qa.row a_0 p0.length c_0 238 3 (List.map Zd.enc l5)]) (fun (_,l5)=>q7=l5) ?_ ?_
 ·refine aG ?_
  refine aJ (Y:=Unit) (S:=(List Zd)×Int) _ hq7 (fun _ (l2,v3)=>[(0,pO a_0 p0.length c_0),(1,pI p1),(2,pI p2),(3,g3),(8,pI v3)]) (fun _ (l2,v3)=>[Qa.row a_0 p0.length c_0 238 3 (List.map Zd.enc l2)]) () (gA rfl) bN ?_
  rintro _ ⟨l2,v3⟩ o τ hb6;(try dsimp only at hb6);dsimp only [aw]
  refine dV (bF [12,13] [(14,pB (decide (v3<p2)))] (by kernel_rfl) rfl hb6 (fun hc8 hb6=>?_) fun hc8 hb6=>?_)
  ·refine af ?_
   refine eT (ah [17] [(9,pI v3)] (by kernel_rfl) (ey hb6 fun q15 hq15 hb6=>?_))
   refine eD (Y:=Unit×((List Zd))) (fun (_,l13)=>[(0,pO a_0 p0.length c_0),(1,pI p1),(2,pI p2),(3,g3),(8,pI v3)]) (fun (_,l13)=>[Qa.row a_0 p0.length c_0 238 3 (List.map Zd.enc l13)]) (fun (_,l13)=>q15=l13) ?_ ?_
   ·refine aG ?_
    refine aJ (Y:=Unit) (S:=(List Zd)×Int) _ hq15 (fun _ (l10,v11)=>[(0,pO a_0 p0.length c_0),(1,pI p1),(2,pI p2),(3,g3),(8,pI v3),(9,pI v11)]) (fun _ (l10,v11)=>[Qa.row a_0 p0.length c_0 238 3 (List.map Zd.enc l10)]) () (o3 rfl) bN ?_
    rintro _ ⟨l10,v11⟩ o τ hb14;(try dsimp only at hb14);dsimp only [aw]
    refine dV (bE (ρd:=[]) [(0,0),(1,0),(2,0),(3,0),(4,0),(5,0),(6,0),(7,0),(8,0),(9,0),(10,0),(11,0),(12,0),(13,0),(14,1),(15,0),(16,0)] _ Vh (by kernel_rfl) rfl (ae hb14 fun m16 hm16 hb14=>mB 7 [18,19,20] [(21,pB (decide (p1<v11))),(22,pgv (decide (p1<v11)) (g3)),(23,pgv (decide (p1<v11)) (pO a_0 p0.length c_0)),(24,pgv (decide (p1<v11)) (pI v11))] (by kernel_rfl) (nT (gP rfl rfl rfl) rfl rfl (d9 (enc:=Zd.enc) (xs:=l10) rfl rfl rfl (.g rfl) eG (.g rfl) (fU hm16)) (nT (gP rfl rfl rfl) rfl rfl (dj (sz:=3) (p:=.agg [pI m16.index_,pU m16.share,pU m16.rest]) (enc:=Zd.enc) (xs:=l10) (a:=a_0) v11 0 m16 rfl (.g rfl) rfl eG (fU hm16) rfl) (ae hb14 fun m17 hm17 hb14=>mB 3 [28] [(27,pgv (decide (p1<v11)) (pO a_0 p0.length c_0)),(29,pgv (decide (p1<v11)) (pI (i64.wrap (v11 - 1))))] (by kernel_rfl) (nT (gP rfl rfl rfl) rfl rfl (d9 (enc:=Zd.enc) (xs:=l10) rfl rfl rfl (.g rfl) eG (.g rfl) (fU hm17)) (nT (gP rfl rfl rfl) rfl rfl (dj (sz:=3) (p:=.agg [pI m17.index_,pU m17.share,pU m17.rest]) (enc:=Zd.enc) (xs:=l10) (a:=a_0) (i64.wrap (v11 - 1)) 0 m17 rfl (.g rfl) rfl eG (fU hm17) rfl) (ae hb14 fun x18 hx18 hb14=>xo (gP rfl rfl rfl) rfl rfl rfl (.g rfl) (fg (.g rfl) (fg (.g rfl) nc)) (fun hc=>hg3 (fU hx18 hc)) (nT (gP rfl rfl rfl) rfl rfl (xh rfl (.g rfl) (.p rfl) rfl) (lW rfl rfl rfl (xg rfl (.p rfl) (.p rfl) (.g rfl)) (bZ (fi rfl hb14 (fun hc19 hb14=>?_) fun hc19 hb14=>?_))))))))))))
    ·refine af ?_
     refine br (aG (dR (enc:=Zd.enc) (xs:=l10) (a:=a_0) eG (fun hl20 ha21=>ae hb14 fun m22 hm22 hb14=>ae hb14 fun m23 hm23 hb14=>ae hb14 fun m24 hm24 hb14=>ae hb14 fun m26 hm26 hb14=>?_)))
     refine eD (Y:=Unit) (fun _=>[(0,pO a_0 p0.length c_0),(1,pI p1),(2,pI p2),(3,g3),(8,pI v3),(9,pI v11)]) (fun _=>[Qa.row a_0 p0.length c_0 238 3 (List.map Zd.enc ((l10.set v11.toNat m22).set (i64.wrap (v11 - 1)).toNat m23))]) (fun _=>True) ?_ ?_
     ·refine gf (ρd:=[Qa.row a_0 _ _ _ _ _]) _ Vh ?_
      repeat' first
       | (refine lr 9 ?_;refine bj rfl rfl rfl rfl (kI (dj (sz:=3) (p:=.agg [pI m22.index_,pU m22.share,pU m22.rest]) (enc:=Zd.enc) (xs:=l10) (a:=a_0) (i64.wrap (v11 - 1)) 0 m22 rfl (.p rfl) rfl eG (fun _=>hm22) rfl) ?_))
       | (refine lr 13 ?_;refine bj rfl rfl rfl rfl (kI (dj (sz:=3) (p:=.agg [pI m23.index_,pU m23.share,pU m23.rest]) (enc:=Zd.enc) (xs:=l10) (a:=a_0) v11 0 m23 rfl (.p rfl) rfl eG (fun _=>hm23) rfl) ?_))
       | (refine lr 15 ?_;refine eF rfl rfl rfl (jb (enc:=Zd.enc) (xs:=l10) (a:=a_0) v11 0 m24 m22 rfl rfl rfl rfl (fun _=>rfl) rfl rfl hm24 (AW) bT ?_))
       | (refine lr 17 ?_;refine eF rfl rfl rfl (jb (enc:=Zd.enc) (xs:=(l10.set v11.toNat m22)) (a:=a_0) (i64.wrap (v11 - 1)) 0 m26 m23 rfl rfl rfl rfl (fun _=>rfl) rfl rfl hm26 (AW) bT ?_))
       | refine bu 0 (by decide +kernel) rfl rfl rfl rfl (bY (p:=pO a_0 p0.length c_0) rfl (.p rfl)) ?_
       | refine bu 1 (by decide +kernel) rfl rfl rfl rfl (bY (p:=pI v11) rfl (.p rfl)) ?_
       | refine bu 2 (by decide +kernel) rfl rfl rfl rfl (bY (p:=pO a_0 p0.length c_0) rfl (.p rfl)) ?_
       | refine bu 3 (by decide +kernel) rfl rfl rfl rfl (bY (p:=pI v11) rfl (.p rfl)) ?_
       | refine bu 4 (by decide +kernel) rfl rfl rfl rfl (nB rfl (.p rfl) (.p rfl) rfl) ?_
       | refine bu 5 (by decide +kernel) rfl rfl rfl rfl (bY (p:=pO a_0 p0.length c_0) rfl (.p rfl)) ?_
       | refine bu 6 (by decide +kernel) rfl rfl rfl rfl (bY (p:=pI v11) rfl (.p rfl)) ?_
       | refine bu 7 (by decide +kernel) rfl rfl rfl rfl (nB rfl (.p rfl) (.p rfl) rfl) ?_
       | (refine bu 8 (by decide +kernel) rfl rfl rfl rfl (j7 (xs:=l10) (by first | exact hl20 | rfl | (simp only [length_set];exact hl20) | simp only [length_set]) ha21 rfl rfl rfl (.p rfl) (.p rfl) (fun _=>hm22)) ?_)
       | refine bu 10 (by decide +kernel) rfl rfl rfl rfl (bY (p:=pO a_0 p0.length c_0) rfl (.p rfl)) ?_
       | refine bu 11 (by decide +kernel) rfl rfl rfl rfl (bY (p:=pI v11) rfl (.p rfl)) ?_
       | (refine bu 12 (by decide +kernel) rfl rfl rfl rfl (j7 (xs:=l10) (by first | exact hl20 | rfl | (simp only [length_set];exact hl20) | simp only [length_set]) ha21 rfl rfl rfl (.p rfl) (.p rfl) (fun _=>hm23)) ?_)
       | refine dr 9 13 (by decide +kernel) ?_ ?_
       | refine bh 13 (by decide +kernel) ?_
       | (refine bu 14 (by decide +kernel) rfl rfl rfl rfl (j7 (xs:=l10) (by first | exact hl20 | rfl | (simp only [length_set];exact hl20) | simp only [length_set]) ha21 rfl rfl rfl (.p rfl) (.p rfl) (fun _=>hm24)) ?_)
       | refine bh 15 (by decide +kernel) ?_
       | (refine bu 16 (by decide +kernel) rfl rfl rfl rfl (j7 (xs:=(l10.set v11.toNat m22)) (by first | exact hl20 | rfl | (simp only [length_set];exact hl20) | simp only [length_set]) ha21 rfl rfl rfl (.p rfl) (.p rfl) (fun _=>hm26)) ?_)
       | refine bh 17 (by decide +kernel) ?_
       | refine gQ (by decide +kernel) ?_
       | refine bh 9 (by decide +kernel) ?_
       | exact gZ () (o3 rfl) (bN) trivial
     rintro _ τ ρ1 hsub28 _;(try dsimp only at hsub28);dsimp only [aw]
     refine eH (kb hsub28 (ah [35,36] [(9,pI (i64.wrap (v11 - 1)))] (by kernel_rfl) ?_))
     exact aT hb14 () (o3 rfl) bN
    refine aL ?_
    refine cJ hb14 (fun ht=>an rfl ?_)
    exact gZ ((),l10) (gA rfl) bN ht.symm
   rintro ⟨_,l13⟩ τ ρ1 hsub29 hz;(try dsimp only at hz hsub29);subst q15;(try dsimp only at hb6);dsimp only [aw]
   refine eH (kb hsub29 (ah [15,16] [(8,pI (i64.wrap (v3+1)))] (by kernel_rfl) ?_))
   exact aT hb6 () (gA rfl) bN
  refine aL ?_
  refine cJ hb6 (fun ht=>an rfl ?_)
  exact gZ ((),l2) qr bN ht.symm
 rintro ⟨_,l5⟩ τ ρ1 hsub30 hz;(try dsimp only at hz hsub30);subst q7;(try dsimp only at h);dsimp only [aw]
 obtain rfl:=osi h
 exact p7 (rfl:Te [] _ _ (.tup [])) (Vb.trans bN hsub30) ⟨rfl,rfl⟩
def bG (p0:(List Zd)) (p1:Int) (p2:Int) (p3:Int) (p4:(Zd->Zd->Option Int)):Option (List Zd):=(aW (S:=Unit) (T:=(Unit)⊕(_)) (fun _=>cond (decide ((i64.wrap (p2 - p1))<=12)) ((bI p0 p1 p2 p4).bind fun x4=>some (.inr (.inr x4))) (cond (p3 == 0) (none) (cond (!true) (none) (none)))) Va ()).bind fun q=>match q with | .inl _=>none | .inr e=>some e
theorem jG {p0:(List Zd)} {p1:Int} {p2:Int} {p3:Int} {p4:(Zd->Zd->Option Int)} {a_0:Option Addr}  {n_0:Nat}  {c_0:Nat} {r:(List Zd)} {g4:PV} (hg4:∀ {y0:Zd} {y1:Zd} {w:Int},p4 y0 y1=some w->Yc g4 [.agg [pI y0.index_,pU y0.share,pU y0.rest],.agg [pI y1.index_,pU y1.share,pU y1.rest]] (pI w)) (h:bG p0 p1 p2 p3 p4=some r):La 243 [.v (.slice a_0 n_0 c_0),pI p1,pI p2,pI p3,g4] [Qa.row a_0 n_0 c_0 238 3 (List.map Zd.enc p0)] (fun pv ρ'=>pv=.tup []/\ρ'=[Qa.row a_0 n_0 c_0 238 3 (List.map Zd.enc r)]):=by
 unfold bG at h
 refine gC Tryz.func243 rfl Tryz.ntmps243 Tryz.results243 rfl ?_
 refine dR (enc:=Zd.enc) (xs:=p0) (a:=a_0) eG (fun hl ha=>?_);subst hl;clear ha
 refine cH [(10,pB true)] (by kernel_rfl) (br (aA [(11,pB true)] (by kernel_rfl) (ey h fun q2 hq2 h=>aG ?_)))
 refine aJ (Y:=Unit) (S:=Unit) _ hq2 (fun _ _=>[(0,pO a_0 p0.length c_0),(1,pI p1),(2,pI p2),(3,pI p3),(4,g4),(10,pB true),(11,pB true)]) (fun _ _=>[Qa.row a_0 p0.length c_0 238 3 (List.map Zd.enc p0)]) () (yB rfl) bN ?_
 rintro _ _ o τ hb1;(try dsimp only at hb1);dsimp only [aw]
 refine rx (ah [21,22,23] [(12,pI (i64.wrap (p2 - p1)))] (by kernel_rfl) (bM (bF [24] [(25,pB (decide ((i64.wrap (p2 - p1))<=12)))] (by kernel_rfl) rfl hb1 (fun hc3 hb1=>?_) fun hc3 hb1=>?_)))
 ·refine ag ?_
  refine ae hb1 fun x4 hx4 hb1=>fC 4 [(26,pO a_0 p0.length c_0),(27,pI p1),(28,pI p2),(29,g4)] (by kernel_rfl) ?_
  refine aj rfl (aI rfl rfl (ρ1:=[_]) (aq (by exact aN) Vh) (iN hg4 hx4) ?_);rintro _ _ ⟨rfl,rfl⟩
  refine au (sO (aO ?_))
  refine aX hb1 (fun ht=>?_);subst ht
  refine aO ?_
  obtain rfl:=osi h
  exact aH (rfl:Te [] _ _ (.tup [])) bN ⟨rfl,rfl⟩
 refine af ?_
 refine bM (bF [31] [(32,pB (p3 == 0))] (by kernel_rfl) rfl hb1 (fun hc5 hb1=>?_) fun hc5 hb1=>?_)
 ·refine ag ?_
  refine fC 4 [(33,pO a_0 p0.length c_0),(34,pI p1),(35,pI p2),(36,g4)] (by kernel_rfl) ?_
  exact absurd hb1 (by simp)
 refine af ?_
 refine bM (bF [38] [(39,pB (!true))] (by kernel_rfl) rfl hb1 (fun hc6 hb1=>?_) fun hc6 hb1=>?_)
 ·refine ag ?_
  refine fC 4 [(40,pO a_0 p0.length c_0),(41,pI p1),(42,pI p2),(43,g4)] (by kernel_rfl) ?_
  exact absurd hb1 (by simp)
 refine af ?_
 refine br (fC 4 [(48,pO a_0 p0.length c_0),(49,pI p1),(50,pI p2),(51,g4)] (by kernel_rfl) ?_)
 exact absurd hb1 (by simp)
def bQ (p0:(List Zd)) (p1:(Zd->Zd->Option Int)):Option (List Zd):=(nu (u64.wrap ((p0.length:Nat):Int))).bind fun x1=>(bG p0 0 ((p0.length:Nat):Int) x1 p1).bind fun x2=>some x2
theorem gN {p0:(List Zd)} {p1:(Zd->Zd->Option Int)} {a_0:Option Addr}  {n_0:Nat}  {c_0:Nat} {r:(List Zd)} {g1:PV} (hg1:∀ {y0:Zd} {y1:Zd} {w:Int},p1 y0 y1=some w->Yc g1 [.agg [pI y0.index_,pU y0.share,pU y0.rest],.agg [pI y1.index_,pU y1.share,pU y1.rest]] (pI w)) (h:bQ p0 p1=some r):La 208 [.v (.slice a_0 n_0 c_0),g1] [Qa.row a_0 n_0 c_0 238 3 (List.map Zd.enc p0)] (fun pv ρ'=>pv=.tup []/\ρ'=[Qa.row a_0 n_0 c_0 238 3 (List.map Zd.enc r)]):=by
 unfold bQ at h
 refine gC Tryz.func208 rfl Tryz.ntmps208 Tryz.results208 rfl ?_
 refine dR (enc:=Zd.enc) (xs:=p0) (a:=a_0) eG (fun hl ha=>?_);subst hl;clear ha
 refine ag (ah [5,6] [(4,pI ((p0.length:Nat):Int))] (by kernel_rfl) (ey h fun x1 hx1 h=>ae h fun x2 hx2 h=>cS 6 [] [9,10] [(7,pO a_0 p0.length c_0),(8,pI ((p0.length:Nat):Int)),(11,pI x1),(12,g1)] (aU 4 (vg hx1) aY) (by kernel_rfl) ?_))
 refine aj rfl (aI rfl rfl (ρ1:=[_]) (aq (by exact aN) Vh) (jG hg1 hx2) ?_);rintro _ _ ⟨rfl,rfl⟩
 refine au ?_
 obtain rfl:=osi h
 exact p7 (rfl:Te [] _ _ (.tup [])) bN ⟨rfl,rfl⟩
def cf (p0:Zd) (p1:Zd) (p2:Zv):Option Int:=(kP p0 p1).bind fun x3=>some x3
theorem oo {p0:Zd} {p1:Zd} {p2:Zv} {r:Int}  (h:cf p0 p1 p2=some r):PF 209 [.agg [pI p0.index_,pU p0.share,pU p0.rest],.agg [pI p1.index_,pU p1.share,pU p1.rest],.ref [.fn 157 []] 0] (pI r):=by
 unfold cf at h
 refine aV ?_
 refine dk Tryz.func209 rfl Tryz.ntmps209 Tryz.results209 rfl (cL rfl (be (cs:=[pI p0.index_,pU p0.share,pU p0.rest]) rfl rfl (fun b1=>aj rfl (be (cs:=[pI p1.index_,pU p1.share,pU p1.rest]) rfl rfl (fun b2=>aZ [5] (by kernel_rfl) (cP h fun x3 hx3 h=>ai [1,0] (rg 6 5) [(5,pI x3)] (yD 4 (gY (pargs:=[.agg [pI p0.index_,pU p0.share,pU p0.rest],.agg [pI p1.index_,pU p1.share,pU p1.rest]]) (caps:=[]) (sQ hx3)) aY) (by kernel_rfl) (cK ?_)))))))
 exact zz r h rfl
def fJ (p0:Zv) (p1:(List Zd)):Option (List Zd):=(bQ p1 (fun y2 y3=>cf y2 y3 (⟨()⟩:Zv))).bind fun x4=>some x4
theorem o5 {p0:Zv} {p1:(List Zd)} {a_1:Option Addr}  {n_1:Nat}  {c_1:Nat} {r:(List Zd)}  (h:fJ p0 p1=some r):La 158 [.agg [.fn 157 []],.v (.slice a_1 n_1 c_1)] [Qa.row a_1 n_1 c_1 238 3 (List.map Zd.enc p1)] (fun pv ρ'=>pv=.tup []/\ρ'=[Qa.row a_1 n_1 c_1 238 3 (List.map Zd.enc r)]):=by
 unfold fJ at h
 refine gC Tryz.func158 rfl Tryz.ntmps158 Tryz.results158 rfl ?_
 refine dR (enc:=Zd.enc) (xs:=p1) (a:=a_1) eG (fun hl ha=>?_);subst hl;clear ha
 refine ag (cL rfl (be (cs:=[.fn 157 []]) rfl rfl (fun b1=>au (aD (fC 1 [(4,pO a_1 p1.length c_1)] (by kernel_rfl) ?_)))))
 refine jj 2 rfl (by exact aN) ?_
 refine ae h fun x4 hx4 h=>ba 1 [(5,.fn 209 [.ref [.fn 157 []] 0])] (by kernel_rfl) ?_
 refine aj rfl (aI rfl rfl (ρ1:=[_]) (aq (by exact aC aN) Vh) (gN (fun hr=>gY (oo hr)) hx4) ?_);rintro _ _ ⟨rfl,rfl⟩
 refine au ?_
 obtain rfl:=osi h
 exact p7 (rfl:Te [] _ _ (.tup [])) bN ⟨rfl,rfl⟩
def gO (p0:Int) (p1:(List Int)):Option ((List Int)×Int):=(jS p0 p1).bind fun x1=>cond (x1 != 0) (some ([],x1)) ((jT p1).bind fun x3=>Option.bind (cond (x3 == 0) (some (p1.length:Int)) (some x3)) (fun v4=>(mk 24 (⟨(0:Int),(0:Int),(0:Int)⟩:Zd) (p1.length:Int)).bind fun l7=>(aW (S:=Int×(List Zd)×Int) (T:=(Int×(List Zd))) (fun (v10,l12,v13)=>cond (decide (v13<(p1.length:Int))) ((bx p1 v13).bind fun m20=>Option.bind (cond (x3 == 0) (some 1) (some m20)) (fun v22=>(kO (u64.wrap p0) (u64.wrap v22) (u64.wrap v4) 0).bind fun x25=>(mE (u64.wrap p0) (u64.wrap v22) (u64.wrap v4)).bind fun x26=>(bx l12 v13).bind fun m27=>lb ((i64.wrap (v10 - (i64.wrap x25.1)))) (fun w29=>some (.inl (w29,(l12.set v13.toNat (⟨v13,x25.1,x26⟩:Zd)),(i64.wrap (v13+1))))))) (some (.inr (v10,l12)))) Va (p0,l7,0)).bind fun (v14,l16)=>(fJ (⟨()⟩:Zv) l16).bind fun x30=>(mk 8 (0:Int) (p1.length:Int)).bind fun l31=>(aW (S:=(List Int)×Int) (T:=((List Int))) (fun (l35,v36)=>cond (decide (v36<((l7.length:Nat):Int))) (((bx x30 v36).bind fun m46=>(bx l35 m46.index_).bind fun m48=>cond (decide (v36<v14)) ((bx (l35.set m46.index_.toNat (i64.wrap m46.share)) m46.index_).bind fun m51=>(bx (l35.set m46.index_.toNat (i64.wrap m46.share)) m46.index_).bind fun m52=>some ((l35.set m46.index_.toNat (i64.wrap m46.share)).set m46.index_.toNat (i64.wrap (m51+1)))) (some (l35.set m46.index_.toNat (i64.wrap m46.share)))).bind fun l43=>some (.inl (l43,(i64.wrap (v36+1))))) (some (.inr l35))) Va (l31,0)).bind fun l38=>some (l38,(0:Int))))
theorem oT {p0:Int} {p1:(List Int)} {r:((List Int)×Int)}  (h:gO p0 p1=some r):PF 103 [pI p0,pL eI p1] (.tup [pL eI r.1,pI r.2]):=by
 unfold gO at h
 refine aV ?_
 refine dk Tryz.func103 rfl Tryz.ntmps103 Tryz.results103 rfl (aQ [4,5] (by kernel_rfl) (bM (ae h fun x1 hx1 h=>ai [] [19,20,21] [(6,pI x1)] (aU 2 (tG hx1) aY) (by kernel_rfl) (br (bF [22] [(23,pB (x1 != 0))] (by kernel_rfl) rfl h (fun hc2 h=>?_) fun hc2 h=>?_)))))
 ·refine ag ?_
  refine ah [24] [(4,pN),(5,pI x1)] (by kernel_rfl) (aD (gB 4 rfl (bi (bc ?_))))
  obtain rfl:=osi h
  exact aH (bK (az rfl) (az rfl)) bq ⟨rfl,rfl⟩
 refine af ?_
 refine cP h fun x3 hx3 h=>ai [] [25,26] [(7,pI x3)] (aU 1 (tH hx3) aY) (by kernel_rfl) (br (ah [27,28] [(8,pB (x3 == 0))] (by kernel_rfl) (bM (aA [(29,pB (x3 == 0))] (by kernel_rfl) (ey h fun q5 hq5 h=>?_)))))
 refine ap (Y:=Unit×Int) (fun (_,v4)=>[(0,pI p0),(1,pL eI p1),(7,pI v4),(8,pB (x3 == 0))]) (fun (_,v4)=>[]) (fun (_,v4)=>q5=v4) ?_ ?_
 ·skip
  refine fh rfl hq5 (fun hc6 hq5=>?_) fun hc6 hq5=>?_
  ·refine ah [30,31] [(7,pI (p1.length:Int))] (by kernel_rfl) ?_
   obtain rfl:=osi hq5
   exact am ((),(p1.length:Int)) (jC rfl) bq rfl
  refine af ?_
  obtain rfl:=osi hq5
  exact am ((),x3) (jC rfl) bq rfl
 rintro ⟨_,v4⟩ τ hz;(try dsimp only at hz);subst q5;(try dsimp only at h);dsimp only [aw]
 refine ag (ah [32] [(9,pI p0)] (by kernel_rfl) (cP h fun l7 hl7 h=>ak (bU 2 [33] [(34,pI (p1.length:Int))] (by kernel_rfl) (aj rfl (ue (enc:=Zd.enc) rfl rfl rfl rfl rfl rfl rfl rfl rfl hl7 (fun b8=>aE [(10,pO (some ⟨b8,0,none⟩) l7.length l7.length)] (by kernel_rfl) (bM (aA [(36,pL eI p1),(37,pI (p1.length:Int)),(38,pI 0)] (by kernel_rfl) (ey h fun q18 hq18 h=>?_)))))))))
 refine ap (Y:=Unit×(Int×(List Zd))) (fun (_,(v14,l16))=>[(1,pL eI p1),(9,pI v14),(10,pO (some ⟨b8,0,none⟩) l7.length l7.length)]) (fun (_,(v14,l16))=>[Qa.row (some ⟨b8,0,none⟩) l7.length l7.length 238 3 (List.map Zd.enc l16)]) (fun (_,(v14,l16))=>q18=(v14,l16)) ?_ ?_
 ·refine aG ?_
  refine aJ (Y:=Unit) (S:=Int×(List Zd)×Int) _ hq18 (fun _ (v10,l12,v13)=>[(0,pI p0),(1,pL eI p1),(7,pI v4),(8,pB (x3 == 0)),(9,pI v10),(10,pO (some ⟨b8,0,none⟩) l7.length l7.length),(36,pL eI p1),(37,pI (p1.length:Int)),(38,pI v13)]) (fun _ (v10,l12,v13)=>[Qa.row (some ⟨b8,0,none⟩) l7.length l7.length 238 3 (List.map Zd.enc l12)]) () (wv rfl) bN ?_
  rintro _ ⟨v10,l12,v13⟩ o τ hb17;(try dsimp only at hb17);dsimp only [aw]
  refine cH [(39,pB (decide (v13<(p1.length:Int))))] (by kernel_rfl) (br (fh rfl hb17 (fun hc19 hb17=>?_) fun hc19 hb17=>?_))
  ·refine af ?_
   refine eT (ae hb17 fun m20 hm20 hb17=>ai [] [40,41,42] [(11,pI v13),(12,pI m20)] (bX 1 eI hm20 aY) (by kernel_rfl) (bM (aA [(43,pB (x3 == 0))] (by kernel_rfl) (ey hb17 fun q23 hq23 hb17=>?_))))
   refine ap (Y:=Unit×Int) (fun (_,v22)=>[(0,pI p0),(1,pL eI p1),(7,pI v4),(8,pB (x3 == 0)),(9,pI v10),(10,pO (some ⟨b8,0,none⟩) l7.length l7.length),(11,pI v13),(12,pI v22),(36,pL eI p1),(37,pI (p1.length:Int)),(38,pI v13)]) (fun (_,v22)=>[Qa.row (some ⟨b8,0,none⟩) l7.length l7.length 238 3 (List.map Zd.enc l12)]) (fun (_,v22)=>q23=v22) ?_ ?_
   ·skip
    refine fh rfl hq23 (fun hc24 hq23=>?_) fun hc24 hq23=>?_
    ·refine aA [(12,pI 1)] (by kernel_rfl) ?_
     obtain rfl:=osi hq23
     exact am ((),1) (jK rfl (jK rfl (wv rfl))) bN rfl
    refine af ?_
    obtain rfl:=osi hq23
    exact am ((),m20) (jK rfl (jK rfl (wv rfl))) bN rfl
   rintro ⟨_,v22⟩ τ hz;(try dsimp only at hz);subst q23;(try dsimp only at hb17);dsimp only [aw]
   refine ag (ae hb17 fun x25 hx25 hb17=>ai [] ((rg 45 7)++[44,52,53,14]) [(13,pU x25.1)] (aU 6 (qW hx25) aY) (by kernel_rfl) (cP hb17 fun x26 hx26 hb17=>ai [] (rg 54 7) [(15,pU x26)] (aU 6 (wd hx26) aY) (by kernel_rfl) (cP hb17 fun m27 hm27 hb17=>ak (bU 6 [63,64,65] [(61,pO (some ⟨b8,0,none⟩) l7.length l7.length),(62,pI v13),(66,.agg [pI v13,pU x25.1,pU x26])] (by kernel_rfl) (cg rfl rfl rfl (d9 (enc:=Zd.enc) (xs:=l12) rfl rfl rfl (.p rfl) eG (.p rfl) (fun _=>hm27)) (aM rfl rfl (jb (enc:=Zd.enc) (xs:=l12) (a:=(some ⟨b8,0,none⟩)) v13 0 m27 (⟨v13,x25.1,x26⟩:Zd) rfl rfl rfl rfl (fun _=>rfl) rfl rfl hm27 AW bT (au (aD ?_)))))))))
   refine gD hb17 ?_;clear hb17;intro w29 hw29 hb17
   refine ak (bU 4 [68,69,70] [(71,pI (i64.wrap (v10 - (i64.wrap x25.1))))] (by kernel_rfl) (cg rfl rfl rfl (cD rfl (.p (congrArg (fun z=>PV.v (Value.int .i64 z)) hw29))) (au (eH (ah [72] [(38,pI (i64.wrap (v13+1)))] (by kernel_rfl) ?_)))))
   exact aT hb17 () (wv rfl) bN
  refine aL ?_
  refine cJ hb17 (fun ht=>an rfl ?_)
  exact am ((),(v10,l12)) (nt rfl) bN ht.symm
 rintro ⟨_,⟨v14,l16⟩⟩ τ hz;(try dsimp only at hz);subst q18;(try dsimp only at h);dsimp only [aw]
 refine ag (ae h fun x30 hx30 h=>fC 2 [(73,.agg [.fn 157 []]),(74,pO (some ⟨b8,0,none⟩) l7.length l7.length)] (by kernel_rfl) ?_)
 refine aj rfl (aI rfl rfl (ρ1:=[_]) (aq (by exact aN) Vh) (o5 hx30) ?_);rintro _ _ ⟨rfl,rfl⟩
 refine au (cP h fun l31 hl31 h=>ak (bU 2 [76] [(77,pI (p1.length:Int))] (by kernel_rfl) (aj rfl (ue (enc:=eI) rfl rfl rfl rfl rfl rfl rfl rfl rfl hl31 (fun b32=>aE [(16,pO (some ⟨b32,0,none⟩) l31.length l31.length)] (by kernel_rfl) (bM (aA [(79,pO (some ⟨b8,0,none⟩) l7.length l7.length),(80,pI ((l7.length:Nat):Int)),(81,pI 0)] (by kernel_rfl) (ey h fun q40 hq40 h=>?_))))))))
 refine ap (Y:=Unit×((List Int))) (fun (_,l38)=>[(16,pO (some ⟨b32,0,none⟩) l31.length l31.length)]) (fun (_,l38)=>[Qa.row (some ⟨b32,0,none⟩) l31.length l31.length 3 1 (List.map eI l38)]) (fun (_,l38)=>q40=l38) ?_ ?_
 ·refine aG ?_
  refine aJ (Y:=Unit) (S:=(List Int)×Int) _ hq40 (fun _ (l35,v36)=>[(9,pI v14),(16,pO (some ⟨b32,0,none⟩) l31.length l31.length),(79,pO (some ⟨b8,0,none⟩) l7.length l7.length),(80,pI ((l7.length:Nat):Int)),(81,pI v36)]) (fun _ (l35,v36)=>[Qa.row (some ⟨b8,0,none⟩) l7.length l7.length 238 3 (List.map Zd.enc x30),Qa.row (some ⟨b32,0,none⟩) l31.length l31.length 3 1 (List.map eI l35)]) () (gA rfl) (bg (aC aN) bN) ?_
  rintro _ ⟨l35,v36⟩ o τ hb39;(try dsimp only at hb39);dsimp only [aw]
  refine cH [(82,pB (decide (v36<((l7.length:Nat):Int))))] (by kernel_rfl) (br (fh rfl hb39 (fun hc41 hb39=>?_) fun hc41 hb39=>?_))
  ·refine af ?_
   refine cP hb39 fun q45 hq45 hb39=>?_
   refine ap (Y:=Unit×((List Int))) (fun (_,l43)=>[(9,pI v14),(16,pO (some ⟨b32,0,none⟩) l31.length l31.length),(79,pO (some ⟨b8,0,none⟩) l7.length l7.length),(80,pI ((l7.length:Nat):Int)),(81,pI v36)]) (fun (_,l43)=>[Qa.row (some ⟨b32,0,none⟩) l31.length l31.length 3 1 (List.map eI l43),Qa.row (some ⟨b8,0,none⟩) l7.length l7.length 238 3 (List.map Zd.enc x30)]) (fun (_,l43)=>q45=l43) ?_ ?_
   ·skip
    refine rx (ae hq45 fun m46 hm46 hq45=>fC 1 [(83,pI v36)] (by kernel_rfl) (cg rfl rfl rfl (d9 (enc:=Zd.enc) (xs:=x30) rfl rfl rfl (.p rfl) eG (.p rfl) (fun _=>hm46)) (cg rfl rfl rfl (dj (sz:=3) (p:=.agg [pI m46.index_,pU m46.share,pU m46.rest]) (enc:=Zd.enc) (xs:=x30) (a:=(some ⟨b8,0,none⟩)) v36 0 m46 rfl (.p rfl) rfl eG (fun _=>hm46) rfl) (aj rfl (aP (cs:=[pI 0,pU 0,pU 0]) rfl rfl rfl rfl (fun b47=>ba 1 [(17,pI v36)] (by kernel_rfl) (aM rfl rfl (al (vs:=[pI m46.index_,pU m46.share,pU m46.rest]) rfl rfl rfl rfl rfl bT AW (au (cP hq45 fun m48 hm48 hq45=>ak (bH 6 [0,0] [87,89,90] [(86,pO (some ⟨b32,0,none⟩) l31.length l31.length),(88,pI m46.index_),(91,pI (i64.wrap m46.share))] (by kernel_rfl) (cg rfl rfl rfl (d9 (enc:=eI) (xs:=l35) rfl rfl rfl (.p rfl) uR (.p rfl) (fun _=>hm48)) (aM rfl rfl (jb (enc:=eI) (xs:=l35) (a:=(some ⟨b32,0,none⟩)) m46.index_ 0 m48 (i64.wrap m46.share) rfl rfl rfl rfl (fun _=>rfl) rfl rfl hm48 ii (cE (cE bT)) (au (br (bF [93,94] [(95,pB (decide (v36<v14)))] (by kernel_rfl) rfl hq45 (fun hc50 hq45=>?_) fun hc50 hq45=>?_)))))))))))))))))
    ·refine ae hq45 ?_;clear hq45;intro m51 hm51 hq45
     refine ak (bH 3 [0] [97] [(96,pO (some ⟨b32,0,none⟩) l31.length l31.length),(98,pI m46.index_)] (by kernel_rfl) (cg rfl rfl rfl (d9 (enc:=eI) (xs:=(l35.set m46.index_.toNat (i64.wrap m46.share))) rfl rfl rfl (.p rfl) uR (.p rfl) (fun _=>hm51)) (cg rfl rfl rfl (dj (sz:=1) (p:=pI m51) (enc:=eI) (xs:=(l35.set m46.index_.toNat (i64.wrap m46.share))) (a:=(some ⟨b32,0,none⟩)) m46.index_ 0 m51 rfl (.p rfl) rfl uR (fun _=>hm51) rfl) (ae hq45 fun m52 hm52 hq45=>ba 1 [(101,pI (i64.wrap (m51+1)))] (by kernel_rfl) (cg rfl rfl rfl (d9 (enc:=eI) (xs:=(l35.set m46.index_.toNat (i64.wrap m46.share))) rfl rfl rfl (.p rfl) uR (.p rfl) (fun _=>hm52)) (aM rfl rfl (jb (enc:=eI) (xs:=(l35.set m46.index_.toNat (i64.wrap m46.share))) (a:=(some ⟨b32,0,none⟩)) m46.index_ 0 m52 (i64.wrap (m51+1)) rfl rfl rfl rfl (fun _=>rfl) rfl rfl hm52 ii (cE (cE bT)) (au (aF ?_)))))))))
     obtain rfl:=osi hq45
     exact am ((),((l35.set m46.index_.toNat (i64.wrap m46.share)).set m46.index_.toNat (i64.wrap (m51+1)))) (gA rfl) (bg (aC (aC aN)) (bg (aC aN) bq)) rfl
    refine af ?_
    refine aF ?_
    obtain rfl:=osi hq45
    exact am ((),(l35.set m46.index_.toNat (i64.wrap m46.share))) (gA rfl) (bg (aC (aC aN)) (bg (aC aN) bq)) rfl
   rintro ⟨_,l43⟩ τ hz;(try dsimp only at hz);subst q45;(try dsimp only at hb39);dsimp only [aw]
   refine ah [103] [(81,pI (i64.wrap (v36+1)))] (by kernel_rfl) ?_
   exact aT hb39 () (gA rfl) (bg (aC aN) bN)
  refine aL ?_
  refine cJ hb39 (fun ht=>an rfl ?_)
  exact am ((),l35) (oC rfl) (bg (aC aN) bq) ht.symm
 rintro ⟨_,l38⟩ τ hz;(try dsimp only at hz);subst q40;(try dsimp only at h);dsimp only [aw]
 refine ag (ah [104] [(4,pO (some ⟨b32,0,none⟩) l31.length l31.length),(5,pI 0)] (by kernel_rfl) (aD ?_))
 refine fj (enc:=eI) (xs:=l38) 4 rfl (by exact aN) ?_
 refine bi ?_
 obtain rfl:=osi h
 exact aH (bK (az rfl) (az rfl)) bq ⟨rfl,rfl⟩
def fw (p0:(List Int)):Option (List Int):=app 8 ([]:List Int) p0
theorem qf {p0:(List Int)} {r:(List Int)} (h:fw p0=some r):La 104 [pL eI p0] [] (fun pv ρ'=>∃ a c,pv=.v (.slice a r.length c)/\ρ'=[Qa.row a r.length c 3 1 (List.map eI r)]):=by
 unfold fw at h
 refine gC Tryz.func104 rfl Tryz.ntmps104 Tryz.results104 rfl ?_
 (repeat refine ag ?_)
 refine ak (cg rfl rfl rfl (cD (p:=.v (.slice none 0 0)) rfl (.p rfl)) (au (aD ?_)))
 (repeat refine ag ?_)
 refine ak (cg rfl rfl rfl (bY (p:=pL eI p0) rfl (.p rfl)) (zb rfl rfl rfl rfl rfl rfl (fun b hb=>au (aD ?_))))
 refine iV rfl (fun hc=>?_) (fun hc=>?_)
 ·have e0:p0=[]:=List.map_eq_nil_iff.1 (hb hc)
  subst e0;obtain ⟨rfl,_⟩:=qa h
  (repeat refine ag ?_)
  refine ak (cg rfl rfl rfl (cD (p:=.v (.slice none 0 0)) rfl (.p rfl)) (au (aD (bC 3 1 (bi (bc ?_))))))
  exact aH (dZ (az rfl)) bN ⟨_,_,rfl,rfl⟩
 refine af ?_
 refine aD ?_
 (repeat refine ag ?_)
 refine cL rfl (bp rfl rfl rfl rfl rfl jy rfl rfl rfl rfl (fun b1=>cg rfl rfl rfl (bY (p:=pL eI p0) rfl (.p rfl)) ?_))
 refine aj rfl (rF (enc:=eI) (xs:=([]:List Int)) rfl rfl rfl rfl rfl (fun _=>rfl) rfl rfl rfl (by exact aN) h (fun a c=>?_))
 refine cg rfl rfl rfl (cD (p:=.v (.slice a r.length c)) rfl (.p rfl)) (au (cK ?_))
 exact aH (dZ (az rfl)) bN ⟨_,_,rfl,rfl⟩
def ky (p0:Zw):Option ((List Zk)×Int):=Option.bind (α:=((List Int))⊕_) (cond (decide (0<p0.Quantity)) ((gO p0.Value [p0.Granted,(i64.wrap (p0.Quantity - p0.Granted))]).bind fun x9=>cond (x9.2 != 0) (some (.inr ([],x9.2))) (some (.inl x9.1))) (some (.inl [0,p0.Value]))) (fun q=>match q with | .inl l4=>Option.bind (cond p0.Proof ((app 8 [1,2] [3]).bind fun l21=>some l21) (some [1,2])) (fun l16=>Option.bind (cond (decide (0<p0.Granted)) ((bx l4 0).bind fun m32=>(fw l16).bind fun x33=>(app 8 x33 [4]).bind fun l39=>(app 40 ([]:List Zk) [(⟨p0.Granted,m32,l39⟩:Zk)]).bind fun l44=>some l44) (some ([]:(List Zk)))) (fun l28=>Option.bind (cond ((decide (0<(i64.wrap (p0.Quantity - p0.Granted))))||(p0.Quantity == 0)) ((bx l4 1).bind fun m54=>(app 40 l28 [(⟨(i64.wrap (p0.Quantity - p0.Granted)),m54,l16⟩:Zk)]).bind fun l57=>some l57) (some l28)) (fun l51=>(app 40 l51 [(⟨p0.Quantity,p0.Value,[5]⟩:Zk),(⟨p0.Quantity,p0.Value,[6]⟩:Zk)]).bind fun l67=>some (l67,(0:Int))))) | .inr e=>some e)
theorem uo {p0:Zw} {r:((List Zk)×Int)}  (h:ky p0=some r):PF 53 [.agg [pS p0.Code,pS p0.Origin,pB p0.Proof,pI p0.Company,pI p0.Day,pI p0.Quantity,pI p0.Value,pI p0.Granted]] (.tup [pL Zk.enc r.1,pI r.2]):=by
 unfold ky at h
 refine aV ?_
 refine dk Tryz.func53 rfl Tryz.ntmps53 Tryz.results53 rfl (cL rfl (be (cs:=[pS p0.Code,pS p0.Origin,pB p0.Proof,pI p0.Company,pI p0.Day,pI p0.Quantity,pI p0.Value,pI p0.Granted]) rfl rfl (fun b1=>aZ [2,3] (by kernel_rfl) (br (aK [0,0] (rg 9 5) [(4,pI (i64.wrap (p0.Quantity - p0.Granted)))] (by kernel_rfl) (br (ak (bH 2 [0] [14] [(15,pI p0.Value)] (by kernel_rfl) (aj rfl (bp rfl rfl rfl rfl rfl (eE rfl (eE rfl jy)) rfl rfl rfl rfl (fun b2=>aE [(5,pO (some ⟨b2,0,none⟩) 2 2)] (by kernel_rfl) (bM (aK [1] [17,18] [(19,pB (decide (0<p0.Quantity)))] (by kernel_rfl) (ey h fun q5 hq5 h=>?_))))))))))))))
 refine ap (Y:=Unit×((List Int))) (fun (_,l4)=>[(1,pP b1 0),(4,pI (i64.wrap (p0.Quantity - p0.Granted))),(5,pL eI l4)]) (fun (_,l4)=>[Qa.b b1 37 [pS p0.Code,pS p0.Origin,pB p0.Proof,pI p0.Company,pI p0.Day,pI p0.Quantity,pI p0.Value,pI p0.Granted]]) (fun (_,l4)=>q5=Sum.inl l4) ?_ ?_
 ·skip
  refine fh rfl hq5 (fun hc6 hq5=>?_) fun hc6 hq5=>?_
  ·refine ag ?_
   refine aQ [6] (by kernel_rfl) (br (ak (bH 5 [1,1] [21,23] [(22,pI p0.Value),(24,pI p0.Granted),(25,pI (i64.wrap (p0.Quantity - p0.Granted)))] (by kernel_rfl) (aj rfl (bp rfl rfl rfl rfl rfl (eE rfl (eE rfl jy)) rfl rfl rfl rfl (fun b7=>?_))))))
   refine dw (enc:=eI) (xs:=[p0.Granted,(i64.wrap (p0.Quantity - p0.Granted))]) 26 rfl (by exact aN) ?_
   refine ae hq5 fun x9 hx9 hq5=>dh [] [27,20,28,29] [(5,pL eI x9.1),(6,pI x9.2)] (aU 0 (oT hx9) aY) (by kernel_rfl) (br (bF [30] [(31,pB (x9.2 != 0))] (by kernel_rfl) rfl hq5 (fun hc10 hq5=>?_) fun hc10 hq5=>?_))
   ·refine ag ?_
    refine ah [32] [(2,pN),(3,pI x9.2)] (by kernel_rfl) (aD (gB 2 rfl (bi (aS ?_))))
    obtain rfl:=osi hq5
    obtain rfl:=osi h
    exact aH (bK (az rfl) (az rfl)) bq ⟨rfl,rfl⟩
   refine af ?_
   obtain rfl:=osi hq5
   exact am ((),x9.1) (nt rfl) (bg (aC (aC aN)) bq) rfl
  refine af ?_
  refine gc (Bq (enc:=eI) (xs:=[0,p0.Value]) 5 rfl (by exact aN)) ?_
  obtain rfl:=osi hq5
  exact am ((),[0,p0.Value]) (nt rfl) (bg (aC aN) bq) rfl
 rintro ⟨_,l4⟩ τ hz;(try dsimp only at hz);subst q5;(try dsimp only at h);dsimp only [aw]
 refine ag (cL rfl (bp rfl rfl rfl rfl rfl (eE rfl (eE rfl jy)) rfl rfl rfl rfl (fun b11=>aE [(7,pO (some ⟨b11,0,none⟩) 2 2)] (by kernel_rfl) (bM (aK [1] [34] [(35,pB p0.Proof)] (by kernel_rfl) (ey h fun q17 hq17 h=>?_))))))
 refine ap (Y:=(Option Addr×Nat)×((List Int))) (fun ((a14,c15),l16)=>[(1,pP b1 0),(4,pI (i64.wrap (p0.Quantity - p0.Granted))),(5,pL eI l4),(7,pO a14 l16.length c15)]) (fun ((a14,c15),l16)=>[Qa.b b1 37 [pS p0.Code,pS p0.Origin,pB p0.Proof,pI p0.Company,pI p0.Day,pI p0.Quantity,pI p0.Value,pI p0.Granted],Qa.row a14 l16.length c15 3 1 (List.map eI l16)]) (fun ((a14,c15),l16)=>q17=l16) ?_ ?_
 ·skip
  refine fh rfl hq17 (fun hc18 hq17=>?_) fun hc18 hq17=>?_
  ·refine ak ?_
   refine ba 1 [(36,pO (some ⟨b11,0,none⟩) 2 2)] (by kernel_rfl) (aj rfl (bp rfl rfl rfl rfl rfl (eE rfl jy) rfl rfl rfl rfl (fun b19=>ae hq17 fun l21 hl21 hq17=>?_)))
   refine aj rfl (bw (enc:=eI) rfl rfl rfl rfl rfl rfl rfl rfl rfl eG (by exact aC aN) hl21 (fun a22 c23=>?_))
   refine aE [(7,pO a22 l21.length c23)] (by kernel_rfl) ?_
   obtain rfl:=osi hq17
   exact am ((a22,c23),l21) (jC rfl) (bg (aC (aC aN)) bN) rfl
  refine af ?_
  obtain rfl:=osi hq17
  exact am (((some ⟨b11,0,none⟩),2),[1,2]) (jC rfl) (bg (aC aN) bN) rfl
 rintro ⟨⟨a14,c15⟩,l16⟩ τ hz;(try dsimp only at hz);subst q17;(try dsimp only at h);dsimp only [aw]
 refine cH [(8,pN)] (by kernel_rfl) (bM (aK [0] [39,40] [(41,pB (decide (0<p0.Granted)))] (by kernel_rfl) (ey h fun q29 hq29 h=>?_)))
 refine ap (Y:=(Option Addr×Nat)×((List Zk))) (fun ((a26,c27),l28)=>[(1,pP b1 0),(4,pI (i64.wrap (p0.Quantity - p0.Granted))),(5,pL eI l4),(7,pL eI l16),(8,pO a26 l28.length c27)]) (fun ((a26,c27),l28)=>[Qa.b b1 37 [pS p0.Code,pS p0.Origin,pB p0.Proof,pI p0.Company,pI p0.Day,pI p0.Quantity,pI p0.Value,pI p0.Granted],Qa.row a26 l28.length c27 130 3 (List.map Zk.enc l28)]) (fun ((a26,c27),l28)=>q29=l28) ?_ ?_
 ·skip
  refine fh rfl hq29 (fun hc30 hq29=>?_) fun hc30 hq29=>?_
  ·refine fj (enc:=eI) (xs:=l16) 7 rfl (by exact aC aN) ?_
   refine bC 130 3 (bE (ρd:=[Qa.row none _ _ _ _ _]) [(8,3),(0,0),(1,0),(2,0),(3,0),(4,0),(5,0),(6,0),(7,1),(8,2),(9,1),(10,0),(11,1),(12,1),(13,0)] _ Vh (by kernel_rfl) rfl (GP (za rfl rfl rfl rfl rfl (eE rfl jy) rfl rfl rfl) (ae hq29 fun m32 hm32 hq29=>ae hq29 fun x33 hx33 hq29=>ca 7 [1] [43,45,46] [(42,pO none 0 0),(44,pI p0.Granted),(47,pI m32),(48,pL eI l16)] (bX 4 eI hm32 aY) (by kernel_rfl) ?_)))
   refine jm rfl rfl rfl (aI rfl rfl (ρ1:=[]) Vh (qf hx33) ?_);rintro _ _ ⟨a34,c35,rfl,rfl⟩
   refine rH (za rfl rfl rfl rfl rfl (eE rfl jy) rfl rfl rfl) (fun _=>rfl) rfl (fun b37=>ae hq29 fun l39 hl39 hq29=>?_)
   refine jm rfl rfl rfl (DQ (GO (enc:=eI) rfl rfl rfl rfl rfl (fun _=>rfl) rfl rfl rfl rfl eG rfl (by exact aC aN) hl39 (fun a40 c41=>⟨_,_,_,_,_,_,_,rfl,by (repeat (first | exact aN | apply aC)),?_⟩)))
   refine lW rfl rfl rfl (j8 (cs:=[pI p0.Granted,pI m32,pL eI l39]) rfl rfl rfl rfl rfl rfl rfl (sZ rfl rfl rfl rfl ii (sZ rfl rfl rfl rfl (bV ii) (sZ rfl rfl rfl rfl (bV (bV ii)) Ip)))) (jm rfl rfl rfl (bp rfl rfl rfl rfl rfl (eE rfl jy) rfl rfl rfl rfl (fun b42=>ae hq29 fun l44 hl44 hq29=>?_)))
   refine jm rfl rfl rfl (bw (enc:=Zk.enc) rfl rfl rfl rfl rfl rfl rfl rfl rfl eG (by exact aC (aC aN)) hl44 (fun a45 c46=>?_))
   refine fB 1 [(8,pO a45 l44.length c46)] (by kernel_rfl) (bZ ?_)
   obtain rfl:=osi hq29
   exact am ((a45,c46),l44) (gA rfl) (bg (aC (aC (aC (aC aN)))) bN) rfl
  refine af ?_
  refine gc (Bq (enc:=eI) (xs:=l16) 7 rfl (by exact aC aN)) ?_
  refine gc (kq 130 3) ?_
  obtain rfl:=osi hq29
  exact am ((none,0),([]:(List Zk))) (gA rfl) (bg (aC (aC aN)) bN) rfl
 rintro ⟨⟨a26,c27⟩,l28⟩ τ hz;(try dsimp only at hz);subst q29;(try dsimp only at h);dsimp only [aw]
 refine dV (aK [0] (rg 55 6) [(61,pB ((decide (0<(i64.wrap (p0.Quantity - p0.Granted))))||(p0.Quantity == 0)))] (by kernel_rfl) (ey h fun q52 hq52 h=>?_))
 refine ap (Y:=(Option Addr×Nat)×((List Zk))) (fun ((a49,c50),l51)=>[(1,pP b1 0),(8,pO a49 l51.length c50)]) (fun ((a49,c50),l51)=>[Qa.b b1 37 [pS p0.Code,pS p0.Origin,pB p0.Proof,pI p0.Company,pI p0.Day,pI p0.Quantity,pI p0.Value,pI p0.Granted],Qa.row a49 l51.length c50 130 3 (List.map Zk.enc l51)]) (fun ((a49,c50),l51)=>q52=l51) ?_ ?_
 ·skip
  refine fh rfl hq52 (fun hc53 hq52=>?_) fun hc53 hq52=>?_
  ·refine ae hq52 ?_;clear hq52;intro m54 hm54 hq52
   refine cS 7 [] (rg 63 5) [(62,pO a26 l28.length c27),(68,.agg [pI (i64.wrap (p0.Quantity - p0.Granted)),pI m54,pL eI l16])] (bX 3 eI hm54 aY) (by kernel_rfl) (aj rfl (bp rfl rfl rfl rfl rfl (eE rfl jy) rfl rfl rfl rfl (fun b55=>ae hq52 fun l57 hl57 hq52=>?_)))
   refine aj rfl (bw (enc:=Zk.enc) rfl rfl rfl rfl rfl rfl rfl rfl rfl eG (by exact aC (aC aN)) hl57 (fun a58 c59=>?_))
   refine aE [(8,pO a58 l57.length c59)] (by kernel_rfl) ?_
   obtain rfl:=osi hq52
   exact am ((a58,c59),l57) (lK rfl) (bg (aC (aC aN)) bN) rfl
  refine af ?_
  obtain rfl:=osi hq52
  exact am ((a26,c27),l28) (lK rfl) tc rfl
 rintro ⟨⟨a49,c50⟩,l51⟩ τ hz;(try dsimp only at hz);subst q52;(try dsimp only at h);dsimp only [aw]
 refine ag (ak (bH 5 [0,0] [72,74] [(71,pO a49 l51.length c50),(73,pI p0.Quantity),(75,pI p0.Value)] (by kernel_rfl) (aj rfl (bp rfl rfl rfl rfl rfl (eE rfl jy) rfl rfl rfl rfl (fun b61=>?_)))))
 refine dw (enc:=eI) (xs:=[5]) 76 rfl (by exact aN) ?_
 refine bH 5 [1,1] [78,80] [(77,.agg [pI p0.Quantity,pI p0.Value,pL eI [5]]),(79,pI p0.Quantity),(81,pI p0.Value)] (by kernel_rfl) (aj rfl (bp rfl rfl rfl rfl rfl (eE rfl jy) rfl rfl rfl rfl (fun b63=>?_)))
 refine dw (enc:=eI) (xs:=[6]) 82 rfl (by exact aN) ?_
 refine ba 1 [(83,.agg [pI p0.Quantity,pI p0.Value,pL eI [6]])] (by kernel_rfl) (aj rfl (bp rfl rfl rfl rfl rfl (eE rfl (eE rfl jy)) rfl rfl rfl rfl (fun b65=>ae h fun l67 hl67 h=>?_)))
 refine aj rfl (bw (enc:=Zk.enc) rfl rfl rfl rfl rfl rfl rfl rfl rfl eG (by exact aC (aC (aC (aC aN)))) hl67 (fun a68 c69=>?_))
 refine aE [(2,pO a68 l67.length c69),(3,pI 0)] (by kernel_rfl) (aD ?_)
 refine fj (enc:=Zk.enc) (xs:=l67) 2 rfl (by exact aN) ?_
 refine bi ?_
 obtain rfl:=osi h
 exact aH (bK (az rfl) (az rfl)) bq ⟨rfl,rfl⟩
def fb (p0:Int) (p1:Int) (p2:Int):Option Zn:=(kN (u64.wrap ((u64.wrap p0)*(u64.wrap p1))) p2).bind fun x2=>some x2
theorem iz {p0:Int} {p1:Int} {p2:Int} {r:Zn}  (h:fb p0 p1 p2=some r):PF 159 [pI p0,.ref [pI p1] 0,.ref [pU p2] 0] (.agg [pU r.Hi,pU r.Lo]):=by
 unfold fb at h
 refine aV ?_
 refine dk Tryz.func159 rfl Tryz.ntmps159 Tryz.results159 rfl (cL rfl (aP (cs:=[pU 0,pU 0]) rfl rfl rfl rfl (fun b1=>au (cP h fun x2 hx2 h=>cS 7 [] (rg 5 6) [(11,.agg [pU x2.Hi,pU x2.Lo])] (aU 6 (oj hx2) aY) (by kernel_rfl) (aM rfl rfl (al (vs:=[pU x2.Hi,pU x2.Lo]) rfl rfl rfl rfl rfl bT pV (au (cK ?_))))))))
 obtain rfl:=osi h
 exact aH (dZ (di rfl eG rfl)) bq ⟨rfl,rfl⟩
def qg (p0:Zn) (p1:Zn):Option (Zn×Int):=(jO p0.Lo p1.Lo 0).bind fun x4=>(jO p0.Hi p1.Hi x4.2).bind fun x5=>cond (x5.2 != 0) (some ((⟨0,0⟩:Zn),(3:Int))) (some ((⟨x5.1,x4.1⟩:Zn),(0:Int)))
theorem Aq {p0:Zn} {p1:Zn} {r:(Zn×Int)}  (h:qg p0 p1=some r):PF 161 [.agg [pU p0.Hi,pU p0.Lo],.agg [pU p1.Hi,pU p1.Lo]] (.tup [.agg [pU r.1.Hi,pU r.1.Lo],pI r.2]):=by
 unfold qg at h
 refine aV ?_
 refine dk Tryz.func161 rfl Tryz.ntmps161 Tryz.results161 rfl (cL rfl (be (cs:=[pU p0.Hi,pU p0.Lo]) rfl rfl (fun b1=>aj rfl (be (cs:=[pU p1.Hi,pU p1.Lo]) rfl rfl (fun b2=>aj rfl (aP (cs:=[pU 0,pU 0]) rfl rfl rfl rfl (fun b3=>aZ [5] (by kernel_rfl) (cP h fun x4 hx4 h=>ak (bH 4 [2,1] [10,12] [(11,pU p0.Lo),(13,pU p1.Lo)] (by kernel_rfl) (aj rfl (Bu rfl rfl hx4 (fV [9,15,16] [(6,pU x4.1),(7,pU x4.2)] (by kernel_rfl) (cP h fun x5 hx5 h=>ak (bH 5 [2,1] [18,20] [(19,pU p0.Hi),(21,pU p1.Hi),(22,pU x4.2)] (by kernel_rfl) (aj rfl (Bu rfl rfl hx5 (fV [17,24,25] [(8,pU x5.1),(7,pU x5.2)] (by kernel_rfl) (bM (bF [26] [(27,pB (x5.2 != 0))] (by kernel_rfl) rfl h (fun hc6 h=>?_) fun hc6 h=>?_)))))))))))))))))))
 ·refine ag ?_
  refine fC 1 [(28,.agg [pU 0,pU 0])] (by kernel_rfl) (aM rfl rfl (al (vs:=[pU 0,pU 0]) rfl rfl rfl rfl rfl bT pV (aE [(5,pI 3)] (by kernel_rfl) (sO ?_))))
  obtain rfl:=osi h
  exact aH (bK (di rfl eG rfl) (az rfl)) bq ⟨rfl,rfl⟩
 refine af ?_
 refine br (ak (bU 3 [29,30] [(31,.agg [pU x5.1,pU x4.1])] (by kernel_rfl) (aM rfl rfl (al (vs:=[pU x5.1,pU x4.1]) rfl rfl rfl rfl rfl bT pV (aE [(5,pI 0)] (by kernel_rfl) (cK ?_))))))
 obtain rfl:=osi h
 exact aH (bK (di rfl eG rfl) (az rfl)) bq ⟨rfl,rfl⟩
def dY (p0:Zn) (p1:Zn):Option Int:=cond ((decide (p0.Hi<p1.Hi))||((p0.Hi == p1.Hi)&&(decide (p0.Lo<p1.Lo)))) (some (-1)) (cond (Zn.eqb p0 p1) (some (0:Int)) (some (1:Int)))
theorem nO {p0:Zn} {p1:Zn} {r:Int}  (h:dY p0 p1=some r):PF 162 [.agg [pU p0.Hi,pU p0.Lo],.agg [pU p1.Hi,pU p1.Lo]] (pI r):=by
 unfold dY at h
 refine aV ?_
 refine dk Tryz.func162 rfl Tryz.ntmps162 Tryz.results162 rfl (cL rfl (be (cs:=[pU p0.Hi,pU p0.Lo]) rfl rfl (fun b1=>aj rfl (be (cs:=[pU p1.Hi,pU p1.Lo]) rfl rfl (fun b2=>aZ [4] (by kernel_rfl) (eT (aK [1,0,1,0,1,0] (rg 6 19) [(5,pB ((decide (p0.Hi<p1.Hi))||((p0.Hi == p1.Hi)&&(decide (p0.Lo<p1.Lo)))))] (by kernel_rfl) (fi rfl h (fun hc3 h=>?_) fun hc3 h=>?_))))))))
 ·refine ag ?_
  refine aA [(4,pI (-1))] (by kernel_rfl) (cK (iq ?_))
  exact zz r h rfl
 refine ag ?_
 refine ai [1,0] [26,27,28] [(25,pB (Zn.eqb p0 p1))] (foeq 2 Zn.eqok244 aY) (by kernel_rfl) (fi rfl h (fun hc4 h=>?_) fun hc4 h=>?_)
 ·refine ag ?_
  refine aA [(4,pI 0)] (by kernel_rfl) (cK (iq ?_))
  exact zz r h rfl
 refine af ?_
 refine aF (br (aA [(4,pI 1)] (by kernel_rfl) (cK ?_)))
 exact zz r h rfl
def hZ (p0:Zs) (p1:Int) (p2:Int):Option (Int×Int):=(db p0).bind fun x3=>cond (x3 != 0) (some ((0:Int),x3)) (cond ((((decide (p1<0))||(decide (1000000000000<p1)))||(decide (p2<0)))||(decide (1000000000<p2))) (some ((0:Int),(2:Int))) ((fb p0.Rate p1 (u64.wrap (eO p0.Per 1))).bind fun x7=>(kN (u64.wrap ((u64.wrap p0.Amount)*(u64.wrap p2))) 1000000).bind fun x8=>(qg x7 x8).bind fun x9=>cond (x9.2 != 0) (some ((0:Int),(3:Int))) ((gd p0.HasMost (fb p0.Most p1 (u64.wrap (eO p0.Per 1)))).bind fun x12=>(gd p0.HasMost (dY x9.1 x12)).bind fun x13=>Option.bind (cond (p0.HasMost&&(decide (0<x13))) ((fb p0.Most p1 (u64.wrap (eO p0.Per 1))).bind fun x18=>some (x18.Hi,x18.Lo)) (some (x9.1.Hi,x9.1.Lo))) (fun (v14,v15)=>(gd p0.HasLeast (fb p0.Least p1 (u64.wrap (eO p0.Per 1)))).bind fun x19=>(gd p0.HasLeast (dY (⟨v14,v15⟩:Zn) x19)).bind fun x20=>Option.bind (cond (p0.HasLeast&&(decide (x20<0))) ((fb p0.Least p1 (u64.wrap (eO p0.Per 1))).bind fun x25=>some (x25.Hi,x25.Lo)) (some (v14,v15))) (fun (v21,v22)=>(ni (⟨v21,v22⟩:Zn) (u64.wrap (1000000*(u64.wrap (eO p0.Per 1)))) 2).bind fun x26=>cond ((x26.2 != 0)||(decide (1000000000000<x26.1))) (some ((0:Int),(3:Int))) (some ((i64.wrap x26.1),(0:Int))))))))
theorem vh {p0:Zs} {p1:Int} {p2:Int} {r:(Int×Int)}  (h:hZ p0 p1 p2=some r):PF 105 [.agg [pI p0.Rate,pI p0.Amount,pI p0.Per,pB p0.HasMost,pI p0.Most,pB p0.HasLeast,pI p0.Least],pI p1,pI p2] (.tup [pI r.1,pI r.2]):=by
 unfold hZ at h
 refine aV ?_
 refine dk Tryz.func105 rfl Tryz.ntmps105 Tryz.results105 rfl (cL rfl (be (cs:=[pI p0.Rate,pI p0.Amount,pI p0.Per,pB p0.HasMost,pI p0.Most,pB p0.HasLeast,pI p0.Least]) rfl rfl (fun b1=>aj rfl (be (cs:=[pI p1]) rfl rfl (fun b2=>aZ [6,7] (by kernel_rfl) (bM (ae h fun x3 hx3 h=>ai [1] [14,15] [(8,pI x3)] (aU 1 (kJ hx3) aY) (by kernel_rfl) (br (bF [16] [(17,pB (x3 != 0))] (by kernel_rfl) rfl h (fun hc4 h=>?_) fun hc4 h=>?_)))))))))
 ·refine ag ?_
  refine ah [18] [(6,pI 0),(7,pI x3)] (by kernel_rfl) (sO ?_)
  obtain rfl:=osi h
  exact aH (bK (az rfl) (az rfl)) bq ⟨rfl,rfl⟩
 refine af ?_
 refine bM (aK [0,0] (rg 19 13) [(32,pB ((((decide (p1<0))||(decide (1000000000000<p1)))||(decide (p2<0)))||(decide (1000000000<p2))))] (by kernel_rfl) (fi rfl h (fun hc5 h=>?_) fun hc5 h=>?_))
 ·refine ag ?_
  refine de [(6,pI 0),(7,pI 2)] (by kernel_rfl) ?_
  obtain rfl:=osi h
  exact aH (bK (az rfl) (az rfl)) bq ⟨rfl,rfl⟩
 refine af ?_
 refine br (ak (bH 4 [1] [33,34,35] [(36,pU (u64.wrap (eO p0.Per 1)))] (by kernel_rfl) (aj rfl (aP (cs:=[pU 0]) rfl rfl rfl rfl (fun b6=>aM rfl rfl (al (vs:=[pU (u64.wrap (eO p0.Per 1))]) rfl rfl rfl rfl rfl bT ii (au (br (ak ?_)))))))))
 refine jj 4 rfl (by exact aC aN) ?_
 refine jj 9 rfl (by exact aC aN) ?_
 refine fV [37] [(10,.fn 159 [.ref [pI p1] 0,.ref [pU (u64.wrap (eO p0.Per 1))] 0])] (by kernel_rfl) (br (bE (ρd:=[]) [(0,0),(1,0),(2,0),(4,0),(5,0),(6,0),(7,0),(8,0),(9,0),(3,1),(10,1),(11,1),(12,0),(13,0),(14,0),(15,2),(16,1),(17,0)] _ Vh (by kernel_rfl) rfl (ae h fun x7 hx7 h=>ae h fun x8 hx8 h=>ae h fun x9 hx9 h=>ca 15 [2,2] [39,40,41,43,44,45,46,47,48,42,49,50,38] [(51,.agg [pU x9.1.Hi,pU x9.1.Lo]),(52,pI x9.2)] (yD 9 (gY (pargs:=[pI p0.Rate]) (caps:=[.ref [pI p1] 0,.ref [pU (u64.wrap (eO p0.Per 1))] 0]) (iz hx7)) (aU 10 (oj hx8) (aU 11 (Aq hx9) aY))) (by kernel_rfl) (rH (pg rfl rfl rfl rfl rfl) (fun _=>rfl) rfl (fun b10=>rG rfl rfl (al (vs:=[pU x9.1.Hi,pU x9.1.Lo]) rfl rfl rfl rfl rfl bT pV (fB 1 [(12,pI x9.2)] (by kernel_rfl) (bZ (bM (bF [53] [(54,pB (x9.2 != 0))] (by kernel_rfl) rfl h (fun hc11 h=>?_) fun hc11 h=>?_))))))))))
 ·refine ag ?_
  refine de [(6,pI 0),(7,pI 3)] (by kernel_rfl) ?_
  obtain rfl:=osi h
  exact aH (bK (az rfl) (az rfl)) bq ⟨rfl,rfl⟩
 refine af ?_
 refine bM (bE (ρd:=[]) [(0,0),(1,0),(2,0),(3,0),(4,0),(5,0),(6,0),(7,1),(8,1),(9,0),(10,0)] _ Vh (by kernel_rfl) rfl (ae h fun x12 hx12 h=>ae h fun x13 hx13 h=>ca 11 [3,0,3] (rg 55 10) [(65,pB (p0.HasMost&&(decide (0<x13))))] (focvg 7 (fun hc=>gY (pargs:=[pI p0.Most]) (caps:=[.ref [pI p1] 0,.ref [pU (u64.wrap (eO p0.Per 1))] 0]) (iz (fU hx12 hc))) (iJ 8 (fun hc=>nO (fU hx13 hc)) aY)) (by kernel_rfl) (bZ (ey h fun q16 hq16 h=>?_))))
 refine ap (Y:=Unit×(Int×Int)) (fun (_,(v14,v15))=>[(3,pP b1 0),(9,.ref [pU (u64.wrap (eO p0.Per 1))] 0),(10,.fn 159 [.ref [pI p1] 0,.ref [pU (u64.wrap (eO p0.Per 1))] 0]),(11,pP b10 0)]) (fun (_,(v14,v15))=>[Qa.b b1 78 [pI p0.Rate,pI p0.Amount,pI p0.Per,pB p0.HasMost,pI p0.Most,pB p0.HasLeast,pI p0.Least],Qa.b b10 244 [pU v14,pU v15]]) (fun (_,(v14,v15))=>q16=(v14,v15)) ?_ ?_
 ·skip
  refine fh rfl hq16 (fun hc17 hq16=>?_) fun hc17 hq16=>?_
  ·refine ae hq16 ?_;clear hq16;intro x18 hx18 hq16
   refine cS 4 [3] [66,67,68] [(69,.agg [pU x18.Hi,pU x18.Lo])] (yD 3 (gY (pargs:=[pI p0.Most]) (caps:=[.ref [pI p1] 0,.ref [pU (u64.wrap (eO p0.Per 1))] 0]) (iz hx18)) aY) (by kernel_rfl) (aM rfl rfl (al (vs:=[pU x18.Hi,pU x18.Lo]) rfl rfl rfl rfl rfl bT pV (au ?_)))
   obtain rfl:=osi hq16
   exact am ((),(x18.Hi,x18.Lo)) (jC rfl) (bg (aC (aC (aC aN))) bN) rfl
  refine af ?_
  obtain rfl:=osi hq16
  exact am ((),(x9.1.Hi,x9.1.Lo)) (jC rfl) (bg (aC (aC (aC aN))) bN) rfl
 rintro ⟨_,⟨v14,v15⟩⟩ τ hz;(try dsimp only at hz);subst q16;(try dsimp only at h);dsimp only [aw]
 refine dV (bE (ρd:=[]) [(0,0),(1,0),(2,0),(3,0),(4,0),(5,0),(6,0),(7,1),(8,1),(9,0),(10,0)] _ Vh (by kernel_rfl) rfl (ae h fun x19 hx19 h=>ae h fun x20 hx20 h=>ca 11 [0,1,0] (rg 70 10) [(80,pB (p0.HasLeast&&(decide (x20<0))))] (focvg 7 (fun hc=>gY (pargs:=[pI p0.Least]) (caps:=[.ref [pI p1] 0,.ref [pU (u64.wrap (eO p0.Per 1))] 0]) (iz (fU hx19 hc))) (iJ 8 (fun hc=>nO (fU hx20 hc)) aY)) (by kernel_rfl) (bZ (ey h fun q23 hq23 h=>?_))))
 refine ap (Y:=Unit×(Int×Int)) (fun (_,(v21,v22))=>[(9,.ref [pU (u64.wrap (eO p0.Per 1))] 0),(11,pP b10 0)]) (fun (_,(v21,v22))=>[Qa.b b10 244 [pU v21,pU v22]]) (fun (_,(v21,v22))=>q23=(v21,v22)) ?_ ?_
 ·skip
  refine fh rfl hq23 (fun hc24 hq23=>?_) fun hc24 hq23=>?_
  ·refine ae hq23 ?_;clear hq23;intro x25 hx25 hq23
   refine cS 4 [0] [81,82,83] [(84,.agg [pU x25.Hi,pU x25.Lo])] (yD 3 (gY (pargs:=[pI p0.Least]) (caps:=[.ref [pI p1] 0,.ref [pU (u64.wrap (eO p0.Per 1))] 0]) (iz hx25)) aY) (by kernel_rfl) (aM rfl rfl (al (vs:=[pU x25.Hi,pU x25.Lo]) rfl rfl rfl rfl rfl (cE bT) pV (au ?_)))
   obtain rfl:=osi hq23
   exact am ((),(x25.Hi,x25.Lo)) (lK rfl) (bg (aC aN) bq) rfl
  refine af ?_
  obtain rfl:=osi hq23
  exact am ((),(v14,v15)) (lK rfl) (bg (aC aN) bq) rfl
 rintro ⟨_,⟨v21,v22⟩⟩ τ hz;(try dsimp only at hz);subst q23;(try dsimp only at h);dsimp only [aw]
 refine ag (ae h fun x26 hx26 h=>ai [0] [86,87,88,89,85,90,91] [(13,pU x26.1),(12,pI x26.2)] (aU 3 (un hx26) aY) (by kernel_rfl) (bM (bF (rg 92 5) [(97,pB ((x26.2 != 0)||(decide (1000000000000<x26.1))))] (by kernel_rfl) rfl h (fun hc27 h=>?_) fun hc27 h=>?_)))
 ·refine ag ?_
  refine de [(6,pI 0),(7,pI 3)] (by kernel_rfl) ?_
  obtain rfl:=osi h
  exact aH (bK (az rfl) (az rfl)) bq ⟨rfl,rfl⟩
 refine af ?_
 refine br (ah [98,99] [(6,pI (i64.wrap x26.1)),(7,pI 0)] (by kernel_rfl) (cK ?_))
 obtain rfl:=osi h
 exact aH (bK (az rfl) (az rfl)) bq ⟨rfl,rfl⟩
def il (p0:(List Zc)) (p1:Zk):Option (Zi×Bool×Int):=(aW (S:=Bool×Int×Int×Int×Int×Int×Int) (T:=(Bool×Int×Int×Int×Int×Int)⊕(_)) (fun (v4,v5,v6,v7,v8,v9,v10)=>cond (decide (v5<(p1.kinds.length:Int))) ((bx p1.kinds v5).bind fun m20=>(aW (S:=Bool×Int×Int×Int×Int×Int×Int) (T:=(Bool×Int×Int×Int×Int×Int)⊕(_)) (fun (v21,v22,v23,v24,v25,v26,v27)=>cond (decide (v22<(p0.length:Int))) (Option.bind (α:=(Bool×Int×Int×Int×Int×Int)⊕_) ((bx p0 v22).bind fun m44=>cond (m44.Kind != m20) (some (.inl (v21,v23,v24,v25,v26,v27))) ((hZ m44.Duty p1.value p1.quantity).bind fun x47=>cond (x47.2 != 0) (some (.inr (.inr (.inr (.inr (.inr ((⟨0,0,0,0,0⟩:Zi),false,x47.2))))))) (cond ((!v21)||(decide (x47.1<v27))) (some (.inl (true,m44.Kind,m44.ID,p1.quantity,p1.value,x47.1))) (some (.inl (v21,v23,v24,v25,v26,v27)))))) (fun q=>match q with | .inl (v37,v38,v39,v40,v41,v42)=>some (.inl (v37,(i64.wrap (v22+1)),v38,v39,v40,v41,v42)) | .inr e=>some e)) (some (.inr (.inl (v21,v23,v24,v25,v26,v27))))) Va (v4,0,v6,v7,v8,v9,v10)).bind fun q=>match q with | .inl (v28,v29,v30,v31,v32,v33)=>some (.inl (v28,(i64.wrap (v5+1)),v29,v30,v31,v32,v33)) | .inr e=>some e) (some (.inr (.inl (v4,v6,v7,v8,v9,v10))))) Va (false,0,0,0,0,0,0)).bind fun q=>match q with | .inl (v11,v12,v13,v14,v15,v16)=>some ((⟨v12,v13,v14,v15,v16⟩:Zi),v11,(0:Int)) | .inr e=>some e
theorem sR {p0:(List Zc)} {p1:Zk} {r:(Zi×Bool×Int)}  (h:il p0 p1=some r):PF 54 [pL Zc.enc p0,.agg [pI p1.quantity,pI p1.value,pL eI p1.kinds]] (.tup [.agg [pI r.1.Kind,pI r.1.Measure,pI r.1.Quantity,pI r.1.Value,pI r.1.Amount],pB r.2.1,pI r.2.2]):=by
 unfold il at h
 refine aV ?_
 refine dk Tryz.func54 rfl Tryz.ntmps54 Tryz.results54 rfl (cL rfl (be (cs:=[pI p1.quantity,pI p1.value,pL eI p1.kinds]) rfl rfl (fun b1=>aj rfl (aP (cs:=[pI 0,pI 0,pI 0,pI 0,pI 0]) rfl rfl rfl rfl (fun b2=>aZ [5,6] (by kernel_rfl) (br (cL rfl (aP (cs:=[pI 0,pI 0,pI 0,pI 0,pI 0]) rfl rfl rfl rfl (fun b3=>au (br (aA [(8,pB false)] (by kernel_rfl) (bM (aK [2] [15] [(16,pL eI p1.kinds),(17,pI (p1.kinds.length:Int)),(18,pI 0)] (by kernel_rfl) (ey h fun q18 hq18 h=>?_))))))))))))))
 refine ap (Y:=Unit×(Bool×Int×Int×Int×Int×Int)) (fun (_,(v11,v12,v13,v14,v15,v16))=>[(4,pP b2 0),(7,pP b3 0),(8,pB v11)]) (fun (_,(v11,v12,v13,v14,v15,v16))=>[Qa.b b2 132 [pI 0,pI 0,pI 0,pI 0,pI 0],Qa.b b3 132 [pI v12,pI v13,pI v14,pI v15,pI v16]]) (fun (_,(v11,v12,v13,v14,v15,v16))=>q18=Sum.inl (v11,v12,v13,v14,v15,v16)) ?_ ?_
 ·refine aG ?_
  refine aJ (Y:=Unit) (S:=Bool×Int×Int×Int×Int×Int×Int) _ hq18 (fun _ (v4,v5,v6,v7,v8,v9,v10)=>[(0,pL Zc.enc p0),(3,pP b1 0),(4,pP b2 0),(7,pP b3 0),(8,pB v4),(16,pL eI p1.kinds),(17,pI (p1.kinds.length:Int)),(18,pI v5)]) (fun _ (v4,v5,v6,v7,v8,v9,v10)=>[Qa.b b1 130 [pI p1.quantity,pI p1.value,pL eI p1.kinds],Qa.b b2 132 [pI 0,pI 0,pI 0,pI 0,pI 0],Qa.b b3 132 [pI v6,pI v7,pI v8,pI v9,pI v10]]) () (Iq rfl) (bg (aC (aC aN)) (bg (aC aN) bN)) ?_
  rintro _ ⟨v4,v5,v6,v7,v8,v9,v10⟩ o τ hb17;(try dsimp only at hb17);dsimp only [aw]
  refine cH [(19,pB (decide (v5<(p1.kinds.length:Int))))] (by kernel_rfl) (br (fh rfl hb17 (fun hc19 hb17=>?_) fun hc19 hb17=>?_))
  ·refine af ?_
   refine eT (ae hb17 fun m20 hm20 hb17=>ai [] [20,21] [(10,pI m20)] (bX 0 eI hm20 aY) (by kernel_rfl) (br (aA [(22,pL Zc.enc p0),(23,pI (p0.length:Int)),(24,pI 0)] (by kernel_rfl) (ey hb17 fun q35 hq35 hb17=>?_))))
   refine eD (Y:=Unit×(Bool×Int×Int×Int×Int×Int)) (fun (_,(v28,v29,v30,v31,v32,v33))=>[(0,pL Zc.enc p0),(3,pP b1 0),(4,pP b2 0),(7,pP b3 0),(8,pB v28),(16,pL eI p1.kinds),(17,pI (p1.kinds.length:Int)),(18,pI v5)]) (fun (_,(v28,v29,v30,v31,v32,v33))=>[Qa.b b1 130 [pI p1.quantity,pI p1.value,pL eI p1.kinds],Qa.b b2 132 [pI 0,pI 0,pI 0,pI 0,pI 0],Qa.b b3 132 [pI v29,pI v30,pI v31,pI v32,pI v33]]) (fun (_,(v28,v29,v30,v31,v32,v33))=>q35=Sum.inl (v28,v29,v30,v31,v32,v33)) ?_ ?_
   ·refine aG ?_
    refine aJ (Y:=Unit) (S:=Bool×Int×Int×Int×Int×Int×Int) _ hq35 (fun _ (v21,v22,v23,v24,v25,v26,v27)=>[(0,pL Zc.enc p0),(3,pP b1 0),(4,pP b2 0),(7,pP b3 0),(8,pB v21),(10,pI m20),(16,pL eI p1.kinds),(17,pI (p1.kinds.length:Int)),(18,pI v5),(22,pL Zc.enc p0),(23,pI (p0.length:Int)),(24,pI v22)]) (fun _ (v21,v22,v23,v24,v25,v26,v27)=>[Qa.b b1 130 [pI p1.quantity,pI p1.value,pL eI p1.kinds],Qa.b b2 132 [pI 0,pI 0,pI 0,pI 0,pI 0],Qa.b b3 132 [pI v23,pI v24,pI v25,pI v26,pI v27]]) () (jK rfl (jK rfl (jK rfl (wv rfl)))) rI ?_
    rintro _ ⟨v21,v22,v23,v24,v25,v26,v27⟩ o τ hb34;(try dsimp only at hb34);dsimp only [aw]
    refine cH [(25,pB (decide (v22<(p0.length:Int))))] (by kernel_rfl) (br (fh rfl hb34 (fun hc36 hb34=>?_) fun hc36 hb34=>?_))
    ·refine af ?_
     refine cP hb34 fun q43 hq43 hb34=>?_
     refine ap (Y:=Unit×(Bool×Int×Int×Int×Int×Int)) (fun (_,(v37,v38,v39,v40,v41,v42))=>[(0,pL Zc.enc p0),(3,pP b1 0),(4,pP b2 0),(7,pP b3 0),(8,pB v37),(10,pI m20),(16,pL eI p1.kinds),(17,pI (p1.kinds.length:Int)),(18,pI v5),(22,pL Zc.enc p0),(23,pI (p0.length:Int)),(24,pI v22)]) (fun (_,(v37,v38,v39,v40,v41,v42))=>[Qa.b b1 130 [pI p1.quantity,pI p1.value,pL eI p1.kinds],Qa.b b2 132 [pI 0,pI 0,pI 0,pI 0,pI 0],Qa.b b3 132 [pI v38,pI v39,pI v40,pI v41,pI v42]]) (fun (_,(v37,v38,v39,v40,v41,v42))=>q43=Sum.inl (v37,v38,v39,v40,v41,v42)) ?_ ?_
     ·skip
      refine rx (ae hq43 fun m44 hm44 hq43=>cS 2 [] [26] [(27,.agg (bL m44))] (bX 0 Zc.enc hm44 aY) (by kernel_rfl) (aj rfl (aP (cs:=[pI 0,pI 0,pS Uh,pN,pI 0,pI 0,pI 0,pI 0,pI 0,pI 0,pI 0,pB false,pI 0,pB false,pI 0]) rfl rfl rfl rfl (fun b45=>aM rfl rfl (al (vs:=(bL m44)) rfl rfl rfl rfl rfl bT (gr (gr (gr (gr (gr (gr GT)))))) (au (bM (aK [0] [28,29,30] [(31,pB (m44.Kind != m20))] (by kernel_rfl) (fi rfl hq43 (fun hc46 hq43=>?_) fun hc46 hq43=>?_)))))))))
      ·refine aL ?_
       refine cj (an rfl ?_)
       obtain rfl:=osi hq43
       exact am ((),(v21,v23,v24,v25,v26,v27)) (jK rfl (jK rfl (jK rfl (wv rfl)))) (bg (aC aN) (bg (aC aN) (bg (aC aN) bq))) rfl
      refine af ?_
      refine cP hq43 fun x47 hx47 hq43=>ai [0,1,1] ((rg 33 7)++[32,40,41]) [(13,pI x47.1),(14,pI x47.2)] (aU 6 (vh hx47) aY) (by kernel_rfl) (bM (bF [42] [(43,pB (x47.2 != 0))] (by kernel_rfl) rfl hq43 (fun hc48 hq43=>?_) fun hc48 hq43=>?_))
      ·refine ag ?_
       refine fC 2 [(44,.agg [pI 0,pI 0,pI 0,pI 0,pI 0]),(45,pI x47.2)] (by kernel_rfl) (aM rfl rfl (al (vs:=[pI 0,pI 0,pI 0,pI 0,pI 0]) rfl rfl rfl rfl rfl (cE (cE bT)) td (aE [(5,pB false),(6,pI x47.2)] (by kernel_rfl) (sO (aO (aS ?_))))))
       obtain rfl:=osi hq43
       refine aX hb34 (fun ht=>?_);subst ht
       refine aO (i7 (iq ?_))
       refine aX hb17 (fun ht=>?_);subst ht
       refine aO (aS ?_)
       obtain rfl:=osi h
       exact aH (nA (di rfl uR rfl) (az rfl) (az rfl)) bq ⟨rfl,rfl⟩
      refine af ?_
      refine br (aK [3] (rg 46 7) [(53,pB ((!v21)||(decide (x47.1<v27))))] (by kernel_rfl) (fi rfl hq43 (fun hc49 hq43=>?_) fun hc49 hq43=>?_))
      ·refine ag ?_
       refine ak (bH 10 [0,0,1,1] (rg 54 9) [(63,.agg [pI m44.Kind,pI m44.ID,pI p1.quantity,pI p1.value,pI x47.1])] (by kernel_rfl) (aM rfl rfl (al (vs:=[pI m44.Kind,pI m44.ID,pI p1.quantity,pI p1.value,pI x47.1]) rfl rfl rfl rfl rfl (cE (cE (cE bT))) td (au (aD (aA [(8,pB true)] (by kernel_rfl) (aF ?_)))))))
       obtain rfl:=osi hq43
       exact am ((),(true,m44.Kind,m44.ID,p1.quantity,p1.value,x47.1)) (jK rfl (jK rfl (jK rfl (wv rfl)))) (bg (aC aN) (bg (aC aN) (bg (aC aN) bq))) rfl
      refine af ?_
      refine aF ?_
      obtain rfl:=osi hq43
      exact am ((),(v21,v23,v24,v25,v26,v27)) (jK rfl (jK rfl (jK rfl (wv rfl)))) (bg (aC aN) (bg (aC aN) (bg (aC aN) bq))) rfl
     rintro ⟨_,⟨v37,v38,v39,v40,v41,v42⟩⟩ τ hz;(try dsimp only at hz);subst q43;(try dsimp only at hb34);dsimp only [aw]
     refine ah [64] [(24,pI (i64.wrap (v22+1)))] (by kernel_rfl) ?_
     exact aT hb34 () (jK rfl (jK rfl (jK rfl (wv rfl)))) rI
    refine aL ?_
    refine cJ hb34 (fun ht=>an rfl ?_)
    exact gZ ((),(v21,v23,v24,v25,v26,v27)) (Iq rfl) rI ht.symm
   rintro ⟨_,⟨v28,v29,v30,v31,v32,v33⟩⟩ τ ρ1 hsub50 hz;(try dsimp only at hz hsub50);subst q35;(try dsimp only at hb17);dsimp only [aw]
   refine eH (kb hsub50 (ah [65] [(18,pI (i64.wrap (v5+1)))] (by kernel_rfl) ?_))
   exact aT hb17 () (Iq rfl) rI
  refine aL ?_
  refine cJ hb17 (fun ht=>an rfl ?_)
  exact am ((),(v4,v6,v7,v8,v9,v10)) (nt rfl) (bg (aC aN) (bg (aC aN) bq)) ht.symm
 rintro ⟨_,⟨v11,v12,v13,v14,v15,v16⟩⟩ τ hz;(try dsimp only at hz);subst q18;(try dsimp only at h);dsimp only [aw]
 refine ag (ak (dE 2 [1] [(66,.agg [pI v12,pI v13,pI v14,pI v15,pI v16]),(67,pB v11)] (by kernel_rfl) (aM rfl rfl (al (vs:=[pI v12,pI v13,pI v14,pI v15,pI v16]) rfl rfl rfl rfl rfl bT td (aE [(5,pB v11),(6,pI 0)] (by kernel_rfl) (cK ?_))))))
 obtain rfl:=osi h
 exact aH (nA (di rfl eG rfl) (az rfl) (az rfl)) bq ⟨rfl,rfl⟩
def jV (p0:(List Zi)) (p1:(List Zi)):Option Bool:=cond ((p0.length:Int) != (p1.length:Int)) (some false) ((aW (S:=Int) (T:=(Unit)⊕(_)) (fun v2=>cond (decide (v2<(p0.length:Int))) ((bx p0 v2).bind fun m6=>(bx p1 v2).bind fun m7=>cond (!(Zi.eqb m6 m7)) (some (.inr (.inr false))) (some (.inl (i64.wrap (v2+1))))) (some (.inr (.inl ())))) Va 0).bind fun q=>match q with | .inl _=>some true | .inr e=>some e)
theorem tL {p0:(List Zi)} {p1:(List Zi)} {r:Bool}  (h:jV p0 p1=some r):PF 55 [pL Zi.enc p0,pL Zi.enc p1] (pB r):=by
 unfold jV at h
 refine aV ?_
 refine dk Tryz.func55 rfl Tryz.ntmps55 Tryz.results55 rfl (aQ [4] (by kernel_rfl) (bM (bF [6,7,8,9] [(10,pB ((p0.length:Int) != (p1.length:Int)))] (by kernel_rfl) rfl h (fun hc1 h=>?_) fun hc1 h=>?_)))
 ·refine ag ?_
  refine de [(4,pB false)] (by kernel_rfl) ?_
  exact zz r h rfl
 refine af ?_
 refine bM (aA [(5,pI 0)] (by kernel_rfl) (ey h fun q4 hq4 h=>?_))
 refine ap (Y:=Unit×Unit) (fun (_,_)=>[]) (fun (_,_)=>[]) (fun (_,_)=>q4=Sum.inl ()) ?_ ?_
 ·refine aG ?_
  refine aJ (Y:=Unit) (S:=Int) _ hq4 (fun _ v2=>[(0,pL Zi.enc p0),(1,pL Zi.enc p1),(5,pI v2)]) (fun _ v2=>[]) () (nt rfl) bq ?_
  rintro _ v2 o τ hb3;(try dsimp only at hb3);dsimp only [aw]
  refine dV (bF [11,12,13] [(14,pB (decide (v2<(p0.length:Int))))] (by kernel_rfl) rfl hb3 (fun hc5 hb3=>?_) fun hc5 hb3=>?_)
  ·refine af ?_
   refine eT (bE (ρd:=[]) [(0,0),(1,0),(2,0),(3,0),(4,0),(5,0),(6,0),(7,0),(8,0)] _ Vh (by kernel_rfl) rfl (ae hb3 fun m6 hm6 hb3=>ae hb3 fun m7 hm7 hb3=>ca 9 [] (rg 17 8) [(25,pB (!(Zi.eqb m6 m7)))] (bX 2 Zi.enc hm6 (bX 6 Zi.enc hm7 (foeq 8 Zi.eqok132 aY))) (by kernel_rfl) (bZ (fi rfl hb3 (fun hc8 hb3=>?_) fun hc8 hb3=>?_))))
   ·refine ag ?_
    refine aA [(4,pB false)] (by kernel_rfl) (cK (iq ?_))
    refine aX hb3 (fun ht=>?_);subst ht
    refine aO (aS ?_)
    exact zz r h rfl
   refine af ?_
   refine eH (ah [15,16] [(5,pI (i64.wrap (v2+1)))] (by kernel_rfl) ?_)
   exact aT hb3 () (nt rfl) bq
  refine aL ?_
  refine cJ hb3 (fun ht=>an rfl ?_)
  exact am ((),()) qr bq ht.symm
 rintro ⟨_,_⟩ τ hz;(try dsimp only at hz);subst q4;(try dsimp only at h);dsimp only [aw]
 refine cH [(4,pB true)] (by kernel_rfl) (cK ?_)
 exact zz r h rfl
end SX
namespace SX
open Go
attribute [local irreducible] Wa Ka Vc Qb Na Ra Pa Vb Ub Nc Jb Uc Qd PF Yc La Lb dU dM ke kV ip jN Yd Ya aW bx app mk gd lb nz sN lC sub ff ji xi rE ja ex lJ eO IntKind.wrap Int.tmod Int.tdiv Op.bytesLess strOfNums
def jt (p0:Zx) (p1:Zx):Option Bool:=(gd (p0.Total == p1.Total) (jV p0.Lines p1.Lines)).bind fun x3=>some ((p0.Total == p1.Total)&&x3)
theorem uq {p0:Zx} {p1:Zx} {r:Bool}  (h:jt p0 p1=some r):PF 19 [.agg [pL Zi.enc p0.Lines,pI p0.Total],.agg [pL Zi.enc p1.Lines,pI p1.Total]] (pB r):=by
 unfold jt at h
 refine aV ?_
 refine dk Tryz.func19 rfl Tryz.ntmps19 Tryz.results19 rfl (cL rfl (be (cs:=[pL Zi.enc p0.Lines,pI p0.Total]) rfl rfl (fun b1=>aj rfl (be (cs:=[pL Zi.enc p1.Lines,pI p1.Total]) rfl rfl (fun b2=>aZ [4] (by kernel_rfl) (cP h fun x3 hx3 h=>ai [1,0,1,0] (rg 5 12) [(4,pB ((p0.Total == p1.Total)&&x3))] (iJ 10 (fun hc=>tL (fU hx3 hc)) aY) (by kernel_rfl) (cK ?_)))))))
 exact zz r h rfl
def j9 (p0:Zp) (p1:Int):Option Bool:=cond ((((decide (p0.Kind<1))||(decide (9<p0.Kind)))||(decide (p0.Basis<1)))||(decide (3<p0.Basis))) (some false) (cond ((decide (p0.Amount<0))||(decide (1000000000000<p0.Amount))) (some false) (cond (p0.Basis == 3) (some ((decide (0<=p0.Line))&&(decide (p0.Line<p1)))) (some (p0.Line == 0))))
theorem pJ {p0:Zp} {p1:Int} {r:Bool}  (h:j9 p0 p1=some r):PF 164 [.agg [pI p0.Kind,pI p0.Amount,pS p0.Currency,pI p0.Basis,pI p0.Line],pI p1] (pB r):=by
 unfold j9 at h
 refine aV ?_
 refine dk Tryz.func164 rfl Tryz.ntmps164 Tryz.results164 rfl (cL rfl (be (cs:=[pI p0.Kind,pI p0.Amount,pS p0.Currency,pI p0.Basis,pI p0.Line]) rfl rfl (fun b1=>aZ [4] (by kernel_rfl) (bM (aK [0,0,0,0] (rg 5 17) [(22,pB ((((decide (p0.Kind<1))||(decide (9<p0.Kind)))||(decide (p0.Basis<1)))||(decide (3<p0.Basis))))] (by kernel_rfl) (fi rfl h (fun hc2 h=>?_) fun hc2 h=>?_))))))
 ·refine ag ?_
  refine de [(4,pB false)] (by kernel_rfl) ?_
  exact zz r h rfl
 refine af ?_
 refine bM (aK [0,0] (rg 23 7) [(30,pB ((decide (p0.Amount<0))||(decide (1000000000000<p0.Amount))))] (by kernel_rfl) (fi rfl h (fun hc3 h=>?_) fun hc3 h=>?_))
 ·refine ag ?_
  refine de [(4,pB false)] (by kernel_rfl) ?_
  exact zz r h rfl
 refine af ?_
 refine bM (aK [0] [31,32] [(33,pB (p0.Basis == 3))] (by kernel_rfl) (fi rfl h (fun hc4 h=>?_) fun hc4 h=>?_))
 ·refine ag ?_
  refine aK [0,0] (rg 34 9) [(4,pB ((decide (0<=p0.Line))&&(decide (p0.Line<p1))))] (by kernel_rfl) (sO ?_)
  exact zz r h rfl
 refine af ?_
 refine br (aK [0] [43,44,45] [(4,pB (p0.Line == 0))] (by kernel_rfl) (cK ?_))
 exact zz r h rfl
def lN (p0:Zy):Option Int:=cond ((((p0.Lines.length:Int) == 0)||(decide (100<(p0.Lines.length:Int))))||(decide (50<(p0.Charges.length:Int)))) (some (8:Int)) (cond ((decide (p0.Day<0))||(decide (36524<p0.Day))) (some (2:Int)) ((aW (S:=Int) (T:=(Unit)⊕(_)) (fun v4=>cond (decide (v4<(p0.Lines.length:Int))) ((bx p0.Lines v4).bind fun m8=>cond ((((decide (m8.Price<0))||(decide (1000000000000<m8.Price)))||(decide (m8.Weight<0)))||(decide (1000000000<m8.Weight))) (some (.inr (.inr (2:Int)))) (some (.inl (i64.wrap (v4+1))))) (some (.inr (.inl ())))) Va 0).bind fun q=>match q with | .inl _=>(aW (S:=Int) (T:=(Unit)⊕(_)) (fun v11=>cond (decide (v11<(p0.Charges.length:Int))) ((bx p0.Charges v11).bind fun m15=>(j9 m15 (p0.Lines.length:Int)).bind fun x17=>cond (!x17) (some (.inr (.inr (2:Int)))) (some (.inl (i64.wrap (v11+1))))) (some (.inr (.inl ())))) Va 0).bind (fun q=>match q with | .inl _=>some (0:Int) | .inr e=>some e) | .inr e=>some e))
theorem rn {p0:Zy} {r:Int}  (h:lN p0=some r):PF 106 [.agg [pS p0.Currency,pI p0.Day,pL Zr.enc p0.Lines,pL Zp.enc p0.Charges]] (pI r):=by
 unfold lN at h
 refine aV ?_
 refine dk Tryz.func106 rfl Tryz.ntmps106 Tryz.results106 rfl (cL rfl (be (cs:=[pS p0.Currency,pI p0.Day,pL Zr.enc p0.Lines,pL Zp.enc p0.Charges]) rfl rfl (fun b1=>aZ [2] (by kernel_rfl) (bM (aK [0,0,0] (rg 7 15) [(22,pB ((((p0.Lines.length:Int) == 0)||(decide (100<(p0.Lines.length:Int))))||(decide (50<(p0.Charges.length:Int)))))] (by kernel_rfl) (fi rfl h (fun hc2 h=>?_) fun hc2 h=>?_))))))
 ·refine ag ?_
  refine de [(2,pI 8)] (by kernel_rfl) ?_
  exact zz r h rfl
 refine af ?_
 refine bM (aK [0,0] (rg 23 7) [(30,pB ((decide (p0.Day<0))||(decide (36524<p0.Day))))] (by kernel_rfl) (fi rfl h (fun hc3 h=>?_) fun hc3 h=>?_))
 ·refine ag ?_
  refine de [(2,pI 2)] (by kernel_rfl) ?_
  exact zz r h rfl
 refine af ?_
 refine bM (aK [0] [31] [(32,pL Zr.enc p0.Lines),(33,pI (p0.Lines.length:Int)),(34,pI 0)] (by kernel_rfl) (ey h fun q6 hq6 h=>?_))
 refine ap (Y:=Unit×Unit) (fun (_,_)=>[(1,pP b1 0)]) (fun (_,_)=>[Qa.b b1 143 [pS p0.Currency,pI p0.Day,pL Zr.enc p0.Lines,pL Zp.enc p0.Charges]]) (fun (_,_)=>q6=Sum.inl ()) ?_ ?_
 ·refine aG ?_
  refine aJ (Y:=Unit) (S:=Int) _ hq6 (fun _ v4=>[(1,pP b1 0),(32,pL Zr.enc p0.Lines),(33,pI (p0.Lines.length:Int)),(34,pI v4)]) (fun _ v4=>[Qa.b b1 143 [pS p0.Currency,pI p0.Day,pL Zr.enc p0.Lines,pL Zp.enc p0.Charges]]) () (jC rfl) bN ?_
  rintro _ v4 o τ hb5;(try dsimp only at hb5);dsimp only [aw]
  refine cH [(35,pB (decide (v4<(p0.Lines.length:Int))))] (by kernel_rfl) (br (fh rfl hb5 (fun hc7 hb5=>?_) fun hc7 hb5=>?_))
  ·refine af ?_
   refine eT (ae hb5 fun m8 hm8 hb5=>cS 2 [] [36] [(37,.agg [pI m8.Price,pI m8.Weight])] (bX 0 Zr.enc hm8 aY) (by kernel_rfl) (aj rfl (aP (cs:=[pI 0,pI 0]) rfl rfl rfl rfl (fun b9=>aM rfl rfl (al (vs:=[pI m8.Price,pI m8.Weight]) rfl rfl rfl rfl rfl bT pV (au (br (aK [0,0,0,0] (rg 38 17) [(55,pB ((((decide (m8.Price<0))||(decide (1000000000000<m8.Price)))||(decide (m8.Weight<0)))||(decide (1000000000<m8.Weight))))] (by kernel_rfl) (fi rfl hb5 (fun hc10 hb5=>?_) fun hc10 hb5=>?_)))))))))
   ·refine ag ?_
    refine aA [(2,pI 2)] (by kernel_rfl) (cK (iq ?_))
    refine aX hb5 (fun ht=>?_);subst ht
    refine aO (aS ?_)
    exact zz r h rfl
   refine af ?_
   refine eH (ah [56] [(34,pI (i64.wrap (v4+1)))] (by kernel_rfl) ?_)
   exact aT hb5 () (jC rfl) (bg (aC aN) bq)
  refine aL ?_
  refine cJ hb5 (fun ht=>an rfl ?_)
  exact am ((),()) (oC rfl) bN ht.symm
 rintro ⟨_,_⟩ τ hz;(try dsimp only at hz);subst q6;(try dsimp only at h);dsimp only [aw]
 refine dV (aK [0] [57] [(58,pL Zp.enc p0.Charges),(59,pI (p0.Charges.length:Int)),(60,pI 0)] (by kernel_rfl) (ey h fun q13 hq13 h=>?_))
 refine ap (Y:=Unit×Unit) (fun (_,_)=>[]) (fun (_,_)=>[]) (fun (_,_)=>q13=Sum.inl ()) ?_ ?_
 ·refine aG ?_
  refine aJ (Y:=Unit) (S:=Int) _ hq13 (fun _ v11=>[(1,pP b1 0),(58,pL Zp.enc p0.Charges),(59,pI (p0.Charges.length:Int)),(60,pI v11)]) (fun _ v11=>[Qa.b b1 143 [pS p0.Currency,pI p0.Day,pL Zr.enc p0.Lines,pL Zp.enc p0.Charges]]) () (jC rfl) bN ?_
  rintro _ v11 o τ hb12;(try dsimp only at hb12);dsimp only [aw]
  refine cH [(61,pB (decide (v11<(p0.Charges.length:Int))))] (by kernel_rfl) (br (fh rfl hb12 (fun hc14 hb12=>?_) fun hc14 hb12=>?_))
  ·refine af ?_
   refine eT (ae hb12 fun m15 hm15 hb12=>cS 2 [] [62] [(63,.agg [pI m15.Kind,pI m15.Amount,pS m15.Currency,pI m15.Basis,pI m15.Line])] (bX 0 Zp.enc hm15 aY) (by kernel_rfl) (aj rfl (aP (cs:=[pI 0,pI 0,pS Uh,pI 0,pI 0]) rfl rfl rfl rfl (fun b16=>aM rfl rfl (al (vs:=[pI m15.Kind,pI m15.Amount,pS m15.Currency,pI m15.Basis,pI m15.Line]) rfl rfl rfl rfl rfl bT td (au (cP hb12 fun x17 hx17 hb12=>ai [0,1] (rg 64 5) [(69,pB (!x17))] (aU 4 (pJ hx17) aY) (by kernel_rfl) (fi rfl hb12 (fun hc18 hb12=>?_) fun hc18 hb12=>?_))))))))
   ·refine ag ?_
    refine aA [(2,pI 2)] (by kernel_rfl) (cK (iq ?_))
    refine aX hb12 (fun ht=>?_);subst ht
    refine aO (aS ?_)
    exact zz r h rfl
   refine af ?_
   refine eH (ah [70] [(60,pI (i64.wrap (v11+1)))] (by kernel_rfl) ?_)
   exact aT hb12 () (jC rfl) (bg (aC aN) bq)
  refine aL ?_
  refine cJ hb12 (fun ht=>an rfl ?_)
  exact am ((),()) qr bq ht.symm
 rintro ⟨_,_⟩ τ hz;(try dsimp only at hz);subst q13;(try dsimp only at h);dsimp only [aw]
 refine cH [(2,pI 0)] (by kernel_rfl) (cK ?_)
 exact zz r h rfl
def lh (p0:Xh):Option Bool:=cond ((p0.size:Int) != 3) (some false) ((aW (S:=Int) (T:=(Unit)⊕(_)) (fun v2=>cond (decide (v2<(p0.size:Int))) ((bx p0.data.toList v2).bind fun c6=>(gd (!(decide ((c6.toNat:Int)<65))) (bx p0.data.toList v2)).bind fun c7=>cond ((decide ((c6.toNat:Int)<65))||(decide (90<(c7.toNat:Int)))) (some (.inr (.inr false))) (some (.inl (i64.wrap (v2+1))))) (some (.inr (.inl ())))) Va 0).bind fun q=>match q with | .inl _=>some true | .inr e=>some e)
theorem qI {p0:Xh} {r:Bool}  (h:lh p0=some r):PF 245 [pS p0] (pB r):=by
 unfold lh at h
 refine aV ?_
 refine dk Tryz.func245 rfl Tryz.ntmps245 Tryz.results245 rfl (aQ [2] (by kernel_rfl) (bM (bF [4,5] [(6,pB ((p0.size:Int) != 3))] (by kernel_rfl) rfl h (fun hc1 h=>?_) fun hc1 h=>?_)))
 ·refine ag ?_
  refine de [(2,pB false)] (by kernel_rfl) ?_
  exact zz r h rfl
 refine af ?_
 refine bM (ah [7] [(8,pI (p0.size:Int)),(9,pI 0)] (by kernel_rfl) (ey h fun q4 hq4 h=>?_))
 refine ap (Y:=Unit×Unit) (fun (_,_)=>[]) (fun (_,_)=>[]) (fun (_,_)=>q4=Sum.inl ()) ?_ ?_
 ·refine aG ?_
  refine aJ (Y:=Unit) (S:=Int) _ hq4 (fun _ v2=>[(0,pS p0),(8,pI (p0.size:Int)),(9,pI v2)]) (fun _ v2=>[]) () (nt rfl) bq ?_
  rintro _ v2 o τ hb3;(try dsimp only at hb3);dsimp only [aw]
  refine cH [(10,pB (decide (v2<(p0.size:Int))))] (by kernel_rfl) (br (fh rfl hb3 (fun hc5 hb3=>?_) fun hc5 hb3=>?_))
  ·refine af ?_
   refine eT (ah [11] [(3,pI v2)] (by kernel_rfl) (cP hb3 fun c6 hc6 hb3=>ae hb3 fun c7 hc7 hb3=>ai [] (rg 12 9) [(21,pB ((decide ((c6.toNat:Int)<65))||(decide (90<(c7.toNat:Int)))))] (fosx 2 hc6 (G0 7 (fU hc7) aY)) (by kernel_rfl) (fi rfl hb3 (fun hc8 hb3=>?_) fun hc8 hb3=>?_)))
   ·refine ag ?_
    refine aA [(2,pB false)] (by kernel_rfl) (cK (iq ?_))
    refine aX hb3 (fun ht=>?_);subst ht
    refine aO (aS ?_)
    exact zz r h rfl
   refine af ?_
   refine eH (ah [22] [(9,pI (i64.wrap (v2+1)))] (by kernel_rfl) ?_)
   exact aT hb3 () (nt rfl) bq
  refine aL ?_
  refine cJ hb3 (fun ht=>an rfl ?_)
  exact am ((),()) qr bq ht.symm
 rintro ⟨_,_⟩ τ hz;(try dsimp only at hz);subst q4;(try dsimp only at h);dsimp only [aw]
 refine cH [(2,pB true)] (by kernel_rfl) (cK ?_)
 exact zz r h rfl
def n4 (p0:Zo) (p1:Zo):Option Bool:=cond (!decide (p0.Currency=p1.Currency)) (some (Op.bytesLess p0.Currency.toList p1.Currency.toList)) (some (decide (p0.From<p1.From)))
theorem tM {p0:Zo} {p1:Zo} {r:Bool}  (h:n4 p0 p1=some r):PF 246 [.agg [pS p0.Currency,pI p0.From,pI p0.PerUnit],.agg [pS p1.Currency,pI p1.From,pI p1.PerUnit]] (pB r):=by
 unfold n4 at h
 refine aV ?_
 refine dk Tryz.func246 rfl Tryz.ntmps246 Tryz.results246 rfl (cL rfl (be (cs:=[pS p0.Currency,pI p0.From,pI p0.PerUnit]) rfl rfl (fun b1=>aj rfl (be (cs:=[pS p1.Currency,pI p1.From,pI p1.PerUnit]) rfl rfl (fun b2=>aZ [4] (by kernel_rfl) (bM (aK [1,0] [5,6,7,8] [(9,pB (!decide (p0.Currency=p1.Currency)))] (by kernel_rfl) (fi rfl h (fun hc3 h=>?_) fun hc3 h=>?_))))))))
 ·refine ag ?_
  refine aK [1,0] (rg 10 5) [(4,pB (Op.bytesLess p0.Currency.toList p1.Currency.toList))] (by kernel_rfl) (sO ?_)
  exact zz r h rfl
 refine af ?_
 refine br (aK [1,0] (rg 15 5) [(4,pB (decide (p0.From<p1.From)))] (by kernel_rfl) (cK ?_))
 exact zz r h rfl
def mG (p0:(List Zo)):Option Int:=cond (decide (1000<(p0.length:Int))) (some (8:Int)) ((aW (S:=Int) (T:=(Unit)⊕(_)) (fun v2=>cond (decide (v2<(p0.length:Int))) ((bx p0 v2).bind fun m6=>(lh m6.Currency).bind fun x8=>cond ((!x8)||(decide (m6.Currency=(⟨#[69,85,82]⟩:Xh)))) (some (.inr (.inr (1:Int)))) (cond ((((decide (m6.From<0))||(decide (36524<m6.From)))||(decide (m6.PerUnit<1)))||(decide (1000000000<m6.PerUnit))) (some (.inr (.inr (2:Int)))) ((gd (decide (0<v2)) (bx p0 (i64.wrap (v2 - 1)))).bind fun m11=>(gd (decide (0<v2)) (n4 m11 m6)).bind fun x12=>cond ((decide (0<v2))&&(!x12)) (some (.inr (.inr (9:Int)))) (some (.inl (i64.wrap (v2+1))))))) (some (.inr (.inl ())))) Va 0).bind fun q=>match q with | .inl _=>some (0:Int) | .inr e=>some e)
theorem rS {p0:(List Zo)} {r:Int}  (h:mG p0=some r):PF 214 [pL Zo.enc p0] (pI r):=by
 unfold mG at h
 refine aV ?_
 refine dk Tryz.func214 rfl Tryz.ntmps214 Tryz.results214 rfl (aQ [2] (by kernel_rfl) (bM (bF [5,6] [(7,pB (decide (1000<(p0.length:Int))))] (by kernel_rfl) rfl h (fun hc1 h=>?_) fun hc1 h=>?_)))
 ·refine ag ?_
  refine de [(2,pI 8)] (by kernel_rfl) ?_
  exact zz r h rfl
 refine af ?_
 refine bM (aA [(8,pL Zo.enc p0),(9,pI (p0.length:Int)),(10,pI 0)] (by kernel_rfl) (ey h fun q4 hq4 h=>?_))
 refine ap (Y:=Unit×Unit) (fun (_,_)=>[]) (fun (_,_)=>[]) (fun (_,_)=>q4=Sum.inl ()) ?_ ?_
 ·refine aG ?_
  refine aJ (Y:=Unit) (S:=Int) _ hq4 (fun _ v2=>[(0,pL Zo.enc p0),(8,pL Zo.enc p0),(9,pI (p0.length:Int)),(10,pI v2)]) (fun _ v2=>[]) () (jC rfl) bq ?_
  rintro _ v2 o τ hb3;(try dsimp only at hb3);dsimp only [aw]
  refine cH [(11,pB (decide (v2<(p0.length:Int))))] (by kernel_rfl) (br (fh rfl hb3 (fun hc5 hb3=>?_) fun hc5 hb3=>?_))
  ·refine af ?_
   refine eT (ae hb3 fun m6 hm6 hb3=>cS 3 [] [13] [(12,pI v2),(14,.agg [pS m6.Currency,pI m6.From,pI m6.PerUnit])] (bX 1 Zo.enc hm6 aY) (by kernel_rfl) (aj rfl (aP (cs:=[pS Uh,pI 0,pI 0]) rfl rfl rfl rfl (fun b7=>ba 1 [(3,pI v2)] (by kernel_rfl) (aM rfl rfl (al (vs:=[pS m6.Currency,pI m6.From,pI m6.PerUnit]) rfl rfl rfl rfl rfl bT AW (au (bM (ae hb3 fun x8 hx8 hb3=>ai [0,0] (rg 15 8) [(23,pB ((!x8)||(decide (m6.Currency=(⟨#[69,85,82]⟩:Xh)))))] (aU 2 (qI hx8) aY) (by kernel_rfl) (fi rfl hb3 (fun hc9 hb3=>?_) fun hc9 hb3=>?_))))))))))
   ·refine ag ?_
    refine de [(2,pI 1)] (by kernel_rfl) (iq ?_)
    refine aX hb3 (fun ht=>?_);subst ht
    refine aO (aS ?_)
    exact zz r h rfl
   refine af ?_
   refine bM (aK [0,0,0,0] (rg 24 17) [(41,pB ((((decide (m6.From<0))||(decide (36524<m6.From)))||(decide (m6.PerUnit<1)))||(decide (1000000000<m6.PerUnit))))] (by kernel_rfl) (fi rfl hb3 (fun hc10 hb3=>?_) fun hc10 hb3=>?_))
   ·refine ag ?_
    refine de [(2,pI 2)] (by kernel_rfl) (iq ?_)
    refine aX hb3 (fun ht=>?_);subst ht
    refine aO (aS ?_)
    exact zz r h rfl
   refine af ?_
   refine br (bE (ρd:=[]) [(0,0),(1,0),(2,0),(3,0),(4,0),(5,0),(6,0),(7,0),(8,0),(9,1),(10,0),(11,0)] _ Vh (by kernel_rfl) rfl (ae hb3 fun m11 hm11 hb3=>ae hb3 fun x12 hx12 hb3=>ca 12 [0] (rg 42 11) [(53,pB ((decide (0<v2))&&(!x12)))] (xt 6 Zo.enc (fU hm11) (iJ 9 (fun hc=>tM (fU hx12 hc)) aY)) (by kernel_rfl) (bZ (fi rfl hb3 (fun hc13 hb3=>?_) fun hc13 hb3=>?_))))
   ·refine ag ?_
    refine aA [(2,pI 9)] (by kernel_rfl) (cK (iq ?_))
    refine aX hb3 (fun ht=>?_);subst ht
    refine aO (aS ?_)
    exact zz r h rfl
   refine af ?_
   refine eH (ah [54] [(10,pI (i64.wrap (v2+1)))] (by kernel_rfl) ?_)
   exact aT hb3 () (jC rfl) bq
  refine aL ?_
  refine cJ hb3 (fun ht=>an rfl ?_)
  exact am ((),()) qr bq ht.symm
 rintro ⟨_,_⟩ τ hz;(try dsimp only at hz);subst q4;(try dsimp only at h);dsimp only [aw]
 refine cH [(2,pI 0)] (by kernel_rfl) (cK ?_)
 exact zz r h rfl
def rT (p0:Int) (p1:Int) (p2:Int) (p3:Int):Option (Int×Int):=(jr p0).bind fun x1=>(gd (!(!x1)) (kK 0 1000000000000 [p1])).bind fun x3=>(gd (!((!x1)||(!x3))) (kK 1 1000000000000 [p2])).bind fun x5=>cond (((!x1)||(!x3))||(!x5)) (some ((0:Int),(2:Int))) (cond ((decide (p3<0))||(decide (3<p3))) (some ((0:Int),(2:Int))) ((kO (u64.wrap (eO p0 (i64.wrap (0 - p0)))) (u64.wrap p1) (u64.wrap p2) p3).bind fun x8=>cond ((x8.2 != 0)||(decide (1000000000000<x8.1))) (some ((0:Int),(3:Int))) (cond (decide (p0<0)) (some ((i64.wrap (0 - (i64.wrap x8.1))),(0:Int))) (some ((i64.wrap x8.1),(0:Int))))))
theorem xF {p0:Int} {p1:Int} {p2:Int} {p3:Int} {r:(Int×Int)}  (h:rT p0 p1 p2 p3=some r):PF 166 [pI p0,pI p1,pI p2,pI p3] (.tup [pI r.1,pI r.2]):=by
 unfold rT at h
 refine aV ?_
 refine dk Tryz.func166 rfl Tryz.ntmps166 Tryz.results166 rfl (aQ [8,9] (by kernel_rfl) (bM (ae h fun x1 hx1 h=>cS 5 [] [12,13,14] [(15,pB (!x1)),(16,pgv (!(!x1)) (pI p1))] (aU 1 (po hx1) aY) (by kernel_rfl) ?_)))
 refine xE (css:=List.map eI [p1]) (jM rfl rfl rfl) rfl rfl rfl rfl rfl rfl (fun hc=>by (repeat (first | exact jy | refine eE rfl ?_ | refine eE (Hn hc rfl) ?_))) rfl rfl rfl rfl ?_
 refine ae h fun x3 hx3 h=>uY (jM rfl rfl rfl) rfl rfl rfl (fg (.p rfl) (fg (.p rfl) (fg (.g rfl) nc))) (fun hc=>nU (fU hx3 hc)) (tq (jM rfl rfl rfl) rfl rfl (zY rfl (.g rfl)) (cg rfl rfl rfl (Bn rfl (.p rfl) (.p rfl) (.g rfl)) (ba 2 [(21,pB ((!x1)||(!x3))),(22,pgv (!((!x1)||(!x3))) (pI p2))] (by kernel_rfl) ?_)))
 refine xE (css:=List.map eI [p2]) (jM rfl rfl rfl) rfl rfl rfl rfl rfl rfl (fun hc=>by (repeat (first | exact jy | refine eE rfl ?_ | refine eE (Hn hc rfl) ?_))) rfl rfl rfl rfl ?_
 refine ae h fun x5 hx5 h=>uY (jM rfl rfl rfl) rfl rfl rfl (fg (.p rfl) (fg (.p rfl) (fg (.g rfl) nc))) (fun hc=>nU (fU hx5 hc)) (tq (jM rfl rfl rfl) rfl rfl (zY rfl (.g rfl)) (cg rfl rfl rfl (Bn rfl (.p rfl) (.p rfl) (.g rfl)) (au (fi rfl h (fun hc6 h=>?_) fun hc6 h=>?_))))
 ·refine ag ?_
  refine de [(8,pI 0),(9,pI 2)] (by kernel_rfl) ?_
  obtain rfl:=osi h
  exact aH (bK (az rfl) (az rfl)) bq ⟨rfl,rfl⟩
 refine af ?_
 refine bM (bF (rg 27 5) [(32,pB ((decide (p3<0))||(decide (3<p3))))] (by kernel_rfl) rfl h (fun hc7 h=>?_) fun hc7 h=>?_)
 ·refine ag ?_
  refine de [(8,pI 0),(9,pI 2)] (by kernel_rfl) ?_
  obtain rfl:=osi h
  exact aH (bK (az rfl) (az rfl)) bq ⟨rfl,rfl⟩
 refine af ?_
 refine cP h fun x8 hx8 h=>ai [] ((rg 34 11)++[33,45,46]) [(10,pU x8.1),(11,pI x8.2)] (aU 10 (qW hx8) aY) (by kernel_rfl) (bM (bF (rg 47 5) [(52,pB ((x8.2 != 0)||(decide (1000000000000<x8.1))))] (by kernel_rfl) rfl h (fun hc9 h=>?_) fun hc9 h=>?_))
 ·refine ag ?_
  refine de [(8,pI 0),(9,pI 3)] (by kernel_rfl) ?_
  obtain rfl:=osi h
  exact aH (bK (az rfl) (az rfl)) bq ⟨rfl,rfl⟩
 refine af ?_
 refine bM (bF [53] [(54,pB (decide (p0<0)))] (by kernel_rfl) rfl h (fun hc10 h=>?_) fun hc10 h=>?_)
 ·refine ag ?_
  refine ah [55,56,57] [(8,pI (i64.wrap (0 - (i64.wrap x8.1)))),(9,pI 0)] (by kernel_rfl) (sO ?_)
  obtain rfl:=osi h
  exact aH (bK (az rfl) (az rfl)) bq ⟨rfl,rfl⟩
 refine af ?_
 refine br (ah [58,59] [(8,pI (i64.wrap x8.1)),(9,pI 0)] (by kernel_rfl) (cK ?_))
 obtain rfl:=osi h
 exact aH (bK (az rfl) (az rfl)) bq ⟨rfl,rfl⟩
def ka (p0:(List Int)):Option Int:=(aW (S:=Int) (T:=(Unit)⊕(_)) (fun v1=>cond (decide (v1<(p0.length:Int))) ((bx p0 v1).bind fun m5=>cond (decide (m5<0)) (some (.inr (.inr (12:Int)))) (some (.inl (i64.wrap (v1+1))))) (some (.inr (.inl ())))) Va 0).bind fun q=>match q with | .inl _=>(aW (S:=Int) (T:=(Unit)⊕(_)) (fun v7=>cond (decide (v7<(p0.length:Int))) ((bx p0 v7).bind fun m11=>cond (decide (1000000000000<m11)) (some (.inr (.inr (3:Int)))) (some (.inl (i64.wrap (v7+1))))) (some (.inr (.inl ())))) Va 0).bind (fun q=>match q with | .inl _=>some (0:Int) | .inr e=>some e) | .inr e=>some e
theorem pK {p0:(List Int)} {r:Int}  (h:ka p0=some r):PF 110 [pL eI p0] (pI r):=by
 unfold ka at h
 refine aV ?_
 refine dk Tryz.func110 rfl Tryz.ntmps110 Tryz.results110 rfl (aQ [2] (by kernel_rfl) (bM (aA [(7,pL eI p0),(8,pI (p0.length:Int)),(9,pI 0)] (by kernel_rfl) (ey h fun q3 hq3 h=>?_))))
 refine ap (Y:=Unit×Unit) (fun (_,_)=>[(0,pL eI p0)]) (fun (_,_)=>[]) (fun (_,_)=>q3=Sum.inl ()) ?_ ?_
 ·refine aG ?_
  refine aJ (Y:=Unit) (S:=Int) _ hq3 (fun _ v1=>[(0,pL eI p0),(7,pL eI p0),(8,pI (p0.length:Int)),(9,pI v1)]) (fun _ v1=>[]) () (jC rfl) bq ?_
  rintro _ v1 o τ hb2;(try dsimp only at hb2);dsimp only [aw]
  refine cH [(10,pB (decide (v1<(p0.length:Int))))] (by kernel_rfl) (br (fh rfl hb2 (fun hc4 hb2=>?_) fun hc4 hb2=>?_))
  ·refine af ?_
   refine eT (ae hb2 fun m5 hm5 hb2=>ai [] [11,12] [(4,pI m5)] (bX 0 eI hm5 aY) (by kernel_rfl) (br (bF [13] [(14,pB (decide (m5<0)))] (by kernel_rfl) rfl hb2 (fun hc6 hb2=>?_) fun hc6 hb2=>?_)))
   ·refine ag ?_
    refine aA [(2,pI 12)] (by kernel_rfl) (cK (iq ?_))
    refine aX hb2 (fun ht=>?_);subst ht
    refine aO (aS ?_)
    exact zz r h rfl
   refine af ?_
   refine eH (ah [15] [(9,pI (i64.wrap (v1+1)))] (by kernel_rfl) ?_)
   exact aT hb2 () (jC rfl) bq
  refine aL ?_
  refine cJ hb2 (fun ht=>an rfl ?_)
  exact am ((),()) (oC rfl) bq ht.symm
 rintro ⟨_,_⟩ τ hz;(try dsimp only at hz);subst q3;(try dsimp only at h);dsimp only [aw]
 refine dV (aA [(16,pL eI p0),(17,pI (p0.length:Int)),(18,pI 0)] (by kernel_rfl) (ey h fun q9 hq9 h=>?_))
 refine ap (Y:=Unit×Unit) (fun (_,_)=>[]) (fun (_,_)=>[]) (fun (_,_)=>q9=Sum.inl ()) ?_ ?_
 ·refine aG ?_
  refine aJ (Y:=Unit) (S:=Int) _ hq9 (fun _ v7=>[(16,pL eI p0),(17,pI (p0.length:Int)),(18,pI v7)]) (fun _ v7=>[]) () (nt rfl) bq ?_
  rintro _ v7 o τ hb8;(try dsimp only at hb8);dsimp only [aw]
  refine cH [(19,pB (decide (v7<(p0.length:Int))))] (by kernel_rfl) (br (fh rfl hb8 (fun hc10 hb8=>?_) fun hc10 hb8=>?_))
  ·refine af ?_
   refine eT (ae hb8 fun m11 hm11 hb8=>ai [] [20,21] [(6,pI m11)] (bX 0 eI hm11 aY) (by kernel_rfl) (br (bF [22] [(23,pB (decide (1000000000000<m11)))] (by kernel_rfl) rfl hb8 (fun hc12 hb8=>?_) fun hc12 hb8=>?_)))
   ·refine ag ?_
    refine aA [(2,pI 3)] (by kernel_rfl) (cK (iq ?_))
    refine aX hb8 (fun ht=>?_);subst ht
    refine aO (aS ?_)
    exact zz r h rfl
   refine af ?_
   refine eH (ah [24] [(18,pI (i64.wrap (v7+1)))] (by kernel_rfl) ?_)
   exact aT hb8 () (nt rfl) bq
  refine aL ?_
  refine cJ hb8 (fun ht=>an rfl ?_)
  exact am ((),()) qr bq ht.symm
 rintro ⟨_,_⟩ τ hz;(try dsimp only at hz);subst q9;(try dsimp only at h);dsimp only [aw]
 refine cH [(2,pI 0)] (by kernel_rfl) (cK ?_)
 exact zz r h rfl
end SX
namespace SX
open Go
abbrev bl (s:Xh):List UInt8:=s.data.toList
theorem bl_hi (s:Xh) (k:Nat):bl (s.extract 0 k)=(bl s).take k:=by simp [bl]
theorem bl_lo (s:Xh) (k:Nat):bl (s.extract k s.size)=(bl s).drop k:=by
  simp only [bl,ByteArray.data_extract,Array.toList_extract,List.extract_eq_take_drop]
  rw [List.take_of_length_le];simp
theorem oq (s:Xh):s.size=(bl s).length:=by simp [bl]
theorem bl_inj {s u:Xh} (h:bl s=bl u):s=u:=by
  obtain ⟨⟨x⟩⟩:=s;obtain ⟨⟨y⟩⟩:=u;simp [bl] at h;subst h;rfl
def nQ (n:Nat):Bool:=decide (48<=n/\n<=57)
def iA (p:Nat->Bool):List Value:=(List.range 256).map fun i=>.bool (p i)
theorem hY (p:Nat->Bool):(iA p).length=256:=by simp [iA]
theorem ot (p:Nat->Bool) {j:Nat} (h:j<256):(iA p)[j]?=some (.bool (p j)):=by simp [iA,h]
theorem Ar (p q:Nat->Bool) {j:Nat} (h:∀ i,q i=(decide (i=j)||p i)):(iA p).set j (.bool true)=iA q:=by
  apply List.ext_getElem?
  intro i
  rw [List.getElem?_set]
  simp only [hY]
  rcases lt_or_ge i 256 with hi | hi
  · rw [ot q hi,ot p hi,h i]
    by_cases e:j=i
    · subst e;simp [hi]
    · rw [if_neg e];simp [show ¬ i=j from fun h=>e h.symm]
  · rw [List.getElem?_eq_none (by rw [hY];exact hi),List.getElem?_eq_none (by rw [hY];exact hi)]
    split
    · rw [if_neg (by omega)]
    · rfl
section
variable {o:Oper} {Z:Ma} {ρ:List Ja} {O:Kr} {c:Bool} {x y:Operand} {K:Value->List Ja->Kr->Prop}
theorem Sh.at1 {b k:Nat} {cs:List Value} {v:Value} (h:Sh O b 0 cs) (hv:cs[k]?=some v):Sh O b (0+k*1) [v]:=⟨h.1,fun j u hu=>by
  cases j with
  | zero=>simp at hu;subst hu;have:=h.2 k v hv;simpa using this
  | succ j=>simp at hu⟩
theorem BR {t b T sz by':Nat} {cs:List Value} {z:Value} {d:TypeDesc} (ho:o.op=.load t x) (hx:Ev Z c x (.pointer (some ⟨b,0,none⟩))) (hm:Ja.b b T cs∈ρ) (hd:fQ t=some d) (ha:oF d=true) (hi:iE t=some (z,sz,by')) (hl:cs.length=sz):Rb c o Z ρ O (.agg cs.toArray):=by
  refine yT ho hx hm ?_
  unfold mw
  simp only [hd,hi,ha,cond_true,List.drop_zero]
  rw [Nat.ble_eq_true_of_le (by omega)]
  simp [<- hl]
end
attribute [local irreducible] WL WC WD Lc Rb OpG Ev Wb CC nS Gm Re Rc midK xc Qc wN Kd Sd WS Me Lit Mf Tf Rf Sh Kb
theorem vN (O:Kr) (b:Nat) (p:Nat->Bool) (m:Int) (hs:Sh O b 0 (iA p)) (h0:0<=m) (h1:m<=255):Rc 231 [.pointer (some ⟨b,0,none⟩),.int .u8 m] O fun v _=>v=.bool (p m.toNat):=by
  (unfold Rc;apply qC Tryz.func231 (CG Tryz.func231 rfl) rfl Tryz.ntmps231 Tryz.results231 rfl)
  repeat (first | (first | (apply gp rfl rfl rfl;(focus (first | exact cB (v:=(.int _ _)) rfl (.p rfl) | exact cB (v:=(.pointer _)) rfl (.p rfl) | exact dd (v:=(.bool _)) rfl (.p rfl) | exact rB rfl (.p rfl)))) | apply eM) | (first | apply fA | apply bP | apply fz))
  apply gp rfl rfl rfl (yZ (j:=m.toNat) rfl rfl rfl (.p rfl) (.p rfl) (fun _=>by omega) (fun _=>by omega))
  apply gp rfl rfl rfl (uV rfl (.p rfl) (fun _=>(hs.mono (by (repeat (exact Sa.refl _)))).at1 (ot p (by omega))) rfl)
  repeat (first | (first | (apply gp rfl rfl rfl;(focus (exact dd (v:=(.bool _)) rfl (.p rfl)))) | apply eM) | (first | apply fz | apply oE))
  exact pA (zR (v:=.bool _) rfl) .none ⟨rfl,rfl⟩
def lw:Xh:=⟨#[48,49,50,51,52,53,54,55,56,57]⟩
theorem As:∀ {k:Nat},k<10->((lw.data.toList.getD k 0).toNat:Int)=48+(k:Int):=by decide
theorem Hp (O:Kr):Rc 189 [.string lw] O fun v _=>v=.tuple #[.agg (iA nQ).toArray,.bool true]:=by
  (unfold Rc;apply qC Tryz.func189 (CG Tryz.func189 rfl) rfl Tryz.ntmps189 Tryz.results189 rfl)
  repeat (first | (first | (apply gp rfl rfl rfl;(focus (first | exact dd (v:=(.int _ _)) rfl (.p rfl) | exact dd (v:=(.bool _)) rfl (.p rfl)))) | (apply A0 rfl rfl rfl;apply yU rfl rfl;intro _ _ _) | apply eM) | (first | apply fA | apply bP | apply mv | apply fz))
  rename_i b2 κ1 _
  have e0:List.replicate 256 (Value.bool false)=iA (fun i=>decide (48<=i/\i<48+0)):=by
    apply List.ext_getElem?
    intro i
    rcases lt_or_ge i 256 with hi | hi
    · rw [ot _ hi,List.getElem?_replicate,if_pos hi];congr 2;symm;rw [decide_eq_false_iff_not];omega
    · rw [List.getElem?_eq_none (by simpa using hi),List.getElem?_eq_none (by rw [hY];exact hi)]
  rw [e0]
  refine ub (X:=Nat) (fun k=>[(0,.string lw),(2,.pointer (some ⟨b2,0,none⟩)),(4,.int .i64 (k:Int))]) (fun k=>[Ja.b b2 276 (iA fun i=>decide (48<=i/\i<48+k))]) (fun k _=>k<=10) (fun k=>10 - k) 0 (by (repeat (first | exact Qc.nil | apply Qc.cons rfl))) (by (repeat (first | exact Kd.nil | (apply Kd.cons;(focus (repeat (exact Sd.h))))))) (by omega) ?_
  intro k τ κ2 _ hk
  simp only [wN]
  repeat (first | (first | (apply gp rfl rfl rfl;(focus (first | exact cB (v:=(.int _ _)) rfl (.p rfl) | exact cB (v:=(.string _)) rfl (.p rfl) | exact qy rfl (.p rfl) (.p rfl) rfl | exact pb rfl rfl (.p rfl)))) | apply eM) | (first | apply fA | apply bP | apply fz))
  apply zT rfl <;> intro hc
  · have hk10:k<10:=by
      have e:(lw.size:Int)=10:=rfl
      rw [e] at hc;omega
    repeat (first | (apply gp rfl rfl rfl;(focus (first | exact cB (v:=(.int _ _)) rfl (.p rfl) | exact cB (v:=(.string _)) rfl (.p rfl)))) | (first | apply fA | apply bP | apply mv | apply fz | apply mu))
    apply gp rfl rfl rfl (pW (s:=lw) (j:=k) rfl rfl (.p rfl) (.p rfl) (fun _=>rfl) (fun _=>hk10))
    rw [As hk10]
    repeat (first | (first | (apply gp rfl rfl rfl;(focus (first | exact cB (v:=(.int _ _)) rfl (.p rfl) | exact dd (v:=(.int _ _)) rfl (.p rfl) | exact qy rfl (.p rfl) (.p rfl) rfl))) | apply eM) | (first | apply fA | apply bP | apply fz))
    apply Gd (by have:¬ (128:Int)<=48+(k:Int):=by omega
                 simp [ev,upd,this])
    repeat (first | (apply gp rfl rfl rfl;(focus (exact cB (v:=(.int _ _)) rfl (.p rfl)))) | (first | apply bP | apply fz | apply mu))
    apply gp rfl rfl rfl (yZ (j:=48+k) rfl rfl rfl (.p rfl) (.p rfl) (fun _=>by omega) (fun _=>by omega))
    apply DH rfl rfl
    apply EP (v:=.bool true) rfl rfl rfl rfl rfl rfl (by (repeat (exact Mf.h))) (by rw [hY];omega)
    intro κ3 _
    have e1:(iA fun i=>decide (48<=i/\i<48+k)).set (0+(48+k)*1) (.bool true)=iA fun i=>decide (48<=i/\i<48+(k+1)) :=
      Ar _ _ fun i=>by rw [Bool.eq_iff_iff];simp;omega
    rw [e1]
    repeat (first | (first | (apply gp rfl rfl rfl;(focus (first | exact cB (v:=(.int _ _)) rfl (.p rfl) | exact dd (v:=(.int _ _)) rfl (.p rfl) | exact qz rfl (.p rfl) (.p rfl) rfl (fun _=>by omega)))) | apply eM) | (first | apply bP | apply fz | apply sw))
    exact zQ (k+1) (by (repeat (first | exact Qc.nil | apply Qc.cons rfl))) (by (repeat (first | exact Kd.nil | (apply Kd.cons;(focus (repeat (exact Sd.h))))))) (by omega) (by omega)
  · have hk10:k=10:=by
      have e:(lw.size:Int)=10:=rfl
      rw [e] at hc;omega
    subst hk10
    have e2:(fun i=>decide (48<=i/\i<48+10))=nQ:=by funext i;simp only [nQ];rw [Bool.eq_iff_iff];simp;omega
    rw [e2]
    apply qw;apply mZ;apply lT;apply na rfl;apply fz;apply fA;apply bP
    apply gp rfl rfl rfl (BR rfl (.p rfl) (by (repeat (exact List.Mem.head _))) rfl rfl rfl (hY _))
    apply DH rfl rfl
    apply yV rfl rfl rfl rfl (hY _) (by simp [iA,Value.oneCell']) (by (repeat (exact Mf.h))) rfl
    intro κ3 _
    repeat (first | (first | (apply gp rfl rfl rfl;(focus (exact dd (v:=(.bool _)) rfl (.p rfl)))) | apply eM) | (first | apply fz | apply oE))
    refine pA (rv_2 (Se.cell rfl (by (repeat (exact List.Mem.head _))) ?_) (rv1_t (v:=.bool _) rfl)) .none ⟨rfl,rfl⟩
    unfold mw
    simp only [show fQ 276=some (.array 256 4) from rfl,show iE 276=some (.agg (List.replicate 256 (.bool false)).toArray,256,256) from rfl,oF,cond_true,List.drop_zero,hY]
    rw [List.take_of_length_le (by rw [hY];omega)];rfl
theorem wA {l:List UInt8} {j:Nat} (h:j<l.length):l.getD j 0=l[j]:=by simp [List.getD_eq_getElem?_getD,h]
theorem At (O:Kr) (b:Nat) (s:Xh) (hs:Sh O b 0 (iA nQ)) (hz:s.size<=1000000000):Rc 191 [.string s,.pointer (some ⟨b,0,none⟩)] O fun v _=>∃ u k,v=.string u/\bl u=(bl s).take k/\k<=(bl s).length/\(∀ c∈(bl s).drop k,nQ c.toNat=true)/\(∀ c,(bl u).getLast?=some c->nQ c.toNat=false):=by
  (unfold Rc;apply qC Tryz.func191 (CG Tryz.func191 rfl) rfl Tryz.ntmps191 Tryz.results191 rfl)
  repeat (first | (first | (apply gp rfl rfl rfl;(focus (exact dd (v:=(.string _)) rfl (.p rfl)))) | apply eM) | (first | apply fA | apply bP | apply mv | apply fz))
  refine ub (X:=Xh×Nat) (fun z=>[(0,.string z.1),(1,.pointer (some ⟨b,0,none⟩))]) (fun _=>[]) (fun z _=>bl z.1=(bl s).take z.2/\z.2<=(bl s).length/\∀ c∈(bl s).drop z.2,nQ c.toNat=true) (fun z=>z.2) (s,(bl s).length) (by (repeat (first | exact Qc.nil | apply Qc.cons rfl))) (by (repeat (exact Kd.nil))) ⟨(List.take_length).symm,le_refl _,by rw [List.drop_length];simp⟩ ?_
  rw [oq] at hz
  rintro ⟨u,k⟩ τ κ2 _ ⟨h1,h2,h3⟩
  dsimp only at h1 h2 h3
  have hsz:u.size=k:=by rw [oq,h1,List.length_take];omega
  simp only [wN]
  repeat (first | (first | (apply gp rfl rfl rfl;(focus (first | exact cB (v:=(.string _)) rfl (.p rfl) | exact qy rfl (.p rfl) (.p rfl) rfl | exact pb rfl rfl (.p rfl)))) | apply eM) | (first | apply fA | apply bP | apply fz))
  apply zT rfl <;> intro hc
  · have hk0:0<k:=by omega
    repeat (first | (apply gp rfl rfl rfl;(focus (first | exact cB (v:=(.pointer _)) rfl (.p rfl) | exact cB (v:=(.string _)) rfl (.p rfl) | exact qz rfl (.p rfl) (.p rfl) rfl (fun _=>by omega) | exact pb rfl rfl (.p rfl)))) | (first | apply fA | apply bP | apply mv | apply fz | apply mu))
    apply gp rfl rfl rfl (pW (j:=k - 1) rfl rfl (.p rfl) (.p rfl) (fun _=>by omega) (fun _=>by omega))
    have hlast:(bl u).getLast?=some ((bl u).getD (k - 1) 0):=by
      rw [List.getLast?_eq_getElem?,<- oq,hsz,wA (by rw [<- oq];omega),List.getElem?_eq_getElem]
    apply A0 rfl rfl rfl;apply oG rfl rfl (vN _ b nQ ((u.data.toList.getD (k - 1) 0).toNat:Int) (hs.mono (by (repeat (assumption)))) (by omega) (by have:=(u.data.toList.getD (k - 1) 0).toNat_lt;omega))
    rintro v κ3 _ rfl
    repeat (first | (first | (apply gp rfl rfl rfl;(focus (exact CF rfl (.p rfl)))) | apply eM) | (apply fz))
    rw [Int.toNat_natCast]
    apply oe rfl <;> intro hb
    · repeat (first | (first | (apply gp rfl rfl rfl;(focus (first | exact cB (v:=(.string _)) rfl (.p rfl) | exact dd (v:=(.string _)) rfl (.p rfl)))) | apply eM) | (first | apply fA | apply bP | apply fz | apply oE | apply qw | apply mZ | apply na rfl | apply xb rfl | apply lT))
      refine pA (zR (v:=.string _) rfl) .none ⟨rfl,u,k,rfl,h1,h2,h3,fun c hc=>?_⟩
      rw [hlast] at hc;injection hc with hc;subst hc;simpa using hb
    · repeat (first | (apply gp rfl rfl rfl;(focus (first | exact cB (v:=(.string _)) rfl (.p rfl) | exact qz rfl (.p rfl) (.p rfl) rfl (fun _=>by omega) | exact pb rfl rfl (.p rfl)))) | (first | apply bP | apply fz | apply mu))
      apply gp rfl rfl rfl (vG (h:=k - 1) rfl rfl (.p rfl) (.p rfl) (fun _=>by omega) (fun _=>by omega))
      repeat (first | (first | (apply gp rfl rfl rfl;(focus (exact dd (v:=(.string _)) rfl (.p rfl)))) | apply eM) | (apply sw))
      refine zQ (u.extract 0 (k - 1),k - 1) (by (repeat (first | exact Qc.nil | apply Qc.cons rfl))) (by (repeat (exact Kd.nil))) ⟨?_,by ((try dsimp only at *) <;> omega),?_⟩ (by ((try dsimp only at *) <;> omega))
      · rw [bl_hi,h1,List.take_take];congr 1;omega
      · intro c hc
        rw [List.drop_eq_getElem_cons (by omega)] at hc
        rcases List.mem_cons.1 hc with rfl | hc
        · have e:(bl u).getD (k - 1) 0=(bl s)[k - 1]'(by omega):=by
            rw [wA (by rw [<- oq];omega)];simp [h1]
          rw [<- e];simpa using hb
        · rw [show k - 1+1=k by omega] at hc;exact h3 c hc
  · repeat (first | (first | (apply gp rfl rfl rfl;(focus (first | exact cB (v:=(.string _)) rfl (.p rfl) | exact dd (v:=(.string _)) rfl (.p rfl)))) | apply eM) | (first | apply fA | apply bP | apply fz | apply oE | apply qw | apply mZ | apply na rfl | apply lT))
    refine pA (zR (v:=.string _) rfl) .none ⟨rfl,u,k,rfl,h1,h2,h3,fun c hc'=>?_⟩
    have:bl u=[]:=List.eq_nil_of_length_eq_zero (by rw [<- oq];omega)
    rw [this] at hc';cases hc'
end SX
namespace SX
open Go
attribute [local irreducible] WL WC WD Lc Rb OpG Ev Wb CC nS Gm Re Rc midK xc Qc wN Kd Sd WS Me Lit Mf Tf Rf Sh Kb
theorem BS (O:Kr) (b:Nat) (s:Xh) (hs:Sh O b 0 (iA nQ)):Rc 190 [.string s,.pointer (some ⟨b,0,none⟩)] O fun v _=>∃ u k,v=.string u/\bl u=(bl s).drop k/\k<=(bl s).length/\(∀ c∈(bl s).take k,nQ c.toNat=true)/\(∀ c,(bl u).head?=some c->nQ c.toNat=false):=by
  (unfold Rc;apply qC Tryz.func190 (CG Tryz.func190 rfl) rfl Tryz.ntmps190 Tryz.results190 rfl)
  repeat (first | (first | (apply gp rfl rfl rfl;(focus (exact dd (v:=(.string _)) rfl (.p rfl)))) | apply eM) | (first | apply fA | apply bP | apply mv | apply fz))
  refine ub (X:=Xh×Nat) (fun z=>[(0,.string z.1),(1,.pointer (some ⟨b,0,none⟩))]) (fun _=>[]) (fun z _=>bl z.1=(bl s).drop z.2/\z.2<=(bl s).length/\∀ c∈(bl s).take z.2,nQ c.toNat=true) (fun z=>(bl s).length - z.2) (s,0) (by (repeat (first | exact Qc.nil | apply Qc.cons rfl))) (by (repeat (exact Kd.nil))) ⟨rfl,zero_le _,by simp⟩ ?_
  rintro ⟨u,k⟩ τ κ2 _ ⟨h1,h2,h3⟩
  dsimp only at h1 h2 h3
  have hsz:u.size=(bl s).length - k:=by rw [oq,h1,List.length_drop]
  simp only [wN]
  repeat (first | (first | (apply gp rfl rfl rfl;(focus (first | exact cB (v:=(.string _)) rfl (.p rfl) | exact qy rfl (.p rfl) (.p rfl) rfl | exact pb rfl rfl (.p rfl)))) | apply eM) | (first | apply fA | apply bP | apply fz))
  apply zT rfl <;> intro hc
  · have hk0:k<(bl s).length:=by omega
    have hu0:0<(bl u).length:=by rw [<- oq];omega
    repeat (first | (apply gp rfl rfl rfl;(focus (first | exact cB (v:=(.pointer _)) rfl (.p rfl) | exact cB (v:=(.string _)) rfl (.p rfl)))) | (first | apply fA | apply bP | apply mv | apply fz | apply mu))
    apply gp rfl rfl rfl (pW (j:=0) rfl rfl (.p rfl) (.p rfl) (fun _=>by omega) (fun _=>by omega))
    have hhead:(bl u).head?=some ((bl u).getD 0 0):=by
      rw [List.head?_eq_getElem?,wA hu0,List.getElem?_eq_getElem hu0]
    apply A0 rfl rfl rfl;apply oG rfl rfl (vN _ b nQ ((u.data.toList.getD 0 0).toNat:Int) (hs.mono (by (repeat (assumption)))) (by omega) (by have:=(u.data.toList.getD 0 0).toNat_lt;omega))
    rintro v κ3 _ rfl
    repeat (first | (first | (apply gp rfl rfl rfl;(focus (exact CF rfl (.p rfl)))) | apply eM) | (apply fz))
    rw [Int.toNat_natCast]
    apply oe rfl <;> intro hb
    · repeat (first | (first | (apply gp rfl rfl rfl;(focus (first | exact cB (v:=(.string _)) rfl (.p rfl) | exact dd (v:=(.string _)) rfl (.p rfl)))) | apply eM) | (first | apply fA | apply bP | apply fz | apply oE | apply qw | apply mZ | apply na rfl | apply xb rfl | apply lT))
      refine pA (zR (v:=.string _) rfl) .none ⟨rfl,u,k,rfl,h1,h2,h3,fun c hc=>?_⟩
      rw [hhead] at hc;injection hc with hc;subst hc;simpa using hb
    · repeat (first | (apply gp rfl rfl rfl;(focus (exact cB (v:=(.string _)) rfl (.p rfl)))) | (first | apply bP | apply fz | apply mu))
      apply gp rfl rfl rfl (vH (l:=1) rfl rfl (.p rfl) (.p rfl) (fun _=>by omega) (fun _=>by omega))
      repeat (first | (first | (apply gp rfl rfl rfl;(focus (exact dd (v:=(.string _)) rfl (.p rfl)))) | apply eM) | (apply sw))
      refine zQ (u.extract 1 u.size,k+1) (by (repeat (first | exact Qc.nil | apply Qc.cons rfl))) (by (repeat (exact Kd.nil))) ⟨?_,by ((try dsimp only at *) <;> omega),?_⟩ (by ((try dsimp only at *) <;> omega))
      · rw [bl_lo,h1,List.drop_drop]
      · intro c hc
        rw [List.take_add_one] at hc
        rcases List.mem_append.1 hc with hc | hc
        · exact h3 c hc
        · have e:(bl u).getD 0 0=(bl s)[k]'hk0:=by rw [wA hu0];simp [h1]
          rw [List.getElem?_eq_getElem hk0] at hc
          simp only [Option.toList_some,List.mem_cons,List.not_mem_nil,or_false] at hc
          subst hc;rw [<- e];simpa using hb
  · repeat (first | (first | (apply gp rfl rfl rfl;(focus (first | exact cB (v:=(.string _)) rfl (.p rfl) | exact dd (v:=(.string _)) rfl (.p rfl)))) | apply eM) | (first | apply fA | apply bP | apply fz | apply oE | apply qw | apply mZ | apply na rfl | apply lT))
    refine pA (zR (v:=.string _) rfl) .none ⟨rfl,u,k,rfl,h1,h2,h3,fun c hc'=>?_⟩
    have:bl u=[]:=List.eq_nil_of_length_eq_zero (by rw [<- oq];omega)
    rw [this] at hc';cases hc'
def rU (s:Xh):Bool:=(bl s).all fun c=>nQ c.toNat
theorem zh {s:Xh}:s=⟨#[]⟩↔bl s=[]:=⟨fun h=>by rw [h],fun h=>bl_inj (by rw [h])⟩
theorem trim_ok (O:Kr) (s:Xh) (hz:s.size<=1000000000):Rc 127 [.string s,.string lw] O fun v _=>∃ u,v=.string u/\(u=⟨#[]⟩↔rU s=true):=by
  (unfold Rc;apply qC Tryz.func127 (CG Tryz.func127 rfl) rfl Tryz.ntmps127 Tryz.results127 rfl)
  repeat (first | (first | (apply gp rfl rfl rfl;(focus (first | exact cB (v:=(.bool _)) rfl (.p rfl) | exact cB (v:=(.string _)) rfl (.p rfl) | exact dd (v:=(.string _)) rfl (.p rfl) | exact oq_or rfl (.p rfl) (.p rfl) (.g rfl) | exact zJ rfl (.p rfl) (.p rfl) rfl))) | (apply wS;(focus (exact DF rfl rfl rfl));rfl;rfl;(focus (first | (apply cB (v:=(.string _)) rfl;(focus (exact Ev.p rfl))) | (apply zJ rfl (by (focus (exact Ev.g rfl))) (by (focus (exact Ev.p rfl)));rfl)))) | apply eM) | (first | apply fA | apply bP | apply fz))
  apply oe rfl <;> intro hb
  · repeat (first | (first | (apply gp rfl rfl rfl;(focus (first | exact cB (v:=(.string _)) rfl (.p rfl) | exact dd (v:=(.string _)) rfl (.p rfl)))) | apply eM) | (first | apply fA | apply bP | apply fz | apply oE | apply uX))
    have:s=⟨#[]⟩:=by simpa [lw] using hb
    refine pA (zR (v:=.string _) rfl) .none ⟨rfl,s,rfl,?_⟩
    subst this;simp [rU,bl]
  · have hne:¬ bl s=[]:=fun h=>by rw [zh.2 h] at hb;simp at hb
    repeat (first | (first | (apply gp rfl rfl rfl;(focus (first | exact cB (v:=(.bool _)) rfl (.p rfl) | exact cB (v:=(.string _)) rfl (.p rfl) | exact qy rfl (.p rfl) (.p rfl) rfl | exact pb rfl rfl (.p rfl)))) | (apply wS;(focus (exact qu rfl rfl rfl));rfl;rfl;(focus (apply cB (v:=(.string _)) rfl;(focus (exact Ev.p rfl)))))) | (first | apply fA | apply bP | apply fz | apply mu))
    apply wS;(focus (exact qu rfl rfl rfl));rfl;rfl;exact pW (s:=lw) (j:=0) rfl rfl (.g rfl) (.p rfl) (fun _=>rfl) (fun _=>by decide)
    repeat (first | (first | (apply gp rfl rfl rfl;(focus (exact CD rfl (.p rfl) (.p rfl) (.g rfl)))) | (apply wS;(focus (exact qu rfl rfl rfl));rfl;rfl;(focus (apply qy rfl (by (focus (exact Ev.g rfl))) (by (focus (exact Ev.p rfl)));rfl))) | apply eM) | (apply fz))
    apply oe rfl <;> intro hb2
    · have e:(lw.size:Int)=10:=rfl
      rw [e] at hb2;simp at hb2
    repeat (first | (apply gp rfl rfl rfl;(focus (exact cB (v:=(.string _)) rfl (.p rfl)))) | (first | apply fA | apply bP | apply fz | apply mu))
    refine wl_fun rfl rfl rfl rfl rfl (Hp _) fun κ1 _=>?_
    repeat (first | (first | (apply gp rfl rfl rfl;(focus (first | exact cB (v:=(.bool _)) rfl (.p rfl) | exact cB (v:=(.tuple _)) rfl (.p rfl) | exact dd (v:=(.bool _)) rfl (.p rfl) | exact wU rfl (.p rfl) rfl))) | (apply A0 rfl rfl rfl;apply yU rfl rfl;intro _ _ _) | (apply DH rfl rfl;apply yV rfl rfl rfl rfl rfl rfl;(focus (repeat (exact Mf.h)));rfl;intro _ _) | apply eM) | (first | apply fA | apply bP | apply fz))
    rename_i b5 _ _ _ _
    apply wc_pub (b:=b5) Sd.h rfl;intro κ3 _ hS hsays
    have hset:=Gw hS hsays
    apply Gc rfl
    repeat (first | (apply gp rfl rfl rfl;(focus (exact cB (v:=(.string _)) rfl (.p rfl)))) | (first | apply fA | apply bP))
    apply A0 rfl rfl rfl;apply oG rfl rfl (At _ b5 s (hset.mono (by (repeat (exact Sa.refl _)))) hz)
    rintro v κ4 _ ⟨u,k,rfl,h1,h2,h3,h4⟩
    apply A0 rfl rfl rfl;apply oG rfl rfl (BS _ b5 u (hset.mono (by (repeat (assumption)))))
    rintro v κ5 _ ⟨u2,k2,rfl,g1,g2,g3,g4⟩
    repeat (first | (first | (apply gp rfl rfl rfl;(focus (exact dd (v:=(.string _)) rfl (.p rfl)))) | apply eM) | (first | apply fz | apply oE | apply uX))
    refine pA (zR (v:=.string _) rfl) .none ⟨rfl,u2,rfl,?_⟩
    rw [zh]
    unfold rU
    rw [List.all_eq_true]
    constructor
    · intro h
      have hk2:k2=(bl u).length:=by
        have:=congrArg List.length (g1.symm.trans h);simp only [List.length_drop,List.length_nil] at this;omega
      intro c hc
      rw [<- List.take_append_drop k (bl s)] at hc
      rcases List.mem_append.1 hc with hc | hc
      · rw [<- h1] at hc;rw [hk2,List.take_length] at g3;exact g3 c hc
      · exact h3 c hc
    · intro h
      have hu:bl u=[]:=by
        rcases List.eq_nil_or_concat (bl u) with hu | ⟨l,c,hu⟩
        · exact hu
        · have hc:=h4 c (by rw [hu];simp)
          have hm:c∈bl s:=List.mem_of_mem_take (i:=k) (by rw [<- h1,hu];simp)
          rw [h c hm] at hc;cases hc
      rw [g1,hu];simp
def Glob (O:Kr):Prop:=Sh O 0 0 [.int .i64 2,.int .i64 4,.int .i64 6,.int .i64 8]
def eQ (s:Xh):Int:=if (s.size=2\/s.size=4\/s.size=6\/s.size=8)/\rU s=true then (s.size:Int) else 0
theorem gv_some {c:Bool} {v:Value} {P:Xh->Prop} (h:c=true->∃ u,v=.string u/\P u):∃ u,gv c v=gv c (.string u)/\(c=true->P u):=by
  cases c
  · exact ⟨⟨#[]⟩,by rw [ko,ko],fun h=>by cases h⟩
  · obtain ⟨u,rfl,h2⟩:=h rfl;exact ⟨u,rfl,fun _=>h2⟩
theorem Hq (O:Kr) (s:Xh) (hg:Glob O):Rc 81 [.string s] O fun v _=>v=.int .i64 (eQ s):=by
  (unfold Rc;apply qC Tryz.func81 (CG Tryz.func81 rfl) rfl Tryz.ntmps81 Tryz.results81 rfl)
  repeat (first | (first | (apply gp rfl rfl rfl;(focus (exact dd (v:=(.int _ _)) rfl (.p rfl)))) | apply eM) | (first | apply fA | apply bP | apply fz))
  apply gp rfl rfl rfl (uV rfl (.p rfl) (fun _=>hg) rfl)
  repeat (first | (first | (apply gp rfl rfl rfl;(focus (exact cB (v:=(.int _ _)) rfl (.p rfl)))) | apply eM) | (first | apply mv | apply fz))
  refine ub (X:=Nat) (fun k=>[(0,.string s),(5,.agg #[.int .i64 2,.int .i64 4,.int .i64 6,.int .i64 8]),(6,.int .i64 (k:Int))]) (fun _=>[]) (fun k _=>k<=4/\∀ j,j<k->¬ (s.size=2*(j+1)/\rU s=true)) (fun k=>4 - k) 0 (by (repeat (first | exact Qc.nil | apply Qc.cons rfl))) (by (repeat (exact Kd.nil))) ⟨by omega,by omega⟩ ?_
  rintro k τ κ1 _ ⟨hk,hno⟩
  simp only [wN]
  repeat (first | (first | (apply gp rfl rfl rfl;(focus (exact qy rfl (.p rfl) (.p rfl) rfl))) | apply eM) | (first | apply fA | apply bP | apply fz))
  apply zT rfl <;> intro hc
  · have hk4:k<4:=by omega
    repeat (first | apply fA | apply bP | apply mv | apply fz | apply mu)
    apply gp rfl rfl rfl (EO (cs:=[.int .i64 2,.int .i64 4,.int .i64 6,.int .i64 8]) (v:=.int .i64 (2*((k:Int)+1))) (j:=k) rfl rfl rfl rfl rfl (.p rfl) (.p rfl) (fun _=>rfl) (fun _=>hk4) (fun _=>by
      have:k=0\/k=1\/k=2\/k=3:=by omega
      rcases this with rfl | rfl | rfl | rfl <;> rfl))
    repeat (first | (first | (apply gp rfl rfl rfl;(focus (first | exact cB (v:=(.int _ _)) rfl (.p rfl) | exact cB (v:=(.bool _)) rfl (.p rfl) | exact cB (v:=(.string _)) rfl (.p rfl) | exact dd (v:=(.int _ _)) rfl (.p rfl) | exact qy rfl (.p rfl) (.p rfl) rfl | exact pb rfl rfl (.p rfl)))) | (apply wS;(focus (exact qu rfl rfl rfl));rfl;rfl;(focus (apply cB (v:=(.string _)) rfl;(focus (exact Ev.p rfl))))) | apply eM) | (first | apply fA | apply bP | apply fz))
    apply wl_g;(focus (exact qu rfl rfl rfl));rfl;rfl
    refine wX rfl (ar2 (.g rfl) (.p rfl)) (fun hcc=>trim_ok _ s (by simp at hcc;omega)) fun v κ2 _ hv=>?_
    obtain ⟨u,hu,hP⟩:=gv_some hv
    rw [hu]
    repeat (first | (first | (apply gp rfl rfl rfl;(focus (exact CD rfl (.p rfl) (.p rfl) (.g rfl)))) | (apply wS;(focus (exact qu rfl rfl rfl));rfl;rfl;(focus (apply zJ rfl (by (focus (exact Ev.g rfl))) (by (focus (exact Ev.p rfl)));rfl))) | apply eM) | (apply fz))
    apply oe rfl <;> intro hb
    · simp only [and_eq_true,beq_iff_eq,decide_eq_true_eq] at hb
      have hd:rU s=true:=(hP (by simpa using hb.1)).1 hb.2
      repeat (first | (first | (apply gp rfl rfl rfl;(focus (first | exact cB (v:=(.int _ _)) rfl (.p rfl) | exact dd (v:=(.int _ _)) rfl (.p rfl)))) | apply eM) | (first | apply fA | apply bP | apply fz | apply oE | apply uX | apply Ba | apply CI))
      refine pA (zR (v:=.int _ _) rfl) .none ⟨rfl,?_⟩
      show Value.int .i64 (2*((k:Int)+1))=.int .i64 (eQ s)
      unfold eQ
      rw [if_pos ⟨by omega,hd⟩,<- hb.1]
    · repeat (first | (first | (apply gp rfl rfl rfl;(focus (first | exact cB (v:=(.int _ _)) rfl (.p rfl) | exact qz rfl (.p rfl) (.p rfl) rfl (fun _=>by omega)))) | apply eM) | (first | apply bP | apply fz | apply mu | apply sw))
      refine zQ (k+1) (by (repeat (first | exact Qc.nil | apply Qc.cons rfl))) (by (repeat (exact Kd.nil))) ⟨by omega,fun j hj=>?_⟩ (by omega)
      rcases lt_or_ge j k with h | h
      · exact hno j h
      · have:j=k:=by omega
        subst this
        rintro ⟨h1,h2⟩
        have hcc:((s.size:Int) == 2*((j:Int)+1))=true:=by simp;omega
        have:=(hP (by simpa using hcc)).2 h2
        subst this
        rw [hcc] at hb;simp at hb
  · repeat (first | (first | (apply gp rfl rfl rfl;(focus (exact dd (v:=(.int _ _)) rfl (.p rfl)))) | apply eM) | (first | apply fA | apply bP | apply fz | apply oE | apply qw | apply mZ | apply na rfl | apply lT))
    refine pA (zR (v:=.int _ _) rfl) .none ⟨rfl,?_⟩
    show Value.int .i64 0=.int .i64 (eQ s)
    unfold eQ
    rw [if_neg]
    rintro ⟨h1,h2⟩
    have:k=4:=by omega
    subst this
    rcases h1 with h1 | h1 | h1 | h1
    · exact hno 0 (by omega) ⟨h1,h2⟩
    · exact hno 1 (by omega) ⟨h1,h2⟩
    · exact hno 2 (by omega) ⟨h1,h2⟩
    · exact hno 3 (by omega) ⟨h1,h2⟩
end SX
namespace SX
open Go
def bS (p0:Xh):Option Int:=some (eQ p0)
theorem f9 {p0:Xh} {r:Int} (h:bS p0=some r):PF 81 [.v (.string p0)] (.v (.int .i64 r)):=fun O args g ha=>by
 obtain ⟨v,ws,rfl,h1,h2⟩:=ha.cons_inv
 rw [h2.nil_inv,h1.val]
 have h:=Option.some.inj h;subst h
 exact (Hq O p0 (gok_len g)).mono fun v O' _ hv=>by subst hv;exact .v rfl
def itr (b:Nat) (s:Xh) (pos:Nat):Ja:=⟨some b,fun o=>o=some (.stringIter s pos)⟩
theorem Hr {o:Oper} {Z:Xa} {ρ:List Qa} {x:Operand} {t:Nat} {s:Xh} {K:PV->List Qa->Prop} (ho:o.op=.range t x) (hu:fQ t=some .string) (hx:bt Z x=.v (.string s)) (h:∀ b,K (.v (.pointer (some ⟨b,0,none⟩))) (.raw (itr b s 0)::ρ)):Qb o Z ρ K:=fun O Z' ρ' g hs hr β hi Nx hk=>by
 have e1:=hs.v1 hx
 have h1:=run_underlying (w:=O.w) (bD hu)
 have hrun:(execOp (ev Z') o).run Tryz.prog O.w=.ok (.value (.pointer (some ⟨O.w.heap.size,0,none⟩))) (O.w.alloc (.stringIter s 0)):=by
  simp [execOp,ho,e1,Instr.range,h1,run_newObj_alloc]
 rw [hrun]
 exact hk _ _ ⟨O.w.alloc (.stringIter s 0),O.S⟩ (hi.alloc _ (itr O.w.heap.size s 0) rfl rfl) (ga hi.fin _) ⟨_,_,.v rfl,.cons .raw (hr.mono (ga hi.fin _)),h _⟩
theorem pl_next {o:Oper} {Z:Xa} {ρ ρ1:List Qa} {x:Operand} {b pos:Nat} {s:Xh} {K:PV->List Qa->Prop} (ho:o.op=.next x true) (hx:bt Z x=.v (.pointer (some ⟨b,0,none⟩))) (hu:Nc ρ (.raw (itr b s pos)) (.raw (itr b s (pos+(Utf8.decode s pos).2))) ρ1) (h1:pos<s.size->K (.tup [.v (.bool true),.v (.int .i64 (pos:Int)),.v (.int .i32 ((Utf8.decode s pos).1:Int))]) ρ1) (h2:s.size<=pos->K (.tup [.v (.bool false)]) ρ):Qb o Z ρ K:=fun O Z' ρ' g hs hr β hi Nx hk=>by
 have e1:=hs.v1 hx
 have hr0:=hr
 obtain ⟨r0,l1,l2,rfl,h4,h5⟩:=hr.upd hu
 cases h4 with
 | raw =>
  have hb:O.w.heap[b]?=some (.stringIter s pos):=hi.own (itr b s pos) (by simp)
  have hg:(getObj b).run Tryz.prog O.w=.ok (.stringIter s pos) O.w:=by simp [getObj,Sem.run,hb]
  have hset:∀ ob,(setObj b ob).run Tryz.prog O.w=.ok () { O.w with heap:=O.w.heap.setIfInBounds b ob }:=fun ob=>by simp [setObj,Sem.run,hb]
  rcases lt_or_ge pos s.size with hlt | hge
  ·have hrun:(execOp (ev Z') o).run Tryz.prog O.w=.ok (.value (.tuple #[.bool true,goInt pos,.int .i32 ((Utf8.decode s pos).1:Int)])) { O.w with heap:=O.w.heap.setIfInBounds b (.stringIter s (pos+(Utf8.decode s pos).2)) }:=by
    simp [execOp,ho,e1,Instr.next,hg,hlt,hset]
   rw [hrun]
   obtain ⟨i1,i2⟩:=hi.turn (r:=itr b s pos) (r':=itr b s (pos+(Utf8.decode s pos).2)) (b:=b) (w':={ O.w with heap:=O.w.heap.setIfInBounds b (.stringIter s (pos+(Utf8.decode s pos).2)) }) rfl rfl rfl (fun i hi=>rL hi) (by simp) (rM hb) rfl rfl rfl (le_refl _)
   exact hk _ _ _ i1 i2 ⟨_,ρ1,.tup (ws:=[_,_,_]) (.cons (.v rfl) (.cons (.v rfl) (.cons (.v rfl) .nil))),h5 _ _ i2 .raw,h1 hlt⟩
  ·have hrun:(execOp (ev Z') o).run Tryz.prog O.w=.ok (.value (.tuple #[.bool false])) O.w:=by
    simp [execOp,ho,e1,Instr.next,hg,Nat.not_lt.2 hge]
   rw [hrun]
   exact hk _ _ O hi (.refl _) ⟨_,ρ,.tup (ws:=[_]) (.cons (.v rfl) .nil),hr0,h2 hge⟩
def lY (s:Xh) (pos:Nat):Option (Nat⊕Bool):=cond (Nat.blt pos s.size) (cond (decide (((Utf8.decode s pos).1:Int)<97)||decide (122<((Utf8.decode s pos).1:Int))) (some (.inr false)) (some (.inl (pos+(Utf8.decode s pos).2)))) (some (.inr true))
def mH (p0:Xh):Option Bool:=cond (decide ((p0.size:Int)<1)||decide (12<(p0.size:Int))) (some false) (aW (lY p0) Va 0)
attribute [local irreducible] Wa Ka Vc Qb Na Ra Pa Vb Ub Nc Jb Uc Qd PF Yc La Lb dU dM ke kV ip jN Yd Ya aW lY
theorem we {p0:Xh} {r:Bool} (h:mH p0=some r):PF 122 [pS p0] (pB r):=by
 unfold mH at h
 refine aV ?_
 refine gC Tryz.func122 rfl Tryz.ntmps122 Tryz.results122 rfl ?_
 (repeat refine ag ?_)
 refine ai [] [2] [] aY (by kernel_rfl) ?_
 (repeat (first | apply aF | apply aD))
 (repeat refine ag ?_)
 refine ai [] [5,6,7,8,9,10,11] [(12,pB (decide ((p0.size:Int)<1)||decide (12<(p0.size:Int))))] aY (by kernel_rfl) ?_
 (repeat (first | apply aF | apply aD))
 (repeat refine ag ?_)
 refine iV rfl (fun hc=>?_) (fun hc=>?_)
 ·replace h:=CL hc h
  (repeat refine ag ?_)
  refine ai [] [] [(2,pB false)] aY (by kernel_rfl) ?_
  (repeat (first | apply aF | apply aD))
  (repeat refine ag ?_)
  refine bi ?_
  (repeat (first | apply bc | apply aO | apply aS | apply i7))
  obtain rfl:=Option.some.inj h
  exact aH (dZ (az rfl)) bq ⟨rfl,rfl⟩
 replace h:=CM hc h
 refine af ?_
 (repeat (first | apply aF | apply aD))
 (repeat refine ag ?_)
 refine ak ?_
 refine iW 1 [] [] [(13,pS p0)] aY (by kernel_rfl) ?_
 refine p5 rfl rfl rfl (Hr rfl rfl rfl fun b=>?_)
 refine au ?_
 (repeat (first | apply aF | apply aD))
 (repeat refine ag ?_)
 refine ap (Y:=Unit) (fun _=>[]) (fun _=>[]) (fun _=>r=true) ?_ ?_
 ·refine aG ?_
  refine aJ (Y:=Unit) (S:=Nat) _ h (fun _ _=>[(14,pP b 0)]) (fun _ pos=>[Qa.raw (itr b p0 pos)]) () (by (repeat (first | exact qr | apply jK rfl))) (by (repeat (first | exact bq | (apply bg;(focus (repeat (first | exact aN | apply aC))))))) ?_
  rintro _ pos o τ hb;dsimp only [aw]
  unfold lY at hb
  (repeat refine ag ?_)
  refine ak ?_
  refine p5 rfl rfl rfl (pl_next rfl rfl bT (fun hlt=>?_) (fun hge=>?_))
  ·have hlt':Nat.blt pos p0.size=true:=by simp [Nat.blt];omega
   rw [hlt'] at hb;simp only [cQ] at hb
   refine dh [] [] [(16,pB true)] aY (by kernel_rfl) ?_
   (repeat (first | apply aF | apply aD))
   (repeat refine ag ?_)
   refine iV (p:=true) rfl (fun _=>?_) (fun hf=>by cases hf)
   refine af ?_
   (repeat (first | apply aF | apply aD))
   (repeat refine ag ?_)
   refine aG ?_
   (repeat refine ag ?_)
   refine ai [] [17] [(4,.v (.int .i32 ((Utf8.decode p0 pos).1:Int)))] aY (by kernel_rfl) ?_
   (repeat (first | apply aF | apply aD))
   (repeat refine ag ?_)
   refine ai [] [18,19,20,21,22] [(23,pB (decide (((Utf8.decode p0 pos).1:Int)<97)||decide (122<((Utf8.decode p0 pos).1:Int))))] aY (by kernel_rfl) ?_
   (repeat (first | apply aF | apply aD))
   (repeat refine ag ?_)
   refine iV rfl (fun hc2=>?_) (fun hc2=>?_)
   ·replace hb:=CL hc2 hb
    (repeat refine ag ?_)
    refine ai [] [] [(2,pB false)] aY (by kernel_rfl) ?_
    (repeat (first | apply aF | apply aD))
    (repeat refine ag ?_)
    refine bi ?_
    (repeat (first | apply bc | apply aO | apply aS | apply i7))
    refine aX hb (fun ht=>?_);subst ht
    (repeat (first | apply bc | apply aO | apply aS | apply i7))
    exact aH (dZ (az rfl)) bq ⟨rfl,rfl⟩
   replace hb:=CM hc2 hb
   refine af ?_
   (repeat apply aF)
   exact aT hb () (by (repeat (first | exact qr | apply jK rfl))) (by (repeat (first | exact bq | (apply bg;(focus (repeat (first | exact aN | apply aC)))))))
  have hge':Nat.blt pos p0.size=false:=by cases e:Nat.blt pos p0.size;rfl;exact absurd (Nat.le_of_ble_eq_true e) (by omega)
  rw [hge'] at hb;simp only [dq] at hb
  refine dh [] [] [(16,pB false)] aY (by kernel_rfl) ?_
  (repeat (first | apply aF | apply aD))
  (repeat refine ag ?_)
  refine iV (p:=false) rfl (fun hf=>by cases hf) (fun _=>?_)
  refine aL ?_
  (repeat (first | apply cj | apply vJ | apply vK | apply du rfl))
  refine mz hb (fun ht=>?_)
  refine an rfl ?_
  exact am () qr bq ht.symm
 rintro _ τ hz;subst hz;dsimp only [aw]
 (repeat refine ag ?_)
 refine ai [] [] [(2,pB true)] aY (by kernel_rfl) ?_
 (repeat (first | apply aF | apply aD))
 (repeat refine ag ?_)
 refine bi ?_
 (repeat (first | apply bc | apply aO | apply aS | apply i7))
 exact aH (dZ (az rfl)) bq ⟨rfl,rfl⟩
end SX
end Go.Proofs.YtbedcfghfcmkdaaGreatDoor
namespace Go.Proofs
open Go.Shelf
def Tryz.lTr_ren:Go.Shelf.Ren:=⟨fun | 162=>194 | 232=>188 | 227=>189 | 234=>191 | 236=>193 | 228=>231 | 271=>233 | 151=>232 | 120=>253 | 197=>173 | 152=>252 | 260=>220 | 137=>274 | 119=>275 | 224=>169 | 225=>168 | 217=>167 | 266=>217 | n=>n,fun | 9=>9 | 4=>4 | 3=>3 | 5=>5 | 117=>277 | 116=>276 | 0=>0 | 124=>280 | 21=>21 | 105=>256 | 46=>255 | 119=>327 | 139=>330 | 138=>329 | n=>n,fun | 3=>7 | 4=>8 | n=>n⟩
theorem Tryz.lTr:Go.Proofs.Lays.n162 Tryz.prog Tryz.lTr_ren:={
 mixed:=by kernel_rfl
 f119:=Tryz.func275.trans (congrArg some (by kernel_rfl))
 f120:=Tryz.func253.trans (congrArg some (by kernel_rfl))
 f137:=Tryz.func274.trans (congrArg some (by kernel_rfl))
 f151:=Tryz.func232.trans (congrArg some (by kernel_rfl))
 f152:=Tryz.func252.trans (congrArg some (by kernel_rfl))
 f162:=Tryz.func194.trans (congrArg some (by kernel_rfl))
 f197:=Tryz.func173.trans (congrArg some (by kernel_rfl))
 f217:=Tryz.func167.trans (congrArg some (by kernel_rfl))
 f224:=Tryz.func169.trans (congrArg some (by kernel_rfl))
 f225:=Tryz.func168.trans (congrArg some (by kernel_rfl))
 f227:=Tryz.func189.trans (congrArg some (by kernel_rfl))
 f228:=Tryz.func231.trans (congrArg some (by kernel_rfl))
 f232:=Tryz.func188.trans (congrArg some (by kernel_rfl))
 f234:=Tryz.func191.trans (congrArg some (by kernel_rfl))
 f236:=Tryz.func193.trans (congrArg some (by kernel_rfl))
 f260:=Tryz.func220.trans (congrArg some (by kernel_rfl))
 f266:=Tryz.func217.trans (congrArg some (by kernel_rfl))
 f271:=Tryz.func233.trans (congrArg some (by kernel_rfl))
 t0:=Tryz.underlying0
 a0:=Tryz.isAgg0
 z0:=Tryz.sizeOf0
 v0:=Tryz.zeroValue0
 t3:=Tryz.underlying3
 a3:=Tryz.isAgg3
 z3:=Tryz.sizeOf3
 v3:=Tryz.zeroValue3
 t4:=Tryz.underlying4
 a4:=Tryz.isAgg4
 z4:=Tryz.sizeOf4
 v4:=Tryz.zeroValue4
 t5:=Tryz.underlying5
 a5:=Tryz.isAgg5
 z5:=Tryz.sizeOf5
 v5:=Tryz.zeroValue5
 t9:=Tryz.underlying9
 a9:=Tryz.isAgg9
 z9:=Tryz.sizeOf9
 v9:=Tryz.zeroValue9
 t21:=Tryz.underlying21
 a21:=Tryz.isAgg21
 z21:=Tryz.sizeOf21
 v21:=Tryz.zeroValue21
 t46:=Tryz.underlying255
 a46:=Tryz.isAgg255
 z46:=Tryz.sizeOf255
 v46:=Tryz.zeroValue255
 t105:=Tryz.underlying256
 a105:=Tryz.isAgg256
 z105:=Tryz.sizeOf256
 v105:=Tryz.zeroValue256
 t116:=Tryz.underlying276
 a116:=Tryz.isAgg276
 z116:=Tryz.sizeOf276
 t117:=Tryz.underlying277
 a117:=Tryz.isAgg277
 z117:=Tryz.sizeOf277
 v117:=Tryz.zeroValue277
 t119:=Tryz.underlying327
 a119:=Tryz.isAgg327
 z119:=Tryz.sizeOf327
 t124:=Tryz.underlying280
 a124:=Tryz.isAgg280
 z124:=Tryz.sizeOf280
 v124:=Tryz.zeroValue280
 t138:=Tryz.underlying329
 a138:=Tryz.isAgg329
 z138:=Tryz.sizeOf329
 v138:=Tryz.zeroValue329
 t139:=Tryz.underlying330
 a139:=Tryz.isAgg330
 z139:=Tryz.sizeOf330
 v139:=Tryz.zeroValue330
 g3:=by kernel_rfl
 g4:=by kernel_rfl }
end Go.Proofs
namespace Go.Proofs
open Go.Shelf
def Tryz.lGs_ren:Go.Shelf.Ren:=⟨fun | 221=>69 | 268=>116 | 138=>117 | 143=>118 | 195=>172 | 197=>173 | 218=>174 | 219=>111 | 260=>220 | 217=>167 | 225=>168 | 224=>169 | 267=>170 | 266=>217 | 314=>218 | n=>n,fun | 9=>9 | 3=>3 | 31=>28 | 4=>4 | 0=>0 | 105=>256 | 21=>21 | 5=>5 | 46=>255 | 119=>327 | 139=>330 | 138=>329 | 146=>302 | 51=>301 | n=>n,fun | 1=>1 | 3=>7 | 4=>8 | n=>n⟩
theorem Tryz.lGs:Go.Proofs.Lays.n221 Tryz.prog Tryz.lGs_ren:={
 mixed:=by kernel_rfl
 f138:=Tryz.func117.trans (congrArg some (by kernel_rfl))
 f143:=Tryz.func118.trans (congrArg some (by kernel_rfl))
 f195:=Tryz.func172.trans (congrArg some (by kernel_rfl))
 f197:=Tryz.func173.trans (congrArg some (by kernel_rfl))
 f217:=Tryz.func167.trans (congrArg some (by kernel_rfl))
 f218:=Tryz.func174.trans (congrArg some (by kernel_rfl))
 f219:=Tryz.func111.trans (congrArg some (by kernel_rfl))
 f221:=Tryz.func69.trans (congrArg some (by kernel_rfl))
 f224:=Tryz.func169.trans (congrArg some (by kernel_rfl))
 f225:=Tryz.func168.trans (congrArg some (by kernel_rfl))
 f260:=Tryz.func220.trans (congrArg some (by kernel_rfl))
 f266:=Tryz.func217.trans (congrArg some (by kernel_rfl))
 f267:=Tryz.func170.trans (congrArg some (by kernel_rfl))
 f268:=Tryz.func116.trans (congrArg some (by kernel_rfl))
 f314:=Tryz.func218.trans (congrArg some (by kernel_rfl))
 t0:=Tryz.underlying0
 a0:=Tryz.isAgg0
 z0:=Tryz.sizeOf0
 v0:=Tryz.zeroValue0
 t3:=Tryz.underlying3
 a3:=Tryz.isAgg3
 z3:=Tryz.sizeOf3
 v3:=Tryz.zeroValue3
 t4:=Tryz.underlying4
 a4:=Tryz.isAgg4
 z4:=Tryz.sizeOf4
 v4:=Tryz.zeroValue4
 t5:=Tryz.underlying5
 a5:=Tryz.isAgg5
 z5:=Tryz.sizeOf5
 v5:=Tryz.zeroValue5
 t9:=Tryz.underlying9
 a9:=Tryz.isAgg9
 z9:=Tryz.sizeOf9
 v9:=Tryz.zeroValue9
 t21:=Tryz.underlying21
 a21:=Tryz.isAgg21
 z21:=Tryz.sizeOf21
 v21:=Tryz.zeroValue21
 t31:=Tryz.underlying28
 a31:=Tryz.isAgg28
 z31:=Tryz.sizeOf28
 v31:=Tryz.zeroValue28
 t46:=Tryz.underlying255
 a46:=Tryz.isAgg255
 z46:=Tryz.sizeOf255
 v46:=Tryz.zeroValue255
 t51:=Tryz.underlying301
 a51:=Tryz.isAgg301
 z51:=Tryz.sizeOf301
 v51:=Tryz.zeroValue301
 t105:=Tryz.underlying256
 a105:=Tryz.isAgg256
 z105:=Tryz.sizeOf256
 v105:=Tryz.zeroValue256
 t119:=Tryz.underlying327
 a119:=Tryz.isAgg327
 z119:=Tryz.sizeOf327
 t138:=Tryz.underlying329
 a138:=Tryz.isAgg329
 z138:=Tryz.sizeOf329
 v138:=Tryz.zeroValue329
 t139:=Tryz.underlying330
 a139:=Tryz.isAgg330
 z139:=Tryz.sizeOf330
 v139:=Tryz.zeroValue330
 t146:=Tryz.underlying302
 a146:=Tryz.isAgg302
 z146:=Tryz.sizeOf302
 v146:=Tryz.zeroValue302
 g1:=by kernel_rfl
 g3:=by kernel_rfl
 g4:=by kernel_rfl }
def Tryz.lJn_ren:Go.Shelf.Ren:=⟨fun | 156=>40 | 165=>76 | 166=>32 | 169=>35 | 240=>68 | 241=>124 | 276=>115 | 277=>180 | n=>n,fun | 31=>28 | 9=>9 | 3=>3 | 4=>4 | 0=>0 | 20=>20 | 72=>92 | 76=>98 | 70=>89 | 37=>90 | 75=>97 | 127=>156 | 164=>204 | 5=>5 | 80=>102 | n=>n,fun | n=>n⟩
theorem Tryz.lJn:Go.Proofs.Lays.n156 Tryz.prog Tryz.lJn_ren:={
 mixed:=by kernel_rfl
 f156:=Tryz.func40.trans (congrArg some (by kernel_rfl))
 f165:=Tryz.func76.trans (congrArg some (by kernel_rfl))
 f166:=Tryz.func32.trans (congrArg some (by kernel_rfl))
 f169:=Tryz.func35.trans (congrArg some (by kernel_rfl))
 f240:=Tryz.func68.trans (congrArg some (by kernel_rfl))
 f241:=Tryz.func124.trans (congrArg some (by kernel_rfl))
 f276:=Tryz.func115.trans (congrArg some (by kernel_rfl))
 f277:=Tryz.func180.trans (congrArg some (by kernel_rfl))
 t0:=Tryz.underlying0
 a0:=Tryz.isAgg0
 z0:=Tryz.sizeOf0
 v0:=Tryz.zeroValue0
 t3:=Tryz.underlying3
 a3:=Tryz.isAgg3
 z3:=Tryz.sizeOf3
 v3:=Tryz.zeroValue3
 t4:=Tryz.underlying4
 a4:=Tryz.isAgg4
 z4:=Tryz.sizeOf4
 v4:=Tryz.zeroValue4
 t9:=Tryz.underlying9
 a9:=Tryz.isAgg9
 z9:=Tryz.sizeOf9
 v9:=Tryz.zeroValue9
 t20:=Tryz.underlying20
 a20:=Tryz.isAgg20
 z20:=Tryz.sizeOf20
 v20:=Tryz.zeroValue20
 t31:=Tryz.underlying28
 a31:=Tryz.isAgg28
 z31:=Tryz.sizeOf28
 v31:=Tryz.zeroValue28
 t37:=Tryz.underlying90
 a37:=Tryz.isAgg90
 z37:=Tryz.sizeOf90
 v37:=Tryz.zeroValue90
 t70:=Tryz.underlying89
 a70:=Tryz.isAgg89
 z70:=Tryz.sizeOf89
 v70:=Tryz.zeroValue89
 t72:=Tryz.underlying92
 a72:=Tryz.isAgg92
 z72:=Tryz.sizeOf92
 v72:=Tryz.zeroValue92
 t75:=Tryz.underlying97
 a75:=Tryz.isAgg97
 z75:=Tryz.sizeOf97
 v75:=Tryz.zeroValue97
 t76:=Tryz.underlying98
 a76:=Tryz.isAgg98
 z76:=Tryz.sizeOf98
 v76:=Tryz.zeroValue98
 t127:=Tryz.underlying156
 a127:=Tryz.isAgg156
 z127:=Tryz.sizeOf156
 v127:=Tryz.zeroValue156
 t164:=Tryz.underlying204
 a164:=Tryz.isAgg204
 z164:=Tryz.sizeOf204
 v164:=Tryz.zeroValue204 }
def Tryz.lIt_ren:Go.Shelf.Ren:=⟨fun | 171=>41 | 243=>77 | 246=>125 | 283=>181 | 284=>182 | 285=>183 | 286=>184 | 129=>225 | 317=>224 | 318=>226 | 319=>227 | 320=>228 | 337=>249 | 338=>250 | n=>n,fun | 3=>3 | 9=>9 | 2=>2 | 4=>4 | 171=>265 | 0=>0 | 53=>233 | 37=>90 | 5=>5 | 173=>268 | 212=>310 | 51=>301 | 20=>20 | 213=>311 | 46=>255 | 232=>349 | 233=>350 | n=>n,fun | 17=>4 | 18=>9 | 19=>10 | n=>n⟩
theorem Tryz.lIt:Go.Proofs.LaysM.n171 Tryz.prog Tryz.lIt_ren:={
 mixed:=by kernel_rfl
 f129:=Tryz.func225.trans (congrArg some (by kernel_rfl))
 f171:=Tryz.func41.trans (congrArg some (by kernel_rfl))
 f243:=Tryz.func77.trans (congrArg some (by kernel_rfl))
 f246:=Tryz.func125.trans (congrArg some (by kernel_rfl))
 f283:=Tryz.func181.trans (congrArg some (by kernel_rfl))
 f284:=Tryz.func182.trans (congrArg some (by kernel_rfl))
 f285:=Tryz.func183.trans (congrArg some (by kernel_rfl))
 f286:=Tryz.func184.trans (congrArg some (by kernel_rfl))
 f317:=Tryz.func224.trans (congrArg some (by kernel_rfl))
 f318:=Tryz.func226.trans (congrArg some (by kernel_rfl))
 f319:=Tryz.func227.trans (congrArg some (by kernel_rfl))
 f320:=Tryz.func228.trans (congrArg some (by kernel_rfl))
 f337:=Tryz.func249.trans (congrArg some (by kernel_rfl))
 f338:=Tryz.func250.trans (congrArg some (by kernel_rfl))
 t0:=Tryz.underlying0
 a0:=Tryz.isAgg0
 z0:=Tryz.sizeOf0
 v0:=Tryz.zeroValue0
 t2:=Tryz.underlying2
 a2:=Tryz.isAgg2
 z2:=Tryz.sizeOf2
 v2:=Tryz.zeroValue2
 t3:=Tryz.underlying3
 a3:=Tryz.isAgg3
 z3:=Tryz.sizeOf3
 v3:=Tryz.zeroValue3
 t4:=Tryz.underlying4
 a4:=Tryz.isAgg4
 z4:=Tryz.sizeOf4
 v4:=Tryz.zeroValue4
 t5:=Tryz.underlying5
 a5:=Tryz.isAgg5
 z5:=Tryz.sizeOf5
 v5:=Tryz.zeroValue5
 t9:=Tryz.underlying9
 a9:=Tryz.isAgg9
 z9:=Tryz.sizeOf9
 v9:=Tryz.zeroValue9
 t20:=Tryz.underlying20
 a20:=Tryz.isAgg20
 z20:=Tryz.sizeOf20
 v20:=Tryz.zeroValue20
 t37:=Tryz.underlying90
 a37:=Tryz.isAgg90
 z37:=Tryz.sizeOf90
 v37:=Tryz.zeroValue90
 t46:=Tryz.underlying255
 a46:=Tryz.isAgg255
 z46:=Tryz.sizeOf255
 v46:=Tryz.zeroValue255
 t51:=Tryz.underlying301
 a51:=Tryz.isAgg301
 z51:=Tryz.sizeOf301
 v51:=Tryz.zeroValue301
 t53:=Tryz.underlying233
 a53:=Tryz.isAgg233
 z53:=Tryz.sizeOf233
 v53:=Tryz.zeroValue233
 t171:=Tryz.underlying265
 a171:=Tryz.isAgg265
 z171:=Tryz.sizeOf265
 v171:=Tryz.zeroValue265
 t173:=Tryz.underlying268
 a173:=Tryz.isAgg268
 z173:=Tryz.sizeOf268
 v173:=Tryz.zeroValue268
 t212:=Tryz.underlying310
 a212:=Tryz.isAgg310
 z212:=Tryz.sizeOf310
 v212:=Tryz.zeroValue310
 t213:=Tryz.underlying311
 a213:=Tryz.isAgg311
 z213:=Tryz.sizeOf311
 t232:=Tryz.underlying349
 a232:=Tryz.isAgg349
 z232:=Tryz.sizeOf349
 v232:=Tryz.zeroValue349
 t233:=Tryz.underlying350
 a233:=Tryz.isAgg350
 z233:=Tryz.sizeOf350
 v233:=Tryz.zeroValue350
 g17:=by kernel_rfl
 g18:=by kernel_rfl
 g19:=by kernel_rfl
 i0:=by kernel_rfl
 i2:=by kernel_rfl
 i3:=by kernel_rfl
 i4:=by kernel_rfl
 i5:=by kernel_rfl
 i9:=by kernel_rfl
 i20:=by kernel_rfl
 i37:=by kernel_rfl
 i46:=by kernel_rfl
 i51:=by kernel_rfl
 i53:=by kernel_rfl
 i171:=by kernel_rfl
 i173:=by kernel_rfl
 i212:=by kernel_rfl
 i232:=by kernel_rfl
 i233:=by kernel_rfl
 m17:=by kernel_rfl
 m18:=by kernel_rfl
 m19:=by kernel_rfl }
def Tryz.lAt_ren:Go.Shelf.Ren:=⟨fun | 172=>71 | 244=>120 | 245=>121 | 247=>175 | 279=>176 | 280=>177 | 281=>178 | 282=>179 | 287=>221 | 316=>222 | 171=>41 | 205=>223 | 321=>247 | 322=>248 | 243=>77 | 246=>125 | 283=>181 | 284=>182 | 285=>183 | 286=>184 | 129=>225 | 317=>224 | 318=>226 | 319=>227 | 320=>228 | 337=>249 | 338=>250 | n=>n,fun | 9=>9 | 3=>3 | 75=>97 | 76=>98 | 4=>4 | 5=>5 | 167=>258 | 37=>90 | 0=>0 | 85=>259 | 2=>2 | 168=>261 | 53=>233 | 175=>304 | 46=>255 | 210=>307 | 127=>156 | 145=>334 | 143=>332 | 21=>21 | 171=>265 | 173=>268 | 212=>310 | 51=>301 | 20=>20 | 213=>311 | 232=>349 | 233=>350 | 80=>102 | n=>n,fun | 15=>2 | 16=>3 | 17=>4 | 18=>9 | 19=>10 | n=>n⟩
theorem Tryz.lAt:Go.Proofs.LaysC.n172 Tryz.prog Tryz.lAt_ren:={
 mixed:=by kernel_rfl
 f129:=Tryz.func225.trans (congrArg some (by kernel_rfl))
 f171:=Tryz.func41.trans (congrArg some (by kernel_rfl))
 f172:=Tryz.func71.trans (congrArg some (by kernel_rfl))
 f205:=Tryz.func223.trans (congrArg some (by kernel_rfl))
 f243:=Tryz.func77.trans (congrArg some (by kernel_rfl))
 f244:=Tryz.func120.trans (congrArg some (by kernel_rfl))
 f245:=Tryz.func121.trans (congrArg some (by kernel_rfl))
 f246:=Tryz.func125.trans (congrArg some (by kernel_rfl))
 f247:=Tryz.func175.trans (congrArg some (by kernel_rfl))
 f279:=Tryz.func176.trans (congrArg some (by kernel_rfl))
 f280:=Tryz.func177.trans (congrArg some (by kernel_rfl))
 f281:=Tryz.func178.trans (congrArg some (by kernel_rfl))
 f282:=Tryz.func179.trans (congrArg some (by kernel_rfl))
 f283:=Tryz.func181.trans (congrArg some (by kernel_rfl))
 f284:=Tryz.func182.trans (congrArg some (by kernel_rfl))
 f285:=Tryz.func183.trans (congrArg some (by kernel_rfl))
 f286:=Tryz.func184.trans (congrArg some (by kernel_rfl))
 f287:=Tryz.func221.trans (congrArg some (by kernel_rfl))
 f316:=Tryz.func222.trans (congrArg some (by kernel_rfl))
 f317:=Tryz.func224.trans (congrArg some (by kernel_rfl))
 f318:=Tryz.func226.trans (congrArg some (by kernel_rfl))
 f319:=Tryz.func227.trans (congrArg some (by kernel_rfl))
 f320:=Tryz.func228.trans (congrArg some (by kernel_rfl))
 f321:=Tryz.func247.trans (congrArg some (by kernel_rfl))
 f322:=Tryz.func248.trans (congrArg some (by kernel_rfl))
 f337:=Tryz.func249.trans (congrArg some (by kernel_rfl))
 f338:=Tryz.func250.trans (congrArg some (by kernel_rfl))
 t0:=Tryz.underlying0
 a0:=Tryz.isAgg0
 z0:=Tryz.sizeOf0
 v0:=Tryz.zeroValue0
 t2:=Tryz.underlying2
 a2:=Tryz.isAgg2
 z2:=Tryz.sizeOf2
 v2:=Tryz.zeroValue2
 t3:=Tryz.underlying3
 a3:=Tryz.isAgg3
 z3:=Tryz.sizeOf3
 v3:=Tryz.zeroValue3
 t4:=Tryz.underlying4
 a4:=Tryz.isAgg4
 z4:=Tryz.sizeOf4
 v4:=Tryz.zeroValue4
 t5:=Tryz.underlying5
 a5:=Tryz.isAgg5
 z5:=Tryz.sizeOf5
 v5:=Tryz.zeroValue5
 t9:=Tryz.underlying9
 a9:=Tryz.isAgg9
 z9:=Tryz.sizeOf9
 v9:=Tryz.zeroValue9
 t20:=Tryz.underlying20
 a20:=Tryz.isAgg20
 z20:=Tryz.sizeOf20
 v20:=Tryz.zeroValue20
 t21:=Tryz.underlying21
 a21:=Tryz.isAgg21
 z21:=Tryz.sizeOf21
 v21:=Tryz.zeroValue21
 t37:=Tryz.underlying90
 a37:=Tryz.isAgg90
 z37:=Tryz.sizeOf90
 v37:=Tryz.zeroValue90
 t46:=Tryz.underlying255
 a46:=Tryz.isAgg255
 z46:=Tryz.sizeOf255
 v46:=Tryz.zeroValue255
 t51:=Tryz.underlying301
 a51:=Tryz.isAgg301
 z51:=Tryz.sizeOf301
 v51:=Tryz.zeroValue301
 t53:=Tryz.underlying233
 a53:=Tryz.isAgg233
 z53:=Tryz.sizeOf233
 v53:=Tryz.zeroValue233
 t75:=Tryz.underlying97
 a75:=Tryz.isAgg97
 z75:=Tryz.sizeOf97
 v75:=Tryz.zeroValue97
 t76:=Tryz.underlying98
 a76:=Tryz.isAgg98
 z76:=Tryz.sizeOf98
 v76:=Tryz.zeroValue98
 t85:=Tryz.underlying259
 a85:=Tryz.isAgg259
 z85:=Tryz.sizeOf259
 v85:=Tryz.zeroValue259
 t127:=Tryz.underlying156
 a127:=Tryz.isAgg156
 z127:=Tryz.sizeOf156
 v127:=Tryz.zeroValue156
 t143:=Tryz.underlying332
 a143:=Tryz.isAgg332
 z143:=Tryz.sizeOf332
 v143:=Tryz.zeroValue332
 t145:=Tryz.underlying334
 a145:=Tryz.isAgg334
 z145:=Tryz.sizeOf334
 v145:=Tryz.zeroValue334
 t167:=Tryz.underlying258
 a167:=Tryz.isAgg258
 z167:=Tryz.sizeOf258
 v167:=Tryz.zeroValue258
 t168:=Tryz.underlying261
 a168:=Tryz.isAgg261
 z168:=Tryz.sizeOf261
 v168:=Tryz.zeroValue261
 t171:=Tryz.underlying265
 a171:=Tryz.isAgg265
 z171:=Tryz.sizeOf265
 v171:=Tryz.zeroValue265
 t173:=Tryz.underlying268
 a173:=Tryz.isAgg268
 z173:=Tryz.sizeOf268
 v173:=Tryz.zeroValue268
 t175:=Tryz.underlying304
 a175:=Tryz.isAgg304
 z175:=Tryz.sizeOf304
 v175:=Tryz.zeroValue304
 t210:=Tryz.underlying307
 a210:=Tryz.isAgg307
 z210:=Tryz.sizeOf307
 v210:=Tryz.zeroValue307
 t212:=Tryz.underlying310
 a212:=Tryz.isAgg310
 z212:=Tryz.sizeOf310
 v212:=Tryz.zeroValue310
 t213:=Tryz.underlying311
 a213:=Tryz.isAgg311
 z213:=Tryz.sizeOf311
 t232:=Tryz.underlying349
 a232:=Tryz.isAgg349
 z232:=Tryz.sizeOf349
 v232:=Tryz.zeroValue349
 t233:=Tryz.underlying350
 a233:=Tryz.isAgg350
 z233:=Tryz.sizeOf350
 v233:=Tryz.zeroValue350
 g15:=by kernel_rfl
 g16:=by kernel_rfl
 g17:=by kernel_rfl
 g18:=by kernel_rfl
 g19:=by kernel_rfl
 t80:=Tryz.underlying102
 a80:=Tryz.isAgg102
 z80:=Tryz.sizeOf102
 v80:=Tryz.zeroValue102
 i0:=by kernel_rfl
 i2:=by kernel_rfl
 i3:=by kernel_rfl
 i4:=by kernel_rfl
 i5:=by kernel_rfl
 i9:=by kernel_rfl
 i20:=by kernel_rfl
 i21:=by kernel_rfl
 i37:=by kernel_rfl
 i46:=by kernel_rfl
 i51:=by kernel_rfl
 i53:=by kernel_rfl
 i75:=by kernel_rfl
 i76:=by kernel_rfl
 i80:=by kernel_rfl
 i85:=by kernel_rfl
 i127:=by kernel_rfl
 i143:=by kernel_rfl
 i145:=by kernel_rfl
 i167:=by kernel_rfl
 i168:=by kernel_rfl
 i171:=by kernel_rfl
 i173:=by kernel_rfl
 i175:=by kernel_rfl
 i210:=by kernel_rfl
 i212:=by kernel_rfl
 i232:=by kernel_rfl
 i233:=by kernel_rfl
 m15:=by kernel_rfl
 m16:=by kernel_rfl
 m17:=by kernel_rfl
 m18:=by kernel_rfl
 m19:=by kernel_rfl
 c0:=by kernel_rfl
 c2:=by kernel_rfl
 c3:=by kernel_rfl
 c4:=by kernel_rfl
 c5:=by kernel_rfl
 c9:=by kernel_rfl
 c20:=by kernel_rfl
 c21:=by kernel_rfl
 c37:=by kernel_rfl
 c46:=by kernel_rfl
 c51:=by kernel_rfl
 c53:=by kernel_rfl
 c75:=by kernel_rfl
 c76:=by kernel_rfl
 c80:=by kernel_rfl
 c85:=by kernel_rfl
 c127:=by kernel_rfl
 c143:=by kernel_rfl
 c145:=by kernel_rfl
 c167:=by kernel_rfl
 c168:=by kernel_rfl
 c171:=by kernel_rfl
 c173:=by kernel_rfl
 c175:=by kernel_rfl
 c210:=by kernel_rfl
 c212:=by kernel_rfl
 c213:=by kernel_rfl
 c232:=by kernel_rfl
 c233:=by kernel_rfl }
end Go.Proofs
namespace Go.Proofs.YtbedcfghfcmkdaaGreatDoor
namespace SX
open Go
def BT (c:UInt8):List UInt8->Option (List UInt8×List UInt8)
 | []=>none
 | b::r=>cond (b == c) (some ([],r)) ((BT c r).map fun p=>(b::p.1,p.2))
def Fb (c:UInt8):Nat->List UInt8->List (List UInt8)
 | 0,s=>[s]
 | k+1,s=>match BT c s with
  | none=>[s]
  | some p=>p.1::Fb c k p.2
theorem xG {c:UInt8} {x r:List UInt8} (h:c ∉ x):BT c (x++c::r)=some (x,r):=by
 induction x with
 | nil=>simp [BT]
 | cons b x ih =>
  have h1:(b == c)=false:=by simp;intro e;exact h (by simp [e])
  rw [cons_append,BT,h1,dq,ih fun e=>h (List.mem_cons_of_mem _ e)];rfl
theorem ur {c:UInt8}:∀ {x:List UInt8},(BT c x=none/\Lib.indexByte x c = -1)\/∃ a r,BT c x=some (a,r)/\x=a++c::r/\Lib.indexByte x c=a.length
 | []=>.inl ⟨rfl,rfl⟩
 | b::x=>by
  unfold BT Lib.indexByte
  cases h1:(b == c) with
  | true=>exact .inr ⟨[],x,by simp,by simp at h1;simp [h1],by simp⟩
  | false =>
   simp only [dq,Bool.false_eq_true,if_false]
   rcases ur (c:=c) (x:=x) with ⟨h2,h3⟩ | ⟨a,r,h2,h3,h4⟩
   ·left;rw [h2,h3];exact ⟨rfl,by simp⟩
   right;refine ⟨b::a,r,by rw [h2];rfl,by rw [h3];rfl,?_⟩
   rw [h4,if_neg (by simp)];rfl
theorem jf (x y:List UInt8) (r:List (List UInt8)) (c:UInt8):Lib.join (x::y::r) [c]=x++c::Lib.join (y::r) [c]:=by
 rw [Lib.join_cons,Lib.join_cons,Lib.joinTail];simp [Lib.joinTail]
theorem xH {c:UInt8}:∀ {xs:List (List UInt8)} {y:List UInt8},(∀ x∈xs,c ∉ x)->Fb c xs.length (Lib.join (xs++[y]) [c])=xs++[y]
 | [],y,_=>by rw [List.nil_append,Lib.join_one];rfl
 | [x],y,h=>by
  rw [List.singleton_append,jf,List.length_singleton,Fb,xG (h x (by simp)),Lib.join_one];rfl
 | x::z::xs,y,h=>by
  have ih:=xH (c:=c) (xs:=z::xs) (y:=y) fun w hw=>h w (List.mem_cons_of_mem _ hw)
  rw [cons_append,cons_append] at *
  rw [jf,List.length_cons,Fb,xG (h x (by simp))]
  simp only []
  rw [ih]
theorem xI {c:UInt8}:∀ {xs:List (List UInt8)} {y:List UInt8},(∀ x∈xs,c ∉ x)->c ∉ y->(Lib.join (xs++[y]) [c]).count c=xs.length
 | [],y,_,hy=>by rw [List.nil_append,Lib.join_one,List.count_eq_zero_of_not_mem hy];rfl
 | [x],y,h,hy=>by
  rw [List.singleton_append,jf,Lib.join_one,List.count_append,List.count_cons,List.count_eq_zero_of_not_mem hy,List.count_eq_zero_of_not_mem (h x (by simp))];simp
 | x::z::xs,y,h,hy=>by
  have ih:=xI (c:=c) (xs:=z::xs) (y:=y) (fun w hw=>h w (List.mem_cons_of_mem _ hw)) hy
  rw [cons_append,cons_append] at *
  rw [jf,List.count_append,List.count_cons,ih,List.count_eq_zero_of_not_mem (h x (by simp))];simp
theorem xJ {c:UInt8}:∀ (k:Nat) (s:Xh),Lib.splitB ⟨#[c]⟩ 0 k s=(Fb c k s.data.toList).map fun l=>⟨l.toArray⟩
 | 0,s=>rfl
 | k+1,s=>by
  have hi:Lib.indexB s ⟨#[c]⟩=Lib.indexByte s.data.toList c:=by
   unfold Lib.indexB
   exact Lib.index_one _ _
  rw [Fb]
  rcases ur (c:=c) (x:=s.data.toList) with ⟨h2,h3⟩ | ⟨a,r,h2,h3,h4⟩
  ·rw [Lib.splitB_miss _ _ _ _ (hi.trans h3),h2];rfl
  rw [Lib.splitB_hit _ _ _ _ _ (hi.trans h4),h2,xJ k]
  simp only [List.map_cons]
  congr 1
  ·apply ByteArray.ext;apply Array.ext';simp [ByteArray.data_extract,h3]
  congr 2
  have hsz:s.size=s.data.toList.length:=by simp
  rw [ByteArray.data_extract,Array.toList_extract,hsz,h3]
  have:(⟨#[c]⟩:Xh).size=1:=rfl
  rw [this]
  simp
  rw [Nat.add_sub_add_left]
  simp
section
variable {α:Type} (lt:α->α->Bool)
def ins (x:α):List α->List α
 | []=>[x]
 | y::l=>cond (lt y x) (y::ins x l) (x::y::l)
def us:List α->List α
 | []=>[]
 | x::l=>ins lt x (us l)
variable {lt}
theorem xK {x:α}:∀ {l:List α},(ins lt x l).Perm (x::l)
 | []=>List.Perm.refl _
 | y::l=>by
  unfold ins
  cases lt y x
  ·exact List.Perm.refl _
  exact (List.Perm.cons y xK).trans (List.Perm.swap x y l)
theorem qJ:∀ {l:List α},(us lt l).Perm l
 | []=>List.Perm.refl _
 | x::l=>xK.trans (List.Perm.cons x qJ)
theorem xL (htr:∀ x y z,lt x y=true->lt y z=true->lt x z=true) (hnt:∀ x y z,lt x y=false->lt y z=false->lt x z=false) (hir:∀ x,lt x x=false) {x:α}:∀ {l:List α},l.Pairwise (fun a b=>lt b a=false)->(ins lt x l).Pairwise (fun a b=>lt b a=false)
 | [],_=>List.pairwise_singleton _ _
 | y::l,h=>by
  unfold ins
  obtain ⟨h1,h2⟩:=List.pairwise_cons.1 h
  have asym:∀ a b,lt a b=true->lt b a=false:=fun a b hab=>by
   cases hba:lt b a
   ·rfl
   have:=htr a b a hab hba;rw [hir] at this;cases this
  cases hy:lt y x
  ·refine List.pairwise_cons.2 ⟨fun z hz=>?_,h⟩
   rcases List.mem_cons.1 hz with rfl | hz
   ·exact hy
   exact hnt z y x (h1 z hz) hy
  refine List.pairwise_cons.2 ⟨fun z hz=>?_,xL htr hnt hir h2⟩
  rcases List.mem_cons.1 (xK.mem_iff.1 hz) with rfl | hz
  ·exact asym y z hy
  exact h1 z hz
theorem ut (htr:∀ x y z,lt x y=true->lt y z=true->lt x z=true) (hnt:∀ x y z,lt x y=false->lt y z=false->lt x z=false) (hir:∀ x,lt x x=false):∀ (l:List α),(us lt l).Pairwise (fun a b=>lt b a=false)
 | []=>List.Pairwise.nil
 | x::l=>xL htr hnt hir (ut htr hnt hir l)
theorem vO (ha:∀ x y,lt x y=false->lt y x=false->x=y):∀ {l m:List α},l.Pairwise (fun a b=>lt b a=false)->m.Pairwise (fun a b=>lt b a=false)->l.Perm m->l=m
 | [],m,_,_,hp=>(List.nil_perm.1 hp).symm
 | x::l,m,h1,h2,hp=>by
  obtain ⟨g1,g2⟩:=List.pairwise_cons.1 h1
  match m,h2,hp with
  | [],_,hp=>exact absurd (List.perm_nil.1 hp) (by simp)
  | y::m,h2,hp =>
   obtain ⟨k1,k2⟩:=List.pairwise_cons.1 h2
   have hxy:x=y:=by
    have hx:x∈y::m:=hp.mem_iff.1 (by simp)
    have hy:y∈x::l:=hp.mem_iff.2 (by simp)
    rcases List.mem_cons.1 hx with e | hx
    ·exact e
    rcases List.mem_cons.1 hy with e | hy
    ·exact e.symm
    exact ha x y (k1 x hx) (g1 y hy)
   subst hxy
   rw [vO ha g2 k2 ((List.perm_cons x).1 hp)]
end
end SX
end Go.Proofs.YtbedcfghfcmkdaaGreatDoor
set_option maxRecDepth 100000
namespace Go.Proofs.YtbedcfghfcmkdaaGreatDoor
namespace SX
open Go Go.RowKit
theorem Zt.fresh {β:Jc} {r':Ja} {l:List Ja} {O:Kr} {w':World} (h:Zt β l O) (hB:Below O.w.heap.size O.w w') (hs:r'.holds w') (hlt:∀ b,r'.blk=some b->O.w.heap.size<=b/\b<w'.heap.size) (hdr:Pe O.w.drawn w'.drawn) :
    Zt β (r'::l) ⟨w',O.S⟩/\Sa O ⟨w',O.S⟩:=by
  obtain ⟨hle,hfin,hown,hblk,hnd⟩:=h
  have hk:Sa O ⟨w',O.S⟩:=⟨hB.size,fun _ h=>h,fun i hi=>hB.block i (hfin i hi)⟩
  refine ⟨⟨⟨hle.kle.trans hk,fun i hi hm=>(hB.block i (Nat.lt_of_lt_of_le hi hle.kle.size)).trans (hle.same i hi hm),hle.shNew,hB.os.trans hle.os,hB.tape.trans hle.tape,hB.output.trans hle.output,hle.drawn.trans hdr⟩,fun i hi=>Nat.lt_of_lt_of_le (hfin i hi) hB.size,?_,?_,?_⟩,hk⟩
  · intro s hs'
    rcases List.mem_cons.1 hs' with rfl | hs'
    · exact hs
    exact Ja.holds_of (hown s hs') fun i hi=>hB.block i (hblk s hs' i hi).1
  · intro s hs' i hi
    rcases List.mem_cons.1 hs' with rfl | hs'
    · obtain ⟨h1,h2⟩:=hlt i hi
      refine ⟨h2,fun hS=>absurd (hfin i hS) (by omega),.inl ?_⟩
      have:=hle.kle.size;omega
    obtain ⟨h1,h2,h3⟩:=hblk s hs' i hi
    exact ⟨Nat.lt_of_lt_of_le h1 hB.size,h2,h3⟩
  refine List.pairwise_cons.2 ⟨fun s hs' b hb hb2=>?_,hnd⟩
  have h1:=(hlt b hb).1
  have h2:=(hblk s hs' b hb2).1
  omega
end SX
end Go.Proofs.YtbedcfghfcmkdaaGreatDoor
set_option maxRecDepth 100000
namespace Go.Proofs.YtbedcfghfcmkdaaGreatDoor
namespace SX
open Go Go.RowKit
theorem rV {f:Nat} {pargs:List PV} {r:PV} (fOk:Pf f) (hd:yR=false) (h:∀ O args,Xe O->(∀ b,O.S b->b<O.w.heap.size)->Xb O pargs args->Calls Tryz.prog f args.toArray O.w fun e w'=>∃ v,e=.returned v/\Below O.w.heap.size O.w w'/\∀ O',Sa O O'->Rp O' r v):PF f pargs r:=fun O args g ha =>
 ⟨fOk,fun hi=>(h O args g hi.fin ha).mono fun e w' ⟨v,h1,hB,h2⟩=>by
  obtain ⟨i1,k1⟩:=hi.fresh (r':=xf) hB trivial (fun b hb=>by cases hb) (fun hx=>by rw [hd] at hx;cases hx)
  exact ⟨v,[],⟨w',O.S⟩,h1,rfl,i1.sub (List.sublist_cons_self _ _),rfl,h2 _ k1⟩⟩
theorem rW {O:Kr} {s:Xh} {v:Value} (h:Rp O (pS s) v):v=.string s/\s.size<=140737488355328:=by
 cases h with | v h=>exact ⟨rfl,by simpa [sM] using h⟩
theorem sC {O:Kr} {s:Xh} (h:s.size<=140737488355328):Rp O (pS s) (.string s):=.v (by simpa [sM] using h)
theorem BU {a b:Xh} (h:a.data.toList=b.data.toList):a=b:=by
 apply ByteArray.ext;apply Array.ext';exact h
theorem rpss_eS' {O:Kr}:∀ {xs:List Xh} {dss:List (List Value)},Mb O (xs.map eS) dss->dss=xs.map fun s=>[.string s]
 | [],_,h=>h.nil_inv
 | x::xs,_,h=>by
  obtain ⟨d,ds,rfl,h1,h2⟩:=h.cons_inv
  obtain ⟨v,vs,rfl,h3,h4⟩:=h1.cons_inv
  rw [rpss_eS' h2,h4.nil_inv,h3.val];rfl
theorem rpss_eS'_of {O:Kr}:∀ {xs:List Xh},(∀ x∈xs,sM (.string x)=true)->Mb O (xs.map eS) (xs.map fun s=>[.string s])
 | [],_=>.nil
 | x::xs,h=>.cons (.cons (.v (h x (by simp))) .nil) (rpss_eS'_of fun y hy=>h y (by simp [hy]))
theorem flat_str' (l:List Xh):(l.map fun s=>[Value.string s]).flatten=l.map Value.string:=by
 induction l with
 | nil=>rfl
 | cons x xs ih=>simp [ih]
def ixB (s sep:Xh):Option Int:=match sep.data.toList with
 | [c]=>some (Lib.indexByte s.data.toList c)
 | _=>none
theorem C9 {sep:Xh} {c:UInt8} (h:sep.data.toList=[c]):sep=⟨#[c]⟩:=BU h
def i6 (s sep:Xh):Option Int:=ixB s sep
theorem rX {p0 p1:Xh} {r:Int} (h:i6 p0 p1=some r):PF 111 [pS p0,pS p1] (pI r):=rV (CG Tryz.func111 rfl) rfl fun O args g hf ha=>by
 unfold i6 ixB at h
 split at h
 ·rename_i c hc
  obtain rfl:=Option.some.inj h
  rw [C9 hc] at ha
  obtain ⟨v,ws,rfl,ha1,ha2⟩:=ha.cons_inv
  obtain ⟨v2,ws2,rfl,ha3,ha4⟩:=ha2.cons_inv
  have:=ha4.nil_inv;subst this
  obtain ⟨rfl,h1⟩:=rW ha1
  obtain ⟨rfl,h2⟩:=rW ha3
  exact (Any.stringslite_Index_one { Tryz.lGs with } p0 c O.w).mono fun e w' ⟨e1,e2⟩=>⟨_,e1,e2 ▸ Below.refl _ _,fun O' _=>.v rfl⟩
 cases h
def gk (s sep:Xh) (sv n:Int):Option (List Xh):=match sep.data.toList with
 | [c]=>cond (Nat.blt s.size 4294967281&&decide (sv=0)&&(decide (n = -1)||decide (0<n)&&decide (n<=9223372036854775807))) (some ((Fb c (cond (decide (n = -1)) (s.data.toList.count c) (min n.toNat (s.size+1) - 1)) s.data.toList).map fun l=>⟨l.toArray⟩)) none
 | _=>none
theorem Hs {c:UInt8}:∀ (k:Nat) (s:List UInt8),∀ x∈Fb c k s,x.length<=s.length
 | 0,s,x,hx=>by simp [Fb] at hx;rw [hx];exact le_refl _
 | k+1,s,x,hx=>by
  rw [Fb] at hx
  rcases ur (c:=c) (x:=s) with ⟨h2,_⟩ | ⟨a,r,h2,h3,_⟩
  ·rw [h2] at hx;simp at hx;rw [hx];exact le_refl _
  rw [h2] at hx
  rcases List.mem_cons.1 hx with rfl | hx
  ·rw [h3];simp
  have:=Hs k r x hx
  rw [h3];simp;omega
theorem D5 {c:UInt8}:∀ (k:Nat) (s:List UInt8),(Fb c k s).length<=k+1
 | 0,s=>by simp [Fb]
 | k+1,s=>by
  rw [Fb]
  split
  ·simp
  have:=D5 (c:=c) k;simp;exact this _
theorem yE {p0 p1:Xh} {p2 p3:Int} {r:List Xh} (h:gk p0 p1 p2 p3=some r):La 69 [pS p0,pS p1,pI p2,pI p3] [] (fun pv ρ'=>∃ a c,pv=.v (.slice a r.length c)/\ρ'=[Qa.row a r.length c 9 1 (List.map eS r)]):=fun O args ρ g ha hr=>by
 have:=hr.nil_inv;subst this
 obtain ⟨v,ws,rfl,ha1,ha2⟩:=ha.cons_inv
 obtain ⟨v2,ws2,rfl,ha3,ha4⟩:=ha2.cons_inv
 obtain ⟨v3,ws3,rfl,ha5,ha6⟩:=ha4.cons_inv
 obtain ⟨v4,ws4,rfl,ha7,ha8⟩:=ha6.cons_inv
 have:=ha8.nil_inv;subst this
 obtain ⟨rfl,h1⟩:=rW ha1
 obtain ⟨rfl,h2⟩:=rW ha3
 have e3:=ha5.val;have e4:=ha7.val
 subst e3 e4
 refine ⟨(CG Tryz.func69 rfl),fun hi=>?_⟩
 unfold gk at h
 split at h
 ·rename_i c hc
  obtain rfl:=C9 hc
  cases hq:(Nat.blt p0.size 4294967281&&decide (p2=0)&&(decide (p3 = -1)||decide (0<p3)&&decide (p3<=9223372036854775807))) with
  | false=>rw [hq] at h;cases h
  | true =>
   rw [hq,cQ] at h
   have hrr:=(Option.some.inj h).symm
   simp only [and_eq_true,Bool.or_eq_true,decide_eq_true_eq] at hq
   obtain ⟨⟨q1,rfl⟩,q3⟩:=hq
   have q1:p0.size<4294967281:=by have:=Nat.le_of_ble_eq_true q1;omega
   have hcl:p0.data.toList.count c<=p0.size:=by
    have:=List.count_le_length (a:=c) (l:=p0.data.toList);simpa using this
   have hcB:Lib.countB p0 ⟨#[c]⟩=p0.data.toList.count c:=by
    unfold Lib.countB;exact Lib.count_one _ _
   obtain ⟨N,hN⟩:∃ N:Nat,(N:Int)=min (if p3<0 then (Lib.countB p0 ⟨#[c]⟩:Int)+1 else p3) ((p0.size:Int)+1):=by
    refine ⟨(min (if p3<0 then (Lib.countB p0 ⟨#[c]⟩:Int)+1 else p3) ((p0.size:Int)+1)).toNat,Int.toNat_of_nonneg ?_⟩
    split <;> omega
   have hk:cond (decide (p3 = -1)) (p0.data.toList.count c) (min p3.toNat (p0.size+1) - 1)=N - 1:=by
    rw [hcB] at hN
    rcases q3 with rfl | ⟨q3,q4⟩
    ·simp only [decide_true,cQ]
     rw [if_pos (by omega)] at hN;omega
    rw [bz (by omega),dq]
    rw [if_neg (by omega)] at hN;omega
   rw [hk] at hrr
   have hN1:1<=N:=by
    rcases q3 with rfl | ⟨q3,q4⟩
    ·rw [if_pos (by omega)] at hN;omega
    rw [if_neg (by omega)] at hN;omega
   have hN2:N<=p0.size+1:=by
    have:(N:Int)<=(p0.size:Int)+1:=by rw [hN];exact Int.min_le_right _ _
    omega
   have hpl:=xJ (c:=c) (N - 1) p0
   rw [<- hrr] at hpl
   have hrl:r.length<=N:=by
    rw [hrr,List.length_map];have:=D5 (c:=c) (N - 1) p0.data.toList;omega
   have hok:∀ x∈r,sM (.string x)=true:=fun x hx=>by
    rw [hrr] at hx
    obtain ⟨l,hl,rfl⟩:=List.mem_map.1 hx
    have:=Hs _ _ l hl
    have h5:(⟨l.toArray⟩:Xh).size=l.length:=by show l.toArray.size=_;simp
    have h6:p0.size=p0.data.toList.length:=by show p0.data.size=_;simp
    simp only [sM,h5]
    exact Nat.ble_eq_true_of_le (by omega)
   have hc2:=Any.strings_genSplit_core Tryz.lGs (by kernel_rfl) p0 ⟨#[c]⟩ 0 p3 N O.w q1 (le_refl 1) (zero_le _)
    (fun x cc _=>(Any.strings_Index_one { Tryz.lGs with } x c _).mono fun e w' ⟨g1,g2⟩=>⟨by rw [g1];congr 2;unfold Lib.indexB;exact (Lib.index_one _ _).symm,g2⟩)
    ((Any.strings_Count_one { Tryz.lGs with } p0 c O.w).mono fun e w' ⟨g1,g2⟩=>⟨by rw [g1,hcB];rfl,g2⟩)
    (by omega) (by rcases q3 with rfl | ⟨_,q4⟩ <;> omega) hN
   refine hc2.mono fun e w' ⟨g1,g2⟩=>?_
   rw [hpl] at g1 g2
   subst g1 g2
   refine ⟨_,_,⟨_,O.S⟩,rfl,rfl,hi.alloc (.cells (Lib.cellsOf r N) 9) (Ja.row (some ⟨O.w.heap.size,0,none⟩) r.length N 9 1 (r.map fun s=>[.string s])) rfl ⟨rfl,by simp,fun cs hcs=>by obtain ⟨q,_,rfl⟩:=List.mem_map.1 hcs;rfl,hrl,by unfold maxLen;omega,_,rfl,by rw [Lib.cellsOf_size hrl,mul_one],?_⟩,_,_,.v rfl,.cons (.row (by omega) (by intro cs hcs;obtain ⟨q,_,rfl⟩:=List.mem_map.1 hcs;intro u hu;rw [List.mem_singleton.1 hu];rfl) (rpss_eS'_of hok)) .nil,_,_,rfl,rfl⟩
   rw [flat_str',mul_one]
   unfold Lib.cellsOf
   simp
 cases h
theorem oa {p0 p1:Xh} {p2 p3:Int} {r:List Xh} (h:gk p0 p1 p2 p3=some r):PF 69 [pS p0,pS p1,pI p2,pI p3] (pL eS r):=Hj (yE h)
def bJ (xs:List Xh) (sep:Xh):Xh:=⟨(Lib.join (xs.map (·.data.toList)) sep.data.toList).toArray⟩
def strings_Join (xs:List Xh) (sep:Xh):Option Xh:=cond (Nat.ble (bJ xs sep).size 140737488355328) (some (bJ xs sep)) none
theorem rY:Builder.Extra Tryz.prog Tryz.lJn_ren where
 sizeBuilder:=by kernel_rfl
 liesBuilder:=by kernel_rfl
 t5:=by kernel_rfl
 a5:=Tryz.lGs.a5
 z5:=Tryz.lGs.z5
 v5:=Tryz.lGs.v5
 infoByte:=by kernel_rfl
 cellsByte:=by kernel_rfl
 sizeByte:=by kernel_rfl
 neB5:=by decide
theorem dI {p0:List Xh} {p1 r:Xh} (h:strings_Join p0 p1=some r):PF 40 [pL eS p0,pS p1] (pS r):=rV (CG Tryz.func40 rfl) rfl fun O args g hf ha=>by
 unfold strings_Join at h
 cases hq:Nat.ble (bJ p0 p1).size 140737488355328 with
 | false=>rw [hq] at h;cases h
 | true =>
  rw [hq,cQ] at h
  obtain rfl:=Option.some.inj h
  have hq:=Nat.le_of_ble_eq_true hq
  have hql:(Lib.join (p0.map (·.data.toList)) p1.data.toList).length<=140737488355328:=by
   have:(bJ p0 p1).size=(Lib.join (p0.map (·.data.toList)) p1.data.toList).length:=by show (List.toArray _).size=_;simp
   omega
  obtain ⟨v,ws,rfl,ha1,ha2⟩:=ha.cons_inv
  obtain ⟨v2,ws2,rfl,ha3,ha4⟩:=ha2.cons_inv
  have:=ha4.nil_inv;subst this
  obtain ⟨rfl,h2⟩:=rW ha3
  cases ha1 with
  | slc hsl hb ho hss =>
   rename_i a c sz css
   have hcs:=rpss_eS' hss
   subst hcs
   have hn:=hsl.len
   rw [List.length_map] at hn
   cases p0 with
   | nil =>
    exact (Any.strings_Join_none Tryz.lJn rY a c p1 O.w).mono fun e w' ⟨e1,e2⟩=>⟨_,e1,e2 ▸ Below.refl _ _,fun O' _=>sC (zero_le _)⟩
   | cons x xs =>
    obtain ⟨b,off,hab,hat⟩:=hsl.at_ (by simp)
    subst hab
    have hat0:=hat 0 [.string x] (by simp)
    refine (Any.strings_Join Tryz.lJn rY b off c (x::xs) p1 O.w (fun j y hj=>?_) (hf b hat0.1) hb hsl.cap hql).mono fun e w' ⟨e1,e2⟩=>⟨_,e1,e2,fun O' _=>sC hq⟩
    have h3:=hat j [.string y] (by rw [List.getElem?_map,hj];rfl)
    have hsz:sz=1:=(hsl.wid [.string x] (by simp)).symm
    subst hsz
    have:=h3.2 0 (.string y) rfl
    rw [mul_one,Nat.add_zero] at this
    exact this
def D6 (a:Int):Bool:=decide (-9223372036854775808<=a)&&decide (a<=9223372036854775807)
def BV (n:Int):Xh:=⟨(Lib.itoa n).toArray⟩
def strconv_Itoa (n:Int):Option Xh:=cond (D6 n&&Nat.ble (BV n).size 140737488355328) (some (BV n)) none
theorem cu {p0:Int} {r:Xh} (h:strconv_Itoa p0=some r):PF 41 [pI p0] (pS r):=rV (CG Tryz.func41 rfl) rfl fun O args g hf ha=>by
 unfold strconv_Itoa at h
 cases hq:(D6 p0&&Nat.ble (BV p0).size 140737488355328) with
 | false=>rw [hq] at h;cases h
 | true =>
  rw [hq,cQ] at h
  obtain rfl:=Option.some.inj h
  simp only [D6,and_eq_true,decide_eq_true_eq] at hq
  obtain ⟨v,ws,rfl,ha1,ha2⟩:=ha.cons_inv
  have:=ha2.nil_inv;subst this
  have e1:=ha1.val;subst e1
  refine (Any.strconv_Itoa Tryz.lIt p0 hq.1.1 hq.1.2 O.w (gok_pow g)).mono fun e w' ⟨e1,k,os,e2⟩=>⟨_,e1,?_,fun O' _=>sC (Nat.le_of_ble_eq_true hq.2)⟩
  rw [e2]
  exact below_grown_sl _ _ _ _ (le_refl _)
def dB (s:Xh):Option (Int×Unit):=match Lib.atoiAll s.data.toList with
 | .ok v=>some (v,())
 | _=>none
theorem vi (w:World) (e:TypeId) (s:Xh):Below w.heap.size w (Lib.bytesWorld w e s):=by
 unfold Lib.bytesWorld
 have h:=(Below.refl w.heap.size w).drew.alloc (le_refl _) (.cells (Lib.bytesCells w e s) e)
 refine ⟨by rw [<- h.os];unfold World.freeze;split <;> rfl,by rw [<- h.tape];unfold World.freeze;split <;> rfl,by rw [<- h.output];unfold World.freeze;split <;> rfl,?_,?_⟩
 ·refine Nat.le_trans h.size ?_
  unfold World.freeze;split
  ·exact le_refl _
  simp
 intro k hk
 rw [<- h.block k hk]
 unfold World.freeze;split
 ·rfl
 simp only [Array.getElem?_modify]
 rw [if_neg (by omega)]
theorem strconv_Atoi_ok {p0:Xh} {r:Int×Unit} (h:dB p0=some r):PF 71 [pS p0] (.tup [pI r.1,.v .nilIface]):=rV (CG Tryz.func71 rfl) rfl fun O args g hf ha=>by
 unfold dB at h
 split at h
 ·rename_i v hv
  obtain rfl:=Option.some.inj h
  obtain ⟨v',ws,rfl,ha1,ha2⟩:=ha.cons_inv
  have:=ha2.nil_inv;subst this
  obtain ⟨rfl,h1⟩:=rW ha1
  refine (Any.strconv_Atoi_ok Tryz.lAt p0 (by omega) v hv O.w).mono fun e w' ⟨e1,e2⟩=>⟨_,e1,?_,fun O' _=>.tup (.cons (.v rfl) (.cons (.v rfl) .nil))⟩
  rcases e2 with rfl | ⟨t,rfl⟩
  ·exact Below.refl _ _
  exact vi _ _ _
 cases h
end SX
end Go.Proofs.YtbedcfghfcmkdaaGreatDoor
set_option maxRecDepth 100000
namespace Go.Proofs.YtbedcfghfcmkdaaGreatDoor
namespace SX
open Go Go.RowKit
def ki (s cut:Xh):Option Xh:=match cut.data.toList with
 | [c]=>cond (decide (c.toNat<128)) (some ⟨(Lib.trimRightB s.data.toList c).toArray⟩) none
 | _=>none
theorem rZ {p0 p1 r:Xh} (h:ki p0 p1=some r):PF 194 [pS p0,pS p1] (pS r):=rV (CG Tryz.func194 rfl) rfl fun O args g hf ha=>by
 unfold ki at h
 split at h
 ·rename_i c hc
  obtain rfl:=C9 hc
  cases hq:decide (c.toNat<128) with
  | false=>rw [hq] at h;cases h
  | true =>
   rw [hq,cQ] at h
   obtain rfl:=Option.some.inj h
   obtain ⟨v,ws,rfl,ha1,ha2⟩:=ha.cons_inv
   obtain ⟨v2,ws2,rfl,ha3,ha4⟩:=ha2.cons_inv
   have:=ha4.nil_inv;subst this
   obtain ⟨rfl,h1⟩:=rW ha1
   obtain ⟨rfl,h2⟩:=rW ha3
   refine (Any.strings_TrimRight_one Tryz.lTr p0 c (of_decide_eq_true hq) O.w (by omega)).mono fun e w' ⟨e1,e2⟩=>⟨_,e1,e2 ▸ Below.refl _ _,fun O' _=>sC ?_⟩
   have h5:(⟨(Lib.trimRightB p0.data.toList c).toArray⟩:Xh).size=(Lib.trimRightB p0.data.toList c).length:=by show (List.toArray _).size=_;simp
   have h6:p0.size=p0.data.toList.length:=by show p0.data.size=_;simp
   have h7:(Lib.trimRightB p0.data.toList c).length<=p0.data.toList.length:=by
    unfold Lib.trimRightB
    rw [List.length_reverse]
    have:=(List.dropWhile_suffix (· == c) (l:=p0.data.toList.reverse)).length_le
    simpa using this
   omega
 cases h
end SX
end Go.Proofs.YtbedcfghfcmkdaaGreatDoor
