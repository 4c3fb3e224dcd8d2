/- A part of the proof: texts of the walk and of the plain laws, merged. No condition. -/
import Derived.Test.YtfcecieppoljlaaGreatDoorM3
import Derived.Test.YtfcecieppoljlaaGreatDoorChecked
import Derived.KernelRfl
import Derived.WalkKit
import Derived.OrdersHeld
import Derived.Laws.CopyRow
import Derived.Laws.StructEq
import Derived.Maps.AppendAt
import Derived.Laws.MakeOwn
import Derived.Laws.BytesArg
import Derived.Laws.Externs
import Derived.Laws.Cover3
import Derived.ChangeArms
import Derived.DataReads
import GoSem.ClaimJoined
import Derived.Test.YtfcecieppoljlaaGreatDoorRows
import Derived.ChangeSame
import Derived.ChangeVars
import Derived.JoinedOf
import Derived.RowKit
import Derived.RowKitTokens
import Derived.LaidLaws
import Derived.LaidHandle
import Derived.Carry
import Derived.Handed
import Derived.ChangeOld
import Derived.SevenTiedAt
import Derived.Test.YtfcecieppoljlaaGreatDoorCards
import Derived.Test.YtfcecieppoljlaaGreatDoorTie
set_option linter.unusedVariables false
set_option linter.unusedSimpArgs false
set_option maxRecDepth 100000
namespace Go.Proofs.YtfcecieppoljlaaGreatDoor
namespace SX
open Go
attribute [local irreducible] PWL PWC PWD POpL POpQ PEv PGuardIs PSub PPick PUpd PSplice PFill PLit PF PFV PCall pseqK pblockK pmidK pcutK ploopK pretK Cov PHolds loopF idx app mk gd lb nz ge0 cat sub ssub iand ior ixor ishl ishr imin imax IntKind.wrap Int.tmod Int.tdiv Op.bytesLess strOfNums
def math_bits_Len32 (p0 : Int) : Option Int := Option.bind (cond (decide (65536 ≤ p0)) (some ((ishr .u32 p0 16), 16)) (some (p0, 0))) (fun (v1, v2) => Option.bind (cond (decide (256 ≤ v1)) (some ((ishr .u32 v1 8), (IntKind.i64.wrap (v2 + 8)))) (some (v1, v2))) (fun (v5, v6) => Option.bind (idx (⟨#[0, 1, 2, 2, 3, 3, 3, 3, 4, 4, 4, 4, 4, 4, 4, 4, 5, 5, 5, 5, 5, 5, 5, 5, 5, 5, 5, 5, 5, 5, 5, 5, 6, 6, 6, 6, 6, 6, 6, 6, 6, 6, 6, 6, 6, 6, 6, 6, 6, 6, 6, 6, 6, 6, 6, 6, 6, 6, 6, 6, 6, 6, 6, 6, 7, 7, 7, 7, 7, 7, 7, 7, 7, 7, 7, 7, 7, 7, 7, 7, 7, 7, 7, 7, 7, 7, 7, 7, 7, 7, 7, 7, 7, 7, 7, 7, 7, 7, 7, 7, 7, 7, 7, 7, 7, 7, 7, 7, 7, 7, 7, 7, 7, 7, 7, 7, 7, 7, 7, 7, 7, 7, 7, 7, 7, 7, 7, 7, 8, 8, 8, 8, 8, 8, 8, 8, 8, 8, 8, 8, 8, 8, 8, 8, 8, 8, 8, 8, 8, 8, 8, 8, 8, 8, 8, 8, 8, 8, 8, 8, 8, 8, 8, 8, 8, 8, 8, 8, 8, 8, 8, 8, 8, 8, 8, 8, 8, 8, 8, 8, 8, 8, 8, 8, 8, 8, 8, 8, 8, 8, 8, 8, 8, 8, 8, 8, 8, 8, 8, 8, 8, 8, 8, 8, 8, 8, 8, 8, 8, 8, 8, 8, 8, 8, 8, 8, 8, 8, 8, 8, 8, 8, 8, 8, 8, 8, 8, 8, 8, 8, 8, 8, 8, 8, 8, 8, 8, 8, 8, 8, 8, 8, 8, 8, 8, 8, 8, 8, 8, 8, 8, 8, 8, 8, 8, 8]⟩ : ByteArray).data.toList (IntKind.u8.wrap v5)) (fun c9 => lb ((IntKind.i64.wrap (v6 + (IntKind.i64.wrap (c9.toNat : Int))))) (fun w10 => some w10))))
set_option maxHeartbeats 4000000 in
theorem math_bits_Len32_ok {p0 : Int} {r : Int}  (h : math_bits_Len32 p0 = some r) : PF 109 [.v (.int .u32 p0)] (.v (.int .i64 r)) := by
 unfold math_bits_Len32 at h
 refine pf_of ?_
 refine penter Tryz.func109 fk109 rfl Tryz.ntmps109 Tryz.results109 rfl ?_
 refine yab (yaa ?_)
 refine zas (p := .v (.int .i64 0)) rfl rfl rfl rfl rfl ?_
 refine yad (yae (yab (yab (yaa ?_))))
 refine zmv (p := .v (.int .u32 p0)) rfl rfl rfl rfl rfl ?_
 refine yah rfl rfl rfl (yak rfl (.p rfl) (.p rfl) rfl) ?_
 refine yad (yae ?_)
 refine yaf h ?_; clear h; intro q3 hq3 h
 refine ybe (Y := (Unit) × (Int × Int)) (fun (_, (v1, v2)) => [(0, .v (.int .u32 v1)), (2, .v (.int .i64 v2))]) (fun (_, (v1, v2)) => []) (fun (_, (v1, v2)) => q3 = (v1, v2)) ?_ ?_
 ·skip
  refine yal rfl (fun hc4 => ?_) (fun hc4 => ?_)
  ·replace hq3 := yav hc4 hq3
   refine yab (yaa ?_)
   refine zmv (p := .v (.int .u32 p0)) rfl rfl rfl rfl rfl ?_
   refine yah rfl rfl rfl (pq_shift rfl (.p rfl) (.p rfl) (fun _ => by decide) rfl) ?_
   refine zas (p := .v (.int .u32 (ishr .u32 p0 16))) rfl rfl rfl rfl rfl ?_
   refine yad (yae (yaa ?_))
   refine zas (p := .v (.int .i64 16)) rfl rfl rfl rfl rfl ?_
   refine yad ?_
   obtain rfl := Option.some.inj hq3
   exact ybb ((), ((ishr .u32 p0 16), 16)) (zhc rfl (zhc rfl zhn)) zsn rfl
  ·replace hq3 := yaw hc4 hq3
   refine yao ?_
   obtain rfl := Option.some.inj hq3
   exact ybb ((), (p0, 0)) (zhc rfl (zhc rfl zhn)) zsn rfl
 ·rintro ⟨_, ⟨v1, v2⟩⟩ τ hz; (try dsimp only at hz); subst q3; (try dsimp only at h); dsimp only [pupds]
  refine yab (yab (yaa ?_))
  refine zmv (p := .v (.int .u32 v1)) rfl rfl rfl rfl rfl ?_
  refine yah rfl rfl rfl (yak rfl (.p rfl) (.p rfl) rfl) ?_
  refine yad (yae ?_)
  refine yaf h ?_; clear h; intro q7 hq7 h
  refine ybe (Y := (Unit) × (Int × Int)) (fun (_, (v5, v6)) => [(0, .v (.int .u32 v5)), (2, .v (.int .i64 v6))]) (fun (_, (v5, v6)) => []) (fun (_, (v5, v6)) => q7 = (v5, v6)) ?_ ?_
  ·skip
   refine yal rfl (fun hc8 => ?_) (fun hc8 => ?_)
   ·replace hq7 := yav hc8 hq7
    refine yab (yaa ?_)
    refine zmv (p := .v (.int .u32 v1)) rfl rfl rfl rfl rfl ?_
    refine yah rfl rfl rfl (pq_shift rfl (.p rfl) (.p rfl) (fun _ => by decide) rfl) ?_
    refine zas (p := .v (.int .u32 (ishr .u32 v1 8))) rfl rfl rfl rfl rfl ?_
    refine yad (yae (yaa ?_))
    refine zmv (p := .v (.int .i64 v2)) rfl rfl rfl rfl rfl ?_
    refine yah rfl rfl rfl (yas rfl (.p rfl) (.p rfl) rfl) ?_
    refine zas (p := .v (.int .i64 (IntKind.i64.wrap (v2 + 8)))) rfl rfl rfl rfl rfl ?_
    refine yad ?_
    obtain rfl := Option.some.inj hq7
    exact ybb ((), ((ishr .u32 v1 8), (IntKind.i64.wrap (v2 + 8)))) (zhc rfl (zhc rfl zhn)) zsn rfl
   ·replace hq7 := yaw hc8 hq7
    refine yao ?_
    obtain rfl := Option.some.inj hq7
    exact ybb ((), (v1, v2)) (zhc rfl (zhc rfl zhn)) zsn rfl
  ·rintro ⟨_, ⟨v5, v6⟩⟩ τ hz; (try dsimp only at hz); subst q7; (try dsimp only at h); dsimp only [pupds]
   refine yab (yaa ?_)
   refine zmv (p := .v (.int .i64 v6)) rfl rfl rfl rfl rfl ?_
   refine zmv (p := .v (.int .u32 v5)) rfl rfl rfl rfl rfl ?_
   refine yah rfl rfl rfl (pq_conv rfl rfl rfl (.p rfl)) ?_
   refine yaf h ?_; clear h; intro c9 hc9 h
   refine yah rfl rfl rfl (pq_indexS rfl rfl (.p rfl) (.p rfl) (fun _ => hc9)) ?_
   refine yah rfl rfl rfl (pq_conv rfl rfl rfl (.p rfl)) ?_
   refine yah rfl rfl rfl (yas rfl (.p rfl) (.p rfl) rfl) ?_
   refine lb_elim h ?_; clear h; intro w10 hw10 h
   refine yah rfl rfl rfl (pq_assign rfl (.p (congrArg (fun z => PV.v (Value.int .i64 z)) hw10))) ?_
   refine yad (yae (yaq ?_))
   obtain rfl := Option.some.inj h
   exact yar (prv_1 (yat rfl)) zsn ⟨rfl, rfl⟩
def math_bits_Len (p0 : Int) : Option Int := cond false (Option.bind (math_bits_Len32 (IntKind.u32.wrap p0)) (fun x2 => some x2)) (Option.bind (math_bits_Len64 p0) (fun x3 => some x3))
set_option maxHeartbeats 4000000 in
theorem math_bits_Len_ok {p0 : Int} {r : Int}  (h : math_bits_Len p0 = some r) : PF 75 [.v (.int .u64 p0)] (.v (.int .i64 r)) := by
 unfold math_bits_Len at h
 refine pf_of ?_
 refine penter Tryz.func75 fk75 rfl Tryz.ntmps75 Tryz.results75 rfl ?_
 refine yab (yaa ?_)
 refine zas (p := .v (.int .i64 0)) rfl rfl rfl rfl rfl ?_
 refine yad (yae (yab ?_))
 refine yal rfl (fun hc1 => ?_) (fun hc1 => ?_)
 ·replace h := yav hc1 h
  refine yab (yaa ?_)
  refine zmv (p := .v (.int .u64 p0)) rfl rfl rfl rfl rfl ?_
  refine yah rfl rfl rfl (pq_conv rfl rfl rfl (.p rfl)) ?_
  refine yaf h ?_; clear h; intro x2 hx2 h
  refine ybd rfl rfl rfl rfl rfl (math_bits_Len32_ok hx2) ?_
  refine zas (p := .v (.int .i64 x2)) rfl rfl rfl rfl rfl ?_
  refine yad (yae (yaq (yap ?_)))
  obtain rfl := Option.some.inj h
  exact yar (prv_1 (yat rfl)) zsn ⟨rfl, rfl⟩
 ·replace h := yaw hc1 h
  refine yao (yae (yab (yaa ?_)))
  refine zmv (p := .v (.int .u64 p0)) rfl rfl rfl rfl rfl ?_
  refine yaf h ?_; clear h; intro x3 hx3 h
  refine ybd rfl rfl rfl rfl rfl (math_bits_Len64_ok hx3) ?_
  refine zas (p := .v (.int .i64 x3)) rfl rfl rfl rfl rfl ?_
  refine yad (yae (yaq ?_))
  obtain rfl := Option.some.inj h
  exact yar (prv_1 (yat rfl)) zsn ⟨rfl, rfl⟩
def slices_pdqsortCmpFunc_apportion_portion (p0 : (List Tapportion_portion)) (p1 : Int) (p2 : Int) (p3 : Int) (p4 : (Tapportion_portion → Tapportion_portion → Option Int)) : Option (List Tapportion_portion) := Option.bind (loopF (S := Unit) (T := (Unit) ⊕ (_)) (fun _ => cond (decide ((IntKind.i64.wrap (p2 - p1)) ≤ 12)) (Option.bind (slices_insertionSortCmpFunc_apportion_portion p0 p1 p2 p4) (fun x4 => some (.inr (.inr x4)))) (cond (p3 == 0) (none) (cond (!true) (none) (none)))) FUEL ()) (fun q => match q with | .inl _ => none | .inr e => some e)
set_option maxHeartbeats 4000000 in
theorem slices_pdqsortCmpFunc_apportion_portion_ok {p0 : (List Tapportion_portion)} {p1 : Int} {p2 : Int} {p3 : Int} {p4 : (Tapportion_portion → Tapportion_portion → Option Int)} {a_0 : Option Addr}  {n_0 : Nat}  {c_0 : Nat} {r : (List Tapportion_portion)} {g4 : PV} (hg4 : ∀ {y0 : Tapportion_portion} {y1 : Tapportion_portion} {w : Int}, p4 y0 y1 = some w → PFV g4 [.agg [.v (.int .i64 y0.index_), .v (.int .u64 y0.share), .v (.int .u64 y0.rest)], .agg [.v (.int .i64 y1.index_), .v (.int .u64 y1.share), .v (.int .u64 y1.rest)]] (.v (.int .i64 w))) (h : slices_pdqsortCmpFunc_apportion_portion p0 p1 p2 p3 p4 = some r) : PCall 134 [.v (.slice a_0 n_0 c_0), .v (.int .i64 p1), .v (.int .i64 p2), .v (.int .i64 p3), g4] [PRes.row a_0 n_0 c_0 144 3 (List.map Tapportion_portion.enc p0)] (fun pv ρ' => pv = .tup [] ∧ ρ' = [PRes.row a_0 n_0 c_0 144 3 (List.map Tapportion_portion.enc r)]) := by
 unfold slices_pdqsortCmpFunc_apportion_portion at h
 refine penter Tryz.func134 fk134 rfl Tryz.ntmps134 Tryz.results134 rfl ?_
 refine pwc_rowfact (enc := Tapportion_portion.enc) (xs := p0) (a := a_0) zm0 (fun hl ha => ?_); subst hl; clear ha
 refine yab (yaa ?_)
 refine zas (p := .v (.bool true)) rfl rfl rfl rfl rfl ?_
 refine yad (yae (yab (yaa ?_)))
 refine zas (p := .v (.bool true)) rfl rfl rfl rfl rfl ?_
 refine yad (yae ?_)
 refine yaf h ?_; clear h; intro q2 hq2 h
 refine yaz ?_
 refine pwc_loopF (Y := Unit) (S := Unit) _ hq2 (fun _ _ => [(0, .v (.slice a_0 p0.length c_0)), (1, .v (.int .i64 p1)), (2, .v (.int .i64 p2)), (3, .v (.int .i64 p3)), (4, g4), (10, .v (.bool true)), (11, .v (.bool true))]) (fun _ _ => [PRes.row a_0 p0.length c_0 144 3 (List.map Tapportion_portion.enc p0)]) () (zhc rfl (zhc rfl (zhc rfl (zhc rfl (zhc rfl (zhc rfl (zhc rfl zhn))))))) (zsc zph zsn) ?_
 rintro _ _ o τ hb1; (try dsimp only at hb1); dsimp only [pupds]
 refine yaz (yab (yaa ?_))
 refine zmv (p := .v (.int .i64 p2)) rfl rfl rfl rfl rfl ?_
 refine zmv (p := .v (.int .i64 p1)) rfl rfl rfl rfl rfl ?_
 refine yah rfl rfl rfl (yas rfl (.p rfl) (.p rfl) rfl) ?_
 refine zas (p := .v (.int .i64 (IntKind.i64.wrap (p2 - p1)))) rfl rfl rfl rfl rfl ?_
 refine yad (yae (yab (yab (yaa ?_))))
 refine zmv (p := .v (.int .i64 (IntKind.i64.wrap (p2 - p1)))) rfl rfl rfl rfl rfl ?_
 refine yah rfl rfl rfl (yak rfl (.p rfl) (.p rfl) rfl) ?_
 refine yad (yae ?_)
 refine yal rfl (fun hc3 => ?_) (fun hc3 => ?_)
 ·replace hb1 := yav hc3 hb1
  refine yab (yaa ?_)
  refine zmv (p := .v (.slice a_0 p0.length c_0)) rfl rfl rfl rfl rfl ?_
  refine zmv (p := .v (.int .i64 p1)) rfl rfl rfl rfl rfl ?_
  refine zmv (p := .v (.int .i64 p2)) rfl rfl rfl rfl rfl ?_
  refine zmv (p := g4) rfl rfl rfl rfl rfl ?_
  refine yaf hb1 ?_; clear hb1; intro x4 hx4 hb1
  refine ybl rfl rfl rfl (pl_callR rfl rfl (ρ1 := [_]) (ybk (by exact zph) (List.Perm.refl _)) (slices_insertionSortCmpFunc_apportion_portion_ok hg4 hx4) ?_); rintro _ _ ⟨rfl, rfl⟩
  refine yad (yae (yaq (yap (yba ?_))))
  refine pk_loop_ret hb1 (fun ht => ?_); subst ht
  have h := (show some _ = some _ from h)
  refine yba ?_
  obtain rfl := Option.some.inj h
  exact yar (rfl : PRV [] _ _ (.tup [])) (zsc zph zsn) ⟨rfl, rfl⟩
 ·replace hb1 := yaw hc3 hb1
  refine yao (yae (yab (yab (yaa ?_))))
  refine zmv (p := .v (.int .i64 p3)) rfl rfl rfl rfl rfl ?_
  refine yah rfl rfl rfl (yak rfl (.p rfl) (.p rfl) rfl) ?_
  refine yad (yae ?_)
  refine yal rfl (fun hc5 => ?_) (fun hc5 => ?_)
  ·replace hb1 := yav hc5 hb1
   refine yab (yaa ?_)
   refine zmv (p := .v (.slice a_0 p0.length c_0)) rfl rfl rfl rfl rfl ?_
   refine zmv (p := .v (.int .i64 p1)) rfl rfl rfl rfl rfl ?_
   refine zmv (p := .v (.int .i64 p2)) rfl rfl rfl rfl rfl ?_
   refine zmv (p := g4) rfl rfl rfl rfl rfl ?_
   exact absurd hb1 (by simp)
  ·replace hb1 := yaw hc5 hb1
   refine yao (yae (yab (yab (yaa ?_))))
   refine zmv (p := .v (.bool true)) rfl rfl rfl rfl rfl ?_
   refine yah rfl rfl rfl (pq_not rfl (.p rfl)) ?_
   refine yad (yae ?_)
   refine yal rfl (fun hc6 => ?_) (fun hc6 => ?_)
   ·replace hb1 := yav hc6 hb1
    refine yab (yaa ?_)
    refine zmv (p := .v (.slice a_0 p0.length c_0)) rfl rfl rfl rfl rfl ?_
    refine zmv (p := .v (.int .i64 p1)) rfl rfl rfl rfl rfl ?_
    refine zmv (p := .v (.int .i64 p2)) rfl rfl rfl rfl rfl ?_
    refine zmv (p := g4) rfl rfl rfl rfl rfl ?_
    exact absurd hb1 (by simp)
   ·replace hb1 := yaw hc6 hb1
    refine yao (yae (yab (yaa ?_)))
    refine zmv (p := .v (.slice a_0 p0.length c_0)) rfl rfl rfl rfl rfl ?_
    refine zmv (p := .v (.int .i64 p1)) rfl rfl rfl rfl rfl ?_
    refine zmv (p := .v (.int .i64 p2)) rfl rfl rfl rfl rfl ?_
    refine zmv (p := g4) rfl rfl rfl rfl rfl ?_
    exact absurd hb1 (by simp)
def slices_SortFunc_apportion_portion_apportion_portion (p0 : (List Tapportion_portion)) (p1 : (Tapportion_portion → Tapportion_portion → Option Int)) : Option (List Tapportion_portion) := Option.bind (math_bits_Len (IntKind.u64.wrap ((p0.length : Nat) : Int))) (fun x1 => Option.bind (slices_pdqsortCmpFunc_apportion_portion p0 0 ((p0.length : Nat) : Int) x1 p1) (fun x2 => some x2))
set_option maxHeartbeats 4000000 in
theorem slices_SortFunc_apportion_portion_apportion_portion_ok {p0 : (List Tapportion_portion)} {p1 : (Tapportion_portion → Tapportion_portion → Option Int)} {a_0 : Option Addr}  {n_0 : Nat}  {c_0 : Nat} {r : (List Tapportion_portion)} {g1 : PV} (hg1 : ∀ {y0 : Tapportion_portion} {y1 : Tapportion_portion} {w : Int}, p1 y0 y1 = some w → PFV g1 [.agg [.v (.int .i64 y0.index_), .v (.int .u64 y0.share), .v (.int .u64 y0.rest)], .agg [.v (.int .i64 y1.index_), .v (.int .u64 y1.share), .v (.int .u64 y1.rest)]] (.v (.int .i64 w))) (h : slices_SortFunc_apportion_portion_apportion_portion p0 p1 = some r) : PCall 119 [.v (.slice a_0 n_0 c_0), g1] [PRes.row a_0 n_0 c_0 144 3 (List.map Tapportion_portion.enc p0)] (fun pv ρ' => pv = .tup [] ∧ ρ' = [PRes.row a_0 n_0 c_0 144 3 (List.map Tapportion_portion.enc r)]) := by
 unfold slices_SortFunc_apportion_portion_apportion_portion at h
 refine penter Tryz.func119 fk119 rfl Tryz.ntmps119 Tryz.results119 rfl ?_
 refine pwc_rowfact (enc := Tapportion_portion.enc) (xs := p0) (a := a_0) zm0 (fun hl ha => ?_); subst hl; clear ha
 refine yab (yaa ?_)
 refine zmv (p := .v (.slice a_0 p0.length c_0)) rfl rfl rfl rfl rfl ?_
 refine yah rfl rfl rfl (pq_lenO rfl rfl (.p rfl)) ?_
 refine zas (p := .v (.int .i64 ((p0.length : Nat) : Int))) rfl rfl rfl rfl rfl ?_
 refine yad (yae (yaa ?_))
 refine zmv (p := .v (.slice a_0 p0.length c_0)) rfl rfl rfl rfl rfl ?_
 refine zmv (p := .v (.int .i64 ((p0.length : Nat) : Int))) rfl rfl rfl rfl rfl ?_
 refine zmv (p := .v (.int .i64 ((p0.length : Nat) : Int))) rfl rfl rfl rfl rfl ?_
 refine yah rfl rfl rfl (pq_conv rfl rfl rfl (.p rfl)) ?_
 refine yaf h ?_; clear h; intro x1 hx1 h
 refine ybd rfl rfl rfl rfl rfl (math_bits_Len_ok hx1) ?_
 refine zmv (p := g1) rfl rfl rfl rfl rfl ?_
 refine yaf h ?_; clear h; intro x2 hx2 h
 refine ybl rfl rfl rfl (pl_callR rfl rfl (ρ1 := [_]) (ybk (by exact zph) (List.Perm.refl _)) (slices_pdqsortCmpFunc_apportion_portion_ok hg1 hx2) ?_); rintro _ _ ⟨rfl, rfl⟩
 refine yad ?_
 obtain rfl := Option.some.inj h
 exact pret_ofN (rfl : PRV [] _ _ (.tup [])) (zsc zph zsn) ⟨rfl, rfl⟩
def apportion_ranking_sort_1 (p0 : Tapportion_portion) (p1 : Tapportion_portion) (p2 : Tapportion_ranking) : Option Int := Option.bind (apportion_byRest p0 p1) (fun x3 => some x3)
set_option maxHeartbeats 4000000 in
theorem apportion_ranking_sort_1_ok {p0 : Tapportion_portion} {p1 : Tapportion_portion} {p2 : Tapportion_ranking} {r : Int}  (h : apportion_ranking_sort_1 p0 p1 p2 = some r) : PF 120 [.agg [.v (.int .i64 p0.index_), .v (.int .u64 p0.share), .v (.int .u64 p0.rest)], .agg [.v (.int .i64 p1.index_), .v (.int .u64 p1.share), .v (.int .u64 p1.rest)], .ref [.fn 91 []] 0] (.v (.int .i64 r)) := by
 unfold apportion_ranking_sort_1 at h
 refine pf_of ?_
 refine penter Tryz.func120 fk120 rfl Tryz.ntmps120 Tryz.results120 rfl ?_
 refine yab (yaa ?_)
 refine ybl rfl rfl rfl (pl_box (cs := [.v (.int .i64 p0.index_), .v (.int .u64 p0.share), .v (.int .u64 p0.rest)]) rfl rfl (fun b1 => ?_))
 refine ybl rfl rfl rfl (pl_box (cs := [.v (.int .i64 p1.index_), .v (.int .u64 p1.share), .v (.int .u64 p1.rest)]) rfl rfl (fun b2 => ?_))
 refine zas (p := .v (.int .i64 0)) rfl rfl rfl rfl rfl ?_
 refine yad (yae (yab (yaa ?_)))
 refine yah rfl rfl rfl (pq_fieldAddrR rfl rfl rfl rfl rfl (.p rfl)) ?_
 refine yah rfl rfl rfl (pq_load_r (p := .fn 91 []) rfl (.p rfl) rfl) ?_
 refine yah rfl rfl rfl (yag (p := .agg [.v (.int .i64 p0.index_), .v (.int .u64 p0.share), .v (.int .u64 p0.rest)]) rfl (.p rfl) zm1 rfl) ?_
 refine yah rfl rfl rfl (yag (p := .agg [.v (.int .i64 p1.index_), .v (.int .u64 p1.share), .v (.int .u64 p1.rest)]) rfl (.p rfl) zm0 rfl) ?_
 refine yaf h ?_; clear h; intro x3 hx3 h
 refine pwl_callv rfl rfl rfl rfl rfl (pfv_of (apportion_byRest_ok hx3)) ?_
 refine zas (p := .v (.int .i64 x3)) rfl rfl rfl rfl rfl ?_
 refine yad (yae (yaq ?_))
 obtain rfl := Option.some.inj h
 exact yar (prv_1 (yat rfl)) zsn ⟨rfl, rfl⟩
def apportion_ranking_sort (p0 : Tapportion_ranking) (p1 : (List Tapportion_portion)) : Option (List Tapportion_portion) := Option.bind (slices_SortFunc_apportion_portion_apportion_portion p1 (fun y2 y3 => apportion_ranking_sort_1 y2 y3 (⟨()⟩ : Tapportion_ranking))) (fun x4 => some x4)
set_option maxHeartbeats 4000000 in
theorem apportion_ranking_sort_ok {p0 : Tapportion_ranking} {p1 : (List Tapportion_portion)} {a_1 : Option Addr}  {n_1 : Nat}  {c_1 : Nat} {r : (List Tapportion_portion)}  (h : apportion_ranking_sort p0 p1 = some r) : PCall 92 [.agg [.fn 91 []], .v (.slice a_1 n_1 c_1)] [PRes.row a_1 n_1 c_1 144 3 (List.map Tapportion_portion.enc p1)] (fun pv ρ' => pv = .tup [] ∧ ρ' = [PRes.row a_1 n_1 c_1 144 3 (List.map Tapportion_portion.enc r)]) := by
 unfold apportion_ranking_sort at h
 refine penter Tryz.func92 fk92 rfl Tryz.ntmps92 Tryz.results92 rfl ?_
 refine pwc_rowfact (enc := Tapportion_portion.enc) (xs := p1) (a := a_1) zm0 (fun hl ha => ?_); subst hl; clear ha
 refine yab (yaa ?_)
 refine ybl rfl rfl rfl (pl_box (cs := [.fn 91 []]) rfl rfl (fun b1 => ?_))
 refine yad (yae (yaa ?_))
 refine zmv (p := .v (.slice a_1 p1.length c_1)) rfl rfl rfl rfl rfl ?_
 refine pwl_frb 2 rfl (by exact zph) ?_
 refine yah rfl rfl rfl (pq_makeFunc rfl) ?_
 refine yaf h ?_; clear h; intro x4 hx4 h
 refine ybl rfl rfl rfl (pl_callR rfl rfl (ρ1 := [_]) (ybk (by exact zpt zph) (List.Perm.refl _)) (slices_SortFunc_apportion_portion_apportion_portion_ok (fun hr => pfv_of (apportion_ranking_sort_1_ok hr)) hx4) ?_); rintro _ _ ⟨rfl, rfl⟩
 refine yad ?_
 obtain rfl := Option.some.inj h
 exact pret_ofN (rfl : PRV [] _ _ (.tup [])) (zsc zph zsn) ⟨rfl, rfl⟩
def math_bits_Div64 (p0 : Int) (p1 : Int) (p2 : Int) : Option (Int × Int) := cond (p2 == 0) (none) (cond (decide (p2 ≤ p0)) (none) (cond (p0 == 0) (Option.bind (nz p2) (fun u4 => Option.bind (nz p2) (fun u5 => some ((IntKind.u64.wrap (Int.tdiv p1 p2)), (Int.tmod p1 p2))))) (Option.bind (math_bits_LeadingZeros64 p2) (fun x6 => Option.bind (ge0 (IntKind.u64.wrap x6)) (fun u7 => lb ((ishr .u64 (ishl .u64 p2 (IntKind.u64.wrap x6)) 32)) (fun w8 => lb ((iand .u64 (ishl .u64 p2 (IntKind.u64.wrap x6)) 4294967295)) (fun w9 => Option.bind (ge0 (IntKind.u64.wrap x6)) (fun u10 => Option.bind (ge0 (IntKind.u64.wrap (64 - (IntKind.u64.wrap x6)))) (fun u11 => lb ((ior .u64 (ishl .u64 p0 (IntKind.u64.wrap x6)) (ishr .u64 p1 (IntKind.u64.wrap (64 - (IntKind.u64.wrap x6)))))) (fun w12 => Option.bind (ge0 (IntKind.u64.wrap x6)) (fun u13 => lb ((ishr .u64 (ishl .u64 p1 (IntKind.u64.wrap x6)) 32)) (fun w14 => lb ((iand .u64 (ishl .u64 p1 (IntKind.u64.wrap x6)) 4294967295)) (fun w15 => Option.bind (nz w8) (fun u16 => lb ((IntKind.u64.wrap (w12 - (IntKind.u64.wrap ((IntKind.u64.wrap (Int.tdiv w12 w8)) * w8))))) (fun w17 => Option.bind (loopF (S := Int × Int) (T := (Int)) (fun (v18, v19) => cond ((decide (4294967296 ≤ v18)) || (decide ((IntKind.u64.wrap ((IntKind.u64.wrap (4294967296 * v19)) + w14)) < (IntKind.u64.wrap (v18 * w9))))) (cond (decide (4294967296 ≤ (IntKind.u64.wrap (v19 + w8)))) (some (.inr (IntKind.u64.wrap (v18 - 1)))) (some (.inl ((IntKind.u64.wrap (v18 - 1)), (IntKind.u64.wrap (v19 + w8)))))) (some (.inr v18))) FUEL ((IntKind.u64.wrap (Int.tdiv w12 w8)), w17)) (fun v20 => lb ((IntKind.u64.wrap ((IntKind.u64.wrap ((IntKind.u64.wrap (w12 * 4294967296)) + w14)) - (IntKind.u64.wrap (v20 * (ishl .u64 p2 (IntKind.u64.wrap x6))))))) (fun w25 => Option.bind (nz w8) (fun u26 => lb ((IntKind.u64.wrap (w25 - (IntKind.u64.wrap ((IntKind.u64.wrap (Int.tdiv w25 w8)) * w8))))) (fun w27 => Option.bind (loopF (S := Int × Int) (T := (Int)) (fun (v28, v29) => cond ((decide (4294967296 ≤ v29)) || (decide ((IntKind.u64.wrap ((IntKind.u64.wrap (4294967296 * v28)) + w15)) < (IntKind.u64.wrap (v29 * w9))))) (cond (decide (4294967296 ≤ (IntKind.u64.wrap (v28 + w8)))) (some (.inr (IntKind.u64.wrap (v29 - 1)))) (some (.inl ((IntKind.u64.wrap (v28 + w8)), (IntKind.u64.wrap (v29 - 1)))))) (some (.inr v29))) FUEL (w27, (IntKind.u64.wrap (Int.tdiv w25 w8)))) (fun v30 => Option.bind (ge0 (IntKind.u64.wrap x6)) (fun u35 => lb ((IntKind.u64.wrap ((IntKind.u64.wrap (v20 * 4294967296)) + v30))) (fun w36 => lb ((ishr .u64 (IntKind.u64.wrap ((IntKind.u64.wrap ((IntKind.u64.wrap (w25 * 4294967296)) + w15)) - (IntKind.u64.wrap (v30 * (ishl .u64 p2 (IntKind.u64.wrap x6)))))) (IntKind.u64.wrap x6))) (fun w37 => some (w36, w37))))))))))))))))))))))))
set_option maxHeartbeats 4000000 in
theorem math_bits_Div64_ok {p0 : Int} {p1 : Int} {p2 : Int} {r : (Int × Int)}  (h : math_bits_Div64 p0 p1 p2 = some r) : PF 123 [.v (.int .u64 p0), .v (.int .u64 p1), .v (.int .u64 p2)] (.tup [.v (.int .u64 r.1), .v (.int .u64 r.2)]) := by
 unfold math_bits_Div64 at h
 refine pf_of ?_
 refine penter Tryz.func123 fk123 rfl Tryz.ntmps123 Tryz.results123 rfl ?_
 refine yab (yaa ?_)
 refine zas (p := .v (.int .u64 0)) rfl rfl rfl rfl rfl ?_
 refine zas (p := .v (.int .u64 0)) rfl rfl rfl rfl rfl ?_
 refine yad (yae (yab (yab (yaa ?_))))
 refine zmv (p := .v (.int .u64 p2)) rfl rfl rfl rfl rfl ?_
 refine yah rfl rfl rfl (yak rfl (.p rfl) (.p rfl) rfl) ?_
 refine yad (yae ?_)
 refine yal rfl (fun hc1 => ?_) (fun hc1 => ?_)
 ·replace h := yav hc1 h
  refine yaa ?_
  exact absurd h (by simp)
 ·replace h := yaw hc1 h
  refine yao (yae (yab (yab (yaa ?_))))
  refine zmv (p := .v (.int .u64 p2)) rfl rfl rfl rfl rfl ?_
  refine zmv (p := .v (.int .u64 p0)) rfl rfl rfl rfl rfl ?_
  refine yah rfl rfl rfl (yak rfl (.p rfl) (.p rfl) rfl) ?_
  refine yad (yae ?_)
  refine yal rfl (fun hc2 => ?_) (fun hc2 => ?_)
  ·replace h := yav hc2 h
   refine yaa ?_
   exact absurd h (by simp)
  ·replace h := yaw hc2 h
   refine yao (yae (yab (yab (yaa ?_))))
   refine zmv (p := .v (.int .u64 p0)) rfl rfl rfl rfl rfl ?_
   refine yah rfl rfl rfl (yak rfl (.p rfl) (.p rfl) rfl) ?_
   refine yad (yae ?_)
   refine yal rfl (fun hc3 => ?_) (fun hc3 => ?_)
   ·replace h := yav hc3 h
    refine yab ?_
    refine pwc_draw (ρd := []) [(0, 0), (1, 0), (2, 0), (3, 0), (4, 0), (5, 0), (6, 0), (7, 0)] _ (List.Perm.refl _) (by kernel_rfl) rfl ?_
    refine ybf rfl rfl rfl (yam (p := .v (.int .u64 p1)) rfl (.p rfl)) ?_
    refine ybf rfl rfl rfl (yam (p := .v (.int .u64 p2)) rfl (.p rfl)) ?_
    refine yaf h ?_; clear h; intro u4 hu4 h
    refine ybf rfl rfl rfl (pq_quo rfl (.p rfl) (.p rfl) (fun _ => nz_some hu4)) ?_
    refine ybf rfl rfl rfl (yam (p := .v (.int .u64 p1)) rfl (.p rfl)) ?_
    refine ybf rfl rfl rfl (yam (p := .v (.int .u64 p2)) rfl (.p rfl)) ?_
    refine yaf h ?_; clear h; intro u5 hu5 h
    refine ybf rfl rfl rfl (pq_rem rfl (.p rfl) (.p rfl) (fun _ => nz_some hu5)) ?_
    refine ybf rfl rfl rfl (pq_assign (p := .v (.int .u64 (IntKind.u64.wrap (Int.tdiv p1 p2)))) rfl (.p rfl)) ?_
    refine ybf rfl rfl rfl (pq_assign (p := .v (.int .u64 (Int.tmod p1 p2))) rfl (.p rfl)) ?_
    refine pwd_nil (yae (yaq (yap ?_)))
    obtain rfl := Option.some.inj h
    exact yar (prv_2 (yat rfl) (yat rfl)) zsn ⟨rfl, rfl⟩
   ·replace h := yaw hc3 h
    refine yao (yae (yab (yaa ?_)))
    refine zmv (p := .v (.int .u64 p2)) rfl rfl rfl rfl rfl ?_
    refine yaf h ?_; clear h; intro x6 hx6 h
    refine ybd rfl rfl rfl rfl rfl (math_bits_LeadingZeros64_ok hx6) ?_
    refine yah rfl rfl rfl (pq_conv rfl rfl rfl (.p rfl)) ?_
    refine zas (p := .v (.int .u64 (IntKind.u64.wrap x6))) rfl rfl rfl rfl rfl ?_
    refine yad (yae (yab (yaa ?_)))
    refine zmv (p := .v (.int .u64 p2)) rfl rfl rfl rfl rfl ?_
    refine zmv (p := .v (.int .u64 (IntKind.u64.wrap x6))) rfl rfl rfl rfl rfl ?_
    refine yaf h ?_; clear h; intro u7 hu7 h
    refine yah rfl rfl rfl (pq_shift rfl (.p rfl) (.p rfl) (fun _ => ge0_some hu7) rfl) ?_
    refine zas (p := .v (.int .u64 (ishl .u64 p2 (IntKind.u64.wrap x6)))) rfl rfl rfl rfl rfl ?_
    refine yad (yae (yab (yaa ?_)))
    refine zmv (p := .v (.int .u64 (ishl .u64 p2 (IntKind.u64.wrap x6)))) rfl rfl rfl rfl rfl ?_
    refine yah rfl rfl rfl (pq_shift rfl (.p rfl) (.p rfl) (fun _ => by decide) rfl) ?_
    refine lb_elim h ?_; clear h; intro w8 hw8 h
    refine yah rfl rfl rfl (pq_assign rfl (.p (congrArg (fun z => PV.v (Value.int .u64 z)) hw8))) ?_
    refine yad (yae (yab (yaa ?_)))
    refine zmv (p := .v (.int .u64 (ishl .u64 p2 (IntKind.u64.wrap x6)))) rfl rfl rfl rfl rfl ?_
    refine yah rfl rfl rfl (pq_bits rfl (.p rfl) (.p rfl) rfl) ?_
    refine lb_elim h ?_; clear h; intro w9 hw9 h
    refine yah rfl rfl rfl (pq_assign rfl (.p (congrArg (fun z => PV.v (Value.int .u64 z)) hw9))) ?_
    refine yad (yae (yab (yaa ?_)))
    refine zmv (p := .v (.int .u64 p0)) rfl rfl rfl rfl rfl ?_
    refine zmv (p := .v (.int .u64 (IntKind.u64.wrap x6))) rfl rfl rfl rfl rfl ?_
    refine yaf h ?_; clear h; intro u10 hu10 h
    refine yah rfl rfl rfl (pq_shift rfl (.p rfl) (.p rfl) (fun _ => ge0_some hu10) rfl) ?_
    refine zmv (p := .v (.int .u64 p1)) rfl rfl rfl rfl rfl ?_
    refine zmv (p := .v (.int .u64 (IntKind.u64.wrap x6))) rfl rfl rfl rfl rfl ?_
    refine yah rfl rfl rfl (yas rfl (.p rfl) (.p rfl) rfl) ?_
    refine yaf h ?_; clear h; intro u11 hu11 h
    refine yah rfl rfl rfl (pq_shift rfl (.p rfl) (.p rfl) (fun _ => ge0_some hu11) rfl) ?_
    refine yah rfl rfl rfl (pq_bits rfl (.p rfl) (.p rfl) rfl) ?_
    refine lb_elim h ?_; clear h; intro w12 hw12 h
    refine yah rfl rfl rfl (pq_assign rfl (.p (congrArg (fun z => PV.v (Value.int .u64 z)) hw12))) ?_
    refine yad (yae (yab (yaa ?_)))
    refine zmv (p := .v (.int .u64 p1)) rfl rfl rfl rfl rfl ?_
    refine zmv (p := .v (.int .u64 (IntKind.u64.wrap x6))) rfl rfl rfl rfl rfl ?_
    refine yaf h ?_; clear h; intro u13 hu13 h
    refine yah rfl rfl rfl (pq_shift rfl (.p rfl) (.p rfl) (fun _ => ge0_some hu13) rfl) ?_
    refine zas (p := .v (.int .u64 (ishl .u64 p1 (IntKind.u64.wrap x6)))) rfl rfl rfl rfl rfl ?_
    refine yad (yae (yab (yaa ?_)))
    refine zmv (p := .v (.int .u64 (ishl .u64 p1 (IntKind.u64.wrap x6)))) rfl rfl rfl rfl rfl ?_
    refine yah rfl rfl rfl (pq_shift rfl (.p rfl) (.p rfl) (fun _ => by decide) rfl) ?_
    refine lb_elim h ?_; clear h; intro w14 hw14 h
    refine yah rfl rfl rfl (pq_assign rfl (.p (congrArg (fun z => PV.v (Value.int .u64 z)) hw14))) ?_
    refine yad (yae (yab (yaa ?_)))
    refine zmv (p := .v (.int .u64 (ishl .u64 p1 (IntKind.u64.wrap x6)))) rfl rfl rfl rfl rfl ?_
    refine yah rfl rfl rfl (pq_bits rfl (.p rfl) (.p rfl) rfl) ?_
    refine lb_elim h ?_; clear h; intro w15 hw15 h
    refine yah rfl rfl rfl (pq_assign rfl (.p (congrArg (fun z => PV.v (Value.int .u64 z)) hw15))) ?_
    refine yad (yae (yab (yaa ?_)))
    refine zmv (p := .v (.int .u64 w12)) rfl rfl rfl rfl rfl ?_
    refine zmv (p := .v (.int .u64 w8)) rfl rfl rfl rfl rfl ?_
    refine yaf h ?_; clear h; intro u16 hu16 h
    refine yah rfl rfl rfl (pq_quo rfl (.p rfl) (.p rfl) (fun _ => nz_some hu16)) ?_
    refine zas (p := .v (.int .u64 (IntKind.u64.wrap (Int.tdiv w12 w8)))) rfl rfl rfl rfl rfl ?_
    refine yad (yae (yab (yaa ?_)))
    refine zmv (p := .v (.int .u64 w12)) rfl rfl rfl rfl rfl ?_
    refine zmv (p := .v (.int .u64 (IntKind.u64.wrap (Int.tdiv w12 w8)))) rfl rfl rfl rfl rfl ?_
    refine zmv (p := .v (.int .u64 w8)) rfl rfl rfl rfl rfl ?_
    refine yah rfl rfl rfl (yas rfl (.p rfl) (.p rfl) rfl) ?_
    refine yah rfl rfl rfl (yas rfl (.p rfl) (.p rfl) rfl) ?_
    refine lb_elim h ?_; clear h; intro w17 hw17 h
    refine yah rfl rfl rfl (pq_assign rfl (.p (congrArg (fun z => PV.v (Value.int .u64 z)) hw17))) ?_
    refine yad (yae (yab ?_))
    refine yaf h ?_; clear h; intro q22 hq22 h
    refine ybe (Y := (Unit) × (Int)) (fun (_, v20) => [(2, .v (.int .u64 (ishl .u64 p2 (IntKind.u64.wrap x6)))), (8, .v (.int .u64 (IntKind.u64.wrap x6))), (9, .v (.int .u64 w8)), (10, .v (.int .u64 w9)), (11, .v (.int .u64 w12)), (13, .v (.int .u64 w14)), (14, .v (.int .u64 w15)), (15, .v (.int .u64 v20))]) (fun (_, v20) => []) (fun (_, v20) => q22 = v20) ?_ ?_
    ·refine yaz ?_
     refine pwc_loopF (Y := Unit) (S := Int × Int) _ hq22 (fun _ (v18, v19) => [(2, .v (.int .u64 (ishl .u64 p2 (IntKind.u64.wrap x6)))), (8, .v (.int .u64 (IntKind.u64.wrap x6))), (9, .v (.int .u64 w8)), (10, .v (.int .u64 w9)), (11, .v (.int .u64 w12)), (13, .v (.int .u64 w14)), (14, .v (.int .u64 w15)), (15, .v (.int .u64 v18)), (16, .v (.int .u64 v19))]) (fun _ (v18, v19) => []) () (zhc rfl (zhc rfl (zhc rfl (zhc rfl (zhc rfl (zhc rfl (zhc rfl (zhc rfl (zhc rfl zhn))))))))) zsn ?_
     rintro _ ⟨v18, v19⟩ o τ hb21; (try dsimp only at hb21); dsimp only [pupds]
     refine yab (yab (yaa ?_))
     refine zmv (p := .v (.int .u64 v18)) rfl rfl rfl rfl rfl ?_
     refine yah rfl rfl rfl (yak rfl (.p rfl) (.p rfl) rfl) ?_
     refine zmv (p := .v (.bool (decide (4294967296 ≤ v18)))) rfl rfl rfl rfl rfl ?_
     refine yaj (yai rfl rfl rfl) rfl rfl (yam (p := .v (.int .u64 v18)) rfl (.p rfl)) ?_
     refine yaj (yai rfl rfl rfl) rfl rfl (yam (p := .v (.int .u64 w9)) rfl (.p rfl)) ?_
     refine yaj (yai rfl rfl rfl) rfl rfl (yas rfl (.g rfl) (.g rfl) rfl) ?_
     refine yaj (yai rfl rfl rfl) rfl rfl (yam (p := .v (.int .u64 v19)) rfl (.p rfl)) ?_
     refine yaj (yai rfl rfl rfl) rfl rfl (yas rfl (.p rfl) (.g rfl) rfl) ?_
     refine yaj (yai rfl rfl rfl) rfl rfl (yam (p := .v (.int .u64 w14)) rfl (.p rfl)) ?_
     refine yaj (yai rfl rfl rfl) rfl rfl (yas rfl (.g rfl) (.g rfl) rfl) ?_
     refine yaj (yai rfl rfl rfl) rfl rfl (yak rfl (.g rfl) (.g rfl) rfl) ?_
     refine yah rfl rfl rfl (pq_or rfl (.p rfl) (.p rfl) (.g rfl)) ?_
     refine yad (yae ?_)
     refine yal rfl (fun hc23 => ?_) (fun hc23 => ?_)
     ·replace hb21 := yav hc23 hb21
      refine yao (yae (yaz (yab (yaa ?_))))
      refine zmv (p := .v (.int .u64 v18)) rfl rfl rfl rfl rfl ?_
      refine yah rfl rfl rfl (yas rfl (.p rfl) (.p rfl) rfl) ?_
      refine zas (p := .v (.int .u64 (IntKind.u64.wrap (v18 - 1)))) rfl rfl rfl rfl rfl ?_
      refine yad (yae (yab (yaa ?_)))
      refine zmv (p := .v (.int .u64 v19)) rfl rfl rfl rfl rfl ?_
      refine zmv (p := .v (.int .u64 w8)) rfl rfl rfl rfl rfl ?_
      refine yah rfl rfl rfl (yas rfl (.p rfl) (.p rfl) rfl) ?_
      refine zas (p := .v (.int .u64 (IntKind.u64.wrap (v19 + w8)))) rfl rfl rfl rfl rfl ?_
      refine yad (yae (yab (yaa ?_)))
      refine zmv (p := .v (.int .u64 (IntKind.u64.wrap (v19 + w8)))) rfl rfl rfl rfl rfl ?_
      refine yah rfl rfl rfl (yak rfl (.p rfl) (.p rfl) rfl) ?_
      refine yad (yae ?_)
      refine yal rfl (fun hc24 => ?_) (fun hc24 => ?_)
      ·replace hb21 := yav hc24 hb21
       refine pwc_exit ?_
       refine pk_block_ne rfl ?_
       refine ybh hb21 (fun ht => ?_)
       refine ybj rfl ?_
       exact ybb ((), (IntKind.u64.wrap (v18 - 1))) (zhc rfl (zhc rfl (zhc rfl (zhc rfl (zhc rfl (zhc rfl (zhc rfl (zhc rfl zhn)))))))) zsn ht.symm
      ·replace hb21 := yaw hc24 hb21
       refine yao (ybc ?_)
       exact pk_loop hb21 () (zhc rfl (zhc rfl (zhc rfl (zhc rfl (zhc rfl (zhc rfl (zhc rfl (zhc rfl (zhc rfl zhn))))))))) zsn
     ·replace hb21 := yaw hc23 hb21
      refine pwc_exit (ybm ?_)
      refine ybh hb21 (fun ht => ?_)
      refine ybj rfl ?_
      exact ybb ((), v18) (zhc rfl (zhc rfl (zhc rfl (zhc rfl (zhc rfl (zhc rfl (zhc rfl (zhc rfl zhn)))))))) zsn ht.symm
    ·rintro ⟨_, v20⟩ τ hz; (try dsimp only at hz); subst q22; (try dsimp only at h); dsimp only [pupds]
     refine yab (yaa ?_)
     refine zmv (p := .v (.int .u64 w12)) rfl rfl rfl rfl rfl ?_
     refine yah rfl rfl rfl (yas rfl (.p rfl) (.p rfl) rfl) ?_
     refine zmv (p := .v (.int .u64 w14)) rfl rfl rfl rfl rfl ?_
     refine yah rfl rfl rfl (yas rfl (.p rfl) (.p rfl) rfl) ?_
     refine zmv (p := .v (.int .u64 v20)) rfl rfl rfl rfl rfl ?_
     refine zmv (p := .v (.int .u64 (ishl .u64 p2 (IntKind.u64.wrap x6)))) rfl rfl rfl rfl rfl ?_
     refine yah rfl rfl rfl (yas rfl (.p rfl) (.p rfl) rfl) ?_
     refine yah rfl rfl rfl (yas rfl (.p rfl) (.p rfl) rfl) ?_
     refine lb_elim h ?_; clear h; intro w25 hw25 h
     refine yah rfl rfl rfl (pq_assign rfl (.p (congrArg (fun z => PV.v (Value.int .u64 z)) hw25))) ?_
     refine yad (yae (yab (yaa ?_)))
     refine zmv (p := .v (.int .u64 w25)) rfl rfl rfl rfl rfl ?_
     refine zmv (p := .v (.int .u64 w8)) rfl rfl rfl rfl rfl ?_
     refine yaf h ?_; clear h; intro u26 hu26 h
     refine yah rfl rfl rfl (pq_quo rfl (.p rfl) (.p rfl) (fun _ => nz_some hu26)) ?_
     refine zas (p := .v (.int .u64 (IntKind.u64.wrap (Int.tdiv w25 w8)))) rfl rfl rfl rfl rfl ?_
     refine yad (yae (yab (yaa ?_)))
     refine zmv (p := .v (.int .u64 w25)) rfl rfl rfl rfl rfl ?_
     refine zmv (p := .v (.int .u64 (IntKind.u64.wrap (Int.tdiv w25 w8)))) rfl rfl rfl rfl rfl ?_
     refine zmv (p := .v (.int .u64 w8)) rfl rfl rfl rfl rfl ?_
     refine yah rfl rfl rfl (yas rfl (.p rfl) (.p rfl) rfl) ?_
     refine yah rfl rfl rfl (yas rfl (.p rfl) (.p rfl) rfl) ?_
     refine lb_elim h ?_; clear h; intro w27 hw27 h
     refine yah rfl rfl rfl (pq_assign rfl (.p (congrArg (fun z => PV.v (Value.int .u64 z)) hw27))) ?_
     refine yad (yae (yab ?_))
     refine yaf h ?_; clear h; intro q32 hq32 h
     refine ybe (Y := (Unit) × (Int)) (fun (_, v30) => [(2, .v (.int .u64 (ishl .u64 p2 (IntKind.u64.wrap x6)))), (8, .v (.int .u64 (IntKind.u64.wrap x6))), (14, .v (.int .u64 w15)), (15, .v (.int .u64 v20)), (17, .v (.int .u64 w25)), (18, .v (.int .u64 v30))]) (fun (_, v30) => []) (fun (_, v30) => q32 = v30) ?_ ?_
     ·refine yaz ?_
      refine pwc_loopF (Y := Unit) (S := Int × Int) _ hq32 (fun _ (v28, v29) => [(2, .v (.int .u64 (ishl .u64 p2 (IntKind.u64.wrap x6)))), (8, .v (.int .u64 (IntKind.u64.wrap x6))), (9, .v (.int .u64 w8)), (10, .v (.int .u64 w9)), (14, .v (.int .u64 w15)), (15, .v (.int .u64 v20)), (16, .v (.int .u64 v28)), (17, .v (.int .u64 w25)), (18, .v (.int .u64 v29))]) (fun _ (v28, v29) => []) () (zhc rfl (zhc rfl (zhc rfl (zhc rfl (zhc rfl (zhc rfl (zhc rfl (zhc rfl (zhc rfl zhn))))))))) zsn ?_
      rintro _ ⟨v28, v29⟩ o τ hb31; (try dsimp only at hb31); dsimp only [pupds]
      refine yab (yab (yaa ?_))
      refine zmv (p := .v (.int .u64 v29)) rfl rfl rfl rfl rfl ?_
      refine yah rfl rfl rfl (yak rfl (.p rfl) (.p rfl) rfl) ?_
      refine zmv (p := .v (.bool (decide (4294967296 ≤ v29)))) rfl rfl rfl rfl rfl ?_
      refine yaj (yai rfl rfl rfl) rfl rfl (yam (p := .v (.int .u64 v29)) rfl (.p rfl)) ?_
      refine yaj (yai rfl rfl rfl) rfl rfl (yam (p := .v (.int .u64 w9)) rfl (.p rfl)) ?_
      refine yaj (yai rfl rfl rfl) rfl rfl (yas rfl (.g rfl) (.g rfl) rfl) ?_
      refine yaj (yai rfl rfl rfl) rfl rfl (yam (p := .v (.int .u64 v28)) rfl (.p rfl)) ?_
      refine yaj (yai rfl rfl rfl) rfl rfl (yas rfl (.p rfl) (.g rfl) rfl) ?_
      refine yaj (yai rfl rfl rfl) rfl rfl (yam (p := .v (.int .u64 w15)) rfl (.p rfl)) ?_
      refine yaj (yai rfl rfl rfl) rfl rfl (yas rfl (.g rfl) (.g rfl) rfl) ?_
      refine yaj (yai rfl rfl rfl) rfl rfl (yak rfl (.g rfl) (.g rfl) rfl) ?_
      refine yah rfl rfl rfl (pq_or rfl (.p rfl) (.p rfl) (.g rfl)) ?_
      refine yad (yae ?_)
      refine yal rfl (fun hc33 => ?_) (fun hc33 => ?_)
      ·replace hb31 := yav hc33 hb31
       refine yao (yae (yaz (yab (yaa ?_))))
       refine zmv (p := .v (.int .u64 v29)) rfl rfl rfl rfl rfl ?_
       refine yah rfl rfl rfl (yas rfl (.p rfl) (.p rfl) rfl) ?_
       refine zas (p := .v (.int .u64 (IntKind.u64.wrap (v29 - 1)))) rfl rfl rfl rfl rfl ?_
       refine yad (yae (yab (yaa ?_)))
       refine zmv (p := .v (.int .u64 v28)) rfl rfl rfl rfl rfl ?_
       refine zmv (p := .v (.int .u64 w8)) rfl rfl rfl rfl rfl ?_
       refine yah rfl rfl rfl (yas rfl (.p rfl) (.p rfl) rfl) ?_
       refine zas (p := .v (.int .u64 (IntKind.u64.wrap (v28 + w8)))) rfl rfl rfl rfl rfl ?_
       refine yad (yae (yab (yaa ?_)))
       refine zmv (p := .v (.int .u64 (IntKind.u64.wrap (v28 + w8)))) rfl rfl rfl rfl rfl ?_
       refine yah rfl rfl rfl (yak rfl (.p rfl) (.p rfl) rfl) ?_
       refine yad (yae ?_)
       refine yal rfl (fun hc34 => ?_) (fun hc34 => ?_)
       ·replace hb31 := yav hc34 hb31
        refine pwc_exit ?_
        refine pk_block_ne rfl ?_
        refine ybh hb31 (fun ht => ?_)
        refine ybj rfl ?_
        exact ybb ((), (IntKind.u64.wrap (v29 - 1))) (zhc rfl (zhc rfl (zhc rfl (zhc rfl (zhc rfl (zhc rfl zhn)))))) zsn ht.symm
       ·replace hb31 := yaw hc34 hb31
        refine yao (ybc ?_)
        exact pk_loop hb31 () (zhc rfl (zhc rfl (zhc rfl (zhc rfl (zhc rfl (zhc rfl (zhc rfl (zhc rfl (zhc rfl zhn))))))))) zsn
      ·replace hb31 := yaw hc33 hb31
       refine pwc_exit (ybm ?_)
       refine ybh hb31 (fun ht => ?_)
       refine ybj rfl ?_
       exact ybb ((), v29) (zhc rfl (zhc rfl (zhc rfl (zhc rfl (zhc rfl (zhc rfl zhn)))))) zsn ht.symm
     ·rintro ⟨_, v30⟩ τ hz; (try dsimp only at hz); subst q32; (try dsimp only at h); dsimp only [pupds]
      refine yab (yaa ?_)
      refine zmv (p := .v (.int .u64 v20)) rfl rfl rfl rfl rfl ?_
      refine yah rfl rfl rfl (yas rfl (.p rfl) (.p rfl) rfl) ?_
      refine zmv (p := .v (.int .u64 v30)) rfl rfl rfl rfl rfl ?_
      refine yah rfl rfl rfl (yas rfl (.p rfl) (.p rfl) rfl) ?_
      refine zmv (p := .v (.int .u64 w25)) rfl rfl rfl rfl rfl ?_
      refine yah rfl rfl rfl (yas rfl (.p rfl) (.p rfl) rfl) ?_
      refine zmv (p := .v (.int .u64 w15)) rfl rfl rfl rfl rfl ?_
      refine yah rfl rfl rfl (yas rfl (.p rfl) (.p rfl) rfl) ?_
      refine zmv (p := .v (.int .u64 v30)) rfl rfl rfl rfl rfl ?_
      refine zmv (p := .v (.int .u64 (ishl .u64 p2 (IntKind.u64.wrap x6)))) rfl rfl rfl rfl rfl ?_
      refine yah rfl rfl rfl (yas rfl (.p rfl) (.p rfl) rfl) ?_
      refine yah rfl rfl rfl (yas rfl (.p rfl) (.p rfl) rfl) ?_
      refine zmv (p := .v (.int .u64 (IntKind.u64.wrap x6))) rfl rfl rfl rfl rfl ?_
      refine yaf h ?_; clear h; intro u35 hu35 h
      refine yah rfl rfl rfl (pq_shift rfl (.p rfl) (.p rfl) (fun _ => ge0_some hu35) rfl) ?_
      refine lb_elim h ?_; clear h; intro w36 hw36 h
      refine yah rfl rfl rfl (pq_assign rfl (.p (congrArg (fun z => PV.v (Value.int .u64 z)) hw36))) ?_
      refine lb_elim h ?_; clear h; intro w37 hw37 h
      refine yah rfl rfl rfl (pq_assign rfl (.p (congrArg (fun z => PV.v (Value.int .u64 z)) hw37))) ?_
      refine yad (yae (yaq ?_))
      obtain rfl := Option.some.inj h
      exact yar (prv_2 (yat rfl) (yat rfl)) zsn ⟨rfl, rfl⟩
def exact_Div (p0 : Texact_Wide) (p1 : Int) (p2 : Int) : Option (Int × Int) := cond (((p1 == 0) || (decide (p2 < 0))) || (decide (3 < p2))) (some (0, 2)) (cond (decide (p1 ≤ p0.Hi)) (some (0, 3)) (Option.bind (math_bits_Div64 p0.Hi p0.Lo p1) (fun x4 => Option.bind (exact_raised x4.1 x4.2 p1 p2) (fun x5 => cond (!x5) (some (x4.1, 0)) (cond (x4.1 == 18446744073709551615) (some (0, 3)) (some ((IntKind.u64.wrap (x4.1 + 1)), 0)))))))
set_option maxHeartbeats 4000000 in
theorem exact_Div_ok {p0 : Texact_Wide} {p1 : Int} {p2 : Int} {r : (Int × Int)}  (h : exact_Div p0 p1 p2 = some r) : PF 97 [.agg [.v (.int .u64 p0.Hi), .v (.int .u64 p0.Lo)], .v (.int .u64 p1), .v (.int .i64 p2)] (.tup [.v (.int .u64 r.1), .v (.int .i64 r.2)]) := by
 unfold exact_Div at h
 refine pf_of ?_
 refine penter Tryz.func97 fk97 rfl Tryz.ntmps97 Tryz.results97 rfl ?_
 refine yab (yaa ?_)
 refine ybl rfl rfl rfl (pl_box (cs := [.v (.int .u64 p0.Hi), .v (.int .u64 p0.Lo)]) rfl rfl (fun b1 => ?_))
 refine zas (p := .v (.int .u64 0)) rfl rfl rfl rfl rfl ?_
 refine zas (p := .v (.int .i64 0)) rfl rfl rfl rfl rfl ?_
 refine yad (yae (yab (yab (yaa ?_))))
 refine zmv (p := .v (.int .u64 p1)) rfl rfl rfl rfl rfl ?_
 refine yah rfl rfl rfl (yak rfl (.p rfl) (.p rfl) rfl) ?_
 refine zmv (p := .v (.bool (p1 == 0))) rfl rfl rfl rfl rfl ?_
 refine yaj (yai rfl rfl rfl) rfl rfl (yam (p := .v (.int .i64 p2)) rfl (.p rfl)) ?_
 refine yaj (yai rfl rfl rfl) rfl rfl (yak rfl (.g rfl) (.p rfl) rfl) ?_
 refine yah rfl rfl rfl (pq_or rfl (.p rfl) (.p rfl) (.g rfl)) ?_
 refine zmv (p := .v (.bool ((p1 == 0) || (decide (p2 < 0))))) rfl rfl rfl rfl rfl ?_
 refine yaj (yai rfl rfl rfl) rfl rfl (yam (p := .v (.int .i64 p2)) rfl (.p rfl)) ?_
 refine yaj (yai rfl rfl rfl) rfl rfl (yak rfl (.g rfl) (.p rfl) rfl) ?_
 refine yah rfl rfl rfl (pq_or rfl (.p rfl) (.p rfl) (.g rfl)) ?_
 refine yad (yae ?_)
 refine yal rfl (fun hc2 => ?_) (fun hc2 => ?_)
 ·replace h := yav hc2 h
  refine yab (yaa ?_)
  refine zas (p := .v (.int .u64 0)) rfl rfl rfl rfl rfl ?_
  refine zas (p := .v (.int .i64 2)) rfl rfl rfl rfl rfl ?_
  refine yad (yae (yaq (yap ?_)))
  obtain rfl := Option.some.inj h
  exact yar (prv_2 (yat rfl) (yat rfl)) zsn ⟨rfl, rfl⟩
 ·replace h := yaw hc2 h
  refine yao (yae (yab (yab (yaa ?_))))
  refine yah rfl rfl rfl (yac rfl rfl rfl rfl rfl (.p rfl)) ?_
  refine yah rfl rfl rfl (yag (p := .v (.int .u64 p0.Hi)) rfl (.p rfl) zm0 rfl) ?_
  refine zmv (p := .v (.int .u64 p1)) rfl rfl rfl rfl rfl ?_
  refine yah rfl rfl rfl (yak rfl (.p rfl) (.p rfl) rfl) ?_
  refine yad (yae ?_)
  refine yal rfl (fun hc3 => ?_) (fun hc3 => ?_)
  ·replace h := yav hc3 h
   refine yab (yaa ?_)
   refine zas (p := .v (.int .u64 0)) rfl rfl rfl rfl rfl ?_
   refine zas (p := .v (.int .i64 3)) rfl rfl rfl rfl rfl ?_
   refine yad (yae (yaq (yap ?_)))
   obtain rfl := Option.some.inj h
   exact yar (prv_2 (yat rfl) (yat rfl)) zsn ⟨rfl, rfl⟩
  ·replace h := yaw hc3 h
   refine yao (yae (yab (yaa ?_)))
   refine yah rfl rfl rfl (yac rfl rfl rfl rfl rfl (.p rfl)) ?_
   refine yah rfl rfl rfl (yag (p := .v (.int .u64 p0.Hi)) rfl (.p rfl) zm0 rfl) ?_
   refine yah rfl rfl rfl (yac rfl rfl rfl rfl rfl (.p rfl)) ?_
   refine yah rfl rfl rfl (yag (p := .v (.int .u64 p0.Lo)) rfl (.p rfl) zm0 rfl) ?_
   refine zmv (p := .v (.int .u64 p1)) rfl rfl rfl rfl rfl ?_
   refine yaf h ?_; clear h; intro x4 hx4 h
   refine ybd rfl rfl rfl rfl rfl (math_bits_Div64_ok hx4) ?_
   refine zmv (p := .tup [.v (.int .u64 x4.1), .v (.int .u64 x4.2)]) rfl rfl rfl rfl rfl ?_
   refine zex (p := .v (.int .u64 x4.1)) rfl rfl rfl rfl rfl rfl ?_
   refine zex (p := .v (.int .u64 x4.2)) rfl rfl rfl rfl rfl rfl ?_
   refine zas (p := .v (.int .u64 x4.1)) rfl rfl rfl rfl rfl ?_
   refine zas (p := .v (.int .u64 x4.2)) rfl rfl rfl rfl rfl ?_
   refine yad (yae (yab (yab (yaa ?_))))
   refine zmv (p := .v (.int .u64 x4.1)) rfl rfl rfl rfl rfl ?_
   refine zmv (p := .v (.int .u64 x4.2)) rfl rfl rfl rfl rfl ?_
   refine zmv (p := .v (.int .u64 p1)) rfl rfl rfl rfl rfl ?_
   refine zmv (p := .v (.int .i64 p2)) rfl rfl rfl rfl rfl ?_
   refine yaf h ?_; clear h; intro x5 hx5 h
   refine ybd rfl rfl rfl rfl rfl (exact_raised_ok hx5) ?_
   refine yah rfl rfl rfl (pq_not rfl (.p rfl)) ?_
   refine yad (yae ?_)
   refine yal rfl (fun hc6 => ?_) (fun hc6 => ?_)
   ·replace h := yav hc6 h
    refine yab (yaa ?_)
    refine zmv (p := .v (.int .u64 x4.1)) rfl rfl rfl rfl rfl ?_
    refine zas (p := .v (.int .u64 x4.1)) rfl rfl rfl rfl rfl ?_
    refine zas (p := .v (.int .i64 0)) rfl rfl rfl rfl rfl ?_
    refine yad (yae (yaq (yap ?_)))
    obtain rfl := Option.some.inj h
    exact yar (prv_2 (yat rfl) (yat rfl)) zsn ⟨rfl, rfl⟩
   ·replace h := yaw hc6 h
    refine yao (yae (yab (yab (yaa ?_))))
    refine zmv (p := .v (.int .u64 x4.1)) rfl rfl rfl rfl rfl ?_
    refine yah rfl rfl rfl (yak rfl (.p rfl) (.p rfl) rfl) ?_
    refine yad (yae ?_)
    refine yal rfl (fun hc7 => ?_) (fun hc7 => ?_)
    ·replace h := yav hc7 h
     refine yab (yaa ?_)
     refine zas (p := .v (.int .u64 0)) rfl rfl rfl rfl rfl ?_
     refine zas (p := .v (.int .i64 3)) rfl rfl rfl rfl rfl ?_
     refine yad (yae (yaq (yap ?_)))
     obtain rfl := Option.some.inj h
     exact yar (prv_2 (yat rfl) (yat rfl)) zsn ⟨rfl, rfl⟩
    ·replace h := yaw hc7 h
     refine yao (yae (yab (yaa ?_)))
     refine zmv (p := .v (.int .u64 x4.1)) rfl rfl rfl rfl rfl ?_
     refine yah rfl rfl rfl (yas rfl (.p rfl) (.p rfl) rfl) ?_
     refine zas (p := .v (.int .u64 (IntKind.u64.wrap (x4.1 + 1)))) rfl rfl rfl rfl rfl ?_
     refine zas (p := .v (.int .i64 0)) rfl rfl rfl rfl rfl ?_
     refine yad (yae (yaq ?_))
     obtain rfl := Option.some.inj h
     exact yar (prv_2 (yat rfl) (yat rfl)) zsn ⟨rfl, rfl⟩
def exact_MulDiv (p0 : Int) (p1 : Int) (p2 : Int) (p3 : Int) : Option (Int × Int) := Option.bind (exact_Mul p0 p1) (fun x1 => Option.bind (exact_Div x1 p2 p3) (fun x2 => some (x2.1, x2.2)))
set_option maxHeartbeats 4000000 in
theorem exact_MulDiv_ok {p0 : Int} {p1 : Int} {p2 : Int} {p3 : Int} {r : (Int × Int)}  (h : exact_MulDiv p0 p1 p2 p3 = some r) : PF 89 [.v (.int .u64 p0), .v (.int .u64 p1), .v (.int .u64 p2), .v (.int .i64 p3)] (.tup [.v (.int .u64 r.1), .v (.int .i64 r.2)]) := by
 unfold exact_MulDiv at h
 refine pf_of ?_
 refine penter Tryz.func89 fk89 rfl Tryz.ntmps89 Tryz.results89 rfl ?_
 refine yab (yaa ?_)
 refine zas (p := .v (.int .u64 0)) rfl rfl rfl rfl rfl ?_
 refine zas (p := .v (.int .i64 0)) rfl rfl rfl rfl rfl ?_
 refine yad (yae (yab (yaa ?_)))
 refine zmv (p := .v (.int .u64 p0)) rfl rfl rfl rfl rfl ?_
 refine zmv (p := .v (.int .u64 p1)) rfl rfl rfl rfl rfl ?_
 refine yaf h ?_; clear h; intro x1 hx1 h
 refine ybd rfl rfl rfl rfl rfl (exact_Mul_ok hx1) ?_
 refine zmv (p := .v (.int .u64 p2)) rfl rfl rfl rfl rfl ?_
 refine zmv (p := .v (.int .i64 p3)) rfl rfl rfl rfl rfl ?_
 refine yaf h ?_; clear h; intro x2 hx2 h
 refine ybd rfl rfl rfl rfl rfl (exact_Div_ok hx2) ?_
 refine zex (p := .v (.int .u64 x2.1)) rfl rfl rfl rfl rfl rfl ?_
 refine zex (p := .v (.int .i64 x2.2)) rfl rfl rfl rfl rfl rfl ?_
 refine zas (p := .v (.int .u64 x2.1)) rfl rfl rfl rfl rfl ?_
 refine zas (p := .v (.int .i64 x2.2)) rfl rfl rfl rfl rfl ?_
 refine yad (yae (yaq ?_))
 obtain rfl := Option.some.inj h
 exact yar (prv_2 (yat rfl) (yat rfl)) zsn ⟨rfl, rfl⟩
def math_bits_Rem64 (p0 : Int) (p1 : Int) (p2 : Int) : Option Int := Option.bind (nz p2) (fun u1 => Option.bind (math_bits_Div64 (Int.tmod p0 p2) p1 p2) (fun x2 => some x2.2))
set_option maxHeartbeats 4000000 in
theorem math_bits_Rem64_ok {p0 : Int} {p1 : Int} {p2 : Int} {r : Int}  (h : math_bits_Rem64 p0 p1 p2 = some r) : PF 117 [.v (.int .u64 p0), .v (.int .u64 p1), .v (.int .u64 p2)] (.v (.int .u64 r)) := by
 unfold math_bits_Rem64 at h
 refine pf_of ?_
 refine penter Tryz.func117 fk117 rfl Tryz.ntmps117 Tryz.results117 rfl ?_
 refine yab (yaa ?_)
 refine zas (p := .v (.int .u64 0)) rfl rfl rfl rfl rfl ?_
 refine yad (yae (yab (yaa ?_)))
 refine zmv (p := .v (.int .u64 p0)) rfl rfl rfl rfl rfl ?_
 refine zmv (p := .v (.int .u64 p2)) rfl rfl rfl rfl rfl ?_
 refine yaf h ?_; clear h; intro u1 hu1 h
 refine yah rfl rfl rfl (pq_rem rfl (.p rfl) (.p rfl) (fun _ => nz_some hu1)) ?_
 refine zmv (p := .v (.int .u64 p1)) rfl rfl rfl rfl rfl ?_
 refine zmv (p := .v (.int .u64 p2)) rfl rfl rfl rfl rfl ?_
 refine yaf h ?_; clear h; intro x2 hx2 h
 refine ybd rfl rfl rfl rfl rfl (math_bits_Div64_ok hx2) ?_
 refine zmv (p := .tup [.v (.int .u64 x2.1), .v (.int .u64 x2.2)]) rfl rfl rfl rfl rfl ?_
 refine zex (p := .v (.int .u64 x2.1)) rfl rfl rfl rfl rfl rfl ?_
 refine zex (p := .v (.int .u64 x2.2)) rfl rfl rfl rfl rfl rfl ?_
 refine zas (p := .v (.int .u64 x2.1)) rfl rfl rfl rfl rfl ?_
 refine zas (p := .v (.int .u64 x2.2)) rfl rfl rfl rfl rfl ?_
 refine yad (yae (yab (yaa ?_)))
 refine zmv (p := .v (.int .u64 x2.2)) rfl rfl rfl rfl rfl ?_
 refine zas (p := .v (.int .u64 x2.2)) rfl rfl rfl rfl rfl ?_
 refine yad (yae (yaq ?_))
 obtain rfl := Option.some.inj h
 exact yar (prv_1 (yat rfl)) zsn ⟨rfl, rfl⟩
def exact_MulMod (p0 : Int) (p1 : Int) (p2 : Int) : Option Int := cond (p2 == 0) (some 0) (Option.bind (exact_Mul p0 p1) (fun x2 => Option.bind (math_bits_Rem64 x2.Hi x2.Lo p2) (fun x4 => some x4)))
set_option maxHeartbeats 4000000 in
theorem exact_MulMod_ok {p0 : Int} {p1 : Int} {p2 : Int} {r : Int}  (h : exact_MulMod p0 p1 p2 = some r) : PF 90 [.v (.int .u64 p0), .v (.int .u64 p1), .v (.int .u64 p2)] (.v (.int .u64 r)) := by
 unfold exact_MulMod at h
 refine pf_of ?_
 refine penter Tryz.func90 fk90 rfl Tryz.ntmps90 Tryz.results90 rfl ?_
 refine yab (yaa ?_)
 refine zas (p := .v (.int .u64 0)) rfl rfl rfl rfl rfl ?_
 refine yad (yae (yab (yab (yaa ?_))))
 refine zmv (p := .v (.int .u64 p2)) rfl rfl rfl rfl rfl ?_
 refine yah rfl rfl rfl (yak rfl (.p rfl) (.p rfl) rfl) ?_
 refine yad (yae ?_)
 refine yal rfl (fun hc1 => ?_) (fun hc1 => ?_)
 ·replace h := yav hc1 h
  refine yab (yaa ?_)
  refine zas (p := .v (.int .u64 0)) rfl rfl rfl rfl rfl ?_
  refine yad (yae (yaq (yap ?_)))
  obtain rfl := Option.some.inj h
  exact yar (prv_1 (yat rfl)) zsn ⟨rfl, rfl⟩
 ·replace h := yaw hc1 h
  refine yao (yae (yab (yaa ?_)))
  refine zmv (p := .v (.int .u64 p0)) rfl rfl rfl rfl rfl ?_
  refine zmv (p := .v (.int .u64 p1)) rfl rfl rfl rfl rfl ?_
  refine yaf h ?_; clear h; intro x2 hx2 h
  refine ybd rfl rfl rfl rfl rfl (exact_Mul_ok hx2) ?_
  refine ybl rfl rfl rfl (pl_alloc (cs := [.v (.int .u64 0), .v (.int .u64 0)]) rfl rfl rfl rfl (fun b3 => ?_))
  refine pwl_l0 rfl rfl (yax (vs := [.v (.int .u64 x2.Hi), .v (.int .u64 x2.Lo)]) rfl rfl rfl rfl rfl zuh (zlc (zlc zln)) ?_)
  refine yad (yae (yab (yaa ?_)))
  refine yah rfl rfl rfl (yac rfl rfl rfl rfl rfl (.p rfl)) ?_
  refine yah rfl rfl rfl (yag (p := .v (.int .u64 x2.Hi)) rfl (.p rfl) zm0 rfl) ?_
  refine yah rfl rfl rfl (yac rfl rfl rfl rfl rfl (.p rfl)) ?_
  refine yah rfl rfl rfl (yag (p := .v (.int .u64 x2.Lo)) rfl (.p rfl) zm0 rfl) ?_
  refine zmv (p := .v (.int .u64 p2)) rfl rfl rfl rfl rfl ?_
  refine yaf h ?_; clear h; intro x4 hx4 h
  refine ybd rfl rfl rfl rfl rfl (math_bits_Rem64_ok hx4) ?_
  refine zas (p := .v (.int .u64 x4)) rfl rfl rfl rfl rfl ?_
  refine yad (yae (yaq ?_))
  obtain rfl := Option.some.inj h
  exact yar (prv_1 (yat rfl)) zsn ⟨rfl, rfl⟩
def apportion_Share (p0 : Int) (p1 : (List Int)) : Option ((List Int) × Int) := Option.bind (apportion_check p0 p1) (fun x1 => cond (x1 != 0) (some ([], x1)) (Option.bind (apportion_sumOf p1) (fun x3 => Option.bind (cond (x3 == 0) (some (p1.length : Int)) (some x3)) (fun v4 => Option.bind (mk 24 (⟨(0 : Int), (0 : Int), (0 : Int)⟩ : Tapportion_portion) (p1.length : Int)) (fun l7 => Option.bind (loopF (S := Int × (List Tapportion_portion) × Int) (T := (Int × (List Tapportion_portion))) (fun (v10, l12, v13) => cond (decide (v13 < (p1.length : Int))) (Option.bind (idx p1 v13) (fun m20 => Option.bind (cond (x3 == 0) (some 1) (some m20)) (fun v22 => Option.bind (exact_MulDiv (IntKind.u64.wrap p0) (IntKind.u64.wrap v22) (IntKind.u64.wrap v4) 0) (fun x25 => Option.bind (exact_MulMod (IntKind.u64.wrap p0) (IntKind.u64.wrap v22) (IntKind.u64.wrap v4)) (fun x26 => Option.bind (idx l12 v13) (fun m27 => lb ((IntKind.i64.wrap (v10 - (IntKind.i64.wrap x25.1)))) (fun w29 => some (.inl (w29, (l12.set v13.toNat (⟨v13, x25.1, x26⟩ : Tapportion_portion)), (IntKind.i64.wrap (v13 + 1))))))))))) (some (.inr (v10, l12)))) FUEL (p0, l7, 0)) (fun (v14, l16) => Option.bind (apportion_ranking_sort (⟨()⟩ : Tapportion_ranking) l16) (fun x30 => Option.bind (mk 8 (0 : Int) (p1.length : Int)) (fun l31 => Option.bind (loopF (S := (List Int) × Int) (T := ((List Int))) (fun (l35, v36) => cond (decide (v36 < ((l7.length : Nat) : Int))) (Option.bind (Option.bind (idx x30 v36) (fun m46 => Option.bind (idx l35 m46.index_) (fun m48 => cond (decide (v36 < v14)) (Option.bind (idx (l35.set m46.index_.toNat (IntKind.i64.wrap m46.share)) m46.index_) (fun m51 => Option.bind (idx (l35.set m46.index_.toNat (IntKind.i64.wrap m46.share)) m46.index_) (fun m52 => some ((l35.set m46.index_.toNat (IntKind.i64.wrap m46.share)).set m46.index_.toNat (IntKind.i64.wrap (m51 + 1)))))) (some (l35.set m46.index_.toNat (IntKind.i64.wrap m46.share)))))) (fun l43 => some (.inl (l43, (IntKind.i64.wrap (v36 + 1)))))) (some (.inr l35))) FUEL (l31, 0)) (fun l38 => some (l38, 0))))))))))
set_option maxHeartbeats 4000000 in
theorem apportion_Share_ok {p0 : Int} {p1 : (List Int)} {r : ((List Int) × Int)}  (h : apportion_Share p0 p1 = some r) : PF 60 [.v (.int .i64 p0), .slc (List.map eI p1)] (.tup [.slc (List.map eI r.1), .v (.int .i64 r.2)]) := by
 unfold apportion_Share at h
 refine pf_of ?_
 refine penter Tryz.func60 fk60 rfl Tryz.ntmps60 Tryz.results60 rfl ?_
 refine yab (yaa ?_)
 refine zas (p := .v (.slice none 0 0)) rfl rfl rfl rfl rfl ?_
 refine zas (p := .v (.int .i64 0)) rfl rfl rfl rfl rfl ?_
 refine yad (yae (yab (yab (yaa ?_))))
 refine zmv (p := .v (.int .i64 p0)) rfl rfl rfl rfl rfl ?_
 refine zmv (p := .slc (List.map eI p1)) rfl rfl rfl rfl rfl ?_
 refine yaf h ?_; clear h; intro x1 hx1 h
 refine ybd rfl rfl rfl rfl rfl (apportion_check_ok hx1) ?_
 refine zas (p := .v (.int .i64 x1)) rfl rfl rfl rfl rfl ?_
 refine yad (yae (yab (yaa ?_)))
 refine zmv (p := .v (.int .i64 x1)) rfl rfl rfl rfl rfl ?_
 refine yah rfl rfl rfl (yak rfl (.p rfl) (.p rfl) rfl) ?_
 refine yad (yae ?_)
 refine yal rfl (fun hc2 => ?_) (fun hc2 => ?_)
 ·replace h := yav hc2 h
  refine yab (yaa ?_)
  refine zmv (p := .v (.int .i64 x1)) rfl rfl rfl rfl rfl ?_
  refine zas (p := .v (.slice none 0 0)) rfl rfl rfl rfl rfl ?_
  refine zas (p := .v (.int .i64 x1)) rfl rfl rfl rfl rfl ?_
  refine yad (yae ?_)
  refine pwc_nil 4 rfl ?_
  refine yaq (yap ?_)
  obtain rfl := Option.some.inj h
  exact yar (prv_2 (yat rfl) (yat rfl)) zsn ⟨rfl, rfl⟩
 ·replace h := yaw hc2 h
  refine yao (yae (yab (yaa ?_)))
  refine zmv (p := .slc (List.map eI p1)) rfl rfl rfl rfl rfl ?_
  refine yaf h ?_; clear h; intro x3 hx3 h
  refine ybd rfl rfl rfl rfl rfl (apportion_sumOf_ok hx3) ?_
  refine zas (p := .v (.int .i64 x3)) rfl rfl rfl rfl rfl ?_
  refine yad (yae (yab (yaa ?_)))
  refine zmv (p := .v (.int .i64 x3)) rfl rfl rfl rfl rfl ?_
  refine yah rfl rfl rfl (yak rfl (.p rfl) (.p rfl) rfl) ?_
  refine zas (p := .v (.bool (x3 == 0))) rfl rfl rfl rfl rfl ?_
  refine yad (yae (yab (yab (yaa ?_))))
  refine zmv (p := .v (.bool (x3 == 0))) rfl rfl rfl rfl rfl ?_
  refine yad (yae ?_)
  refine yaf h ?_; clear h; intro q5 hq5 h
  refine ybe (Y := (Unit) × (Int)) (fun (_, v4) => [(0, .v (.int .i64 p0)), (1, .slc (List.map eI p1)), (7, .v (.int .i64 v4)), (8, .v (.bool (x3 == 0)))]) (fun (_, v4) => []) (fun (_, v4) => q5 = v4) ?_ ?_
  ·skip
   refine yal rfl (fun hc6 => ?_) (fun hc6 => ?_)
   ·replace hq5 := yav hc6 hq5
    refine yaa ?_
    refine zmv (p := .slc (List.map eI p1)) rfl rfl rfl rfl rfl ?_
    refine yah rfl rfl rfl (pq_lenT (enc := eI) rfl rfl (.p rfl)) ?_
    refine zas (p := .v (.int .i64 (p1.length : Int))) rfl rfl rfl rfl rfl ?_
    refine yad ?_
    obtain rfl := Option.some.inj hq5
    exact ybb ((), (p1.length : Int)) (zhc rfl (zhc rfl (zhc rfl (zhc rfl zhn)))) zsn rfl
   ·replace hq5 := yaw hc6 hq5
    refine yao ?_
    obtain rfl := Option.some.inj hq5
    exact ybb ((), x3) (zhc rfl (zhc rfl (zhc rfl (zhc rfl zhn)))) zsn rfl
  ·rintro ⟨_, v4⟩ τ hz; (try dsimp only at hz); subst q5; (try dsimp only at h); dsimp only [pupds]
   refine yab (yaa ?_)
   refine zmv (p := .v (.int .i64 p0)) rfl rfl rfl rfl rfl ?_
   refine zas (p := .v (.int .i64 p0)) rfl rfl rfl rfl rfl ?_
   refine yad (yae (yab (yaa ?_)))
   refine zmv (p := .slc (List.map eI p1)) rfl rfl rfl rfl rfl ?_
   refine yah rfl rfl rfl (pq_lenT (enc := eI) rfl rfl (.p rfl)) ?_
   refine yaf h ?_; clear h; intro l7 hl7 h
   refine ybl rfl rfl rfl (pl_make (enc := Tapportion_portion.enc) rfl rfl rfl rfl rfl rfl rfl rfl rfl hl7 (fun b8 => ?_))
   refine zas (p := .v (.slice (some ⟨b8, 0, none⟩) l7.length l7.length)) rfl rfl rfl rfl rfl ?_
   refine yad (yae (yab (yab (yaa ?_))))
   refine zmv (p := .slc (List.map eI p1)) rfl rfl rfl rfl rfl ?_
   refine yah rfl rfl rfl (pq_lenT (enc := eI) rfl rfl (.p rfl)) ?_
   refine zmv (p := .v (.int .i64 0)) rfl rfl rfl rfl rfl ?_
   refine yad (yae ?_)
   refine yaf h ?_; clear h; intro q18 hq18 h
   refine ybe (Y := (Unit) × (Int × (List Tapportion_portion))) (fun (_, (v14, l16)) => [(1, .slc (List.map eI p1)), (9, .v (.int .i64 v14)), (10, .v (.slice (some ⟨b8, 0, none⟩) l7.length l7.length))]) (fun (_, (v14, l16)) => [PRes.row (some ⟨b8, 0, none⟩) l7.length l7.length 144 3 (List.map Tapportion_portion.enc l16)]) (fun (_, (v14, l16)) => q18 = (v14, l16)) ?_ ?_
   ·refine yaz ?_
    refine pwc_loopF (Y := Unit) (S := Int × (List Tapportion_portion) × Int) _ hq18 (fun _ (v10, l12, v13) => [(0, .v (.int .i64 p0)), (1, .slc (List.map eI p1)), (7, .v (.int .i64 v4)), (8, .v (.bool (x3 == 0))), (9, .v (.int .i64 v10)), (10, .v (.slice (some ⟨b8, 0, none⟩) l7.length l7.length)), (36, .slc (List.map eI p1)), (37, .v (.int .i64 (p1.length : Int))), (38, .v (.int .i64 v13))]) (fun _ (v10, l12, v13) => [PRes.row (some ⟨b8, 0, none⟩) l7.length l7.length 144 3 (List.map Tapportion_portion.enc l12)]) () (zhc rfl (zhc rfl (zhc rfl (zhc rfl (zhc rfl (zhc rfl (zhc rfl (zhc rfl (zhc rfl zhn))))))))) (zsc zph zsn) ?_
    rintro _ ⟨v10, l12, v13⟩ o τ hb17; (try dsimp only at hb17); dsimp only [pupds]
    refine yab (yaa ?_)
    refine yah rfl rfl rfl (yak rfl (.p rfl) (.p rfl) rfl) ?_
    refine yad (yae (yab ?_))
    refine yal rfl (fun hc19 => ?_) (fun hc19 => ?_)
    ·replace hb17 := yav hc19 hb17
     refine yao (yae (yab (yaz (yab (yaa ?_)))))
     refine zmv (p := .v (.int .i64 v13)) rfl rfl rfl rfl rfl ?_
     refine yaf hb17 ?_; clear hb17; intro m20 hm20 hb17
     refine yah rfl rfl rfl (pq_index (enc := eI) rfl rfl rfl (fun _ => rfl) (.p rfl) (.p rfl) (fun _ => hm20)) ?_
     refine yah rfl rfl rfl (pq_load_r (p := .v (.int .i64 m20)) rfl (.p rfl) rfl) ?_
     refine zas (p := .v (.int .i64 v13)) rfl rfl rfl rfl rfl ?_
     refine zas (p := .v (.int .i64 m20)) rfl rfl rfl rfl rfl ?_
     refine yad (yae (yab (yab (yaa ?_))))
     refine zmv (p := .v (.bool (x3 == 0))) rfl rfl rfl rfl rfl ?_
     refine yad (yae ?_)
     refine yaf hb17 ?_; clear hb17; intro q23 hq23 hb17
     refine ybe (Y := (Unit) × (Int)) (fun (_, v22) => [(0, .v (.int .i64 p0)), (1, .slc (List.map eI p1)), (7, .v (.int .i64 v4)), (8, .v (.bool (x3 == 0))), (9, .v (.int .i64 v10)), (10, .v (.slice (some ⟨b8, 0, none⟩) l7.length l7.length)), (11, .v (.int .i64 v13)), (12, .v (.int .i64 v22)), (36, .slc (List.map eI p1)), (37, .v (.int .i64 (p1.length : Int))), (38, .v (.int .i64 v13))]) (fun (_, v22) => [PRes.row (some ⟨b8, 0, none⟩) l7.length l7.length 144 3 (List.map Tapportion_portion.enc l12)]) (fun (_, v22) => q23 = v22) ?_ ?_
     ·skip
      refine yal rfl (fun hc24 => ?_) (fun hc24 => ?_)
      ·replace hq23 := yav hc24 hq23
       refine yaa ?_
       refine zas (p := .v (.int .i64 1)) rfl rfl rfl rfl rfl ?_
       refine yad ?_
       obtain rfl := Option.some.inj hq23
       exact ybb ((), 1) (zhc rfl (zhc rfl (zhc rfl (zhc rfl (zhc rfl (zhc rfl (zhc rfl (zhc rfl (zhc rfl (zhc rfl (zhc rfl zhn))))))))))) (zsc zph zsn) rfl
      ·replace hq23 := yaw hc24 hq23
       refine yao ?_
       obtain rfl := Option.some.inj hq23
       exact ybb ((), m20) (zhc rfl (zhc rfl (zhc rfl (zhc rfl (zhc rfl (zhc rfl (zhc rfl (zhc rfl (zhc rfl (zhc rfl (zhc rfl zhn))))))))))) (zsc zph zsn) rfl
     ·rintro ⟨_, v22⟩ τ hz; (try dsimp only at hz); subst q23; (try dsimp only at hb17); dsimp only [pupds]
      refine yab (yaa ?_)
      refine zmv (p := .v (.int .i64 p0)) rfl rfl rfl rfl rfl ?_
      refine yah rfl rfl rfl (pq_conv rfl rfl rfl (.p rfl)) ?_
      refine zmv (p := .v (.int .i64 v22)) rfl rfl rfl rfl rfl ?_
      refine yah rfl rfl rfl (pq_conv rfl rfl rfl (.p rfl)) ?_
      refine zmv (p := .v (.int .i64 v4)) rfl rfl rfl rfl rfl ?_
      refine yah rfl rfl rfl (pq_conv rfl rfl rfl (.p rfl)) ?_
      refine yaf hb17 ?_; clear hb17; intro x25 hx25 hb17
      refine ybd rfl rfl rfl rfl rfl (exact_MulDiv_ok hx25) ?_
      refine zmv (p := .tup [.v (.int .u64 x25.1), .v (.int .i64 x25.2)]) rfl rfl rfl rfl rfl ?_
      refine zex (p := .v (.int .u64 x25.1)) rfl rfl rfl rfl rfl rfl ?_
      refine zex (p := .v (.int .i64 x25.2)) rfl rfl rfl rfl rfl rfl ?_
      refine zas (p := .v (.int .u64 x25.1)) rfl rfl rfl rfl rfl ?_
      refine zas (p := .v (.int .i64 x25.2)) rfl rfl rfl rfl rfl ?_
      refine yad (yae (yab (yaa ?_)))
      refine zmv (p := .v (.int .i64 p0)) rfl rfl rfl rfl rfl ?_
      refine yah rfl rfl rfl (pq_conv rfl rfl rfl (.p rfl)) ?_
      refine zmv (p := .v (.int .i64 v22)) rfl rfl rfl rfl rfl ?_
      refine yah rfl rfl rfl (pq_conv rfl rfl rfl (.p rfl)) ?_
      refine zmv (p := .v (.int .i64 v4)) rfl rfl rfl rfl rfl ?_
      refine yah rfl rfl rfl (pq_conv rfl rfl rfl (.p rfl)) ?_
      refine yaf hb17 ?_; clear hb17; intro x26 hx26 hb17
      refine ybd rfl rfl rfl rfl rfl (exact_MulMod_ok hx26) ?_
      refine zas (p := .v (.int .u64 x26)) rfl rfl rfl rfl rfl ?_
      refine yad (yae (yab (yaa ?_)))
      refine zmv (p := .v (.slice (some ⟨b8, 0, none⟩) l7.length l7.length)) rfl rfl rfl rfl rfl ?_
      refine zmv (p := .v (.int .i64 v13)) rfl rfl rfl rfl rfl ?_
      refine zmv (p := .v (.int .i64 v13)) rfl rfl rfl rfl rfl ?_
      refine zmv (p := .v (.int .u64 x25.1)) rfl rfl rfl rfl rfl ?_
      refine zmv (p := .v (.int .u64 x26)) rfl rfl rfl rfl rfl ?_
      refine yah rfl rfl rfl (pq_build (cs := [.v (.int .i64 v13), .v (.int .u64 x25.1), .v (.int .u64 x26)]) rfl rfl rfl rfl rfl rfl rfl (zfc rfl rfl rfl rfl (zlc zln) (zfc rfl rfl rfl rfl (zlt (zlc zln)) (zfc rfl rfl rfl rfl (zlt (zlt (zlc zln))) zfn)))) ?_
      refine yaf hb17 ?_; clear hb17; intro m27 hm27 hb17
      refine yah rfl rfl rfl (pq_indexO (enc := Tapportion_portion.enc) (xs := l12) rfl rfl rfl (.p rfl) zm0 (.p rfl) (fun _ => hm27)) ?_
      refine pwl_l0 rfl rfl (pl_store_o (enc := Tapportion_portion.enc) (xs := l12) (a := (some ⟨b8, 0, none⟩)) v13 0 m27 (⟨v13, x25.1, x26⟩ : Tapportion_portion) rfl rfl rfl rfl (fun _ => rfl) rfl rfl hm27 (zlc (zlc (zlc zln))) zuh ?_)
      refine yad (yae (yaa ?_))
      refine zmv (p := .v (.int .i64 v10)) rfl rfl rfl rfl rfl ?_
      refine zmv (p := .v (.int .u64 x25.1)) rfl rfl rfl rfl rfl ?_
      refine yah rfl rfl rfl (pq_conv rfl rfl rfl (.p rfl)) ?_
      refine yah rfl rfl rfl (yas rfl (.p rfl) (.p rfl) rfl) ?_
      refine lb_elim hb17 ?_; clear hb17; intro w29 hw29 hb17
      refine yah rfl rfl rfl (pq_assign rfl (.p (congrArg (fun z => PV.v (Value.int .i64 z)) hw29))) ?_
      refine yad (ybc (yae (yaa ?_)))
      refine yah rfl rfl rfl (yas rfl (.p rfl) (.p rfl) rfl) ?_
      refine zmv (p := .v (.int .i64 (IntKind.i64.wrap (v13 + 1)))) rfl rfl rfl rfl rfl ?_
      refine yad ?_
      exact pk_loop hb17 () (zhc rfl (zhc rfl (zhc rfl (zhc rfl (zhc rfl (zhc rfl (zhc rfl (zhc rfl (zhc rfl zhn))))))))) (zsc zph zsn)
    ·replace hb17 := yaw hc19 hb17
     refine pwc_exit (ybm ?_)
     refine ybh hb17 (fun ht => ?_)
     refine ybj rfl ?_
     exact ybb ((), (v10, l12)) (zhc rfl (zhc rfl (zhc rfl zhn))) (zsc zph zsn) ht.symm
   ·rintro ⟨_, ⟨v14, l16⟩⟩ τ hz; (try dsimp only at hz); subst q18; (try dsimp only at h); dsimp only [pupds]
    refine yab (yaa ?_)
    refine yah rfl rfl rfl (pq_build (cs := [.fn 91 []]) rfl rfl rfl rfl rfl rfl rfl (zfc rfl rfl rfl rfl (zlc zln) zfn)) ?_
    refine zmv (p := .v (.slice (some ⟨b8, 0, none⟩) l7.length l7.length)) rfl rfl rfl rfl rfl ?_
    refine yaf h ?_; clear h; intro x30 hx30 h
    refine ybl rfl rfl rfl (pl_callR rfl rfl (ρ1 := [_]) (ybk (by exact zph) (List.Perm.refl _)) (apportion_ranking_sort_ok hx30) ?_); rintro _ _ ⟨rfl, rfl⟩
    refine yad (yae (yab (yaa ?_)))
    refine zmv (p := .slc (List.map eI p1)) rfl rfl rfl rfl rfl ?_
    refine yah rfl rfl rfl (pq_lenT (enc := eI) rfl rfl (.p rfl)) ?_
    refine yaf h ?_; clear h; intro l31 hl31 h
    refine ybl rfl rfl rfl (pl_make (enc := eI) rfl rfl rfl rfl rfl rfl rfl rfl rfl hl31 (fun b32 => ?_))
    refine zas (p := .v (.slice (some ⟨b32, 0, none⟩) l31.length l31.length)) rfl rfl rfl rfl rfl ?_
    refine yad (yae (yab (yab (yaa ?_))))
    refine zmv (p := .v (.slice (some ⟨b8, 0, none⟩) l7.length l7.length)) rfl rfl rfl rfl rfl ?_
    refine yah rfl rfl rfl (pq_lenO rfl rfl (.p rfl)) ?_
    refine zmv (p := .v (.int .i64 0)) rfl rfl rfl rfl rfl ?_
    refine yad (yae ?_)
    refine yaf h ?_; clear h; intro q40 hq40 h
    refine ybe (Y := (Unit) × ((List Int))) (fun (_, l38) => [(16, .v (.slice (some ⟨b32, 0, none⟩) l31.length l31.length))]) (fun (_, l38) => [PRes.row (some ⟨b32, 0, none⟩) l31.length l31.length 3 1 (List.map eI l38)]) (fun (_, l38) => q40 = l38) ?_ ?_
    ·refine yaz ?_
     refine pwc_loopF (Y := Unit) (S := (List Int) × Int) _ hq40 (fun _ (l35, v36) => [(9, .v (.int .i64 v14)), (16, .v (.slice (some ⟨b32, 0, none⟩) l31.length l31.length)), (79, .v (.slice (some ⟨b8, 0, none⟩) l7.length l7.length)), (80, .v (.int .i64 ((l7.length : Nat) : Int))), (81, .v (.int .i64 v36))]) (fun _ (l35, v36) => [PRes.row (some ⟨b8, 0, none⟩) l7.length l7.length 144 3 (List.map Tapportion_portion.enc x30), PRes.row (some ⟨b32, 0, none⟩) l31.length l31.length 3 1 (List.map eI l35)]) () (zhc rfl (zhc rfl (zhc rfl (zhc rfl (zhc rfl zhn))))) (zsc (zpt zph) (zsc zph zsn)) ?_
     rintro _ ⟨l35, v36⟩ o τ hb39; (try dsimp only at hb39); dsimp only [pupds]
     refine yab (yaa ?_)
     refine yah rfl rfl rfl (yak rfl (.p rfl) (.p rfl) rfl) ?_
     refine yad (yae (yab ?_))
     refine yal rfl (fun hc41 => ?_) (fun hc41 => ?_)
     ·replace hb39 := yav hc41 hb39
      refine yao (yae (yab ?_))
      refine yaf hb39 ?_; clear hb39; intro q45 hq45 hb39
      refine ybe (Y := (Unit) × ((List Int))) (fun (_, l43) => [(9, .v (.int .i64 v14)), (16, .v (.slice (some ⟨b32, 0, none⟩) l31.length l31.length)), (79, .v (.slice (some ⟨b8, 0, none⟩) l7.length l7.length)), (80, .v (.int .i64 ((l7.length : Nat) : Int))), (81, .v (.int .i64 v36))]) (fun (_, l43) => [PRes.row (some ⟨b32, 0, none⟩) l31.length l31.length 3 1 (List.map eI l43), PRes.row (some ⟨b8, 0, none⟩) l7.length l7.length 144 3 (List.map Tapportion_portion.enc x30)]) (fun (_, l43) => q45 = l43) ?_ ?_
      ·skip
       refine yaz (yab (yaa ?_))
       refine zmv (p := .v (.int .i64 v36)) rfl rfl rfl rfl rfl ?_
       refine yaf hq45 ?_; clear hq45; intro m46 hm46 hq45
       refine yah rfl rfl rfl (pq_indexO (enc := Tapportion_portion.enc) (xs := x30) rfl rfl rfl (.p rfl) zm0 (.p rfl) (fun _ => hm46)) ?_
       refine yah rfl rfl rfl (pq_load_o (p := .agg [.v (.int .i64 m46.index_), .v (.int .u64 m46.share), .v (.int .u64 m46.rest)]) (enc := Tapportion_portion.enc) (xs := x30) (a := (some ⟨b8, 0, none⟩)) v36 0 m46 rfl (.p rfl) rfl zm0 (fun _ => hm46) rfl) ?_
       refine ybl rfl rfl rfl (pl_alloc (cs := [.v (.int .i64 0), .v (.int .u64 0), .v (.int .u64 0)]) rfl rfl rfl rfl (fun b47 => ?_))
       refine zas (p := .v (.int .i64 v36)) rfl rfl rfl rfl rfl ?_
       refine pwl_l0 rfl rfl (yax (vs := [.v (.int .i64 m46.index_), .v (.int .u64 m46.share), .v (.int .u64 m46.rest)]) rfl rfl rfl rfl rfl zuh (zlc (zlc (zlc zln))) ?_)
       refine yad (yae (yab (yaa ?_)))
       refine zmv (p := .v (.slice (some ⟨b32, 0, none⟩) l31.length l31.length)) rfl rfl rfl rfl rfl ?_
       refine yah rfl rfl rfl (yac rfl rfl rfl rfl rfl (.p rfl)) ?_
       refine yah rfl rfl rfl (yag (p := .v (.int .i64 m46.index_)) rfl (.p rfl) zm0 rfl) ?_
       refine yah rfl rfl rfl (yac rfl rfl rfl rfl rfl (.p rfl)) ?_
       refine yah rfl rfl rfl (yag (p := .v (.int .u64 m46.share)) rfl (.p rfl) zm0 rfl) ?_
       refine yah rfl rfl rfl (pq_conv rfl rfl rfl (.p rfl)) ?_
       refine yaf hq45 ?_; clear hq45; intro m48 hm48 hq45
       refine yah rfl rfl rfl (pq_indexO (enc := eI) (xs := l35) rfl rfl rfl (.p rfl) zm2 (.p rfl) (fun _ => hm48)) ?_
       refine pwl_l0 rfl rfl (pl_store_o (enc := eI) (xs := l35) (a := (some ⟨b32, 0, none⟩)) m46.index_ 0 m48 (IntKind.i64.wrap m46.share) rfl rfl rfl rfl (fun _ => rfl) rfl rfl hm48 (zlc zln) (zut (zut zuh)) ?_)
       refine yad (yae (yab (yaa ?_)))
       refine zmv (p := .v (.int .i64 v36)) rfl rfl rfl rfl rfl ?_
       refine zmv (p := .v (.int .i64 v14)) rfl rfl rfl rfl rfl ?_
       refine yah rfl rfl rfl (yak rfl (.p rfl) (.p rfl) rfl) ?_
       refine yad (yae ?_)
       refine yal rfl (fun hc50 => ?_) (fun hc50 => ?_)
       ·replace hq45 := yav hc50 hq45
        refine yaa ?_
        refine zmv (p := .v (.slice (some ⟨b32, 0, none⟩) l31.length l31.length)) rfl rfl rfl rfl rfl ?_
        refine yah rfl rfl rfl (yac rfl rfl rfl rfl rfl (.p rfl)) ?_
        refine yah rfl rfl rfl (yag (p := .v (.int .i64 m46.index_)) rfl (.p rfl) zm0 rfl) ?_
        refine yaf hq45 ?_; clear hq45; intro m51 hm51 hq45
        refine yah rfl rfl rfl (pq_indexO (enc := eI) (xs := (l35.set m46.index_.toNat (IntKind.i64.wrap m46.share))) rfl rfl rfl (.p rfl) zm2 (.p rfl) (fun _ => hm51)) ?_
        refine yah rfl rfl rfl (pq_load_o (p := .v (.int .i64 m51)) (enc := eI) (xs := (l35.set m46.index_.toNat (IntKind.i64.wrap m46.share))) (a := (some ⟨b32, 0, none⟩)) m46.index_ 0 m51 rfl (.p rfl) rfl zm2 (fun _ => hm51) rfl) ?_
        refine yah rfl rfl rfl (yas rfl (.p rfl) (.p rfl) rfl) ?_
        refine yaf hq45 ?_; clear hq45; intro m52 hm52 hq45
        refine yah rfl rfl rfl (pq_indexO (enc := eI) (xs := (l35.set m46.index_.toNat (IntKind.i64.wrap m46.share))) rfl rfl rfl (.p rfl) zm2 (.p rfl) (fun _ => hm52)) ?_
        refine pwl_l0 rfl rfl (pl_store_o (enc := eI) (xs := (l35.set m46.index_.toNat (IntKind.i64.wrap m46.share))) (a := (some ⟨b32, 0, none⟩)) m46.index_ 0 m52 (IntKind.i64.wrap (m51 + 1)) rfl rfl rfl rfl (fun _ => rfl) rfl rfl hm52 (zlc zln) (zut (zut zuh)) ?_)
        refine yad (ybc ?_)
        obtain rfl := Option.some.inj hq45
        exact ybb ((), ((l35.set m46.index_.toNat (IntKind.i64.wrap m46.share)).set m46.index_.toNat (IntKind.i64.wrap (m51 + 1)))) (zhc rfl (zhc rfl (zhc rfl (zhc rfl (zhc rfl zhn))))) (zsc (zpt (zpt zph)) (zsc (zpt zph) zsn)) rfl
       ·replace hq45 := yaw hc50 hq45
        refine yao (ybc ?_)
        obtain rfl := Option.some.inj hq45
        exact ybb ((), (l35.set m46.index_.toNat (IntKind.i64.wrap m46.share))) (zhc rfl (zhc rfl (zhc rfl (zhc rfl (zhc rfl zhn))))) (zsc (zpt (zpt zph)) (zsc (zpt zph) zsn)) rfl
      ·rintro ⟨_, l43⟩ τ hz; (try dsimp only at hz); subst q45; (try dsimp only at hb39); dsimp only [pupds]
       refine yaa ?_
       refine yah rfl rfl rfl (yas rfl (.p rfl) (.p rfl) rfl) ?_
       refine zmv (p := .v (.int .i64 (IntKind.i64.wrap (v36 + 1)))) rfl rfl rfl rfl rfl ?_
       refine yad ?_
       exact pk_loop hb39 () (zhc rfl (zhc rfl (zhc rfl (zhc rfl (zhc rfl zhn))))) (zsc (zpt zph) (zsc zph zsn))
     ·replace hb39 := yaw hc41 hb39
      refine pwc_exit (ybm ?_)
      refine ybh hb39 (fun ht => ?_)
      refine ybj rfl ?_
      exact ybb ((), l35) (zhc rfl zhn) (zsc (zpt zph) zsn) ht.symm
    ·rintro ⟨_, l38⟩ τ hz; (try dsimp only at hz); subst q40; (try dsimp only at h); dsimp only [pupds]
     refine yab (yaa ?_)
     refine zmv (p := .v (.slice (some ⟨b32, 0, none⟩) l31.length l31.length)) rfl rfl rfl rfl rfl ?_
     refine zas (p := .v (.slice (some ⟨b32, 0, none⟩) l31.length l31.length)) rfl rfl rfl rfl rfl ?_
     refine zas (p := .v (.int .i64 0)) rfl rfl rfl rfl rfl ?_
     refine yad (yae ?_)
     refine pwc_frzt (css := List.map eI l38) 4 rfl (by exact zph) ?_
     refine yaq ?_
     obtain rfl := Option.some.inj h
     exact yar (prv_2 (yat rfl) (yat rfl)) zsn ⟨rfl, rfl⟩
def assess_partsOf (p0 : TItem) : Option ((List Tassess_part) × Int) := Option.bind (α := ((List Int)) ⊕ _) (cond (decide (0 < p0.Quantity)) (Option.bind (apportion_Share p0.Value [p0.Granted, (IntKind.i64.wrap (p0.Quantity - p0.Granted))]) (fun x9 => cond (x9.2 != 0) (some (.inr ([], x9.2))) (some (.inl x9.1)))) (some (.inl [0, p0.Value]))) (fun q => match q with | .inl l4 => Option.bind (cond p0.Proof (Option.bind (app 8 [1, 2] [3]) (fun l21 => some l21)) (some [1, 2])) (fun l16 => Option.bind (cond (decide (0 < p0.Granted)) (Option.bind (idx l4 0) (fun m32 => Option.bind (slices_Clone_int_int l16) (fun x33 => Option.bind (app 8 x33 [4]) (fun l39 => Option.bind (app 40 ([] : List Tassess_part) [(⟨p0.Granted, m32, l39⟩ : Tassess_part)]) (fun l44 => some l44))))) (some ([] : (List Tassess_part)))) (fun l28 => Option.bind (cond ((decide (0 < (IntKind.i64.wrap (p0.Quantity - p0.Granted)))) || (p0.Quantity == 0)) (Option.bind (idx l4 1) (fun m54 => Option.bind (app 40 l28 [(⟨(IntKind.i64.wrap (p0.Quantity - p0.Granted)), m54, l16⟩ : Tassess_part)]) (fun l57 => some l57))) (some l28)) (fun l51 => Option.bind (app 40 l51 [(⟨p0.Quantity, p0.Value, [5]⟩ : Tassess_part), (⟨p0.Quantity, p0.Value, [6]⟩ : Tassess_part)]) (fun l67 => some (l67, 0))))) | .inr e => some e)
set_option maxHeartbeats 4000000 in
theorem assess_partsOf_ok {p0 : TItem} {r : ((List Tassess_part) × Int)}  (h : assess_partsOf p0 = some r) : PF 39 [.agg [.v (.string p0.Code), .v (.string p0.Origin), .v (.bool p0.Proof), .v (.int .i64 p0.Company), .v (.int .i64 p0.Day), .v (.int .i64 p0.Quantity), .v (.int .i64 p0.Value), .v (.int .i64 p0.Granted)]] (.tup [.slc (List.map Tassess_part.enc r.1), .v (.int .i64 r.2)]) := by
 unfold assess_partsOf at h
 refine pf_of ?_
 refine penter Tryz.func39 fk39 rfl Tryz.ntmps39 Tryz.results39 rfl ?_
 refine yab (yaa ?_)
 refine ybl rfl rfl rfl (pl_box (cs := [.v (.string p0.Code), .v (.string p0.Origin), .v (.bool p0.Proof), .v (.int .i64 p0.Company), .v (.int .i64 p0.Day), .v (.int .i64 p0.Quantity), .v (.int .i64 p0.Value), .v (.int .i64 p0.Granted)]) rfl rfl (fun b1 => ?_))
 refine zas (p := .v (.slice none 0 0)) rfl rfl rfl rfl rfl ?_
 refine zas (p := .v (.int .i64 0)) rfl rfl rfl rfl rfl ?_
 refine yad (yae (yab (yaa ?_)))
 refine yah rfl rfl rfl (yac rfl rfl rfl rfl rfl (.p rfl)) ?_
 refine yah rfl rfl rfl (yag (p := .v (.int .i64 p0.Quantity)) rfl (.p rfl) zm0 rfl) ?_
 refine yah rfl rfl rfl (yac rfl rfl rfl rfl rfl (.p rfl)) ?_
 refine yah rfl rfl rfl (yag (p := .v (.int .i64 p0.Granted)) rfl (.p rfl) zm0 rfl) ?_
 refine yah rfl rfl rfl (yas rfl (.p rfl) (.p rfl) rfl) ?_
 refine zas (p := .v (.int .i64 (IntKind.i64.wrap (p0.Quantity - p0.Granted)))) rfl rfl rfl rfl rfl ?_
 refine yad (yae (yab (yaa ?_)))
 refine yah rfl rfl rfl (yac rfl rfl rfl rfl rfl (.p rfl)) ?_
 refine yah rfl rfl rfl (yag (p := .v (.int .i64 p0.Value)) rfl (.p rfl) zm0 rfl) ?_
 refine ybl rfl rfl rfl (pl_lit rfl rfl rfl rfl rfl (zic rfl (zic rfl zin)) rfl rfl rfl rfl (fun b2 => ?_))
 refine zas (p := .v (.slice (some ⟨b2, 0, none⟩) 2 2)) rfl rfl rfl rfl rfl ?_
 refine yad (yae (yab (yab (yaa ?_))))
 refine yah rfl rfl rfl (yac rfl rfl rfl rfl rfl (.p rfl)) ?_
 refine yah rfl rfl rfl (yag (p := .v (.int .i64 p0.Quantity)) rfl (.p rfl) zm1 rfl) ?_
 refine yah rfl rfl rfl (yak rfl (.p rfl) (.p rfl) rfl) ?_
 refine yad (yae ?_)
 refine yaf h ?_; clear h; intro q5 hq5 h
 refine ybe (Y := (Unit) × ((List Int))) (fun (_, l4) => [(1, .v (.pointer (some ⟨b1, 0, none⟩))), (4, .v (.int .i64 (IntKind.i64.wrap (p0.Quantity - p0.Granted)))), (5, .slc (List.map eI l4))]) (fun (_, l4) => [PRes.b b1 23 [.v (.string p0.Code), .v (.string p0.Origin), .v (.bool p0.Proof), .v (.int .i64 p0.Company), .v (.int .i64 p0.Day), .v (.int .i64 p0.Quantity), .v (.int .i64 p0.Value), .v (.int .i64 p0.Granted)]]) (fun (_, l4) => q5 = Sum.inl l4) ?_ ?_
 ·skip
  refine yal rfl (fun hc6 => ?_) (fun hc6 => ?_)
  ·replace hq5 := yav hc6 hq5
   refine yab (yaa ?_)
   refine zas (p := .v (.int .i64 0)) rfl rfl rfl rfl rfl ?_
   refine yad (yae (yab (yaa ?_)))
   refine yah rfl rfl rfl (yac rfl rfl rfl rfl rfl (.p rfl)) ?_
   refine yah rfl rfl rfl (yag (p := .v (.int .i64 p0.Value)) rfl (.p rfl) zm1 rfl) ?_
   refine yah rfl rfl rfl (yac rfl rfl rfl rfl rfl (.p rfl)) ?_
   refine yah rfl rfl rfl (yag (p := .v (.int .i64 p0.Granted)) rfl (.p rfl) zm1 rfl) ?_
   refine zmv (p := .v (.int .i64 (IntKind.i64.wrap (p0.Quantity - p0.Granted)))) rfl rfl rfl rfl rfl ?_
   refine ybl rfl rfl rfl (pl_lit rfl rfl rfl rfl rfl (zic rfl (zic rfl zin)) rfl rfl rfl rfl (fun b7 => ?_))
   refine pwl_frzt (css := List.map eI [p0.Granted, (IntKind.i64.wrap (p0.Quantity - p0.Granted))]) 26 rfl (by exact zph) ?_
   refine yaf hq5 ?_; clear hq5; intro x9 hx9 hq5
   refine ybd rfl rfl rfl rfl rfl (apportion_Share_ok hx9) ?_
   refine zmv (p := .tup [.slc (List.map eI x9.1), .v (.int .i64 x9.2)]) rfl rfl rfl rfl rfl ?_
   refine zex (p := .slc (List.map eI x9.1)) rfl rfl rfl rfl rfl rfl ?_
   refine zex (p := .v (.int .i64 x9.2)) rfl rfl rfl rfl rfl rfl ?_
   refine zas (p := .slc (List.map eI x9.1)) rfl rfl rfl rfl rfl ?_
   refine zas (p := .v (.int .i64 x9.2)) rfl rfl rfl rfl rfl ?_
   refine yad (yae (yab (yaa ?_)))
   refine zmv (p := .v (.int .i64 x9.2)) rfl rfl rfl rfl rfl ?_
   refine yah rfl rfl rfl (yak rfl (.p rfl) (.p rfl) rfl) ?_
   refine yad (yae ?_)
   refine yal rfl (fun hc10 => ?_) (fun hc10 => ?_)
   ·replace hq5 := yav hc10 hq5
    refine yab (yaa ?_)
    refine zmv (p := .v (.int .i64 x9.2)) rfl rfl rfl rfl rfl ?_
    refine zas (p := .v (.slice none 0 0)) rfl rfl rfl rfl rfl ?_
    refine zas (p := .v (.int .i64 x9.2)) rfl rfl rfl rfl rfl ?_
    refine yad (yae ?_)
    refine pwc_nil 2 rfl ?_
    refine yaq (pk_mid_ret ?_)
    obtain rfl := Option.some.inj hq5
    have h := (show some _ = some _ from h)
    obtain rfl := Option.some.inj h
    exact yar (prv_2 (yat rfl) (yat rfl)) zsn ⟨rfl, rfl⟩
   ·replace hq5 := yaw hc10 hq5
    refine yao ?_
    obtain rfl := Option.some.inj hq5
    exact ybb ((), x9.1) (zhc rfl (zhc rfl (zhc rfl zhn))) (zsc (zpt (zpt zph)) zsn) rfl
  ·replace hq5 := yaw hc6 hq5
   refine yao ?_
   refine pk_mid_cov (cov_frzt (css := List.map eI [0, p0.Value]) 5 rfl (by exact zph)) ?_
   obtain rfl := Option.some.inj hq5
   exact ybb ((), [0, p0.Value]) (zhc rfl (zhc rfl (zhc rfl zhn))) (zsc (zpt zph) zsn) rfl
 ·rintro ⟨_, l4⟩ τ hz; (try dsimp only at hz); subst q5; (try dsimp only at h); dsimp only [pupds]
  refine yab (yaa ?_)
  refine ybl rfl rfl rfl (pl_lit rfl rfl rfl rfl rfl (zic rfl (zic rfl zin)) rfl rfl rfl rfl (fun b11 => ?_))
  refine zas (p := .v (.slice (some ⟨b11, 0, none⟩) 2 2)) rfl rfl rfl rfl rfl ?_
  refine yad (yae (yab (yab (yaa ?_))))
  refine yah rfl rfl rfl (yac rfl rfl rfl rfl rfl (.p rfl)) ?_
  refine yah rfl rfl rfl (yag (p := .v (.bool p0.Proof)) rfl (.p rfl) zm1 rfl) ?_
  refine yad (yae ?_)
  refine yaf h ?_; clear h; intro q17 hq17 h
  refine ybe (Y := (Option Addr × Nat) × ((List Int))) (fun ((a14, c15), l16) => [(1, .v (.pointer (some ⟨b1, 0, none⟩))), (4, .v (.int .i64 (IntKind.i64.wrap (p0.Quantity - p0.Granted)))), (5, .slc (List.map eI l4)), (7, .v (.slice a14 l16.length c15))]) (fun ((a14, c15), l16) => [PRes.b b1 23 [.v (.string p0.Code), .v (.string p0.Origin), .v (.bool p0.Proof), .v (.int .i64 p0.Company), .v (.int .i64 p0.Day), .v (.int .i64 p0.Quantity), .v (.int .i64 p0.Value), .v (.int .i64 p0.Granted)], PRes.row a14 l16.length c15 3 1 (List.map eI l16)]) (fun ((a14, c15), l16) => q17 = l16) ?_ ?_
  ·skip
   refine yal rfl (fun hc18 => ?_) (fun hc18 => ?_)
   ·replace hq17 := yav hc18 hq17
    refine yaa ?_
    refine zmv (p := .v (.slice (some ⟨b11, 0, none⟩) 2 2)) rfl rfl rfl rfl rfl ?_
    refine ybl rfl rfl rfl (pl_lit rfl rfl rfl rfl rfl (zic rfl zin) rfl rfl rfl rfl (fun b19 => ?_))
    refine yaf hq17 ?_; clear hq17; intro l21 hl21 hq17
    refine ybl rfl rfl rfl (pl_app_o (enc := eI) rfl rfl rfl rfl rfl rfl rfl rfl rfl zm0 (by exact zpt zph) hl21 (fun a22 c23 => ?_))
    refine zas (p := .v (.slice a22 l21.length c23)) rfl rfl rfl rfl rfl ?_
    refine yad ?_
    obtain rfl := Option.some.inj hq17
    exact ybb ((a22, c23), l21) (zhc rfl (zhc rfl (zhc rfl (zhc rfl zhn)))) (zsc (zpt (zpt zph)) (zsc zph zsn)) rfl
   ·replace hq17 := yaw hc18 hq17
    refine yao ?_
    obtain rfl := Option.some.inj hq17
    exact ybb (((some ⟨b11, 0, none⟩), 2), [1, 2]) (zhc rfl (zhc rfl (zhc rfl (zhc rfl zhn)))) (zsc (zpt zph) (zsc zph zsn)) rfl
  ·rintro ⟨⟨a14, c15⟩, l16⟩ τ hz; (try dsimp only at hz); subst q17; (try dsimp only at h); dsimp only [pupds]
   refine yab (yaa ?_)
   refine zas (p := .v (.slice none 0 0)) rfl rfl rfl rfl rfl ?_
   refine yad (yae (yab (yab (yaa ?_))))
   refine yah rfl rfl rfl (yac rfl rfl rfl rfl rfl (.p rfl)) ?_
   refine yah rfl rfl rfl (yag (p := .v (.int .i64 p0.Granted)) rfl (.p rfl) zm0 rfl) ?_
   refine yah rfl rfl rfl (yak rfl (.p rfl) (.p rfl) rfl) ?_
   refine yad (yae ?_)
   refine yaf h ?_; clear h; intro q29 hq29 h
   refine ybe (Y := (Option Addr × Nat) × ((List Tassess_part))) (fun ((a26, c27), l28) => [(1, .v (.pointer (some ⟨b1, 0, none⟩))), (4, .v (.int .i64 (IntKind.i64.wrap (p0.Quantity - p0.Granted)))), (5, .slc (List.map eI l4)), (7, .slc (List.map eI l16)), (8, .v (.slice a26 l28.length c27))]) (fun ((a26, c27), l28) => [PRes.b b1 23 [.v (.string p0.Code), .v (.string p0.Origin), .v (.bool p0.Proof), .v (.int .i64 p0.Company), .v (.int .i64 p0.Day), .v (.int .i64 p0.Quantity), .v (.int .i64 p0.Value), .v (.int .i64 p0.Granted)], PRes.row a26 l28.length c27 74 3 (List.map Tassess_part.enc l28)]) (fun ((a26, c27), l28) => q29 = l28) ?_ ?_
   ·skip
    refine yal rfl (fun hc30 => ?_) (fun hc30 => ?_)
    ·replace hq29 := yav hc30 hq29
     refine pwc_frzt (css := List.map eI l16) 7 rfl (by exact zpt zph) ?_
     refine pwc_nilrow 74 3 ?_
     refine pwc_draw (ρd := [PRes.row none _ _ _ _ _]) [(8, 3), (0, 0), (1, 0), (2, 0), (3, 0), (4, 0), (5, 0), (6, 0), (7, 1), (8, 2), (9, 1), (10, 0), (11, 1), (12, 1), (13, 0)] _ (List.Perm.refl _) (by kernel_rfl) rfl ?_
     refine pwd_tell (plate_lit rfl rfl rfl rfl rfl (zic rfl zin) rfl rfl rfl) ?_
     refine ybf rfl rfl rfl (yam (p := .v (.slice none 0 0)) rfl (.p rfl)) ?_
     refine ybf rfl rfl rfl (yac rfl rfl rfl rfl rfl (.p rfl)) ?_
     refine ybf rfl rfl rfl (yag (p := .v (.int .i64 p0.Granted)) rfl (.p rfl) zm1 rfl) ?_
     refine ybf rfl rfl rfl (yam (p := .slc (List.map eI l4)) rfl (.p rfl)) ?_
     refine yaf hq29 ?_; clear hq29; intro m32 hm32 hq29
     refine ybf rfl rfl rfl (pq_index (enc := eI) rfl rfl rfl (fun _ => rfl) (.p rfl) (.p rfl) (fun _ => hm32)) ?_
     refine ybf rfl rfl rfl (pq_load_r (p := .v (.int .i64 m32)) rfl (.p rfl) rfl) ?_
     refine ybf rfl rfl rfl (yam (p := .slc (List.map eI l16)) rfl (.p rfl)) ?_
     refine yaf hq29 ?_; clear hq29; intro x33 hx33 hq29
     refine pwd_l rfl rfl rfl (pl_callR rfl rfl (ρ1 := []) (List.Perm.refl _) (slices_Clone_int_int_ok hx33) ?_); rintro _ _ ⟨a34, c35, rfl, rfl⟩
     refine pwd_late (plate_lit rfl rfl rfl rfl rfl (zic rfl zin) rfl rfl rfl) (fun _ => rfl) rfl (fun b37 => ?_)
     refine yaf hq29 ?_; clear hq29; intro l39 hl39 hq29
     refine pwd_l rfl rfl rfl (pl_fz (pl_app_b (enc := eI) rfl rfl rfl rfl rfl (fun _ => rfl) rfl rfl rfl rfl zm0 rfl (by exact zpt zph) hl39 (fun a40 c41 => ⟨_, _, _, _, _, _, _, rfl, by (repeat (first | exact zph | apply zpt)), ?_⟩)))
     refine ybf rfl rfl rfl (pq_buildZ (cs := [.v (.int .i64 p0.Granted), .v (.int .i64 m32), .slc (List.map eI l39)]) rfl rfl rfl rfl rfl rfl rfl (zfc rfl rfl rfl rfl (zlc zln) (zfc rfl rfl rfl rfl (zlt (zlc zln)) (zfc rfl rfl rfl rfl (zlt (zlt (zlc zln))) zfn)))) ?_
     refine pwd_l rfl rfl rfl (pl_lit rfl rfl rfl rfl rfl (zic rfl zin) rfl rfl rfl rfl (fun b42 => ?_))
     refine yaf hq29 ?_; clear hq29; intro l44 hl44 hq29
     refine pwd_l rfl rfl rfl (pl_app_o (enc := Tassess_part.enc) rfl rfl rfl rfl rfl rfl rfl rfl rfl zm0 (by exact zpt (zpt zph)) hl44 (fun a45 c46 => ?_))
     refine ybf rfl rfl rfl (pq_assign (p := .v (.slice a45 l44.length c46)) rfl (.p rfl)) ?_
     refine pwd_nil ?_
     obtain rfl := Option.some.inj hq29
     exact ybb ((a45, c46), l44) (zhc rfl (zhc rfl (zhc rfl (zhc rfl (zhc rfl zhn))))) (zsc (zpt (zpt (zpt (zpt zph)))) (zsc zph zsn)) rfl
    ·replace hq29 := yaw hc30 hq29
     refine yao ?_
     refine pk_mid_cov (cov_frzt (css := List.map eI l16) 7 rfl (by exact zpt zph)) ?_
     refine pk_mid_cov (cov_nilrow 74 3) ?_
     obtain rfl := Option.some.inj hq29
     exact ybb ((none, 0), ([] : (List Tassess_part))) (zhc rfl (zhc rfl (zhc rfl (zhc rfl (zhc rfl zhn))))) (zsc (zpt (zpt zph)) (zsc zph zsn)) rfl
   ·rintro ⟨⟨a26, c27⟩, l28⟩ τ hz; (try dsimp only at hz); subst q29; (try dsimp only at h); dsimp only [pupds]
    refine yab (yab (yaa ?_))
    refine zmv (p := .v (.int .i64 (IntKind.i64.wrap (p0.Quantity - p0.Granted)))) rfl rfl rfl rfl rfl ?_
    refine yah rfl rfl rfl (yak rfl (.p rfl) (.p rfl) rfl) ?_
    refine zmv (p := .v (.bool (decide (0 < (IntKind.i64.wrap (p0.Quantity - p0.Granted)))))) rfl rfl rfl rfl rfl ?_
    refine yaj (yai rfl rfl rfl) rfl rfl (yac rfl rfl rfl rfl rfl (.p rfl)) ?_
    refine yaj (yai rfl rfl rfl) rfl rfl (yag (p := .v (.int .i64 p0.Quantity)) rfl (.g rfl) zm0 rfl) ?_
    refine yaj (yai rfl rfl rfl) rfl rfl (yak rfl (.g rfl) (.p rfl) rfl) ?_
    refine yah rfl rfl rfl (pq_or rfl (.p rfl) (.p rfl) (.g rfl)) ?_
    refine yad (yae ?_)
    refine yaf h ?_; clear h; intro q52 hq52 h
    refine ybe (Y := (Option Addr × Nat) × ((List Tassess_part))) (fun ((a49, c50), l51) => [(1, .v (.pointer (some ⟨b1, 0, none⟩))), (8, .v (.slice a49 l51.length c50))]) (fun ((a49, c50), l51) => [PRes.b b1 23 [.v (.string p0.Code), .v (.string p0.Origin), .v (.bool p0.Proof), .v (.int .i64 p0.Company), .v (.int .i64 p0.Day), .v (.int .i64 p0.Quantity), .v (.int .i64 p0.Value), .v (.int .i64 p0.Granted)], PRes.row a49 l51.length c50 74 3 (List.map Tassess_part.enc l51)]) (fun ((a49, c50), l51) => q52 = l51) ?_ ?_
    ·skip
     refine yal rfl (fun hc53 => ?_) (fun hc53 => ?_)
     ·replace hq52 := yav hc53 hq52
      refine yaa ?_
      refine zmv (p := .v (.slice a26 l28.length c27)) rfl rfl rfl rfl rfl ?_
      refine zmv (p := .v (.int .i64 (IntKind.i64.wrap (p0.Quantity - p0.Granted)))) rfl rfl rfl rfl rfl ?_
      refine zmv (p := .slc (List.map eI l4)) rfl rfl rfl rfl rfl ?_
      refine yaf hq52 ?_; clear hq52; intro m54 hm54 hq52
      refine yah rfl rfl rfl (pq_index (enc := eI) rfl rfl rfl (fun _ => rfl) (.p rfl) (.p rfl) (fun _ => hm54)) ?_
      refine yah rfl rfl rfl (pq_load_r (p := .v (.int .i64 m54)) rfl (.p rfl) rfl) ?_
      refine zmv (p := .slc (List.map eI l16)) rfl rfl rfl rfl rfl ?_
      refine yah rfl rfl rfl (pq_build (cs := [.v (.int .i64 (IntKind.i64.wrap (p0.Quantity - p0.Granted))), .v (.int .i64 m54), .slc (List.map eI l16)]) rfl rfl rfl rfl rfl rfl rfl (zfc rfl rfl rfl rfl (zlc zln) (zfc rfl rfl rfl rfl (zlt (zlc zln)) (zfc rfl rfl rfl rfl (zlt (zlt (zlc zln))) zfn)))) ?_
      refine ybl rfl rfl rfl (pl_lit rfl rfl rfl rfl rfl (zic rfl zin) rfl rfl rfl rfl (fun b55 => ?_))
      refine yaf hq52 ?_; clear hq52; intro l57 hl57 hq52
      refine ybl rfl rfl rfl (pl_app_o (enc := Tassess_part.enc) rfl rfl rfl rfl rfl rfl rfl rfl rfl zm0 (by exact zpt (zpt zph)) hl57 (fun a58 c59 => ?_))
      refine zas (p := .v (.slice a58 l57.length c59)) rfl rfl rfl rfl rfl ?_
      refine yad ?_
      obtain rfl := Option.some.inj hq52
      exact ybb ((a58, c59), l57) (zhc rfl (zhc rfl zhn)) (zsc (zpt (zpt zph)) (zsc zph zsn)) rfl
     ·replace hq52 := yaw hc53 hq52
      refine yao ?_
      obtain rfl := Option.some.inj hq52
      exact ybb ((a26, c27), l28) (zhc rfl (zhc rfl zhn)) (zsc zph (zsc zph zsn)) rfl
    ·rintro ⟨⟨a49, c50⟩, l51⟩ τ hz; (try dsimp only at hz); subst q52; (try dsimp only at h); dsimp only [pupds]
     refine yab (yaa ?_)
     refine zmv (p := .v (.slice a49 l51.length c50)) rfl rfl rfl rfl rfl ?_
     refine yah rfl rfl rfl (yac rfl rfl rfl rfl rfl (.p rfl)) ?_
     refine yah rfl rfl rfl (yag (p := .v (.int .i64 p0.Quantity)) rfl (.p rfl) zm0 rfl) ?_
     refine yah rfl rfl rfl (yac rfl rfl rfl rfl rfl (.p rfl)) ?_
     refine yah rfl rfl rfl (yag (p := .v (.int .i64 p0.Value)) rfl (.p rfl) zm0 rfl) ?_
     refine ybl rfl rfl rfl (pl_lit rfl rfl rfl rfl rfl (zic rfl zin) rfl rfl rfl rfl (fun b61 => ?_))
     refine pwl_frzt (css := List.map eI [5]) 76 rfl (by exact zph) ?_
     refine yah rfl rfl rfl (pq_build (cs := [.v (.int .i64 p0.Quantity), .v (.int .i64 p0.Value), .slc (List.map eI [5])]) rfl rfl rfl rfl rfl rfl rfl (zfc rfl rfl rfl rfl (zlc zln) (zfc rfl rfl rfl rfl (zlt (zlc zln)) (zfc rfl rfl rfl rfl (zlt (zlt (zlc zln))) zfn)))) ?_
     refine yah rfl rfl rfl (yac rfl rfl rfl rfl rfl (.p rfl)) ?_
     refine yah rfl rfl rfl (yag (p := .v (.int .i64 p0.Quantity)) rfl (.p rfl) zm1 rfl) ?_
     refine yah rfl rfl rfl (yac rfl rfl rfl rfl rfl (.p rfl)) ?_
     refine yah rfl rfl rfl (yag (p := .v (.int .i64 p0.Value)) rfl (.p rfl) zm1 rfl) ?_
     refine ybl rfl rfl rfl (pl_lit rfl rfl rfl rfl rfl (zic rfl zin) rfl rfl rfl rfl (fun b63 => ?_))
     refine pwl_frzt (css := List.map eI [6]) 82 rfl (by exact zph) ?_
     refine yah rfl rfl rfl (pq_build (cs := [.v (.int .i64 p0.Quantity), .v (.int .i64 p0.Value), .slc (List.map eI [6])]) rfl rfl rfl rfl rfl rfl rfl (zfc rfl rfl rfl rfl (zlc zln) (zfc rfl rfl rfl rfl (zlt (zlc zln)) (zfc rfl rfl rfl rfl (zlt (zlt (zlc zln))) zfn)))) ?_
     refine ybl rfl rfl rfl (pl_lit rfl rfl rfl rfl rfl (zic rfl (zic rfl zin)) rfl rfl rfl rfl (fun b65 => ?_))
     refine yaf h ?_; clear h; intro l67 hl67 h
     refine ybl rfl rfl rfl (pl_app_o (enc := Tassess_part.enc) rfl rfl rfl rfl rfl rfl rfl rfl rfl zm0 (by exact zpt (zpt (zpt (zpt zph)))) hl67 (fun a68 c69 => ?_))
     refine zas (p := .v (.slice a68 l67.length c69)) rfl rfl rfl rfl rfl ?_
     refine zas (p := .v (.int .i64 0)) rfl rfl rfl rfl rfl ?_
     refine yad (yae ?_)
     refine pwc_frzt (css := List.map Tassess_part.enc l67) 2 rfl (by exact zph) ?_
     refine yaq ?_
     obtain rfl := Option.some.inj h
     exact yar (prv_2 (yat rfl) (yat rfl)) zsn ⟨rfl, rfl⟩
end SX
end Go.Proofs.YtfcecieppoljlaaGreatDoor
set_option maxRecDepth 100000
namespace Go.Proofs.YtfcecieppoljlaaGreatDoor
namespace SX
open Go
attribute [local irreducible] PWL PWC PWD POpL POpQ PEv PGuardIs PSub PPick PUpd PSplice PFill PLit PF PFV PCall pseqK pblockK pmidK pcutK ploopK pretK Cov PHolds loopF idx app mk gd lb nz ge0 cat sub ssub iand ior ixor ishl ishr imin imax IntKind.wrap Int.tmod Int.tdiv Op.bytesLess strOfNums
def exact_Add (p0 : Texact_Wide) (p1 : Texact_Wide) : Option (Texact_Wide × Int) := Option.bind (math_bits_Add64 p0.Lo p1.Lo 0) (fun x4 => Option.bind (math_bits_Add64 p0.Hi p1.Hi x4.2) (fun x5 => cond (x5.2 != 0) (some ((⟨0, 0⟩ : Texact_Wide), 3)) (some ((⟨x5.1, x4.1⟩ : Texact_Wide), 0))))
set_option maxHeartbeats 4000000 in
theorem exact_Add_ok {p0 : Texact_Wide} {p1 : Texact_Wide} {r : (Texact_Wide × Int)}  (h : exact_Add p0 p1 = some r) : PF 95 [.agg [.v (.int .u64 p0.Hi), .v (.int .u64 p0.Lo)], .agg [.v (.int .u64 p1.Hi), .v (.int .u64 p1.Lo)]] (.tup [.agg [.v (.int .u64 r.1.Hi), .v (.int .u64 r.1.Lo)], .v (.int .i64 r.2)]) := by
 unfold exact_Add at h
 refine pf_of ?_
 refine penter Tryz.func95 fk95 rfl Tryz.ntmps95 Tryz.results95 rfl ?_
 refine yab (yaa ?_)
 refine ybl rfl rfl rfl (pl_box (cs := [.v (.int .u64 p0.Hi), .v (.int .u64 p0.Lo)]) rfl rfl (fun b1 => ?_))
 refine ybl rfl rfl rfl (pl_box (cs := [.v (.int .u64 p1.Hi), .v (.int .u64 p1.Lo)]) rfl rfl (fun b2 => ?_))
 refine ybl rfl rfl rfl (pl_alloc (cs := [.v (.int .u64 0), .v (.int .u64 0)]) rfl rfl rfl rfl (fun b3 => ?_))
 refine zas (p := .v (.int .i64 0)) rfl rfl rfl rfl rfl ?_
 refine yad (yae (yab (yaa ?_)))
 refine yah rfl rfl rfl (yac rfl rfl rfl rfl rfl (.p rfl)) ?_
 refine yah rfl rfl rfl (yag (p := .v (.int .u64 p0.Lo)) rfl (.p rfl) zm2 rfl) ?_
 refine yah rfl rfl rfl (yac rfl rfl rfl rfl rfl (.p rfl)) ?_
 refine yah rfl rfl rfl (yag (p := .v (.int .u64 p1.Lo)) rfl (.p rfl) zm1 rfl) ?_
 refine yaf h ?_; clear h; intro x4 hx4 h
 refine ybl rfl rfl rfl (pl_add64 rfl rfl hx4 ?_)
 refine zmv (p := .tup [.v (.int .u64 x4.1), .v (.int .u64 x4.2)]) rfl rfl rfl rfl rfl ?_
 refine zex (p := .v (.int .u64 x4.1)) rfl rfl rfl rfl rfl rfl ?_
 refine zex (p := .v (.int .u64 x4.2)) rfl rfl rfl rfl rfl rfl ?_
 refine zas (p := .v (.int .u64 x4.1)) rfl rfl rfl rfl rfl ?_
 refine zas (p := .v (.int .u64 x4.2)) rfl rfl rfl rfl rfl ?_
 refine yad (yae (yab (yaa ?_)))
 refine yah rfl rfl rfl (yac rfl rfl rfl rfl rfl (.p rfl)) ?_
 refine yah rfl rfl rfl (yag (p := .v (.int .u64 p0.Hi)) rfl (.p rfl) zm2 rfl) ?_
 refine yah rfl rfl rfl (yac rfl rfl rfl rfl rfl (.p rfl)) ?_
 refine yah rfl rfl rfl (yag (p := .v (.int .u64 p1.Hi)) rfl (.p rfl) zm1 rfl) ?_
 refine zmv (p := .v (.int .u64 x4.2)) rfl rfl rfl rfl rfl ?_
 refine yaf h ?_; clear h; intro x5 hx5 h
 refine ybl rfl rfl rfl (pl_add64 rfl rfl hx5 ?_)
 refine zmv (p := .tup [.v (.int .u64 x5.1), .v (.int .u64 x5.2)]) rfl rfl rfl rfl rfl ?_
 refine zex (p := .v (.int .u64 x5.1)) rfl rfl rfl rfl rfl rfl ?_
 refine zex (p := .v (.int .u64 x5.2)) rfl rfl rfl rfl rfl rfl ?_
 refine zas (p := .v (.int .u64 x5.1)) rfl rfl rfl rfl rfl ?_
 refine zas (p := .v (.int .u64 x5.2)) rfl rfl rfl rfl rfl ?_
 refine yad (yae (yab (yab (yaa ?_))))
 refine zmv (p := .v (.int .u64 x5.2)) rfl rfl rfl rfl rfl ?_
 refine yah rfl rfl rfl (yak rfl (.p rfl) (.p rfl) rfl) ?_
 refine yad (yae ?_)
 refine yal rfl (fun hc6 => ?_) (fun hc6 => ?_)
 ·replace h := yav hc6 h
  refine yab (yaa ?_)
  refine yah rfl rfl rfl (pq_build (cs := [.v (.int .u64 0), .v (.int .u64 0)]) rfl rfl rfl rfl rfl rfl rfl zfn) ?_
  refine pwl_l0 rfl rfl (yax (vs := [.v (.int .u64 0), .v (.int .u64 0)]) rfl rfl rfl rfl rfl zuh (zlc (zlc zln)) ?_)
  refine zas (p := .v (.int .i64 3)) rfl rfl rfl rfl rfl ?_
  refine yad (yae (yaq (yap ?_)))
  obtain rfl := Option.some.inj h
  exact yar (prv_2 (prv1_c rfl zm0 rfl) (yat rfl)) zsn ⟨rfl, rfl⟩
 ·replace h := yaw hc6 h
  refine yao (yae (yab (yaa ?_)))
  refine zmv (p := .v (.int .u64 x5.1)) rfl rfl rfl rfl rfl ?_
  refine zmv (p := .v (.int .u64 x4.1)) rfl rfl rfl rfl rfl ?_
  refine yah rfl rfl rfl (pq_build (cs := [.v (.int .u64 x5.1), .v (.int .u64 x4.1)]) rfl rfl rfl rfl rfl rfl rfl (zfc rfl rfl rfl rfl (zlc zln) (zfc rfl rfl rfl rfl (zlt (zlc zln)) zfn))) ?_
  refine pwl_l0 rfl rfl (yax (vs := [.v (.int .u64 x5.1), .v (.int .u64 x4.1)]) rfl rfl rfl rfl rfl zuh (zlc (zlc zln)) ?_)
  refine zas (p := .v (.int .i64 0)) rfl rfl rfl rfl rfl ?_
  refine yad (yae (yaq ?_))
  obtain rfl := Option.some.inj h
  exact yar (prv_2 (prv1_c rfl zm0 rfl) (yat rfl)) zsn ⟨rfl, rfl⟩
def duty_Evaluate_1 (p0 : Int) (p1 : Int) (p2 : Int) : Option Texact_Wide := Option.bind (exact_Mul (IntKind.u64.wrap ((IntKind.u64.wrap p0) * (IntKind.u64.wrap p1))) p2) (fun x2 => some x2)
set_option maxHeartbeats 4000000 in
theorem duty_Evaluate_1_ok {p0 : Int} {p1 : Int} {p2 : Int} {r : Texact_Wide}  (h : duty_Evaluate_1 p0 p1 p2 = some r) : PF 93 [.v (.int .i64 p0), .ref [.v (.int .i64 p1)] 0, .ref [.v (.int .u64 p2)] 0] (.agg [.v (.int .u64 r.Hi), .v (.int .u64 r.Lo)]) := by
 unfold duty_Evaluate_1 at h
 refine pf_of ?_
 refine penter Tryz.func93 fk93 rfl Tryz.ntmps93 Tryz.results93 rfl ?_
 refine yab (yaa ?_)
 refine ybl rfl rfl rfl (pl_alloc (cs := [.v (.int .u64 0), .v (.int .u64 0)]) rfl rfl rfl rfl (fun b1 => ?_))
 refine yad (yae (yab (yaa ?_)))
 refine zmv (p := .v (.int .i64 p0)) rfl rfl rfl rfl rfl ?_
 refine yah rfl rfl rfl (pq_conv rfl rfl rfl (.p rfl)) ?_
 refine yah rfl rfl rfl (pq_load_r (p := .v (.int .i64 p1)) rfl (.p rfl) rfl) ?_
 refine yah rfl rfl rfl (pq_conv rfl rfl rfl (.p rfl)) ?_
 refine yah rfl rfl rfl (yas rfl (.p rfl) (.p rfl) rfl) ?_
 refine yah rfl rfl rfl (pq_load_r (p := .v (.int .u64 p2)) rfl (.p rfl) rfl) ?_
 refine yaf h ?_; clear h; intro x2 hx2 h
 refine ybd rfl rfl rfl rfl rfl (exact_Mul_ok hx2) ?_
 refine pwl_l0 rfl rfl (yax (vs := [.v (.int .u64 x2.Hi), .v (.int .u64 x2.Lo)]) rfl rfl rfl rfl rfl zuh (zlc (zlc zln)) ?_)
 refine yad (yae (yaq ?_))
 obtain rfl := Option.some.inj h
 exact yar (prv_1 (prv1_c rfl zm0 rfl)) zsn ⟨rfl, rfl⟩
def duty_Evaluate (p0 : TDuty) (p1 : Int) (p2 : Int) : Option (Int × Int) := Option.bind (duty_Validate p0) (fun x3 => cond (x3 != 0) (some (0, x3)) (cond ((((decide (p1 < 0)) || (decide (1000000000000 < p1))) || (decide (p2 < 0))) || (decide (1000000000 < p2))) (some (0, 2)) (Option.bind (duty_Evaluate_1 p0.Rate p1 (IntKind.u64.wrap (imax p0.Per 1))) (fun x7 => Option.bind (exact_Mul (IntKind.u64.wrap ((IntKind.u64.wrap p0.Amount) * (IntKind.u64.wrap p2))) 1000000) (fun x8 => Option.bind (exact_Add x7 x8) (fun x9 => cond (x9.2 != 0) (some (0, 3)) (Option.bind (gd p0.HasMost (duty_Evaluate_1 p0.Most p1 (IntKind.u64.wrap (imax p0.Per 1)))) (fun x12 => Option.bind (gd p0.HasMost (exact_CompareWide x9.1 x12)) (fun x13 => Option.bind (cond (p0.HasMost && (decide (0 < x13))) (Option.bind (duty_Evaluate_1 p0.Most p1 (IntKind.u64.wrap (imax p0.Per 1))) (fun x18 => some (x18.Hi, x18.Lo))) (some (x9.1.Hi, x9.1.Lo))) (fun (v14, v15) => Option.bind (gd p0.HasLeast (duty_Evaluate_1 p0.Least p1 (IntKind.u64.wrap (imax p0.Per 1)))) (fun x19 => Option.bind (gd p0.HasLeast (exact_CompareWide (⟨v14, v15⟩ : Texact_Wide) x19)) (fun x20 => Option.bind (cond (p0.HasLeast && (decide (x20 < 0))) (Option.bind (duty_Evaluate_1 p0.Least p1 (IntKind.u64.wrap (imax p0.Per 1))) (fun x25 => some (x25.Hi, x25.Lo))) (some (v14, v15))) (fun (v21, v22) => Option.bind (exact_Div (⟨v21, v22⟩ : Texact_Wide) (IntKind.u64.wrap (1000000 * (IntKind.u64.wrap (imax p0.Per 1)))) 2) (fun x26 => cond ((x26.2 != 0) || (decide (1000000000000 < x26.1))) (some (0, 3)) (some ((IntKind.i64.wrap x26.1), 0))))))))))))))))
set_option maxHeartbeats 4000000 in
theorem duty_Evaluate_ok {p0 : TDuty} {p1 : Int} {p2 : Int} {r : (Int × Int)}  (h : duty_Evaluate p0 p1 p2 = some r) : PF 62 [.agg [.v (.int .i64 p0.Rate), .v (.int .i64 p0.Amount), .v (.int .i64 p0.Per), .v (.bool p0.HasMost), .v (.int .i64 p0.Most), .v (.bool p0.HasLeast), .v (.int .i64 p0.Least)], .v (.int .i64 p1), .v (.int .i64 p2)] (.tup [.v (.int .i64 r.1), .v (.int .i64 r.2)]) := by
 unfold duty_Evaluate at h
 refine pf_of ?_
 refine penter Tryz.func62 fk62 rfl Tryz.ntmps62 Tryz.results62 rfl ?_
 refine yab (yaa ?_)
 refine ybl rfl rfl rfl (pl_box (cs := [.v (.int .i64 p0.Rate), .v (.int .i64 p0.Amount), .v (.int .i64 p0.Per), .v (.bool p0.HasMost), .v (.int .i64 p0.Most), .v (.bool p0.HasLeast), .v (.int .i64 p0.Least)]) rfl rfl (fun b1 => ?_))
 refine ybl rfl rfl rfl (pl_box (cs := [.v (.int .i64 p1)]) rfl rfl (fun b2 => ?_))
 refine zas (p := .v (.int .i64 0)) rfl rfl rfl rfl rfl ?_
 refine zas (p := .v (.int .i64 0)) rfl rfl rfl rfl rfl ?_
 refine yad (yae (yab (yab (yaa ?_))))
 refine yah rfl rfl rfl (yag (p := .agg [.v (.int .i64 p0.Rate), .v (.int .i64 p0.Amount), .v (.int .i64 p0.Per), .v (.bool p0.HasMost), .v (.int .i64 p0.Most), .v (.bool p0.HasLeast), .v (.int .i64 p0.Least)]) rfl (.p rfl) zm1 rfl) ?_
 refine yaf h ?_; clear h; intro x3 hx3 h
 refine ybd rfl rfl rfl rfl rfl (duty_Validate_ok hx3) ?_
 refine zas (p := .v (.int .i64 x3)) rfl rfl rfl rfl rfl ?_
 refine yad (yae (yab (yaa ?_)))
 refine zmv (p := .v (.int .i64 x3)) rfl rfl rfl rfl rfl ?_
 refine yah rfl rfl rfl (yak rfl (.p rfl) (.p rfl) rfl) ?_
 refine yad (yae ?_)
 refine yal rfl (fun hc4 => ?_) (fun hc4 => ?_)
 ·replace h := yav hc4 h
  refine yab (yaa ?_)
  refine zmv (p := .v (.int .i64 x3)) rfl rfl rfl rfl rfl ?_
  refine zas (p := .v (.int .i64 0)) rfl rfl rfl rfl rfl ?_
  refine zas (p := .v (.int .i64 x3)) rfl rfl rfl rfl rfl ?_
  refine yad (yae (yaq (yap ?_)))
  obtain rfl := Option.some.inj h
  exact yar (prv_2 (yat rfl) (yat rfl)) zsn ⟨rfl, rfl⟩
 ·replace h := yaw hc4 h
  refine yao (yae (yab (yab (yaa ?_))))
  refine yah rfl rfl rfl (yag (p := .v (.int .i64 p1)) rfl (.p rfl) zm0 rfl) ?_
  refine yah rfl rfl rfl (yak rfl (.p rfl) (.p rfl) rfl) ?_
  refine zmv (p := .v (.bool (decide (p1 < 0)))) rfl rfl rfl rfl rfl ?_
  refine yaj (yai rfl rfl rfl) rfl rfl (yag (p := .v (.int .i64 p1)) rfl (.p rfl) zm0 rfl) ?_
  refine yaj (yai rfl rfl rfl) rfl rfl (yak rfl (.g rfl) (.p rfl) rfl) ?_
  refine yah rfl rfl rfl (pq_or rfl (.p rfl) (.p rfl) (.g rfl)) ?_
  refine zmv (p := .v (.bool ((decide (p1 < 0)) || (decide (1000000000000 < p1))))) rfl rfl rfl rfl rfl ?_
  refine yaj (yai rfl rfl rfl) rfl rfl (yam (p := .v (.int .i64 p2)) rfl (.p rfl)) ?_
  refine yaj (yai rfl rfl rfl) rfl rfl (yak rfl (.g rfl) (.p rfl) rfl) ?_
  refine yah rfl rfl rfl (pq_or rfl (.p rfl) (.p rfl) (.g rfl)) ?_
  refine zmv (p := .v (.bool (((decide (p1 < 0)) || (decide (1000000000000 < p1))) || (decide (p2 < 0))))) rfl rfl rfl rfl rfl ?_
  refine yaj (yai rfl rfl rfl) rfl rfl (yam (p := .v (.int .i64 p2)) rfl (.p rfl)) ?_
  refine yaj (yai rfl rfl rfl) rfl rfl (yak rfl (.g rfl) (.p rfl) rfl) ?_
  refine yah rfl rfl rfl (pq_or rfl (.p rfl) (.p rfl) (.g rfl)) ?_
  refine yad (yae ?_)
  refine yal rfl (fun hc5 => ?_) (fun hc5 => ?_)
  ·replace h := yav hc5 h
   refine yab (yaa ?_)
   refine zas (p := .v (.int .i64 0)) rfl rfl rfl rfl rfl ?_
   refine zas (p := .v (.int .i64 2)) rfl rfl rfl rfl rfl ?_
   refine yad (yae (yaq (yap ?_)))
   obtain rfl := Option.some.inj h
   exact yar (prv_2 (yat rfl) (yat rfl)) zsn ⟨rfl, rfl⟩
  ·replace h := yaw hc5 h
   refine yao (yae (yab (yaa ?_)))
   refine yah rfl rfl rfl (yac rfl rfl rfl rfl rfl (.p rfl)) ?_
   refine yah rfl rfl rfl (yag (p := .v (.int .i64 p0.Per)) rfl (.p rfl) zm1 rfl) ?_
   refine yah rfl rfl rfl (pq_max rfl (.p rfl) (.p rfl)) ?_
   refine yah rfl rfl rfl (pq_conv rfl rfl rfl (.p rfl)) ?_
   refine ybl rfl rfl rfl (pl_alloc (cs := [.v (.int .u64 0)]) rfl rfl rfl rfl (fun b6 => ?_))
   refine pwl_l0 rfl rfl (yax (vs := [.v (.int .u64 (IntKind.u64.wrap (imax p0.Per 1)))]) rfl rfl rfl rfl rfl zuh (zlc zln) ?_)
   refine yad (yae (yab (yaa ?_)))
   refine pwl_frb 4 rfl (by exact zpt zph) ?_
   refine pwl_frb 9 rfl (by exact zpt zph) ?_
   refine yah rfl rfl rfl (pq_makeFunc rfl) ?_
   refine zas (p := .fn 93 [.ref [.v (.int .i64 p1)] 0, .ref [.v (.int .u64 (IntKind.u64.wrap (imax p0.Per 1)))] 0]) rfl rfl rfl rfl rfl ?_
   refine yad (yae (yab ?_))
   refine pwc_draw (ρd := []) [(0, 0), (1, 0), (2, 0), (4, 0), (5, 0), (6, 0), (7, 0), (8, 0), (9, 0), (3, 1), (10, 1), (11, 1), (12, 0), (13, 0), (14, 0), (15, 2), (16, 1), (17, 0)] _ (List.Perm.refl _) (by kernel_rfl) rfl ?_
   refine ybf rfl rfl rfl (yam (p := .fn 93 [.ref [.v (.int .i64 p1)] 0, .ref [.v (.int .u64 (IntKind.u64.wrap (imax p0.Per 1)))] 0]) rfl (.p rfl)) ?_
   refine ybf rfl rfl rfl (yac rfl rfl rfl rfl rfl (.p rfl)) ?_
   refine ybf rfl rfl rfl (yag (p := .v (.int .i64 p0.Rate)) rfl (.p rfl) zm2 rfl) ?_
   refine ybf rfl rfl rfl (yac rfl rfl rfl rfl rfl (.p rfl)) ?_
   refine ybf rfl rfl rfl (yag (p := .v (.int .i64 p0.Amount)) rfl (.p rfl) zm2 rfl) ?_
   refine ybf rfl rfl rfl (pq_conv rfl rfl rfl (.p rfl)) ?_
   refine ybf rfl rfl rfl (yam (p := .v (.int .i64 p2)) rfl (.p rfl)) ?_
   refine ybf rfl rfl rfl (pq_conv rfl rfl rfl (.p rfl)) ?_
   refine ybf rfl rfl rfl (yas rfl (.p rfl) (.p rfl) rfl) ?_
   refine yaf h ?_; clear h; intro x7 hx7 h
   refine pwd_callv rfl rfl rfl rfl rfl (pfv_of (duty_Evaluate_1_ok hx7)) ?_
   refine yaf h ?_; clear h; intro x8 hx8 h
   refine pwd_call rfl rfl rfl rfl rfl (exact_Mul_ok hx8) ?_
   refine yaf h ?_; clear h; intro x9 hx9 h
   refine pwd_call rfl rfl rfl rfl rfl (exact_Add_ok hx9) ?_
   refine ybf rfl rfl rfl (yam (p := .tup [.agg [.v (.int .u64 x9.1.Hi), .v (.int .u64 x9.1.Lo)], .v (.int .i64 x9.2)]) rfl (.p rfl)) ?_
   refine ybf rfl rfl rfl (pq_extract (p := .agg [.v (.int .u64 x9.1.Hi), .v (.int .u64 x9.1.Lo)]) rfl (.p rfl) rfl) ?_
   refine ybf rfl rfl rfl (pq_extract (p := .v (.int .i64 x9.2)) rfl (.p rfl) rfl) ?_
   refine pwd_late (plate_alloc rfl rfl rfl rfl rfl) (fun _ => rfl) rfl (fun b10 => ?_)
   refine pwd_l0 rfl rfl (yax (vs := [.v (.int .u64 x9.1.Hi), .v (.int .u64 x9.1.Lo)]) rfl rfl rfl rfl rfl zuh (zlc (zlc zln)) ?_)
   refine ybf rfl rfl rfl (pq_assign (p := .v (.int .i64 x9.2)) rfl (.p rfl)) ?_
   refine pwd_nil (yae (yab (yab (yaa ?_))))
   refine zmv (p := .v (.int .i64 x9.2)) rfl rfl rfl rfl rfl ?_
   refine yah rfl rfl rfl (yak rfl (.p rfl) (.p rfl) rfl) ?_
   refine yad (yae ?_)
   refine yal rfl (fun hc11 => ?_) (fun hc11 => ?_)
   ·replace h := yav hc11 h
    refine yab (yaa ?_)
    refine zas (p := .v (.int .i64 0)) rfl rfl rfl rfl rfl ?_
    refine zas (p := .v (.int .i64 3)) rfl rfl rfl rfl rfl ?_
    refine yad (yae (yaq (yap ?_)))
    obtain rfl := Option.some.inj h
    exact yar (prv_2 (yat rfl) (yat rfl)) zsn ⟨rfl, rfl⟩
   ·replace h := yaw hc11 h
    refine yao (yae (yab (yab ?_)))
    refine pwc_draw (ρd := []) [(0, 0), (1, 0), (2, 0), (3, 0), (4, 0), (5, 0), (6, 0), (7, 1), (8, 1), (9, 0), (10, 0)] _ (List.Perm.refl _) (by kernel_rfl) rfl ?_
    refine ybf rfl rfl rfl (yac rfl rfl rfl rfl rfl (.p rfl)) ?_
    refine ybf rfl rfl rfl (yag (p := .v (.bool p0.HasMost)) rfl (.p rfl) zm3 rfl) ?_
    refine ybf rfl rfl rfl (yam (p := .v (.bool p0.HasMost)) rfl (.p rfl)) ?_
    refine ybi (yan rfl rfl rfl) rfl rfl (yag (p := .agg [.v (.int .u64 x9.1.Hi), .v (.int .u64 x9.1.Lo)]) rfl (.p rfl) zm0 rfl) ?_
    refine ybi (yan rfl rfl rfl) rfl rfl (yam (p := .fn 93 [.ref [.v (.int .i64 p1)] 0, .ref [.v (.int .u64 (IntKind.u64.wrap (imax p0.Per 1)))] 0]) rfl (.p rfl)) ?_
    refine ybi (yan rfl rfl rfl) rfl rfl (yac rfl rfl rfl rfl rfl (.p rfl)) ?_
    refine ybi (yan rfl rfl rfl) rfl rfl (yag (p := .v (.int .i64 p0.Most)) rfl (.g rfl) zm3 rfl) ?_
    refine yaf h ?_; clear h; intro x12 hx12 h
    refine pwd_callvg (yan rfl rfl rfl) rfl rfl rfl (.g rfl) (ybg (.g rfl) (pargs_nil)) (fun hc => pfv_of (duty_Evaluate_1_ok (gd_t hx12 hc))) ?_
    refine yaf h ?_; clear h; intro x13 hx13 h
    refine pwd_callg (yan rfl rfl rfl) rfl rfl rfl (ybg (.g rfl) (ybg (.g rfl) (pargs_nil))) (fun hc => exact_CompareWide_ok (gd_t hx13 hc)) ?_
    refine ybi (yan rfl rfl rfl) rfl rfl (yak rfl (.g rfl) (.p rfl) rfl) ?_
    refine ybf rfl rfl rfl (pq_and rfl (.p rfl) (.p rfl) (.g rfl)) ?_
    refine pwd_nil (yae ?_)
    refine yaf h ?_; clear h; intro q16 hq16 h
    refine ybe (Y := (Unit) × (Int × Int)) (fun (_, (v14, v15)) => [(3, .v (.pointer (some ⟨b1, 0, none⟩))), (9, .ref [.v (.int .u64 (IntKind.u64.wrap (imax p0.Per 1)))] 0), (10, .fn 93 [.ref [.v (.int .i64 p1)] 0, .ref [.v (.int .u64 (IntKind.u64.wrap (imax p0.Per 1)))] 0]), (11, .v (.pointer (some ⟨b10, 0, none⟩)))]) (fun (_, (v14, v15)) => [PRes.b b1 44 [.v (.int .i64 p0.Rate), .v (.int .i64 p0.Amount), .v (.int .i64 p0.Per), .v (.bool p0.HasMost), .v (.int .i64 p0.Most), .v (.bool p0.HasLeast), .v (.int .i64 p0.Least)], PRes.b b10 149 [.v (.int .u64 v14), .v (.int .u64 v15)]]) (fun (_, (v14, v15)) => q16 = (v14, v15)) ?_ ?_
    ·skip
     refine yal rfl (fun hc17 => ?_) (fun hc17 => ?_)
     ·replace hq16 := yav hc17 hq16
      refine yaa ?_
      refine zmv (p := .fn 93 [.ref [.v (.int .i64 p1)] 0, .ref [.v (.int .u64 (IntKind.u64.wrap (imax p0.Per 1)))] 0]) rfl rfl rfl rfl rfl ?_
      refine yah rfl rfl rfl (yac rfl rfl rfl rfl rfl (.p rfl)) ?_
      refine yah rfl rfl rfl (yag (p := .v (.int .i64 p0.Most)) rfl (.p rfl) zm3 rfl) ?_
      refine yaf hq16 ?_; clear hq16; intro x18 hx18 hq16
      refine pwl_callv rfl rfl rfl rfl rfl (pfv_of (duty_Evaluate_1_ok hx18)) ?_
      refine pwl_l0 rfl rfl (yax (vs := [.v (.int .u64 x18.Hi), .v (.int .u64 x18.Lo)]) rfl rfl rfl rfl rfl zuh (zlc (zlc zln)) ?_)
      refine yad ?_
      obtain rfl := Option.some.inj hq16
      exact ybb ((), (x18.Hi, x18.Lo)) (zhc rfl (zhc rfl (zhc rfl (zhc rfl zhn)))) (zsc (zpt (zpt (zpt zph))) (zsc zph zsn)) rfl
     ·replace hq16 := yaw hc17 hq16
      refine yao ?_
      obtain rfl := Option.some.inj hq16
      exact ybb ((), (x9.1.Hi, x9.1.Lo)) (zhc rfl (zhc rfl (zhc rfl (zhc rfl zhn)))) (zsc (zpt (zpt (zpt zph))) (zsc zph zsn)) rfl
    ·rintro ⟨_, ⟨v14, v15⟩⟩ τ hz; (try dsimp only at hz); subst q16; (try dsimp only at h); dsimp only [pupds]
     refine yab (yab ?_)
     refine pwc_draw (ρd := []) [(0, 0), (1, 0), (2, 0), (3, 0), (4, 0), (5, 0), (6, 0), (7, 1), (8, 1), (9, 0), (10, 0)] _ (List.Perm.refl _) (by kernel_rfl) rfl ?_
     refine ybf rfl rfl rfl (yac rfl rfl rfl rfl rfl (.p rfl)) ?_
     refine ybf rfl rfl rfl (yag (p := .v (.bool p0.HasLeast)) rfl (.p rfl) zm0 rfl) ?_
     refine ybf rfl rfl rfl (yam (p := .v (.bool p0.HasLeast)) rfl (.p rfl)) ?_
     refine ybi (yan rfl rfl rfl) rfl rfl (yag (p := .agg [.v (.int .u64 v14), .v (.int .u64 v15)]) rfl (.p rfl) zm1 rfl) ?_
     refine ybi (yan rfl rfl rfl) rfl rfl (yam (p := .fn 93 [.ref [.v (.int .i64 p1)] 0, .ref [.v (.int .u64 (IntKind.u64.wrap (imax p0.Per 1)))] 0]) rfl (.p rfl)) ?_
     refine ybi (yan rfl rfl rfl) rfl rfl (yac rfl rfl rfl rfl rfl (.p rfl)) ?_
     refine ybi (yan rfl rfl rfl) rfl rfl (yag (p := .v (.int .i64 p0.Least)) rfl (.g rfl) zm0 rfl) ?_
     refine yaf h ?_; clear h; intro x19 hx19 h
     refine pwd_callvg (yan rfl rfl rfl) rfl rfl rfl (.g rfl) (ybg (.g rfl) (pargs_nil)) (fun hc => pfv_of (duty_Evaluate_1_ok (gd_t hx19 hc))) ?_
     refine yaf h ?_; clear h; intro x20 hx20 h
     refine pwd_callg (yan rfl rfl rfl) rfl rfl rfl (ybg (.g rfl) (ybg (.g rfl) (pargs_nil))) (fun hc => exact_CompareWide_ok (gd_t hx20 hc)) ?_
     refine ybi (yan rfl rfl rfl) rfl rfl (yak rfl (.g rfl) (.p rfl) rfl) ?_
     refine ybf rfl rfl rfl (pq_and rfl (.p rfl) (.p rfl) (.g rfl)) ?_
     refine pwd_nil (yae ?_)
     refine yaf h ?_; clear h; intro q23 hq23 h
     refine ybe (Y := (Unit) × (Int × Int)) (fun (_, (v21, v22)) => [(9, .ref [.v (.int .u64 (IntKind.u64.wrap (imax p0.Per 1)))] 0), (11, .v (.pointer (some ⟨b10, 0, none⟩)))]) (fun (_, (v21, v22)) => [PRes.b b10 149 [.v (.int .u64 v21), .v (.int .u64 v22)]]) (fun (_, (v21, v22)) => q23 = (v21, v22)) ?_ ?_
     ·skip
      refine yal rfl (fun hc24 => ?_) (fun hc24 => ?_)
      ·replace hq23 := yav hc24 hq23
       refine yaa ?_
       refine zmv (p := .fn 93 [.ref [.v (.int .i64 p1)] 0, .ref [.v (.int .u64 (IntKind.u64.wrap (imax p0.Per 1)))] 0]) rfl rfl rfl rfl rfl ?_
       refine yah rfl rfl rfl (yac rfl rfl rfl rfl rfl (.p rfl)) ?_
       refine yah rfl rfl rfl (yag (p := .v (.int .i64 p0.Least)) rfl (.p rfl) zm0 rfl) ?_
       refine yaf hq23 ?_; clear hq23; intro x25 hx25 hq23
       refine pwl_callv rfl rfl rfl rfl rfl (pfv_of (duty_Evaluate_1_ok hx25)) ?_
       refine pwl_l0 rfl rfl (yax (vs := [.v (.int .u64 x25.Hi), .v (.int .u64 x25.Lo)]) rfl rfl rfl rfl rfl (zut zuh) (zlc (zlc zln)) ?_)
       refine yad ?_
       obtain rfl := Option.some.inj hq23
       exact ybb ((), (x25.Hi, x25.Lo)) (zhc rfl (zhc rfl zhn)) (zsc (zpt zph) zsn) rfl
      ·replace hq23 := yaw hc24 hq23
       refine yao ?_
       obtain rfl := Option.some.inj hq23
       exact ybb ((), (v14, v15)) (zhc rfl (zhc rfl zhn)) (zsc (zpt zph) zsn) rfl
     ·rintro ⟨_, ⟨v21, v22⟩⟩ τ hz; (try dsimp only at hz); subst q23; (try dsimp only at h); dsimp only [pupds]
      refine yab (yaa ?_)
      refine yah rfl rfl rfl (yag (p := .agg [.v (.int .u64 v21), .v (.int .u64 v22)]) rfl (.p rfl) zm0 rfl) ?_
      refine yah rfl rfl rfl (pq_load_r (p := .v (.int .u64 (IntKind.u64.wrap (imax p0.Per 1)))) rfl (.p rfl) rfl) ?_
      refine yah rfl rfl rfl (yas rfl (.p rfl) (.p rfl) rfl) ?_
      refine yaf h ?_; clear h; intro x26 hx26 h
      refine ybd rfl rfl rfl rfl rfl (exact_Div_ok hx26) ?_
      refine zmv (p := .tup [.v (.int .u64 x26.1), .v (.int .i64 x26.2)]) rfl rfl rfl rfl rfl ?_
      refine zex (p := .v (.int .u64 x26.1)) rfl rfl rfl rfl rfl rfl ?_
      refine zex (p := .v (.int .i64 x26.2)) rfl rfl rfl rfl rfl rfl ?_
      refine zas (p := .v (.int .u64 x26.1)) rfl rfl rfl rfl rfl ?_
      refine zas (p := .v (.int .i64 x26.2)) rfl rfl rfl rfl rfl ?_
      refine yad (yae (yab (yab (yaa ?_))))
      refine zmv (p := .v (.int .i64 x26.2)) rfl rfl rfl rfl rfl ?_
      refine yah rfl rfl rfl (yak rfl (.p rfl) (.p rfl) rfl) ?_
      refine zmv (p := .v (.bool (x26.2 != 0))) rfl rfl rfl rfl rfl ?_
      refine yaj (yai rfl rfl rfl) rfl rfl (yam (p := .v (.int .u64 x26.1)) rfl (.p rfl)) ?_
      refine yaj (yai rfl rfl rfl) rfl rfl (yak rfl (.g rfl) (.p rfl) rfl) ?_
      refine yah rfl rfl rfl (pq_or rfl (.p rfl) (.p rfl) (.g rfl)) ?_
      refine yad (yae ?_)
      refine yal rfl (fun hc27 => ?_) (fun hc27 => ?_)
      ·replace h := yav hc27 h
       refine yab (yaa ?_)
       refine zas (p := .v (.int .i64 0)) rfl rfl rfl rfl rfl ?_
       refine zas (p := .v (.int .i64 3)) rfl rfl rfl rfl rfl ?_
       refine yad (yae (yaq (yap ?_)))
       obtain rfl := Option.some.inj h
       exact yar (prv_2 (yat rfl) (yat rfl)) zsn ⟨rfl, rfl⟩
      ·replace h := yaw hc27 h
       refine yao (yae (yab (yaa ?_)))
       refine zmv (p := .v (.int .u64 x26.1)) rfl rfl rfl rfl rfl ?_
       refine yah rfl rfl rfl (pq_conv rfl rfl rfl (.p rfl)) ?_
       refine zas (p := .v (.int .i64 (IntKind.i64.wrap x26.1))) rfl rfl rfl rfl rfl ?_
       refine zas (p := .v (.int .i64 0)) rfl rfl rfl rfl rfl ?_
       refine yad (yae (yaq ?_))
       obtain rfl := Option.some.inj h
       exact yar (prv_2 (yat rfl) (yat rfl)) zsn ⟨rfl, rfl⟩
def assess_leastDuty (p0 : (List TMeasure)) (p1 : Tassess_part) : Option (TDebtLine × Bool × Int) := Option.bind (loopF (S := Bool × Int × Int × Int × Int × Int × Int) (T := (Bool × Int × Int × Int × Int × Int) ⊕ (_)) (fun (v4, v5, v6, v7, v8, v9, v10) => cond (decide (v5 < (p1.kinds.length : Int))) (Option.bind (idx p1.kinds v5) (fun m20 => Option.bind (loopF (S := Bool × Int × Int × Int × Int × Int × Int) (T := (Bool × Int × Int × Int × Int × Int) ⊕ (_)) (fun (v21, v22, v23, v24, v25, v26, v27) => cond (decide (v22 < (p0.length : Int))) (Option.bind (α := (Bool × Int × Int × Int × Int × Int) ⊕ _) (Option.bind (idx p0 v22) (fun m44 => cond (m44.Kind != m20) (some (.inl (v21, v23, v24, v25, v26, v27))) (Option.bind (duty_Evaluate m44.Duty p1.value p1.quantity) (fun x47 => cond (x47.2 != 0) (some (.inr (.inr (.inr (.inr (.inr ((⟨0, 0, 0, 0, 0⟩ : TDebtLine), false, x47.2))))))) (cond ((!v21) || (decide (x47.1 < v27))) (some (.inl (true, m44.Kind, m44.ID, p1.quantity, p1.value, x47.1))) (some (.inl (v21, v23, v24, v25, v26, v27)))))))) (fun q => match q with | .inl (v37, v38, v39, v40, v41, v42) => some (.inl (v37, (IntKind.i64.wrap (v22 + 1)), v38, v39, v40, v41, v42)) | .inr e => some e)) (some (.inr (.inl (v21, v23, v24, v25, v26, v27))))) FUEL (v4, 0, v6, v7, v8, v9, v10)) (fun q => match q with | .inl (v28, v29, v30, v31, v32, v33) => some (.inl (v28, (IntKind.i64.wrap (v5 + 1)), v29, v30, v31, v32, v33)) | .inr e => some e))) (some (.inr (.inl (v4, v6, v7, v8, v9, v10))))) FUEL (false, 0, 0, 0, 0, 0, 0)) (fun q => match q with | .inl (v11, v12, v13, v14, v15, v16) => some ((⟨v12, v13, v14, v15, v16⟩ : TDebtLine), v11, 0) | .inr e => some e)
set_option maxHeartbeats 4000000 in
theorem assess_leastDuty_ok {p0 : (List TMeasure)} {p1 : Tassess_part} {r : (TDebtLine × Bool × Int)}  (h : assess_leastDuty p0 p1 = some r) : PF 40 [.slc (List.map TMeasure.enc p0), .agg [.v (.int .i64 p1.quantity), .v (.int .i64 p1.value), .slc (List.map eI p1.kinds)]] (.tup [.agg [.v (.int .i64 r.1.Kind), .v (.int .i64 r.1.Measure), .v (.int .i64 r.1.Quantity), .v (.int .i64 r.1.Value), .v (.int .i64 r.1.Amount)], .v (.bool r.2.1), .v (.int .i64 r.2.2)]) := by
 unfold assess_leastDuty at h
 refine pf_of ?_
 refine penter Tryz.func40 fk40 rfl Tryz.ntmps40 Tryz.results40 rfl ?_
 refine yab (yaa ?_)
 refine ybl rfl rfl rfl (pl_box (cs := [.v (.int .i64 p1.quantity), .v (.int .i64 p1.value), .slc (List.map eI p1.kinds)]) rfl rfl (fun b1 => ?_))
 refine ybl rfl rfl rfl (pl_alloc (cs := [.v (.int .i64 0), .v (.int .i64 0), .v (.int .i64 0), .v (.int .i64 0), .v (.int .i64 0)]) rfl rfl rfl rfl (fun b2 => ?_))
 refine zas (p := .v (.bool false)) rfl rfl rfl rfl rfl ?_
 refine zas (p := .v (.int .i64 0)) rfl rfl rfl rfl rfl ?_
 refine yad (yae (yab (yaa ?_)))
 refine ybl rfl rfl rfl (pl_alloc (cs := [.v (.int .i64 0), .v (.int .i64 0), .v (.int .i64 0), .v (.int .i64 0), .v (.int .i64 0)]) rfl rfl rfl rfl (fun b3 => ?_))
 refine yad (yae (yab (yaa ?_)))
 refine zas (p := .v (.bool false)) rfl rfl rfl rfl rfl ?_
 refine yad (yae (yab (yab (yaa ?_))))
 refine yah rfl rfl rfl (yac rfl rfl rfl rfl rfl (.p rfl)) ?_
 refine yah rfl rfl rfl (yag (p := .slc (List.map eI p1.kinds)) rfl (.p rfl) zm2 rfl) ?_
 refine yah rfl rfl rfl (pq_lenT (enc := eI) rfl rfl (.p rfl)) ?_
 refine zmv (p := .v (.int .i64 0)) rfl rfl rfl rfl rfl ?_
 refine yad (yae ?_)
 refine yaf h ?_; clear h; intro q18 hq18 h
 refine ybe (Y := (Unit) × (Bool × Int × Int × Int × Int × Int)) (fun (_, (v11, v12, v13, v14, v15, v16)) => [(4, .v (.pointer (some ⟨b2, 0, none⟩))), (7, .v (.pointer (some ⟨b3, 0, none⟩))), (8, .v (.bool v11))]) (fun (_, (v11, v12, v13, v14, v15, v16)) => [PRes.b b2 49 [.v (.int .i64 0), .v (.int .i64 0), .v (.int .i64 0), .v (.int .i64 0), .v (.int .i64 0)], PRes.b b3 49 [.v (.int .i64 v12), .v (.int .i64 v13), .v (.int .i64 v14), .v (.int .i64 v15), .v (.int .i64 v16)]]) (fun (_, (v11, v12, v13, v14, v15, v16)) => q18 = Sum.inl (v11, v12, v13, v14, v15, v16)) ?_ ?_
 ·refine yaz ?_
  refine pwc_loopF (Y := Unit) (S := Bool × Int × Int × Int × Int × Int × Int) _ hq18 (fun _ (v4, v5, v6, v7, v8, v9, v10) => [(0, .slc (List.map TMeasure.enc p0)), (3, .v (.pointer (some ⟨b1, 0, none⟩))), (4, .v (.pointer (some ⟨b2, 0, none⟩))), (7, .v (.pointer (some ⟨b3, 0, none⟩))), (8, .v (.bool v4)), (16, .slc (List.map eI p1.kinds)), (17, .v (.int .i64 (p1.kinds.length : Int))), (18, .v (.int .i64 v5))]) (fun _ (v4, v5, v6, v7, v8, v9, v10) => [PRes.b b1 74 [.v (.int .i64 p1.quantity), .v (.int .i64 p1.value), .slc (List.map eI p1.kinds)], PRes.b b2 49 [.v (.int .i64 0), .v (.int .i64 0), .v (.int .i64 0), .v (.int .i64 0), .v (.int .i64 0)], PRes.b b3 49 [.v (.int .i64 v6), .v (.int .i64 v7), .v (.int .i64 v8), .v (.int .i64 v9), .v (.int .i64 v10)]]) () (zhc rfl (zhc rfl (zhc rfl (zhc rfl (zhc rfl (zhc rfl (zhc rfl (zhc rfl zhn)))))))) (zsc (zpt (zpt zph)) (zsc (zpt zph) (zsc zph zsn))) ?_
  rintro _ ⟨v4, v5, v6, v7, v8, v9, v10⟩ o τ hb17; (try dsimp only at hb17); dsimp only [pupds]
  refine yab (yaa ?_)
  refine yah rfl rfl rfl (yak rfl (.p rfl) (.p rfl) rfl) ?_
  refine yad (yae (yab ?_))
  refine yal rfl (fun hc19 => ?_) (fun hc19 => ?_)
  ·replace hb17 := yav hc19 hb17
   refine yao (yae (yab (yaz (yab (yaa ?_)))))
   refine yaf hb17 ?_; clear hb17; intro m20 hm20 hb17
   refine yah rfl rfl rfl (pq_index (enc := eI) rfl rfl rfl (fun _ => rfl) (.p rfl) (.p rfl) (fun _ => hm20)) ?_
   refine yah rfl rfl rfl (pq_load_r (p := .v (.int .i64 m20)) rfl (.p rfl) rfl) ?_
   refine zas (p := .v (.int .i64 m20)) rfl rfl rfl rfl rfl ?_
   refine yad (yae (yab (yaa ?_)))
   refine zmv (p := .slc (List.map TMeasure.enc p0)) rfl rfl rfl rfl rfl ?_
   refine yah rfl rfl rfl (pq_lenT (enc := TMeasure.enc) rfl rfl (.p rfl)) ?_
   refine zmv (p := .v (.int .i64 0)) rfl rfl rfl rfl rfl ?_
   refine yad (yae ?_)
   refine yaf hb17 ?_; clear hb17; intro q35 hq35 hb17
   refine pwc_cutK (Y := (Unit) × (Bool × Int × Int × Int × Int × Int)) (fun (_, (v28, v29, v30, v31, v32, v33)) => [(0, .slc (List.map TMeasure.enc p0)), (3, .v (.pointer (some ⟨b1, 0, none⟩))), (4, .v (.pointer (some ⟨b2, 0, none⟩))), (7, .v (.pointer (some ⟨b3, 0, none⟩))), (8, .v (.bool v28)), (16, .slc (List.map eI p1.kinds)), (17, .v (.int .i64 (p1.kinds.length : Int))), (18, .v (.int .i64 v5))]) (fun (_, (v28, v29, v30, v31, v32, v33)) => [PRes.b b1 74 [.v (.int .i64 p1.quantity), .v (.int .i64 p1.value), .slc (List.map eI p1.kinds)], PRes.b b2 49 [.v (.int .i64 0), .v (.int .i64 0), .v (.int .i64 0), .v (.int .i64 0), .v (.int .i64 0)], PRes.b b3 49 [.v (.int .i64 v29), .v (.int .i64 v30), .v (.int .i64 v31), .v (.int .i64 v32), .v (.int .i64 v33)]]) (fun (_, (v28, v29, v30, v31, v32, v33)) => q35 = Sum.inl (v28, v29, v30, v31, v32, v33)) ?_ ?_
   ·refine yaz ?_
    refine pwc_loopF (Y := Unit) (S := Bool × Int × Int × Int × Int × Int × Int) _ hq35 (fun _ (v21, v22, v23, v24, v25, v26, v27) => [(0, .slc (List.map TMeasure.enc p0)), (3, .v (.pointer (some ⟨b1, 0, none⟩))), (4, .v (.pointer (some ⟨b2, 0, none⟩))), (7, .v (.pointer (some ⟨b3, 0, none⟩))), (8, .v (.bool v21)), (10, .v (.int .i64 m20)), (16, .slc (List.map eI p1.kinds)), (17, .v (.int .i64 (p1.kinds.length : Int))), (18, .v (.int .i64 v5)), (22, .slc (List.map TMeasure.enc p0)), (23, .v (.int .i64 (p0.length : Int))), (24, .v (.int .i64 v22))]) (fun _ (v21, v22, v23, v24, v25, v26, v27) => [PRes.b b1 74 [.v (.int .i64 p1.quantity), .v (.int .i64 p1.value), .slc (List.map eI p1.kinds)], PRes.b b2 49 [.v (.int .i64 0), .v (.int .i64 0), .v (.int .i64 0), .v (.int .i64 0), .v (.int .i64 0)], PRes.b b3 49 [.v (.int .i64 v23), .v (.int .i64 v24), .v (.int .i64 v25), .v (.int .i64 v26), .v (.int .i64 v27)]]) () (zhc rfl (zhc rfl (zhc rfl (zhc rfl (zhc rfl (zhc rfl (zhc rfl (zhc rfl (zhc rfl (zhc rfl (zhc rfl (zhc rfl zhn)))))))))))) (zsc zph (zsc zph (zsc zph zsn))) ?_
    rintro _ ⟨v21, v22, v23, v24, v25, v26, v27⟩ o τ hb34; (try dsimp only at hb34); dsimp only [pupds]
    refine yab (yaa ?_)
    refine yah rfl rfl rfl (yak rfl (.p rfl) (.p rfl) rfl) ?_
    refine yad (yae (yab ?_))
    refine yal rfl (fun hc36 => ?_) (fun hc36 => ?_)
    ·replace hb34 := yav hc36 hb34
     refine yao (yae (yab ?_))
     refine yaf hb34 ?_; clear hb34; intro q43 hq43 hb34
     refine ybe (Y := (Unit) × (Bool × Int × Int × Int × Int × Int)) (fun (_, (v37, v38, v39, v40, v41, v42)) => [(0, .slc (List.map TMeasure.enc p0)), (3, .v (.pointer (some ⟨b1, 0, none⟩))), (4, .v (.pointer (some ⟨b2, 0, none⟩))), (7, .v (.pointer (some ⟨b3, 0, none⟩))), (8, .v (.bool v37)), (10, .v (.int .i64 m20)), (16, .slc (List.map eI p1.kinds)), (17, .v (.int .i64 (p1.kinds.length : Int))), (18, .v (.int .i64 v5)), (22, .slc (List.map TMeasure.enc p0)), (23, .v (.int .i64 (p0.length : Int))), (24, .v (.int .i64 v22))]) (fun (_, (v37, v38, v39, v40, v41, v42)) => [PRes.b b1 74 [.v (.int .i64 p1.quantity), .v (.int .i64 p1.value), .slc (List.map eI p1.kinds)], PRes.b b2 49 [.v (.int .i64 0), .v (.int .i64 0), .v (.int .i64 0), .v (.int .i64 0), .v (.int .i64 0)], PRes.b b3 49 [.v (.int .i64 v38), .v (.int .i64 v39), .v (.int .i64 v40), .v (.int .i64 v41), .v (.int .i64 v42)]]) (fun (_, (v37, v38, v39, v40, v41, v42)) => q43 = Sum.inl (v37, v38, v39, v40, v41, v42)) ?_ ?_
     ·skip
      refine yaz (yab (yaa ?_))
      refine yaf hq43 ?_; clear hq43; intro m44 hm44 hq43
      refine yah rfl rfl rfl (pq_index (enc := TMeasure.enc) rfl rfl rfl (fun _ => rfl) (.p rfl) (.p rfl) (fun _ => hm44)) ?_
      refine yah rfl rfl rfl (pq_load_r (p := .agg [.v (.int .i64 m44.ID), .v (.int .i64 m44.Kind), .v (.string m44.Prefix), .slc (List.map eS m44.Origins), .v (.int .i64 m44.Company), .v (.int .i64 m44.From), .v (.int .i64 m44.To), .v (.int .i64 m44.Registered), .v (.int .i64 m44.Duty.Rate), .v (.int .i64 m44.Duty.Amount), .v (.int .i64 m44.Duty.Per), .v (.bool m44.Duty.HasMost), .v (.int .i64 m44.Duty.Most), .v (.bool m44.Duty.HasLeast), .v (.int .i64 m44.Duty.Least)]) rfl (.p rfl) rfl) ?_
      refine ybl rfl rfl rfl (pl_alloc (cs := [.v (.int .i64 0), .v (.int .i64 0), .v (.string ByteArray.empty), .v (.slice none 0 0), .v (.int .i64 0), .v (.int .i64 0), .v (.int .i64 0), .v (.int .i64 0), .v (.int .i64 0), .v (.int .i64 0), .v (.int .i64 0), .v (.bool false), .v (.int .i64 0), .v (.bool false), .v (.int .i64 0)]) rfl rfl rfl rfl (fun b45 => ?_))
      refine pwl_l0 rfl rfl (yax (vs := [.v (.int .i64 m44.ID), .v (.int .i64 m44.Kind), .v (.string m44.Prefix), .slc (List.map eS m44.Origins), .v (.int .i64 m44.Company), .v (.int .i64 m44.From), .v (.int .i64 m44.To), .v (.int .i64 m44.Registered), .v (.int .i64 m44.Duty.Rate), .v (.int .i64 m44.Duty.Amount), .v (.int .i64 m44.Duty.Per), .v (.bool m44.Duty.HasMost), .v (.int .i64 m44.Duty.Most), .v (.bool m44.Duty.HasLeast), .v (.int .i64 m44.Duty.Least)]) rfl rfl rfl rfl rfl zuh (zlc (zlc (zlc (zlc (zlc (zlc (zlc (zlc (zlc (zlc (zlc (zlc (zlc (zlc (zlc zln))))))))))))))) ?_)
      refine yad (yae (yab (yab (yaa ?_))))
      refine yah rfl rfl rfl (yac rfl rfl rfl rfl rfl (.p rfl)) ?_
      refine yah rfl rfl rfl (yag (p := .v (.int .i64 m44.Kind)) rfl (.p rfl) zm0 rfl) ?_
      refine zmv (p := .v (.int .i64 m20)) rfl rfl rfl rfl rfl ?_
      refine yah rfl rfl rfl (yak rfl (.p rfl) (.p rfl) rfl) ?_
      refine yad (yae ?_)
      refine yal rfl (fun hc46 => ?_) (fun hc46 => ?_)
      ·replace hq43 := yav hc46 hq43
       refine pwc_exit (ybm ?_)
       refine ybj rfl ?_
       obtain rfl := Option.some.inj hq43
       exact ybb ((), (v21, v23, v24, v25, v26, v27)) (zhc rfl (zhc rfl (zhc rfl (zhc rfl (zhc rfl (zhc rfl (zhc rfl (zhc rfl (zhc rfl (zhc rfl (zhc rfl (zhc rfl zhn)))))))))))) (zsc (zpt zph) (zsc (zpt zph) (zsc (zpt zph) zsn))) rfl
      ·replace hq43 := yaw hc46 hq43
       refine yao (yae (yab (yaa ?_)))
       refine yah rfl rfl rfl (yac rfl rfl rfl rfl rfl (.p rfl)) ?_
       refine yah rfl rfl rfl (yag (p := .agg [.v (.int .i64 m44.Duty.Rate), .v (.int .i64 m44.Duty.Amount), .v (.int .i64 m44.Duty.Per), .v (.bool m44.Duty.HasMost), .v (.int .i64 m44.Duty.Most), .v (.bool m44.Duty.HasLeast), .v (.int .i64 m44.Duty.Least)]) rfl (.p rfl) zm0 rfl) ?_
       refine yah rfl rfl rfl (yac rfl rfl rfl rfl rfl (.p rfl)) ?_
       refine yah rfl rfl rfl (yag (p := .v (.int .i64 p1.value)) rfl (.p rfl) zm1 rfl) ?_
       refine yah rfl rfl rfl (yac rfl rfl rfl rfl rfl (.p rfl)) ?_
       refine yah rfl rfl rfl (yag (p := .v (.int .i64 p1.quantity)) rfl (.p rfl) zm1 rfl) ?_
       refine yaf hq43 ?_; clear hq43; intro x47 hx47 hq43
       refine ybd rfl rfl rfl rfl rfl (duty_Evaluate_ok hx47) ?_
       refine zmv (p := .tup [.v (.int .i64 x47.1), .v (.int .i64 x47.2)]) rfl rfl rfl rfl rfl ?_
       refine zex (p := .v (.int .i64 x47.1)) rfl rfl rfl rfl rfl rfl ?_
       refine zex (p := .v (.int .i64 x47.2)) rfl rfl rfl rfl rfl rfl ?_
       refine zas (p := .v (.int .i64 x47.1)) rfl rfl rfl rfl rfl ?_
       refine zas (p := .v (.int .i64 x47.2)) rfl rfl rfl rfl rfl ?_
       refine yad (yae (yab (yab (yaa ?_))))
       refine zmv (p := .v (.int .i64 x47.2)) rfl rfl rfl rfl rfl ?_
       refine yah rfl rfl rfl (yak rfl (.p rfl) (.p rfl) rfl) ?_
       refine yad (yae ?_)
       refine yal rfl (fun hc48 => ?_) (fun hc48 => ?_)
       ·replace hq43 := yav hc48 hq43
        refine yab (yaa ?_)
        refine yah rfl rfl rfl (pq_build (cs := [.v (.int .i64 0), .v (.int .i64 0), .v (.int .i64 0), .v (.int .i64 0), .v (.int .i64 0)]) rfl rfl rfl rfl rfl rfl rfl zfn) ?_
        refine zmv (p := .v (.int .i64 x47.2)) rfl rfl rfl rfl rfl ?_
        refine pwl_l0 rfl rfl (yax (vs := [.v (.int .i64 0), .v (.int .i64 0), .v (.int .i64 0), .v (.int .i64 0), .v (.int .i64 0)]) rfl rfl rfl rfl rfl (zut (zut zuh)) (zlc (zlc (zlc (zlc (zlc zln))))) ?_)
        refine zas (p := .v (.bool false)) rfl rfl rfl rfl rfl ?_
        refine zas (p := .v (.int .i64 x47.2)) rfl rfl rfl rfl rfl ?_
        refine yad (yae (yaq (yap (yba (pk_mid_ret ?_)))))
        obtain rfl := Option.some.inj hq43
        have hb34 := (show some _ = some _ from hb34)
        refine pk_loop_ret hb34 (fun ht => ?_); subst ht
        have hb17 := (show some _ = some _ from hb17)
        refine yba (pk_cut_ret (yba (yap ?_)))
        refine pk_loop_ret hb17 (fun ht => ?_); subst ht
        have h := (show some _ = some _ from h)
        refine yba (pk_mid_ret ?_)
        obtain rfl := Option.some.inj h
        exact yar (prv_3 (prv1_c rfl zm2 rfl) (yat rfl) (yat rfl)) zsn ⟨rfl, rfl⟩
       ·replace hq43 := yaw hc48 hq43
        refine yao (yae (yab (yaa ?_)))
        refine zmv (p := .v (.bool v21)) rfl rfl rfl rfl rfl ?_
        refine yah rfl rfl rfl (pq_not rfl (.p rfl)) ?_
        refine zmv (p := .v (.bool (!v21))) rfl rfl rfl rfl rfl ?_
        refine yaj (yai rfl rfl rfl) rfl rfl (yam (p := .v (.int .i64 x47.1)) rfl (.p rfl)) ?_
        refine yaj (yai rfl rfl rfl) rfl rfl (yac rfl rfl rfl rfl rfl (.p rfl)) ?_
        refine yaj (yai rfl rfl rfl) rfl rfl (yag (p := .v (.int .i64 v27)) rfl (.g rfl) zm3 rfl) ?_
        refine yaj (yai rfl rfl rfl) rfl rfl (yak rfl (.g rfl) (.g rfl) rfl) ?_
        refine yah rfl rfl rfl (pq_or rfl (.p rfl) (.p rfl) (.g rfl)) ?_
        refine yad (yae ?_)
        refine yal rfl (fun hc49 => ?_) (fun hc49 => ?_)
        ·replace hq43 := yav hc49 hq43
         refine yab (yaa ?_)
         refine yah rfl rfl rfl (yac rfl rfl rfl rfl rfl (.p rfl)) ?_
         refine yah rfl rfl rfl (yag (p := .v (.int .i64 m44.Kind)) rfl (.p rfl) zm0 rfl) ?_
         refine yah rfl rfl rfl (yac rfl rfl rfl rfl rfl (.p rfl)) ?_
         refine yah rfl rfl rfl (yag (p := .v (.int .i64 m44.ID)) rfl (.p rfl) zm0 rfl) ?_
         refine yah rfl rfl rfl (yac rfl rfl rfl rfl rfl (.p rfl)) ?_
         refine yah rfl rfl rfl (yag (p := .v (.int .i64 p1.quantity)) rfl (.p rfl) zm1 rfl) ?_
         refine yah rfl rfl rfl (yac rfl rfl rfl rfl rfl (.p rfl)) ?_
         refine yah rfl rfl rfl (yag (p := .v (.int .i64 p1.value)) rfl (.p rfl) zm1 rfl) ?_
         refine zmv (p := .v (.int .i64 x47.1)) rfl rfl rfl rfl rfl ?_
         refine yah rfl rfl rfl (pq_build (cs := [.v (.int .i64 m44.Kind), .v (.int .i64 m44.ID), .v (.int .i64 p1.quantity), .v (.int .i64 p1.value), .v (.int .i64 x47.1)]) rfl rfl rfl rfl rfl rfl rfl (zfc rfl rfl rfl rfl (zlc zln) (zfc rfl rfl rfl rfl (zlt (zlc zln)) (zfc rfl rfl rfl rfl (zlt (zlt (zlc zln))) (zfc rfl rfl rfl rfl (zlt (zlt (zlt (zlc zln)))) (zfc rfl rfl rfl rfl (zlt (zlt (zlt (zlt (zlc zln))))) zfn)))))) ?_
         refine pwl_l0 rfl rfl (yax (vs := [.v (.int .i64 m44.Kind), .v (.int .i64 m44.ID), .v (.int .i64 p1.quantity), .v (.int .i64 p1.value), .v (.int .i64 x47.1)]) rfl rfl rfl rfl rfl (zut (zut (zut zuh))) (zlc (zlc (zlc (zlc (zlc zln))))) ?_)
         refine yad (yae (yaa ?_))
         refine zas (p := .v (.bool true)) rfl rfl rfl rfl rfl ?_
         refine yad (ybc ?_)
         obtain rfl := Option.some.inj hq43
         exact ybb ((), (true, m44.Kind, m44.ID, p1.quantity, p1.value, x47.1)) (zhc rfl (zhc rfl (zhc rfl (zhc rfl (zhc rfl (zhc rfl (zhc rfl (zhc rfl (zhc rfl (zhc rfl (zhc rfl (zhc rfl zhn)))))))))))) (zsc (zpt zph) (zsc (zpt zph) (zsc (zpt zph) zsn))) rfl
        ·replace hq43 := yaw hc49 hq43
         refine yao (ybc ?_)
         obtain rfl := Option.some.inj hq43
         exact ybb ((), (v21, v23, v24, v25, v26, v27)) (zhc rfl (zhc rfl (zhc rfl (zhc rfl (zhc rfl (zhc rfl (zhc rfl (zhc rfl (zhc rfl (zhc rfl (zhc rfl (zhc rfl zhn)))))))))))) (zsc (zpt zph) (zsc (zpt zph) (zsc (zpt zph) zsn))) rfl
     ·rintro ⟨_, ⟨v37, v38, v39, v40, v41, v42⟩⟩ τ hz; (try dsimp only at hz); subst q43; (try dsimp only at hb34); dsimp only [pupds]
      refine yaa ?_
      refine yah rfl rfl rfl (yas rfl (.p rfl) (.p rfl) rfl) ?_
      refine zmv (p := .v (.int .i64 (IntKind.i64.wrap (v22 + 1)))) rfl rfl rfl rfl rfl ?_
      refine yad ?_
      exact pk_loop hb34 () (zhc rfl (zhc rfl (zhc rfl (zhc rfl (zhc rfl (zhc rfl (zhc rfl (zhc rfl (zhc rfl (zhc rfl (zhc rfl (zhc rfl zhn)))))))))))) (zsc zph (zsc zph (zsc zph zsn)))
    ·replace hb34 := yaw hc36 hb34
     refine pwc_exit (ybm ?_)
     refine ybh hb34 (fun ht => ?_)
     refine ybj rfl ?_
     exact pk_cut ((), (v21, v23, v24, v25, v26, v27)) (zhc rfl (zhc rfl (zhc rfl (zhc rfl (zhc rfl (zhc rfl (zhc rfl (zhc rfl zhn)))))))) (zsc zph (zsc zph (zsc zph zsn))) ht.symm
   ·rintro ⟨_, ⟨v28, v29, v30, v31, v32, v33⟩⟩ τ ρ1 hsub50 hz; (try dsimp only at hz hsub50); subst q35; (try dsimp only at hb17); dsimp only [pupds]
    refine ybc (yae ?_)
    refine pwc_sub hsub50 ?_
    refine yaa ?_
    refine yah rfl rfl rfl (yas rfl (.p rfl) (.p rfl) rfl) ?_
    refine zmv (p := .v (.int .i64 (IntKind.i64.wrap (v5 + 1)))) rfl rfl rfl rfl rfl ?_
    refine yad ?_
    exact pk_loop hb17 () (zhc rfl (zhc rfl (zhc rfl (zhc rfl (zhc rfl (zhc rfl (zhc rfl (zhc rfl zhn)))))))) (zsc zph (zsc zph (zsc zph zsn)))
  ·replace hb17 := yaw hc19 hb17
   refine pwc_exit (ybm ?_)
   refine ybh hb17 (fun ht => ?_)
   refine ybj rfl ?_
   exact ybb ((), (v4, v6, v7, v8, v9, v10)) (zhc rfl (zhc rfl (zhc rfl zhn))) (zsc (zpt zph) (zsc (zpt zph) zsn)) ht.symm
 ·rintro ⟨_, ⟨v11, v12, v13, v14, v15, v16⟩⟩ τ hz; (try dsimp only at hz); subst q18; (try dsimp only at h); dsimp only [pupds]
  refine yab (yaa ?_)
  refine yah rfl rfl rfl (yag (p := .agg [.v (.int .i64 v12), .v (.int .i64 v13), .v (.int .i64 v14), .v (.int .i64 v15), .v (.int .i64 v16)]) rfl (.p rfl) zm1 rfl) ?_
  refine zmv (p := .v (.bool v11)) rfl rfl rfl rfl rfl ?_
  refine pwl_l0 rfl rfl (yax (vs := [.v (.int .i64 v12), .v (.int .i64 v13), .v (.int .i64 v14), .v (.int .i64 v15), .v (.int .i64 v16)]) rfl rfl rfl rfl rfl zuh (zlc (zlc (zlc (zlc (zlc zln))))) ?_)
  refine zas (p := .v (.bool v11)) rfl rfl rfl rfl rfl ?_
  refine zas (p := .v (.int .i64 0)) rfl rfl rfl rfl rfl ?_
  refine yad (yae (yaq ?_))
  obtain rfl := Option.some.inj h
  exact yar (prv_3 (prv1_c rfl zm0 rfl) (yat rfl) (yat rfl)) zsn ⟨rfl, rfl⟩
def measure_Applicable (p0 : (List TMeasure)) (p1 : ByteArray) (p2 : ByteArray) (p3 : Int) (p4 : Int) : Option (List TMeasure) := Option.bind (loopF (S := ByteArray × Int × Int × (List TMeasure) × Int) (T := ((List TMeasure))) (fun (v1, v2, v3, l5, v8) => cond (decide (v8 ≤ 6)) (Option.bind (Option.bind (loopF (S := Int × Int) (T := (Int)) (fun (v22, v23) => cond (decide (v23 < (p0.length : Int))) (Option.bind (Option.bind (idx p0 v23) (fun m32 => Option.bind (gd (m32.Kind == v8) (measure_Covers m32 p1 v1 v2 v3)) (fun x34 => Option.bind (gd (((m32.Kind == v8) && x34) && (!(decide (v22 < 0)))) (idx p0 v22)) (fun m35 => Option.bind (gd (((m32.Kind == v8) && x34) && (!(decide (v22 < 0)))) (measure_precedes m32 m35)) (fun x36 => cond (((m32.Kind == v8) && x34) && ((decide (v22 < 0)) || x36)) (some v23) (some v22)))))) (fun v30 => some (.inl (v30, (IntKind.i64.wrap (v23 + 1)))))) (some (.inr v22))) FUEL ((-1), 0)) (fun v25 => cond (decide (0 ≤ v25)) (Option.bind (idx p0 v25) (fun m39 => Option.bind (slices_Clone_string_string m39.Origins) (fun x41 => Option.bind (app 144 l5 [(⟨m39.ID, m39.Kind, m39.Prefix, x41, m39.Company, m39.From, m39.To, m39.Registered, m39.Duty⟩ : TMeasure)]) (fun l47 => some l47)))) (some l5))) (fun l20 => some (.inl (v1, v2, v3, l20, (IntKind.i64.wrap (v8 + 1)))))) (some (.inr l5))) FUEL (p2, p3, p4, ([] : List TMeasure), 1)) (fun l12 => some l12)
set_option maxHeartbeats 4000000 in
theorem measure_Applicable_ok {p0 : (List TMeasure)} {p1 : ByteArray} {p2 : ByteArray} {p3 : Int} {p4 : Int} {r : (List TMeasure)}  (h : measure_Applicable p0 p1 p2 p3 p4 = some r) : PF 36 [.slc (List.map TMeasure.enc p0), .v (.string p1), .v (.string p2), .v (.int .i64 p3), .v (.int .i64 p4)] (.slc (List.map TMeasure.enc r)) := by
 unfold measure_Applicable at h
 refine pf_of ?_
 refine penter Tryz.func36 fk36 rfl Tryz.ntmps36 Tryz.results36 rfl ?_
 refine yab (yaa ?_)
 refine zas (p := .v (.slice none 0 0)) rfl rfl rfl rfl rfl ?_
 refine yad (yae (yab (yaa ?_)))
 refine zas (p := .v (.slice none 0 0)) rfl rfl rfl rfl rfl ?_
 refine yad (yae (yab (yab (yaa ?_))))
 refine zas (p := .v (.int .i64 1)) rfl rfl rfl rfl rfl ?_
 refine yad (yae ?_)
 refine pwc_nilrow 46 15 ?_
 refine yaf h ?_; clear h; intro q14 hq14 h
 refine ybe (Y := (Option Addr × Nat) × ((List TMeasure))) (fun ((a10, c11), l12) => [(11, .v (.slice a10 l12.length c11))]) (fun ((a10, c11), l12) => [PRes.row a10 l12.length c11 46 15 (List.map TMeasure.enc l12)]) (fun ((a10, c11), l12) => q14 = l12) ?_ ?_
 ·refine yaz ?_
  refine pwc_loopF (Y := Option Addr × Nat) (S := ByteArray × Int × Int × (List TMeasure) × Int) _ hq14 (fun (a6, c7) (v1, v2, v3, l5, v8) => [(0, .slc (List.map TMeasure.enc p0)), (1, .v (.string p1)), (2, .v (.string v1)), (3, .v (.int .i64 v2)), (4, .v (.int .i64 v3)), (11, .v (.slice a6 l5.length c7)), (12, .v (.int .i64 v8))]) (fun (a6, c7) (v1, v2, v3, l5, v8) => [PRes.row a6 l5.length c7 46 15 (List.map TMeasure.enc l5)]) (none, 0) (zhc rfl (zhc rfl (zhc rfl (zhc rfl (zhc rfl (zhc rfl (zhc rfl zhn))))))) (zsc zph zsn) ?_
  rintro ⟨a6, c7⟩ ⟨v1, v2, v3, l5, v8⟩ o τ hb13; (try dsimp only at hb13); dsimp only [pupds]
  refine yab (yab (yaa ?_))
  refine zmv (p := .v (.int .i64 v8)) rfl rfl rfl rfl rfl ?_
  refine yah rfl rfl rfl (yak rfl (.p rfl) (.p rfl) rfl) ?_
  refine yad (yae ?_)
  refine yal rfl (fun hc16 => ?_) (fun hc16 => ?_)
  ·replace hb13 := yav hc16 hb13
   refine yao (yae (yab ?_))
   refine yaf hb13 ?_; clear hb13; intro q21 hq21 hb13
   refine ybe (Y := (Option Addr × Nat) × ((List TMeasure))) (fun ((a18, c19), l20) => [(0, .slc (List.map TMeasure.enc p0)), (1, .v (.string p1)), (2, .v (.string v1)), (3, .v (.int .i64 v2)), (4, .v (.int .i64 v3)), (11, .v (.slice a18 l20.length c19)), (12, .v (.int .i64 v8))]) (fun ((a18, c19), l20) => [PRes.row a18 l20.length c19 46 15 (List.map TMeasure.enc l20)]) (fun ((a18, c19), l20) => q21 = l20) ?_ ?_
   ·skip
    refine yaz (yab (yaa ?_))
    refine zas (p := .v (.int .i64 (-1))) rfl rfl rfl rfl rfl ?_
    refine yad (yae (yab (yab (yaa ?_))))
    refine zmv (p := .slc (List.map TMeasure.enc p0)) rfl rfl rfl rfl rfl ?_
    refine yah rfl rfl rfl (pq_lenT (enc := TMeasure.enc) rfl rfl (.p rfl)) ?_
    refine zmv (p := .v (.int .i64 0)) rfl rfl rfl rfl rfl ?_
    refine yad (yae ?_)
    refine yaf hq21 ?_; clear hq21; intro q27 hq27 hq21
    refine ybe (Y := (Unit) × (Int)) (fun (_, v25) => [(0, .slc (List.map TMeasure.enc p0)), (1, .v (.string p1)), (2, .v (.string v1)), (3, .v (.int .i64 v2)), (4, .v (.int .i64 v3)), (11, .v (.slice a6 l5.length c7)), (12, .v (.int .i64 v8)), (13, .v (.int .i64 v25))]) (fun (_, v25) => [PRes.row a6 l5.length c7 46 15 (List.map TMeasure.enc l5)]) (fun (_, v25) => q27 = v25) ?_ ?_
    ·refine yaz ?_
     refine pwc_loopF (Y := Unit) (S := Int × Int) _ hq27 (fun _ (v22, v23) => [(0, .slc (List.map TMeasure.enc p0)), (1, .v (.string p1)), (2, .v (.string v1)), (3, .v (.int .i64 v2)), (4, .v (.int .i64 v3)), (11, .v (.slice a6 l5.length c7)), (12, .v (.int .i64 v8)), (13, .v (.int .i64 v22)), (21, .slc (List.map TMeasure.enc p0)), (22, .v (.int .i64 (p0.length : Int))), (23, .v (.int .i64 v23))]) (fun _ (v22, v23) => [PRes.row a6 l5.length c7 46 15 (List.map TMeasure.enc l5)]) () (zhc rfl (zhc rfl (zhc rfl (zhc rfl (zhc rfl (zhc rfl (zhc rfl (zhc rfl (zhc rfl (zhc rfl (zhc rfl zhn))))))))))) (zsc zph zsn) ?_
     rintro _ ⟨v22, v23⟩ o τ hb26; (try dsimp only at hb26); dsimp only [pupds]
     refine yab (yaa ?_)
     refine yah rfl rfl rfl (yak rfl (.p rfl) (.p rfl) rfl) ?_
     refine yad (yae (yab ?_))
     refine yal rfl (fun hc28 => ?_) (fun hc28 => ?_)
     ·replace hb26 := yav hc28 hb26
      refine yao (yae (yab ?_))
      refine yaf hb26 ?_; clear hb26; intro q31 hq31 hb26
      refine ybe (Y := (Unit) × (Int)) (fun (_, v30) => [(0, .slc (List.map TMeasure.enc p0)), (1, .v (.string p1)), (2, .v (.string v1)), (3, .v (.int .i64 v2)), (4, .v (.int .i64 v3)), (11, .v (.slice a6 l5.length c7)), (12, .v (.int .i64 v8)), (13, .v (.int .i64 v30)), (21, .slc (List.map TMeasure.enc p0)), (22, .v (.int .i64 (p0.length : Int))), (23, .v (.int .i64 v23))]) (fun (_, v30) => [PRes.row a6 l5.length c7 46 15 (List.map TMeasure.enc l5)]) (fun (_, v30) => q31 = v30) ?_ ?_
      ·skip
       refine yaz (yab (yaa ?_))
       refine zmv (p := .v (.int .i64 v23)) rfl rfl rfl rfl rfl ?_
       refine yaf hq31 ?_; clear hq31; intro m32 hm32 hq31
       refine yah rfl rfl rfl (pq_index (enc := TMeasure.enc) rfl rfl rfl (fun _ => rfl) (.p rfl) (.p rfl) (fun _ => hm32)) ?_
       refine yah rfl rfl rfl (pq_load_r (p := .agg [.v (.int .i64 m32.ID), .v (.int .i64 m32.Kind), .v (.string m32.Prefix), .slc (List.map eS m32.Origins), .v (.int .i64 m32.Company), .v (.int .i64 m32.From), .v (.int .i64 m32.To), .v (.int .i64 m32.Registered), .v (.int .i64 m32.Duty.Rate), .v (.int .i64 m32.Duty.Amount), .v (.int .i64 m32.Duty.Per), .v (.bool m32.Duty.HasMost), .v (.int .i64 m32.Duty.Most), .v (.bool m32.Duty.HasLeast), .v (.int .i64 m32.Duty.Least)]) rfl (.p rfl) rfl) ?_
       refine ybl rfl rfl rfl (pl_alloc (cs := [.v (.int .i64 0), .v (.int .i64 0), .v (.string ByteArray.empty), .v (.slice none 0 0), .v (.int .i64 0), .v (.int .i64 0), .v (.int .i64 0), .v (.int .i64 0), .v (.int .i64 0), .v (.int .i64 0), .v (.int .i64 0), .v (.bool false), .v (.int .i64 0), .v (.bool false), .v (.int .i64 0)]) rfl rfl rfl rfl (fun b33 => ?_))
       refine zas (p := .v (.int .i64 v23)) rfl rfl rfl rfl rfl ?_
       refine pwl_l0 rfl rfl (yax (vs := [.v (.int .i64 m32.ID), .v (.int .i64 m32.Kind), .v (.string m32.Prefix), .slc (List.map eS m32.Origins), .v (.int .i64 m32.Company), .v (.int .i64 m32.From), .v (.int .i64 m32.To), .v (.int .i64 m32.Registered), .v (.int .i64 m32.Duty.Rate), .v (.int .i64 m32.Duty.Amount), .v (.int .i64 m32.Duty.Per), .v (.bool m32.Duty.HasMost), .v (.int .i64 m32.Duty.Most), .v (.bool m32.Duty.HasLeast), .v (.int .i64 m32.Duty.Least)]) rfl rfl rfl rfl rfl zuh (zlc (zlc (zlc (zlc (zlc (zlc (zlc (zlc (zlc (zlc (zlc (zlc (zlc (zlc (zlc zln))))))))))))))) ?_)
       refine yad (yae (yab ?_))
       refine pwc_draw (ρd := []) [(0, 0), (1, 0), (2, 0), (3, 0), (4, 0), (5, 0), (6, 0), (7, 0), (8, 0), (9, 0), (10, 1), (11, 0), (12, 0), (13, 0), (14, 0), (15, 0), (16, 0), (17, 0), (18, 0), (19, 0), (20, 0), (21, 1), (22, 0), (23, 0)] _ (List.Perm.refl _) (by kernel_rfl) rfl ?_
       refine ybf rfl rfl rfl (yac rfl rfl rfl rfl rfl (.p rfl)) ?_
       refine ybf rfl rfl rfl (yag (p := .v (.int .i64 m32.Kind)) rfl (.p rfl) zm0 rfl) ?_
       refine ybf rfl rfl rfl (yam (p := .v (.int .i64 v8)) rfl (.p rfl)) ?_
       refine ybf rfl rfl rfl (yak rfl (.p rfl) (.p rfl) rfl) ?_
       refine ybf rfl rfl rfl (yam (p := .v (.bool (m32.Kind == v8))) rfl (.p rfl)) ?_
       refine ybi (yan rfl rfl rfl) rfl rfl (yag (p := .agg [.v (.int .i64 m32.ID), .v (.int .i64 m32.Kind), .v (.string m32.Prefix), .slc (List.map eS m32.Origins), .v (.int .i64 m32.Company), .v (.int .i64 m32.From), .v (.int .i64 m32.To), .v (.int .i64 m32.Registered), .v (.int .i64 m32.Duty.Rate), .v (.int .i64 m32.Duty.Amount), .v (.int .i64 m32.Duty.Per), .v (.bool m32.Duty.HasMost), .v (.int .i64 m32.Duty.Most), .v (.bool m32.Duty.HasLeast), .v (.int .i64 m32.Duty.Least)]) rfl (.p rfl) zm0 rfl) ?_
       refine ybi (yan rfl rfl rfl) rfl rfl (yam (p := .v (.string p1)) rfl (.p rfl)) ?_
       refine ybi (yan rfl rfl rfl) rfl rfl (yam (p := .v (.string v1)) rfl (.p rfl)) ?_
       refine ybi (yan rfl rfl rfl) rfl rfl (yam (p := .v (.int .i64 v2)) rfl (.p rfl)) ?_
       refine ybi (yan rfl rfl rfl) rfl rfl (yam (p := .v (.int .i64 v3)) rfl (.p rfl)) ?_
       refine yaf hq31 ?_; clear hq31; intro x34 hx34 hq31
       refine pwd_callg (yan rfl rfl rfl) rfl rfl rfl (ybg (.g rfl) (ybg (.g rfl) (ybg (.g rfl) (ybg (.g rfl) (ybg (.g rfl) (pargs_nil)))))) (fun hc => measure_Covers_ok (gd_t hx34 hc)) ?_
       refine ybf rfl rfl rfl (pq_and rfl (.p rfl) (.p rfl) (.g rfl)) ?_
       refine ybf rfl rfl rfl (yam (p := .v (.bool ((m32.Kind == v8) && x34))) rfl (.p rfl)) ?_
       refine ybi (yan rfl rfl rfl) rfl rfl (yam (p := .v (.int .i64 v22)) rfl (.p rfl)) ?_
       refine ybi (yan rfl rfl rfl) rfl rfl (yak rfl (.g rfl) (.p rfl) rfl) ?_
       refine ybi (yan rfl rfl rfl) rfl rfl (yam (p := .v (.bool (decide (v22 < 0)))) rfl (.g rfl)) ?_
       refine ybi (pguard_gf rfl rfl rfl) rfl rfl (yag (p := .agg [.v (.int .i64 m32.ID), .v (.int .i64 m32.Kind), .v (.string m32.Prefix), .slc (List.map eS m32.Origins), .v (.int .i64 m32.Company), .v (.int .i64 m32.From), .v (.int .i64 m32.To), .v (.int .i64 m32.Registered), .v (.int .i64 m32.Duty.Rate), .v (.int .i64 m32.Duty.Amount), .v (.int .i64 m32.Duty.Per), .v (.bool m32.Duty.HasMost), .v (.int .i64 m32.Duty.Most), .v (.bool m32.Duty.HasLeast), .v (.int .i64 m32.Duty.Least)]) rfl (.p rfl) zm0 rfl) ?_
       refine ybi (pguard_gf rfl rfl rfl) rfl rfl (yam (p := .slc (List.map TMeasure.enc p0)) rfl (.p rfl)) ?_
       refine ybi (pguard_gf rfl rfl rfl) rfl rfl (yam (p := .v (.int .i64 v22)) rfl (.p rfl)) ?_
       refine yaf hq31 ?_; clear hq31; intro m35 hm35 hq31
       refine ybi (pguard_gf rfl rfl rfl) rfl rfl (pq_index (enc := TMeasure.enc) rfl rfl rfl (fun _ => rfl) (.g rfl) (.g rfl) (gd_t hm35)) ?_
       refine ybi (pguard_gf rfl rfl rfl) rfl rfl (pq_load_r (p := .agg [.v (.int .i64 m35.ID), .v (.int .i64 m35.Kind), .v (.string m35.Prefix), .slc (List.map eS m35.Origins), .v (.int .i64 m35.Company), .v (.int .i64 m35.From), .v (.int .i64 m35.To), .v (.int .i64 m35.Registered), .v (.int .i64 m35.Duty.Rate), .v (.int .i64 m35.Duty.Amount), .v (.int .i64 m35.Duty.Per), .v (.bool m35.Duty.HasMost), .v (.int .i64 m35.Duty.Most), .v (.bool m35.Duty.HasLeast), .v (.int .i64 m35.Duty.Least)]) rfl (.g rfl) rfl) ?_
       refine yaf hq31 ?_; clear hq31; intro x36 hx36 hq31
       refine pwd_callg (pguard_gf rfl rfl rfl) rfl rfl rfl (ybg (.g rfl) (ybg (.g rfl) (pargs_nil))) (fun hc => measure_precedes_ok (gd_t hx36 hc)) ?_
       refine ybi (yan rfl rfl rfl) rfl rfl (pq_or rfl (.g rfl) (.p rfl) (.g rfl)) ?_
       refine ybf rfl rfl rfl (pq_and rfl (.p rfl) (.p rfl) (.g rfl)) ?_
       refine pwd_nil (yae ?_)
       refine yal rfl (fun hc37 => ?_) (fun hc37 => ?_)
       ·replace hq31 := yav hc37 hq31
        refine yaa ?_
        refine zmv (p := .v (.int .i64 v23)) rfl rfl rfl rfl rfl ?_
        refine zas (p := .v (.int .i64 v23)) rfl rfl rfl rfl rfl ?_
        refine yad (ybc ?_)
        obtain rfl := Option.some.inj hq31
        exact ybb ((), v23) (zhc rfl (zhc rfl (zhc rfl (zhc rfl (zhc rfl (zhc rfl (zhc rfl (zhc rfl (zhc rfl (zhc rfl (zhc rfl zhn))))))))))) (zsc (zpt zph) zsn) rfl
       ·replace hq31 := yaw hc37 hq31
        refine yao (ybc ?_)
        obtain rfl := Option.some.inj hq31
        exact ybb ((), v22) (zhc rfl (zhc rfl (zhc rfl (zhc rfl (zhc rfl (zhc rfl (zhc rfl (zhc rfl (zhc rfl (zhc rfl (zhc rfl zhn))))))))))) (zsc (zpt zph) zsn) rfl
      ·rintro ⟨_, v30⟩ τ hz; (try dsimp only at hz); subst q31; (try dsimp only at hb26); dsimp only [pupds]
       refine yaa ?_
       refine yah rfl rfl rfl (yas rfl (.p rfl) (.p rfl) rfl) ?_
       refine zmv (p := .v (.int .i64 (IntKind.i64.wrap (v23 + 1)))) rfl rfl rfl rfl rfl ?_
       refine yad ?_
       exact pk_loop hb26 () (zhc rfl (zhc rfl (zhc rfl (zhc rfl (zhc rfl (zhc rfl (zhc rfl (zhc rfl (zhc rfl (zhc rfl (zhc rfl zhn))))))))))) (zsc zph zsn)
     ·replace hb26 := yaw hc28 hb26
      refine pwc_exit (ybm ?_)
      refine ybh hb26 (fun ht => ?_)
      refine ybj rfl ?_
      exact ybb ((), v22) (zhc rfl (zhc rfl (zhc rfl (zhc rfl (zhc rfl (zhc rfl (zhc rfl (zhc rfl zhn)))))))) (zsc zph zsn) ht.symm
    ·rintro ⟨_, v25⟩ τ hz; (try dsimp only at hz); subst q27; (try dsimp only at hq21); dsimp only [pupds]
     refine yab (yaa ?_)
     refine zmv (p := .v (.int .i64 v25)) rfl rfl rfl rfl rfl ?_
     refine yah rfl rfl rfl (yak rfl (.p rfl) (.p rfl) rfl) ?_
     refine yad (yae ?_)
     refine yal rfl (fun hc38 => ?_) (fun hc38 => ?_)
     ·replace hq21 := yav hc38 hq21
      refine yab (yaa ?_)
      refine zmv (p := .slc (List.map TMeasure.enc p0)) rfl rfl rfl rfl rfl ?_
      refine zmv (p := .v (.int .i64 v25)) rfl rfl rfl rfl rfl ?_
      refine yaf hq21 ?_; clear hq21; intro m39 hm39 hq21
      refine yah rfl rfl rfl (pq_index (enc := TMeasure.enc) rfl rfl rfl (fun _ => rfl) (.p rfl) (.p rfl) (fun _ => hm39)) ?_
      refine yah rfl rfl rfl (pq_load_r (p := .agg [.v (.int .i64 m39.ID), .v (.int .i64 m39.Kind), .v (.string m39.Prefix), .slc (List.map eS m39.Origins), .v (.int .i64 m39.Company), .v (.int .i64 m39.From), .v (.int .i64 m39.To), .v (.int .i64 m39.Registered), .v (.int .i64 m39.Duty.Rate), .v (.int .i64 m39.Duty.Amount), .v (.int .i64 m39.Duty.Per), .v (.bool m39.Duty.HasMost), .v (.int .i64 m39.Duty.Most), .v (.bool m39.Duty.HasLeast), .v (.int .i64 m39.Duty.Least)]) rfl (.p rfl) rfl) ?_
      refine ybl rfl rfl rfl (pl_alloc (cs := [.v (.int .i64 0), .v (.int .i64 0), .v (.string ByteArray.empty), .v (.slice none 0 0), .v (.int .i64 0), .v (.int .i64 0), .v (.int .i64 0), .v (.int .i64 0), .v (.int .i64 0), .v (.int .i64 0), .v (.int .i64 0), .v (.bool false), .v (.int .i64 0), .v (.bool false), .v (.int .i64 0)]) rfl rfl rfl rfl (fun b40 => ?_))
      refine pwl_l0 rfl rfl (yax (vs := [.v (.int .i64 m39.ID), .v (.int .i64 m39.Kind), .v (.string m39.Prefix), .slc (List.map eS m39.Origins), .v (.int .i64 m39.Company), .v (.int .i64 m39.From), .v (.int .i64 m39.To), .v (.int .i64 m39.Registered), .v (.int .i64 m39.Duty.Rate), .v (.int .i64 m39.Duty.Amount), .v (.int .i64 m39.Duty.Per), .v (.bool m39.Duty.HasMost), .v (.int .i64 m39.Duty.Most), .v (.bool m39.Duty.HasLeast), .v (.int .i64 m39.Duty.Least)]) rfl rfl rfl rfl rfl zuh (zlc (zlc (zlc (zlc (zlc (zlc (zlc (zlc (zlc (zlc (zlc (zlc (zlc (zlc (zlc zln))))))))))))))) ?_)
      refine yad (yae (yab (yaa ?_)))
      refine yah rfl rfl rfl (yac rfl rfl rfl rfl rfl (.p rfl)) ?_
      refine yah rfl rfl rfl (yag (p := .slc (List.map eS m39.Origins)) rfl (.p rfl) zm0 rfl) ?_
      refine yaf hq21 ?_; clear hq21; intro x41 hx41 hq21
      refine ybl rfl rfl rfl (pl_callR rfl rfl (ρ1 := []) (List.Perm.refl _) (slices_Clone_string_string_ok hx41) ?_); rintro _ _ ⟨a42, c43, rfl, rfl⟩
      refine yah rfl rfl rfl (yac rfl rfl rfl rfl rfl (.p rfl)) ?_
      refine pwl_l0 rfl rfl (yax (vs := [.v (.slice a42 x41.length c43)]) rfl rfl rfl rfl rfl (zut zuh) (zlt (zlt (zlt (zlc zln)))) ?_)
      refine yad (yae (yaa ?_))
      refine zmv (p := .v (.slice a6 l5.length c7)) rfl rfl rfl rfl rfl ?_
      refine pwl_frz (css := List.map eS x41) (a := a42) (by exact zph) ?_
      refine pwl_viewb (k := 3) (css := List.map eS x41) (b := b40) (a := a42) rfl zm0 (zut zuh) ?_
      refine yah rfl rfl rfl (yag (p := .agg [.v (.int .i64 m39.ID), .v (.int .i64 m39.Kind), .v (.string m39.Prefix), .slc (List.map eS x41), .v (.int .i64 m39.Company), .v (.int .i64 m39.From), .v (.int .i64 m39.To), .v (.int .i64 m39.Registered), .v (.int .i64 m39.Duty.Rate), .v (.int .i64 m39.Duty.Amount), .v (.int .i64 m39.Duty.Per), .v (.bool m39.Duty.HasMost), .v (.int .i64 m39.Duty.Most), .v (.bool m39.Duty.HasLeast), .v (.int .i64 m39.Duty.Least)]) rfl (.p rfl) zm1 rfl) ?_
      refine ybl rfl rfl rfl (pl_lit rfl rfl rfl rfl rfl (zic rfl zin) rfl rfl rfl rfl (fun b45 => ?_))
      refine yaf hq21 ?_; clear hq21; intro l47 hl47 hq21
      refine ybl rfl rfl rfl (pl_app_o (enc := TMeasure.enc) rfl rfl rfl rfl rfl rfl rfl rfl rfl zm0 (by exact zpt (zpt (zpt zph))) hl47 (fun a48 c49 => ?_))
      refine zas (p := .v (.slice a48 l47.length c49)) rfl rfl rfl rfl rfl ?_
      refine yad (ybc ?_)
      obtain rfl := Option.some.inj hq21
      exact ybb ((a48, c49), l47) (zhc rfl (zhc rfl (zhc rfl (zhc rfl (zhc rfl (zhc rfl (zhc rfl zhn))))))) (zsc zph zsn) rfl
     ·replace hq21 := yaw hc38 hq21
      refine yao (ybc ?_)
      obtain rfl := Option.some.inj hq21
      exact ybb ((a6, c7), l5) (zhc rfl (zhc rfl (zhc rfl (zhc rfl (zhc rfl (zhc rfl (zhc rfl zhn))))))) (zsc zph zsn) rfl
   ·rintro ⟨⟨a18, c19⟩, l20⟩ τ hz; (try dsimp only at hz); subst q21; (try dsimp only at hb13); dsimp only [pupds]
    refine yaa ?_
    refine zmv (p := .v (.int .i64 v8)) rfl rfl rfl rfl rfl ?_
    refine yah rfl rfl rfl (yas rfl (.p rfl) (.p rfl) rfl) ?_
    refine zas (p := .v (.int .i64 (IntKind.i64.wrap (v8 + 1)))) rfl rfl rfl rfl rfl ?_
    refine yad ?_
    exact pk_loop hb13 (a18, c19) (zhc rfl (zhc rfl (zhc rfl (zhc rfl (zhc rfl (zhc rfl (zhc rfl zhn))))))) (zsc zph zsn)
  ·replace hb13 := yaw hc16 hb13
   refine pwc_exit (ybm ?_)
   refine ybh hb13 (fun ht => ?_)
   refine ybj rfl ?_
   exact ybb ((a6, c7), l5) (zhc rfl zhn) (zsc zph zsn) ht.symm
 ·rintro ⟨⟨a10, c11⟩, l12⟩ τ hz; (try dsimp only at hz); subst q14; (try dsimp only at h); dsimp only [pupds]
  refine yab (yaa ?_)
  refine zmv (p := .v (.slice a10 l12.length c11)) rfl rfl rfl rfl rfl ?_
  refine zas (p := .v (.slice a10 l12.length c11)) rfl rfl rfl rfl rfl ?_
  refine yad (yae ?_)
  refine pwc_frzt (css := List.map TMeasure.enc l12) 10 rfl (by exact zph) ?_
  refine yaq ?_
  obtain rfl := Option.some.inj h
  exact yar (prv_1 (yat rfl)) zsn ⟨rfl, rfl⟩
def measure_Validate (p0 : (List TMeasure)) : Option Int := cond (decide (300 < (p0.length : Int))) (some 8) (Option.bind (loopF (S := Int) (T := (Unit) ⊕ (_)) (fun v2 => cond (decide (v2 < (p0.length : Int))) (Option.bind (idx p0 v2) (fun m6 => cond ((((((decide (m6.ID < 1)) || (decide (1000000 < m6.ID))) || (decide (m6.Kind < 1))) || (decide (6 < m6.Kind))) || (decide (m6.Company < 0))) || (decide (999 < m6.Company))) (some (.inr (.inr 2))) (Option.bind (gd (decide (0 < v2)) (idx p0 (IntKind.i64.wrap (v2 - 1)))) (fun m9 => cond ((decide (0 < v2)) && (decide (m6.ID ≤ m9.ID))) (some (.inr (.inr 9))) (Option.bind (nomenclature_Level m6.Prefix) (fun x11 => cond (x11 == 0) (some (.inr (.inr 1))) (cond (decide (20 < (m6.Origins.length : Int))) (some (.inr (.inr 8))) (Option.bind (measure_validOrigins m6.Origins) (fun x14 => cond (!x14) (some (.inr (.inr 1))) (cond (((((decide (m6.From < 0)) || (decide (m6.To ≤ m6.From))) || (decide (36525 < m6.To))) || (decide (m6.Registered < (-1)))) || (decide (m6.From < m6.Registered))) (some (.inr (.inr 2))) (Option.bind (duty_Validate m6.Duty) (fun x17 => cond (x17 != 0) (some (.inr (.inr x17))) (some (.inl (IntKind.i64.wrap (v2 + 1)))))))))))))))) (some (.inr (.inl ())))) FUEL 0) (fun q => match q with | .inl _ => some 0 | .inr e => some e))
set_option maxHeartbeats 4000000 in
theorem measure_Validate_ok {p0 : (List TMeasure)} {r : Int}  (h : measure_Validate p0 = some r) : PF 35 [.slc (List.map TMeasure.enc p0)] (.v (.int .i64 r)) := by
 unfold measure_Validate at h
 refine pf_of ?_
 refine penter Tryz.func35 fk35 rfl Tryz.ntmps35 Tryz.results35 rfl ?_
 refine yab (yaa ?_)
 refine zas (p := .v (.int .i64 0)) rfl rfl rfl rfl rfl ?_
 refine yad (yae (yab (yab (yaa ?_))))
 refine zmv (p := .slc (List.map TMeasure.enc p0)) rfl rfl rfl rfl rfl ?_
 refine yah rfl rfl rfl (pq_lenT (enc := TMeasure.enc) rfl rfl (.p rfl)) ?_
 refine yah rfl rfl rfl (yak rfl (.p rfl) (.p rfl) rfl) ?_
 refine yad (yae ?_)
 refine yal rfl (fun hc1 => ?_) (fun hc1 => ?_)
 ·replace h := yav hc1 h
  refine yab (yaa ?_)
  refine zas (p := .v (.int .i64 8)) rfl rfl rfl rfl rfl ?_
  refine yad (yae (yaq (yap ?_)))
  obtain rfl := Option.some.inj h
  exact yar (prv_1 (yat rfl)) zsn ⟨rfl, rfl⟩
 ·replace h := yaw hc1 h
  refine yao (yae (yab (yab (yaa ?_))))
  refine zmv (p := .slc (List.map TMeasure.enc p0)) rfl rfl rfl rfl rfl ?_
  refine yah rfl rfl rfl (pq_lenT (enc := TMeasure.enc) rfl rfl (.p rfl)) ?_
  refine zmv (p := .v (.int .i64 0)) rfl rfl rfl rfl rfl ?_
  refine yad (yae ?_)
  refine yaf h ?_; clear h; intro q4 hq4 h
  refine ybe (Y := (Unit) × (Unit)) (fun (_, _) => []) (fun (_, _) => []) (fun (_, _) => q4 = Sum.inl ()) ?_ ?_
  ·refine yaz ?_
   refine pwc_loopF (Y := Unit) (S := Int) _ hq4 (fun _ v2 => [(0, .slc (List.map TMeasure.enc p0)), (9, .slc (List.map TMeasure.enc p0)), (10, .v (.int .i64 (p0.length : Int))), (11, .v (.int .i64 v2))]) (fun _ v2 => []) () (zhc rfl (zhc rfl (zhc rfl (zhc rfl zhn)))) zsn ?_
   rintro _ v2 o τ hb3; (try dsimp only at hb3); dsimp only [pupds]
   refine yab (yaa ?_)
   refine yah rfl rfl rfl (yak rfl (.p rfl) (.p rfl) rfl) ?_
   refine yad (yae (yab ?_))
   refine yal rfl (fun hc5 => ?_) (fun hc5 => ?_)
   ·replace hb3 := yav hc5 hb3
    refine yao (yae (yab (yaz (yab (yaa ?_)))))
    refine zmv (p := .v (.int .i64 v2)) rfl rfl rfl rfl rfl ?_
    refine yaf hb3 ?_; clear hb3; intro m6 hm6 hb3
    refine yah rfl rfl rfl (pq_index (enc := TMeasure.enc) rfl rfl rfl (fun _ => rfl) (.p rfl) (.p rfl) (fun _ => hm6)) ?_
    refine yah rfl rfl rfl (pq_load_r (p := .agg [.v (.int .i64 m6.ID), .v (.int .i64 m6.Kind), .v (.string m6.Prefix), .slc (List.map eS m6.Origins), .v (.int .i64 m6.Company), .v (.int .i64 m6.From), .v (.int .i64 m6.To), .v (.int .i64 m6.Registered), .v (.int .i64 m6.Duty.Rate), .v (.int .i64 m6.Duty.Amount), .v (.int .i64 m6.Duty.Per), .v (.bool m6.Duty.HasMost), .v (.int .i64 m6.Duty.Most), .v (.bool m6.Duty.HasLeast), .v (.int .i64 m6.Duty.Least)]) rfl (.p rfl) rfl) ?_
    refine ybl rfl rfl rfl (pl_alloc (cs := [.v (.int .i64 0), .v (.int .i64 0), .v (.string ByteArray.empty), .v (.slice none 0 0), .v (.int .i64 0), .v (.int .i64 0), .v (.int .i64 0), .v (.int .i64 0), .v (.int .i64 0), .v (.int .i64 0), .v (.int .i64 0), .v (.bool false), .v (.int .i64 0), .v (.bool false), .v (.int .i64 0)]) rfl rfl rfl rfl (fun b7 => ?_))
    refine zas (p := .v (.int .i64 v2)) rfl rfl rfl rfl rfl ?_
    refine pwl_l0 rfl rfl (yax (vs := [.v (.int .i64 m6.ID), .v (.int .i64 m6.Kind), .v (.string m6.Prefix), .slc (List.map eS m6.Origins), .v (.int .i64 m6.Company), .v (.int .i64 m6.From), .v (.int .i64 m6.To), .v (.int .i64 m6.Registered), .v (.int .i64 m6.Duty.Rate), .v (.int .i64 m6.Duty.Amount), .v (.int .i64 m6.Duty.Per), .v (.bool m6.Duty.HasMost), .v (.int .i64 m6.Duty.Most), .v (.bool m6.Duty.HasLeast), .v (.int .i64 m6.Duty.Least)]) rfl rfl rfl rfl rfl zuh (zlc (zlc (zlc (zlc (zlc (zlc (zlc (zlc (zlc (zlc (zlc (zlc (zlc (zlc (zlc zln))))))))))))))) ?_)
    refine yad (yae (yab (yab (yaa ?_))))
    refine yah rfl rfl rfl (yac rfl rfl rfl rfl rfl (.p rfl)) ?_
    refine yah rfl rfl rfl (yag (p := .v (.int .i64 m6.ID)) rfl (.p rfl) zm0 rfl) ?_
    refine yah rfl rfl rfl (yak rfl (.p rfl) (.p rfl) rfl) ?_
    refine zmv (p := .v (.bool (decide (m6.ID < 1)))) rfl rfl rfl rfl rfl ?_
    refine yaj (yai rfl rfl rfl) rfl rfl (yac rfl rfl rfl rfl rfl (.p rfl)) ?_
    refine yaj (yai rfl rfl rfl) rfl rfl (yag (p := .v (.int .i64 m6.ID)) rfl (.g rfl) zm0 rfl) ?_
    refine yaj (yai rfl rfl rfl) rfl rfl (yak rfl (.g rfl) (.p rfl) rfl) ?_
    refine yah rfl rfl rfl (pq_or rfl (.p rfl) (.p rfl) (.g rfl)) ?_
    refine zmv (p := .v (.bool ((decide (m6.ID < 1)) || (decide (1000000 < m6.ID))))) rfl rfl rfl rfl rfl ?_
    refine yaj (yai rfl rfl rfl) rfl rfl (yac rfl rfl rfl rfl rfl (.p rfl)) ?_
    refine yaj (yai rfl rfl rfl) rfl rfl (yag (p := .v (.int .i64 m6.Kind)) rfl (.g rfl) zm0 rfl) ?_
    refine yaj (yai rfl rfl rfl) rfl rfl (yak rfl (.g rfl) (.p rfl) rfl) ?_
    refine yah rfl rfl rfl (pq_or rfl (.p rfl) (.p rfl) (.g rfl)) ?_
    refine zmv (p := .v (.bool (((decide (m6.ID < 1)) || (decide (1000000 < m6.ID))) || (decide (m6.Kind < 1))))) rfl rfl rfl rfl rfl ?_
    refine yaj (yai rfl rfl rfl) rfl rfl (yac rfl rfl rfl rfl rfl (.p rfl)) ?_
    refine yaj (yai rfl rfl rfl) rfl rfl (yag (p := .v (.int .i64 m6.Kind)) rfl (.g rfl) zm0 rfl) ?_
    refine yaj (yai rfl rfl rfl) rfl rfl (yak rfl (.g rfl) (.p rfl) rfl) ?_
    refine yah rfl rfl rfl (pq_or rfl (.p rfl) (.p rfl) (.g rfl)) ?_
    refine zmv (p := .v (.bool ((((decide (m6.ID < 1)) || (decide (1000000 < m6.ID))) || (decide (m6.Kind < 1))) || (decide (6 < m6.Kind))))) rfl rfl rfl rfl rfl ?_
    refine yaj (yai rfl rfl rfl) rfl rfl (yac rfl rfl rfl rfl rfl (.p rfl)) ?_
    refine yaj (yai rfl rfl rfl) rfl rfl (yag (p := .v (.int .i64 m6.Company)) rfl (.g rfl) zm0 rfl) ?_
    refine yaj (yai rfl rfl rfl) rfl rfl (yak rfl (.g rfl) (.p rfl) rfl) ?_
    refine yah rfl rfl rfl (pq_or rfl (.p rfl) (.p rfl) (.g rfl)) ?_
    refine zmv (p := .v (.bool (((((decide (m6.ID < 1)) || (decide (1000000 < m6.ID))) || (decide (m6.Kind < 1))) || (decide (6 < m6.Kind))) || (decide (m6.Company < 0))))) rfl rfl rfl rfl rfl ?_
    refine yaj (yai rfl rfl rfl) rfl rfl (yac rfl rfl rfl rfl rfl (.p rfl)) ?_
    refine yaj (yai rfl rfl rfl) rfl rfl (yag (p := .v (.int .i64 m6.Company)) rfl (.g rfl) zm0 rfl) ?_
    refine yaj (yai rfl rfl rfl) rfl rfl (yak rfl (.g rfl) (.p rfl) rfl) ?_
    refine yah rfl rfl rfl (pq_or rfl (.p rfl) (.p rfl) (.g rfl)) ?_
    refine yad (yae ?_)
    refine yal rfl (fun hc8 => ?_) (fun hc8 => ?_)
    ·replace hb3 := yav hc8 hb3
     refine yab (yaa ?_)
     refine zas (p := .v (.int .i64 2)) rfl rfl rfl rfl rfl ?_
     refine yad (yae (yaq (yap (yba (yap ?_)))))
     refine pk_loop_ret hb3 (fun ht => ?_); subst ht
     have h := (show some _ = some _ from h)
     refine yba (pk_mid_ret ?_)
     obtain rfl := Option.some.inj h
     exact yar (prv_1 (yat rfl)) zsn ⟨rfl, rfl⟩
    ·replace hb3 := yaw hc8 hb3
     refine yao (yae (yab (yab ?_)))
     refine pwc_draw (ρd := []) [(0, 0), (1, 0), (2, 0), (3, 0), (4, 0), (5, 0), (6, 0), (7, 0), (8, 0), (9, 0), (10, 0), (11, 0), (12, 0)] _ (List.Perm.refl _) (by kernel_rfl) rfl ?_
     refine ybf rfl rfl rfl (yam (p := .v (.int .i64 v2)) rfl (.p rfl)) ?_
     refine ybf rfl rfl rfl (yak rfl (.p rfl) (.p rfl) rfl) ?_
     refine ybf rfl rfl rfl (yam (p := .v (.bool (decide (0 < v2)))) rfl (.p rfl)) ?_
     refine ybi (yan rfl rfl rfl) rfl rfl (yac rfl rfl rfl rfl rfl (.p rfl)) ?_
     refine ybi (yan rfl rfl rfl) rfl rfl (yag (p := .v (.int .i64 m6.ID)) rfl (.g rfl) zm0 rfl) ?_
     refine ybi (yan rfl rfl rfl) rfl rfl (yam (p := .slc (List.map TMeasure.enc p0)) rfl (.p rfl)) ?_
     refine ybi (yan rfl rfl rfl) rfl rfl (yam (p := .v (.int .i64 v2)) rfl (.p rfl)) ?_
     refine ybi (yan rfl rfl rfl) rfl rfl (yas rfl (.g rfl) (.p rfl) rfl) ?_
     refine yaf hb3 ?_; clear hb3; intro m9 hm9 hb3
     refine ybi (yan rfl rfl rfl) rfl rfl (pq_index (enc := TMeasure.enc) rfl rfl rfl (fun _ => rfl) (.g rfl) (.g rfl) (gd_t hm9)) ?_
     refine ybi (yan rfl rfl rfl) rfl rfl (pq_fieldAddrR rfl rfl rfl rfl rfl (.g rfl)) ?_
     refine ybi (yan rfl rfl rfl) rfl rfl (pq_load_r (p := .v (.int .i64 m9.ID)) rfl (.g rfl) rfl) ?_
     refine ybi (yan rfl rfl rfl) rfl rfl (yak rfl (.g rfl) (.g rfl) rfl) ?_
     refine ybf rfl rfl rfl (pq_and rfl (.p rfl) (.p rfl) (.g rfl)) ?_
     refine pwd_nil (yae ?_)
     refine yal rfl (fun hc10 => ?_) (fun hc10 => ?_)
     ·replace hb3 := yav hc10 hb3
      refine yab (yaa ?_)
      refine zas (p := .v (.int .i64 9)) rfl rfl rfl rfl rfl ?_
      refine yad (yae (yaq (yap (yba (yap ?_)))))
      refine pk_loop_ret hb3 (fun ht => ?_); subst ht
      have h := (show some _ = some _ from h)
      refine yba (pk_mid_ret ?_)
      obtain rfl := Option.some.inj h
      exact yar (prv_1 (yat rfl)) zsn ⟨rfl, rfl⟩
     ·replace hb3 := yaw hc10 hb3
      refine yao (yae (yab (yab (yaa ?_))))
      refine yah rfl rfl rfl (yac rfl rfl rfl rfl rfl (.p rfl)) ?_
      refine yah rfl rfl rfl (yag (p := .v (.string m6.Prefix)) rfl (.p rfl) zm0 rfl) ?_
      refine yaf hb3 ?_; clear hb3; intro x11 hx11 hb3
      refine ybd rfl rfl rfl rfl rfl (nomenclature_Level_ok hx11) ?_
      refine yah rfl rfl rfl (yak rfl (.p rfl) (.p rfl) rfl) ?_
      refine yad (yae ?_)
      refine yal rfl (fun hc12 => ?_) (fun hc12 => ?_)
      ·replace hb3 := yav hc12 hb3
       refine yab (yaa ?_)
       refine zas (p := .v (.int .i64 1)) rfl rfl rfl rfl rfl ?_
       refine yad (yae (yaq (yap (yba (yap ?_)))))
       refine pk_loop_ret hb3 (fun ht => ?_); subst ht
       have h := (show some _ = some _ from h)
       refine yba (pk_mid_ret ?_)
       obtain rfl := Option.some.inj h
       exact yar (prv_1 (yat rfl)) zsn ⟨rfl, rfl⟩
      ·replace hb3 := yaw hc12 hb3
       refine yao (yae (yab (yab (yaa ?_))))
       refine yah rfl rfl rfl (yac rfl rfl rfl rfl rfl (.p rfl)) ?_
       refine yah rfl rfl rfl (yag (p := .slc (List.map eS m6.Origins)) rfl (.p rfl) zm0 rfl) ?_
       refine yah rfl rfl rfl (pq_lenT (enc := eS) rfl rfl (.p rfl)) ?_
       refine yah rfl rfl rfl (yak rfl (.p rfl) (.p rfl) rfl) ?_
       refine yad (yae ?_)
       refine yal rfl (fun hc13 => ?_) (fun hc13 => ?_)
       ·replace hb3 := yav hc13 hb3
        refine yab (yaa ?_)
        refine zas (p := .v (.int .i64 8)) rfl rfl rfl rfl rfl ?_
        refine yad (yae (yaq (yap (yba (yap ?_)))))
        refine pk_loop_ret hb3 (fun ht => ?_); subst ht
        have h := (show some _ = some _ from h)
        refine yba (pk_mid_ret ?_)
        obtain rfl := Option.some.inj h
        exact yar (prv_1 (yat rfl)) zsn ⟨rfl, rfl⟩
       ·replace hb3 := yaw hc13 hb3
        refine yao (yae (yab (yab (yaa ?_))))
        refine yah rfl rfl rfl (yac rfl rfl rfl rfl rfl (.p rfl)) ?_
        refine yah rfl rfl rfl (yag (p := .slc (List.map eS m6.Origins)) rfl (.p rfl) zm0 rfl) ?_
        refine yaf hb3 ?_; clear hb3; intro x14 hx14 hb3
        refine ybd rfl rfl rfl rfl rfl (measure_validOrigins_ok hx14) ?_
        refine yah rfl rfl rfl (pq_not rfl (.p rfl)) ?_
        refine yad (yae ?_)
        refine yal rfl (fun hc15 => ?_) (fun hc15 => ?_)
        ·replace hb3 := yav hc15 hb3
         refine yab (yaa ?_)
         refine zas (p := .v (.int .i64 1)) rfl rfl rfl rfl rfl ?_
         refine yad (yae (yaq (yap (yba (yap ?_)))))
         refine pk_loop_ret hb3 (fun ht => ?_); subst ht
         have h := (show some _ = some _ from h)
         refine yba (pk_mid_ret ?_)
         obtain rfl := Option.some.inj h
         exact yar (prv_1 (yat rfl)) zsn ⟨rfl, rfl⟩
        ·replace hb3 := yaw hc15 hb3
         refine yao (yae (yab (yab (yaa ?_))))
         refine yah rfl rfl rfl (yac rfl rfl rfl rfl rfl (.p rfl)) ?_
         refine yah rfl rfl rfl (yag (p := .v (.int .i64 m6.From)) rfl (.p rfl) zm0 rfl) ?_
         refine yah rfl rfl rfl (yak rfl (.p rfl) (.p rfl) rfl) ?_
         refine zmv (p := .v (.bool (decide (m6.From < 0)))) rfl rfl rfl rfl rfl ?_
         refine yaj (yai rfl rfl rfl) rfl rfl (yac rfl rfl rfl rfl rfl (.p rfl)) ?_
         refine yaj (yai rfl rfl rfl) rfl rfl (yag (p := .v (.int .i64 m6.To)) rfl (.g rfl) zm0 rfl) ?_
         refine yaj (yai rfl rfl rfl) rfl rfl (yac rfl rfl rfl rfl rfl (.p rfl)) ?_
         refine yaj (yai rfl rfl rfl) rfl rfl (yag (p := .v (.int .i64 m6.From)) rfl (.g rfl) zm0 rfl) ?_
         refine yaj (yai rfl rfl rfl) rfl rfl (yak rfl (.g rfl) (.g rfl) rfl) ?_
         refine yah rfl rfl rfl (pq_or rfl (.p rfl) (.p rfl) (.g rfl)) ?_
         refine zmv (p := .v (.bool ((decide (m6.From < 0)) || (decide (m6.To ≤ m6.From))))) rfl rfl rfl rfl rfl ?_
         refine yaj (yai rfl rfl rfl) rfl rfl (yac rfl rfl rfl rfl rfl (.p rfl)) ?_
         refine yaj (yai rfl rfl rfl) rfl rfl (yag (p := .v (.int .i64 m6.To)) rfl (.g rfl) zm0 rfl) ?_
         refine yaj (yai rfl rfl rfl) rfl rfl (yak rfl (.g rfl) (.p rfl) rfl) ?_
         refine yah rfl rfl rfl (pq_or rfl (.p rfl) (.p rfl) (.g rfl)) ?_
         refine zmv (p := .v (.bool (((decide (m6.From < 0)) || (decide (m6.To ≤ m6.From))) || (decide (36525 < m6.To))))) rfl rfl rfl rfl rfl ?_
         refine yaj (yai rfl rfl rfl) rfl rfl (yac rfl rfl rfl rfl rfl (.p rfl)) ?_
         refine yaj (yai rfl rfl rfl) rfl rfl (yag (p := .v (.int .i64 m6.Registered)) rfl (.g rfl) zm0 rfl) ?_
         refine yaj (yai rfl rfl rfl) rfl rfl (yak rfl (.g rfl) (.p rfl) rfl) ?_
         refine yah rfl rfl rfl (pq_or rfl (.p rfl) (.p rfl) (.g rfl)) ?_
         refine zmv (p := .v (.bool ((((decide (m6.From < 0)) || (decide (m6.To ≤ m6.From))) || (decide (36525 < m6.To))) || (decide (m6.Registered < (-1)))))) rfl rfl rfl rfl rfl ?_
         refine yaj (yai rfl rfl rfl) rfl rfl (yac rfl rfl rfl rfl rfl (.p rfl)) ?_
         refine yaj (yai rfl rfl rfl) rfl rfl (yag (p := .v (.int .i64 m6.Registered)) rfl (.g rfl) zm0 rfl) ?_
         refine yaj (yai rfl rfl rfl) rfl rfl (yac rfl rfl rfl rfl rfl (.p rfl)) ?_
         refine yaj (yai rfl rfl rfl) rfl rfl (yag (p := .v (.int .i64 m6.From)) rfl (.g rfl) zm0 rfl) ?_
         refine yaj (yai rfl rfl rfl) rfl rfl (yak rfl (.g rfl) (.g rfl) rfl) ?_
         refine yah rfl rfl rfl (pq_or rfl (.p rfl) (.p rfl) (.g rfl)) ?_
         refine yad (yae ?_)
         refine yal rfl (fun hc16 => ?_) (fun hc16 => ?_)
         ·replace hb3 := yav hc16 hb3
          refine yab (yaa ?_)
          refine zas (p := .v (.int .i64 2)) rfl rfl rfl rfl rfl ?_
          refine yad (yae (yaq (yap (yba (yap ?_)))))
          refine pk_loop_ret hb3 (fun ht => ?_); subst ht
          have h := (show some _ = some _ from h)
          refine yba (pk_mid_ret ?_)
          obtain rfl := Option.some.inj h
          exact yar (prv_1 (yat rfl)) zsn ⟨rfl, rfl⟩
         ·replace hb3 := yaw hc16 hb3
          refine yao (yae (yab (yaa ?_)))
          refine yah rfl rfl rfl (yac rfl rfl rfl rfl rfl (.p rfl)) ?_
          refine yah rfl rfl rfl (yag (p := .agg [.v (.int .i64 m6.Duty.Rate), .v (.int .i64 m6.Duty.Amount), .v (.int .i64 m6.Duty.Per), .v (.bool m6.Duty.HasMost), .v (.int .i64 m6.Duty.Most), .v (.bool m6.Duty.HasLeast), .v (.int .i64 m6.Duty.Least)]) rfl (.p rfl) zm0 rfl) ?_
          refine yaf hb3 ?_; clear hb3; intro x17 hx17 hb3
          refine ybd rfl rfl rfl rfl rfl (duty_Validate_ok hx17) ?_
          refine zas (p := .v (.int .i64 x17)) rfl rfl rfl rfl rfl ?_
          refine yad (yae (yab (yaa ?_)))
          refine zmv (p := .v (.int .i64 x17)) rfl rfl rfl rfl rfl ?_
          refine yah rfl rfl rfl (yak rfl (.p rfl) (.p rfl) rfl) ?_
          refine yad (yae ?_)
          refine yal rfl (fun hc18 => ?_) (fun hc18 => ?_)
          ·replace hb3 := yav hc18 hb3
           refine yab (yaa ?_)
           refine zmv (p := .v (.int .i64 x17)) rfl rfl rfl rfl rfl ?_
           refine zas (p := .v (.int .i64 x17)) rfl rfl rfl rfl rfl ?_
           refine yad (yae (yaq (yba (yap ?_))))
           refine pk_loop_ret hb3 (fun ht => ?_); subst ht
           have h := (show some _ = some _ from h)
           refine yba (pk_mid_ret ?_)
           obtain rfl := Option.some.inj h
           exact yar (prv_1 (yat rfl)) zsn ⟨rfl, rfl⟩
          ·replace hb3 := yaw hc18 hb3
           refine yao (ybc (yae (yaa ?_)))
           refine yah rfl rfl rfl (yas rfl (.p rfl) (.p rfl) rfl) ?_
           refine zmv (p := .v (.int .i64 (IntKind.i64.wrap (v2 + 1)))) rfl rfl rfl rfl rfl ?_
           refine yad ?_
           exact pk_loop hb3 () (zhc rfl (zhc rfl (zhc rfl (zhc rfl zhn)))) zsn
   ·replace hb3 := yaw hc5 hb3
    refine pwc_exit (ybm ?_)
    refine ybh hb3 (fun ht => ?_)
    refine ybj rfl ?_
    exact ybb ((), ()) zhn zsn ht.symm
  ·rintro ⟨_, _⟩ τ hz; (try dsimp only at hz); subst q4; (try dsimp only at h); dsimp only [pupds]
   refine yab (yaa ?_)
   refine zas (p := .v (.int .i64 0)) rfl rfl rfl rfl rfl ?_
   refine yad (yae (yaq ?_))
   obtain rfl := Option.some.inj h
   exact yar (prv_1 (yat rfl)) zsn ⟨rfl, rfl⟩
def assess_Validate (p0 : TItem) : Option Int := Option.bind (nomenclature_Level p0.Code) (fun x2 => Option.bind (gd (!(x2 != 8)) (production_ValidCountry p0.Origin)) (fun x3 => cond ((x2 != 8) || (!x3)) (some 1) (cond ((((((((((decide (p0.Company < 0)) || (decide (999 < p0.Company))) || (decide (p0.Day < 0))) || (decide (36524 < p0.Day))) || (decide (p0.Quantity < 0))) || (decide (1000000000 < p0.Quantity))) || (decide (p0.Value < 0))) || (decide (1000000000000 < p0.Value))) || (decide (p0.Granted < 0))) || (decide (p0.Quantity < p0.Granted))) (some 2) (some 0))))
set_option maxHeartbeats 4000000 in
theorem assess_Validate_ok {p0 : TItem} {r : Int}  (h : assess_Validate p0 = some r) : PF 12 [.agg [.v (.string p0.Code), .v (.string p0.Origin), .v (.bool p0.Proof), .v (.int .i64 p0.Company), .v (.int .i64 p0.Day), .v (.int .i64 p0.Quantity), .v (.int .i64 p0.Value), .v (.int .i64 p0.Granted)]] (.v (.int .i64 r)) := by
 unfold assess_Validate at h
 refine pf_of ?_
 refine penter Tryz.func12 fk12 rfl Tryz.ntmps12 Tryz.results12 rfl ?_
 refine yab (yaa ?_)
 refine ybl rfl rfl rfl (pl_box (cs := [.v (.string p0.Code), .v (.string p0.Origin), .v (.bool p0.Proof), .v (.int .i64 p0.Company), .v (.int .i64 p0.Day), .v (.int .i64 p0.Quantity), .v (.int .i64 p0.Value), .v (.int .i64 p0.Granted)]) rfl rfl (fun b1 => ?_))
 refine zas (p := .v (.int .i64 0)) rfl rfl rfl rfl rfl ?_
 refine yad (yae (yab (yab (yaa ?_))))
 refine yah rfl rfl rfl (yac rfl rfl rfl rfl rfl (.p rfl)) ?_
 refine yah rfl rfl rfl (yag (p := .v (.string p0.Code)) rfl (.p rfl) zm0 rfl) ?_
 refine yaf h ?_; clear h; intro x2 hx2 h
 refine ybd rfl rfl rfl rfl rfl (nomenclature_Level_ok hx2) ?_
 refine yah rfl rfl rfl (yak rfl (.p rfl) (.p rfl) rfl) ?_
 refine zmv (p := .v (.bool (x2 != 8))) rfl rfl rfl rfl rfl ?_
 refine yaj (yai rfl rfl rfl) rfl rfl (yac rfl rfl rfl rfl rfl (.p rfl)) ?_
 refine yaj (yai rfl rfl rfl) rfl rfl (yag (p := .v (.string p0.Origin)) rfl (.g rfl) zm0 rfl) ?_
 refine yaf h ?_; clear h; intro x3 hx3 h
 refine pwl_callg (yai rfl rfl rfl) rfl rfl rfl (ybg (.g rfl) (pargs_nil)) (fun hc => production_ValidCountry_ok (gd_t hx3 hc)) ?_
 refine yaj (yai rfl rfl rfl) rfl rfl (pq_not rfl (.g rfl)) ?_
 refine yah rfl rfl rfl (pq_or rfl (.p rfl) (.p rfl) (.g rfl)) ?_
 refine yad (yae ?_)
 refine yal rfl (fun hc4 => ?_) (fun hc4 => ?_)
 ·replace h := yav hc4 h
  refine yab (yaa ?_)
  refine zas (p := .v (.int .i64 1)) rfl rfl rfl rfl rfl ?_
  refine yad (yae (yaq (yap ?_)))
  obtain rfl := Option.some.inj h
  exact yar (prv_1 (yat rfl)) zsn ⟨rfl, rfl⟩
 ·replace h := yaw hc4 h
  refine yao (yae (yab (yab (yaa ?_))))
  refine yah rfl rfl rfl (yac rfl rfl rfl rfl rfl (.p rfl)) ?_
  refine yah rfl rfl rfl (yag (p := .v (.int .i64 p0.Company)) rfl (.p rfl) zm0 rfl) ?_
  refine yah rfl rfl rfl (yak rfl (.p rfl) (.p rfl) rfl) ?_
  refine zmv (p := .v (.bool (decide (p0.Company < 0)))) rfl rfl rfl rfl rfl ?_
  refine yaj (yai rfl rfl rfl) rfl rfl (yac rfl rfl rfl rfl rfl (.p rfl)) ?_
  refine yaj (yai rfl rfl rfl) rfl rfl (yag (p := .v (.int .i64 p0.Company)) rfl (.g rfl) zm0 rfl) ?_
  refine yaj (yai rfl rfl rfl) rfl rfl (yak rfl (.g rfl) (.p rfl) rfl) ?_
  refine yah rfl rfl rfl (pq_or rfl (.p rfl) (.p rfl) (.g rfl)) ?_
  refine zmv (p := .v (.bool ((decide (p0.Company < 0)) || (decide (999 < p0.Company))))) rfl rfl rfl rfl rfl ?_
  refine yaj (yai rfl rfl rfl) rfl rfl (yac rfl rfl rfl rfl rfl (.p rfl)) ?_
  refine yaj (yai rfl rfl rfl) rfl rfl (yag (p := .v (.int .i64 p0.Day)) rfl (.g rfl) zm0 rfl) ?_
  refine yaj (yai rfl rfl rfl) rfl rfl (yak rfl (.g rfl) (.p rfl) rfl) ?_
  refine yah rfl rfl rfl (pq_or rfl (.p rfl) (.p rfl) (.g rfl)) ?_
  refine zmv (p := .v (.bool (((decide (p0.Company < 0)) || (decide (999 < p0.Company))) || (decide (p0.Day < 0))))) rfl rfl rfl rfl rfl ?_
  refine yaj (yai rfl rfl rfl) rfl rfl (yac rfl rfl rfl rfl rfl (.p rfl)) ?_
  refine yaj (yai rfl rfl rfl) rfl rfl (yag (p := .v (.int .i64 p0.Day)) rfl (.g rfl) zm0 rfl) ?_
  refine yaj (yai rfl rfl rfl) rfl rfl (yak rfl (.g rfl) (.p rfl) rfl) ?_
  refine yah rfl rfl rfl (pq_or rfl (.p rfl) (.p rfl) (.g rfl)) ?_
  refine zmv (p := .v (.bool ((((decide (p0.Company < 0)) || (decide (999 < p0.Company))) || (decide (p0.Day < 0))) || (decide (36524 < p0.Day))))) rfl rfl rfl rfl rfl ?_
  refine yaj (yai rfl rfl rfl) rfl rfl (yac rfl rfl rfl rfl rfl (.p rfl)) ?_
  refine yaj (yai rfl rfl rfl) rfl rfl (yag (p := .v (.int .i64 p0.Quantity)) rfl (.g rfl) zm0 rfl) ?_
  refine yaj (yai rfl rfl rfl) rfl rfl (yak rfl (.g rfl) (.p rfl) rfl) ?_
  refine yah rfl rfl rfl (pq_or rfl (.p rfl) (.p rfl) (.g rfl)) ?_
  refine zmv (p := .v (.bool (((((decide (p0.Company < 0)) || (decide (999 < p0.Company))) || (decide (p0.Day < 0))) || (decide (36524 < p0.Day))) || (decide (p0.Quantity < 0))))) rfl rfl rfl rfl rfl ?_
  refine yaj (yai rfl rfl rfl) rfl rfl (yac rfl rfl rfl rfl rfl (.p rfl)) ?_
  refine yaj (yai rfl rfl rfl) rfl rfl (yag (p := .v (.int .i64 p0.Quantity)) rfl (.g rfl) zm0 rfl) ?_
  refine yaj (yai rfl rfl rfl) rfl rfl (yak rfl (.g rfl) (.p rfl) rfl) ?_
  refine yah rfl rfl rfl (pq_or rfl (.p rfl) (.p rfl) (.g rfl)) ?_
  refine zmv (p := .v (.bool ((((((decide (p0.Company < 0)) || (decide (999 < p0.Company))) || (decide (p0.Day < 0))) || (decide (36524 < p0.Day))) || (decide (p0.Quantity < 0))) || (decide (1000000000 < p0.Quantity))))) rfl rfl rfl rfl rfl ?_
  refine yaj (yai rfl rfl rfl) rfl rfl (yac rfl rfl rfl rfl rfl (.p rfl)) ?_
  refine yaj (yai rfl rfl rfl) rfl rfl (yag (p := .v (.int .i64 p0.Value)) rfl (.g rfl) zm0 rfl) ?_
  refine yaj (yai rfl rfl rfl) rfl rfl (yak rfl (.g rfl) (.p rfl) rfl) ?_
  refine yah rfl rfl rfl (pq_or rfl (.p rfl) (.p rfl) (.g rfl)) ?_
  refine zmv (p := .v (.bool (((((((decide (p0.Company < 0)) || (decide (999 < p0.Company))) || (decide (p0.Day < 0))) || (decide (36524 < p0.Day))) || (decide (p0.Quantity < 0))) || (decide (1000000000 < p0.Quantity))) || (decide (p0.Value < 0))))) rfl rfl rfl rfl rfl ?_
  refine yaj (yai rfl rfl rfl) rfl rfl (yac rfl rfl rfl rfl rfl (.p rfl)) ?_
  refine yaj (yai rfl rfl rfl) rfl rfl (yag (p := .v (.int .i64 p0.Value)) rfl (.g rfl) zm0 rfl) ?_
  refine yaj (yai rfl rfl rfl) rfl rfl (yak rfl (.g rfl) (.p rfl) rfl) ?_
  refine yah rfl rfl rfl (pq_or rfl (.p rfl) (.p rfl) (.g rfl)) ?_
  refine zmv (p := .v (.bool ((((((((decide (p0.Company < 0)) || (decide (999 < p0.Company))) || (decide (p0.Day < 0))) || (decide (36524 < p0.Day))) || (decide (p0.Quantity < 0))) || (decide (1000000000 < p0.Quantity))) || (decide (p0.Value < 0))) || (decide (1000000000000 < p0.Value))))) rfl rfl rfl rfl rfl ?_
  refine yaj (yai rfl rfl rfl) rfl rfl (yac rfl rfl rfl rfl rfl (.p rfl)) ?_
  refine yaj (yai rfl rfl rfl) rfl rfl (yag (p := .v (.int .i64 p0.Granted)) rfl (.g rfl) zm0 rfl) ?_
  refine yaj (yai rfl rfl rfl) rfl rfl (yak rfl (.g rfl) (.p rfl) rfl) ?_
  refine yah rfl rfl rfl (pq_or rfl (.p rfl) (.p rfl) (.g rfl)) ?_
  refine zmv (p := .v (.bool (((((((((decide (p0.Company < 0)) || (decide (999 < p0.Company))) || (decide (p0.Day < 0))) || (decide (36524 < p0.Day))) || (decide (p0.Quantity < 0))) || (decide (1000000000 < p0.Quantity))) || (decide (p0.Value < 0))) || (decide (1000000000000 < p0.Value))) || (decide (p0.Granted < 0))))) rfl rfl rfl rfl rfl ?_
  refine yaj (yai rfl rfl rfl) rfl rfl (yac rfl rfl rfl rfl rfl (.p rfl)) ?_
  refine yaj (yai rfl rfl rfl) rfl rfl (yag (p := .v (.int .i64 p0.Granted)) rfl (.g rfl) zm0 rfl) ?_
  refine yaj (yai rfl rfl rfl) rfl rfl (yac rfl rfl rfl rfl rfl (.p rfl)) ?_
  refine yaj (yai rfl rfl rfl) rfl rfl (yag (p := .v (.int .i64 p0.Quantity)) rfl (.g rfl) zm0 rfl) ?_
  refine yaj (yai rfl rfl rfl) rfl rfl (yak rfl (.g rfl) (.g rfl) rfl) ?_
  refine yah rfl rfl rfl (pq_or rfl (.p rfl) (.p rfl) (.g rfl)) ?_
  refine yad (yae ?_)
  refine yal rfl (fun hc5 => ?_) (fun hc5 => ?_)
  ·replace h := yav hc5 h
   refine yab (yaa ?_)
   refine zas (p := .v (.int .i64 2)) rfl rfl rfl rfl rfl ?_
   refine yad (yae (yaq (yap ?_)))
   obtain rfl := Option.some.inj h
   exact yar (prv_1 (yat rfl)) zsn ⟨rfl, rfl⟩
  ·replace h := yaw hc5 h
   refine yao (yae (yab (yaa ?_)))
   refine zas (p := .v (.int .i64 0)) rfl rfl rfl rfl rfl ?_
   refine yad (yae (yaq ?_))
   obtain rfl := Option.some.inj h
   exact yar (prv_1 (yat rfl)) zsn ⟨rfl, rfl⟩
def assess_Assess (p0 : (List TMeasure)) (p1 : TItem) : Option (TDebt × Int) := Option.bind (measure_Validate p0) (fun x3 => cond (x3 != 0) (some ((⟨[], 0⟩ : TDebt), x3)) (Option.bind (assess_Validate p1) (fun x5 => cond (x5 != 0) (some ((⟨[], 0⟩ : TDebt), x5)) (Option.bind (measure_Applicable p0 p1.Code p1.Origin p1.Company p1.Day) (fun x7 => Option.bind (slices_ContainsFunc_api_Measure_api_Measure x7 (fun y8 => assess_Assess_1 y8)) (fun x9 => cond (!x9) (some ((⟨[], 0⟩ : TDebt), 7)) (Option.bind (assess_partsOf p1) (fun x11 => cond (x11.2 != 0) (some ((⟨[], 0⟩ : TDebt), x11.2)) (Option.bind (loopF (S := Int × (List TDebtLine) × Int) (T := ((List TDebtLine) × Int) ⊕ (_)) (fun (v14, l16, v19) => cond (decide (v14 < (x11.1.length : Int))) (Option.bind (α := ((List TDebtLine) × Int) ⊕ _) (Option.bind (idx x11.1 v14) (fun m35 => Option.bind (assess_leastDuty x7 m35) (fun x37 => cond (x37.2.2 != 0) (some (.inr (.inr (.inr ((⟨[], 0⟩ : TDebt), x37.2.2))))) (cond x37.2.1 (Option.bind (app 40 l16 [x37.1]) (fun l43 => some (.inl (l43, (IntKind.i64.wrap (v19 + x37.1.Amount)))))) (some (.inl (l16, v19))))))) (fun q => match q with | .inl (l32, v33) => some (.inl ((IntKind.i64.wrap (v14 + 1)), l32, v33)) | .inr e => some e)) (some (.inr (.inl (l16, v19))))) FUEL (0, ([] : List TDebtLine), 0)) (fun q => match q with | .inl (l23, v24) => cond (decide (1000000000000 < v24)) (some ((⟨[], 0⟩ : TDebt), 3)) (some ((⟨l23, v24⟩ : TDebt), 0)) | .inr e => some e))))))))))
set_option maxHeartbeats 4000000 in
theorem assess_Assess_ok {p0 : (List TMeasure)} {p1 : TItem} {r : (TDebt × Int)}  (h : assess_Assess p0 p1 = some r) : PF 17 [.slc (List.map TMeasure.enc p0), .agg [.v (.string p1.Code), .v (.string p1.Origin), .v (.bool p1.Proof), .v (.int .i64 p1.Company), .v (.int .i64 p1.Day), .v (.int .i64 p1.Quantity), .v (.int .i64 p1.Value), .v (.int .i64 p1.Granted)]] (.tup [.agg [.slc (List.map TDebtLine.enc r.1.Lines), .v (.int .i64 r.1.Total)], .v (.int .i64 r.2)]) := by
 unfold assess_Assess at h
 refine pf_of ?_
 refine penter Tryz.func17 fk17 rfl Tryz.ntmps17 Tryz.results17 rfl ?_
 refine yab (yaa ?_)
 refine ybl rfl rfl rfl (pl_box (cs := [.v (.string p1.Code), .v (.string p1.Origin), .v (.bool p1.Proof), .v (.int .i64 p1.Company), .v (.int .i64 p1.Day), .v (.int .i64 p1.Quantity), .v (.int .i64 p1.Value), .v (.int .i64 p1.Granted)]) rfl rfl (fun b1 => ?_))
 refine ybl rfl rfl rfl (pl_alloc (cs := [.v (.slice none 0 0), .v (.int .i64 0)]) rfl rfl rfl rfl (fun b2 => ?_))
 refine zas (p := .v (.int .i64 0)) rfl rfl rfl rfl rfl ?_
 refine yad (yae (yab (yab (yaa ?_))))
 refine zmv (p := .slc (List.map TMeasure.enc p0)) rfl rfl rfl rfl rfl ?_
 refine yaf h ?_; clear h; intro x3 hx3 h
 refine ybd rfl rfl rfl rfl rfl (measure_Validate_ok hx3) ?_
 refine zas (p := .v (.int .i64 x3)) rfl rfl rfl rfl rfl ?_
 refine yad (yae (yab (yaa ?_)))
 refine zmv (p := .v (.int .i64 x3)) rfl rfl rfl rfl rfl ?_
 refine yah rfl rfl rfl (yak rfl (.p rfl) (.p rfl) rfl) ?_
 refine yad (yae ?_)
 refine yal rfl (fun hc4 => ?_) (fun hc4 => ?_)
 ·replace h := yav hc4 h
  refine yab (yaa ?_)
  refine yah rfl rfl rfl (pq_build (cs := [.v (.slice none 0 0), .v (.int .i64 0)]) rfl rfl rfl rfl rfl rfl rfl zfn) ?_
  refine zmv (p := .v (.int .i64 x3)) rfl rfl rfl rfl rfl ?_
  refine pwl_l0 rfl rfl (yax (vs := [.v (.slice none 0 0), .v (.int .i64 0)]) rfl rfl rfl rfl rfl zuh (zlc (zlc zln)) ?_)
  refine zas (p := .v (.int .i64 x3)) rfl rfl rfl rfl rfl ?_
  refine yad (yae ?_)
  refine pwc_nilb (k := 0) (b := b2) rfl zuh ?_
  refine yaq (yap ?_)
  obtain rfl := Option.some.inj h
  exact yar (prv_2 (prv1_c rfl zm0 rfl) (yat rfl)) zsn ⟨rfl, rfl⟩
 ·replace h := yaw hc4 h
  refine yao (yae (yab (yab (yaa ?_))))
  refine yah rfl rfl rfl (yag (p := .agg [.v (.string p1.Code), .v (.string p1.Origin), .v (.bool p1.Proof), .v (.int .i64 p1.Company), .v (.int .i64 p1.Day), .v (.int .i64 p1.Quantity), .v (.int .i64 p1.Value), .v (.int .i64 p1.Granted)]) rfl (.p rfl) zm1 rfl) ?_
  refine yaf h ?_; clear h; intro x5 hx5 h
  refine ybd rfl rfl rfl rfl rfl (assess_Validate_ok hx5) ?_
  refine zas (p := .v (.int .i64 x5)) rfl rfl rfl rfl rfl ?_
  refine yad (yae (yab (yaa ?_)))
  refine zmv (p := .v (.int .i64 x5)) rfl rfl rfl rfl rfl ?_
  refine yah rfl rfl rfl (yak rfl (.p rfl) (.p rfl) rfl) ?_
  refine yad (yae ?_)
  refine yal rfl (fun hc6 => ?_) (fun hc6 => ?_)
  ·replace h := yav hc6 h
   refine yab (yaa ?_)
   refine yah rfl rfl rfl (pq_build (cs := [.v (.slice none 0 0), .v (.int .i64 0)]) rfl rfl rfl rfl rfl rfl rfl zfn) ?_
   refine zmv (p := .v (.int .i64 x5)) rfl rfl rfl rfl rfl ?_
   refine pwl_l0 rfl rfl (yax (vs := [.v (.slice none 0 0), .v (.int .i64 0)]) rfl rfl rfl rfl rfl zuh (zlc (zlc zln)) ?_)
   refine zas (p := .v (.int .i64 x5)) rfl rfl rfl rfl rfl ?_
   refine yad (yae ?_)
   refine pwc_nilb (k := 0) (b := b2) rfl zuh ?_
   refine yaq (yap ?_)
   obtain rfl := Option.some.inj h
   exact yar (prv_2 (prv1_c rfl zm0 rfl) (yat rfl)) zsn ⟨rfl, rfl⟩
  ·replace h := yaw hc6 h
   refine yao (yae (yab (yaa ?_)))
   refine zmv (p := .slc (List.map TMeasure.enc p0)) rfl rfl rfl rfl rfl ?_
   refine yah rfl rfl rfl (yac rfl rfl rfl rfl rfl (.p rfl)) ?_
   refine yah rfl rfl rfl (yag (p := .v (.string p1.Code)) rfl (.p rfl) zm1 rfl) ?_
   refine yah rfl rfl rfl (yac rfl rfl rfl rfl rfl (.p rfl)) ?_
   refine yah rfl rfl rfl (yag (p := .v (.string p1.Origin)) rfl (.p rfl) zm1 rfl) ?_
   refine yah rfl rfl rfl (yac rfl rfl rfl rfl rfl (.p rfl)) ?_
   refine yah rfl rfl rfl (yag (p := .v (.int .i64 p1.Company)) rfl (.p rfl) zm1 rfl) ?_
   refine yah rfl rfl rfl (yac rfl rfl rfl rfl rfl (.p rfl)) ?_
   refine yah rfl rfl rfl (yag (p := .v (.int .i64 p1.Day)) rfl (.p rfl) zm1 rfl) ?_
   refine yaf h ?_; clear h; intro x7 hx7 h
   refine ybd rfl rfl rfl rfl rfl (measure_Applicable_ok hx7) ?_
   refine zas (p := .slc (List.map TMeasure.enc x7)) rfl rfl rfl rfl rfl ?_
   refine yad (yae (yab (yab (yaa ?_))))
   refine zmv (p := .slc (List.map TMeasure.enc x7)) rfl rfl rfl rfl rfl ?_
   refine yaf h ?_; clear h; intro x9 hx9 h
   refine ybd rfl rfl rfl rfl rfl (slices_ContainsFunc_api_Measure_api_Measure_ok (fun hr => pfv_of (assess_Assess_1_ok hr)) hx9) ?_
   refine yah rfl rfl rfl (pq_not rfl (.p rfl)) ?_
   refine yad (yae ?_)
   refine yal rfl (fun hc10 => ?_) (fun hc10 => ?_)
   ·replace h := yav hc10 h
    refine yab (yaa ?_)
    refine yah rfl rfl rfl (pq_build (cs := [.v (.slice none 0 0), .v (.int .i64 0)]) rfl rfl rfl rfl rfl rfl rfl zfn) ?_
    refine pwl_l0 rfl rfl (yax (vs := [.v (.slice none 0 0), .v (.int .i64 0)]) rfl rfl rfl rfl rfl zuh (zlc (zlc zln)) ?_)
    refine zas (p := .v (.int .i64 7)) rfl rfl rfl rfl rfl ?_
    refine yad (yae ?_)
    refine pwc_nilb (k := 0) (b := b2) rfl zuh ?_
    refine yaq (yap ?_)
    obtain rfl := Option.some.inj h
    exact yar (prv_2 (prv1_c rfl zm0 rfl) (yat rfl)) zsn ⟨rfl, rfl⟩
   ·replace h := yaw hc10 h
    refine yao (yae (yab (yaa ?_)))
    refine yah rfl rfl rfl (yag (p := .agg [.v (.string p1.Code), .v (.string p1.Origin), .v (.bool p1.Proof), .v (.int .i64 p1.Company), .v (.int .i64 p1.Day), .v (.int .i64 p1.Quantity), .v (.int .i64 p1.Value), .v (.int .i64 p1.Granted)]) rfl (.p rfl) zm1 rfl) ?_
    refine yaf h ?_; clear h; intro x11 hx11 h
    refine ybd rfl rfl rfl rfl rfl (assess_partsOf_ok hx11) ?_
    refine zmv (p := .tup [.slc (List.map Tassess_part.enc x11.1), .v (.int .i64 x11.2)]) rfl rfl rfl rfl rfl ?_
    refine zex (p := .slc (List.map Tassess_part.enc x11.1)) rfl rfl rfl rfl rfl rfl ?_
    refine zex (p := .v (.int .i64 x11.2)) rfl rfl rfl rfl rfl rfl ?_
    refine zas (p := .slc (List.map Tassess_part.enc x11.1)) rfl rfl rfl rfl rfl ?_
    refine zas (p := .v (.int .i64 x11.2)) rfl rfl rfl rfl rfl ?_
    refine yad (yae (yab (yab (yaa ?_))))
    refine zmv (p := .v (.int .i64 x11.2)) rfl rfl rfl rfl rfl ?_
    refine yah rfl rfl rfl (yak rfl (.p rfl) (.p rfl) rfl) ?_
    refine yad (yae ?_)
    refine yal rfl (fun hc12 => ?_) (fun hc12 => ?_)
    ·replace h := yav hc12 h
     refine yab (yaa ?_)
     refine yah rfl rfl rfl (pq_build (cs := [.v (.slice none 0 0), .v (.int .i64 0)]) rfl rfl rfl rfl rfl rfl rfl zfn) ?_
     refine zmv (p := .v (.int .i64 x11.2)) rfl rfl rfl rfl rfl ?_
     refine pwl_l0 rfl rfl (yax (vs := [.v (.slice none 0 0), .v (.int .i64 0)]) rfl rfl rfl rfl rfl zuh (zlc (zlc zln)) ?_)
     refine zas (p := .v (.int .i64 x11.2)) rfl rfl rfl rfl rfl ?_
     refine yad (yae ?_)
     refine pwc_nilb (k := 0) (b := b2) rfl zuh ?_
     refine yaq (yap ?_)
     obtain rfl := Option.some.inj h
     exact yar (prv_2 (prv1_c rfl zm0 rfl) (yat rfl)) zsn ⟨rfl, rfl⟩
    ·replace h := yaw hc12 h
     refine yao (yae (yab (yaa ?_)))
     refine ybl rfl rfl rfl (pl_alloc (cs := [.v (.slice none 0 0), .v (.int .i64 0)]) rfl rfl rfl rfl (fun b13 => ?_))
     refine yad (yae (yab (yab (yaa ?_))))
     refine zmv (p := .slc (List.map Tassess_part.enc x11.1)) rfl rfl rfl rfl rfl ?_
     refine yah rfl rfl rfl (pq_lenT (enc := Tassess_part.enc) rfl rfl (.p rfl)) ?_
     refine zmv (p := .v (.int .i64 0)) rfl rfl rfl rfl rfl ?_
     refine yad (yae ?_)
     refine pwc_nilrow 49 5 ?_
     refine yaf h ?_; clear h; intro q26 hq26 h
     refine ybe (Y := (Option Addr × Nat) × ((List TDebtLine) × Int)) (fun ((a21, c22), (l23, v24)) => [(4, .v (.pointer (some ⟨b2, 0, none⟩))), (11, .v (.pointer (some ⟨b13, 0, none⟩)))]) (fun ((a21, c22), (l23, v24)) => [PRes.b b13 35 [.v (.slice a21 l23.length c22), .v (.int .i64 v24)], PRes.b b2 35 [.v (.slice none 0 0), .v (.int .i64 0)], PRes.row a21 l23.length c22 49 5 (List.map TDebtLine.enc l23)]) (fun ((a21, c22), (l23, v24)) => q26 = Sum.inl (l23, v24)) ?_ ?_
     ·refine yaz ?_
      refine pwc_loopF (Y := Option Addr × Nat) (S := Int × (List TDebtLine) × Int) _ hq26 (fun (a17, c18) (v14, l16, v19) => [(4, .v (.pointer (some ⟨b2, 0, none⟩))), (8, .slc (List.map TMeasure.enc x7)), (11, .v (.pointer (some ⟨b13, 0, none⟩))), (52, .slc (List.map Tassess_part.enc x11.1)), (53, .v (.int .i64 (x11.1.length : Int))), (54, .v (.int .i64 v14))]) (fun (a17, c18) (v14, l16, v19) => [PRes.b b13 35 [.v (.slice a17 l16.length c18), .v (.int .i64 v19)], PRes.b b2 35 [.v (.slice none 0 0), .v (.int .i64 0)], PRes.row a17 l16.length c18 49 5 (List.map TDebtLine.enc l16)]) (none, 0) (zhc rfl (zhc rfl (zhc rfl (zhc rfl (zhc rfl (zhc rfl zhn)))))) (zsc (zpt zph) (zsc (zpt zph) (zsc zph zsn))) ?_
      rintro ⟨a17, c18⟩ ⟨v14, l16, v19⟩ o τ hb25; (try dsimp only at hb25); dsimp only [pupds]
      refine yab (yaa ?_)
      refine yah rfl rfl rfl (yak rfl (.p rfl) (.p rfl) rfl) ?_
      refine yad (yae (yab ?_))
      refine yal rfl (fun hc28 => ?_) (fun hc28 => ?_)
      ·replace hb25 := yav hc28 hb25
       refine yao (yae (yab ?_))
       refine yaf hb25 ?_; clear hb25; intro q34 hq34 hb25
       refine ybe (Y := (Option Addr × Nat) × ((List TDebtLine) × Int)) (fun ((a30, c31), (l32, v33)) => [(4, .v (.pointer (some ⟨b2, 0, none⟩))), (8, .slc (List.map TMeasure.enc x7)), (11, .v (.pointer (some ⟨b13, 0, none⟩))), (52, .slc (List.map Tassess_part.enc x11.1)), (53, .v (.int .i64 (x11.1.length : Int))), (54, .v (.int .i64 v14))]) (fun ((a30, c31), (l32, v33)) => [PRes.b b13 35 [.v (.slice a30 l32.length c31), .v (.int .i64 v33)], PRes.b b2 35 [.v (.slice none 0 0), .v (.int .i64 0)], PRes.row a30 l32.length c31 49 5 (List.map TDebtLine.enc l32)]) (fun ((a30, c31), (l32, v33)) => q34 = Sum.inl (l32, v33)) ?_ ?_
       ·skip
        refine yaz (yab (yaa ?_))
        refine yaf hq34 ?_; clear hq34; intro m35 hm35 hq34
        refine yah rfl rfl rfl (pq_index (enc := Tassess_part.enc) rfl rfl rfl (fun _ => rfl) (.p rfl) (.p rfl) (fun _ => hm35)) ?_
        refine yah rfl rfl rfl (pq_load_r (p := .agg [.v (.int .i64 m35.quantity), .v (.int .i64 m35.value), .slc (List.map eI m35.kinds)]) rfl (.p rfl) rfl) ?_
        refine ybl rfl rfl rfl (pl_alloc (cs := [.v (.int .i64 0), .v (.int .i64 0), .v (.slice none 0 0)]) rfl rfl rfl rfl (fun b36 => ?_))
        refine pwl_l0 rfl rfl (yax (vs := [.v (.int .i64 m35.quantity), .v (.int .i64 m35.value), .slc (List.map eI m35.kinds)]) rfl rfl rfl rfl rfl zuh (zlc (zlc (zlc zln))) ?_)
        refine yad (yae (yab (yaa ?_)))
        refine zmv (p := .slc (List.map TMeasure.enc x7)) rfl rfl rfl rfl rfl ?_
        refine yah rfl rfl rfl (yag (p := .agg [.v (.int .i64 m35.quantity), .v (.int .i64 m35.value), .slc (List.map eI m35.kinds)]) rfl (.p rfl) zm0 rfl) ?_
        refine yaf hq34 ?_; clear hq34; intro x37 hx37 hq34
        refine ybd rfl rfl rfl rfl rfl (assess_leastDuty_ok hx37) ?_
        refine zmv (p := .tup [.agg [.v (.int .i64 x37.1.Kind), .v (.int .i64 x37.1.Measure), .v (.int .i64 x37.1.Quantity), .v (.int .i64 x37.1.Value), .v (.int .i64 x37.1.Amount)], .v (.bool x37.2.1), .v (.int .i64 x37.2.2)]) rfl rfl rfl rfl rfl ?_
        refine zex (p := .agg [.v (.int .i64 x37.1.Kind), .v (.int .i64 x37.1.Measure), .v (.int .i64 x37.1.Quantity), .v (.int .i64 x37.1.Value), .v (.int .i64 x37.1.Amount)]) rfl rfl rfl rfl rfl rfl ?_
        refine zex (p := .v (.bool x37.2.1)) rfl rfl rfl rfl rfl rfl ?_
        refine zex (p := .v (.int .i64 x37.2.2)) rfl rfl rfl rfl rfl rfl ?_
        refine ybl rfl rfl rfl (pl_alloc (cs := [.v (.int .i64 0), .v (.int .i64 0), .v (.int .i64 0), .v (.int .i64 0), .v (.int .i64 0)]) rfl rfl rfl rfl (fun b38 => ?_))
        refine pwl_l0 rfl rfl (yax (vs := [.v (.int .i64 x37.1.Kind), .v (.int .i64 x37.1.Measure), .v (.int .i64 x37.1.Quantity), .v (.int .i64 x37.1.Value), .v (.int .i64 x37.1.Amount)]) rfl rfl rfl rfl rfl zuh (zlc (zlc (zlc (zlc (zlc zln))))) ?_)
        refine zas (p := .v (.bool x37.2.1)) rfl rfl rfl rfl rfl ?_
        refine zas (p := .v (.int .i64 x37.2.2)) rfl rfl rfl rfl rfl ?_
        refine yad (yae (yab (yab (yaa ?_))))
        refine zmv (p := .v (.int .i64 x37.2.2)) rfl rfl rfl rfl rfl ?_
        refine yah rfl rfl rfl (yak rfl (.p rfl) (.p rfl) rfl) ?_
        refine yad (yae ?_)
        refine yal rfl (fun hc39 => ?_) (fun hc39 => ?_)
        ·replace hq34 := yav hc39 hq34
         refine yab (yaa ?_)
         refine yah rfl rfl rfl (pq_build (cs := [.v (.slice none 0 0), .v (.int .i64 0)]) rfl rfl rfl rfl rfl rfl rfl zfn) ?_
         refine zmv (p := .v (.int .i64 x37.2.2)) rfl rfl rfl rfl rfl ?_
         refine pwl_l0 rfl rfl (yax (vs := [.v (.slice none 0 0), .v (.int .i64 0)]) rfl rfl rfl rfl rfl (zut (zut (zut zuh))) (zlc (zlc zln)) ?_)
         refine zas (p := .v (.int .i64 x37.2.2)) rfl rfl rfl rfl rfl ?_
         refine yad (yae ?_)
         refine pwc_nilb (k := 0) (b := b2) rfl (zut (zut (zut zuh))) ?_
         refine yaq (yap (yba (pk_mid_ret ?_)))
         obtain rfl := Option.some.inj hq34
         have hb25 := (show some _ = some _ from hb25)
         refine pk_loop_ret hb25 (fun ht => ?_); subst ht
         have h := (show some _ = some _ from h)
         refine yba (pk_mid_ret ?_)
         obtain rfl := Option.some.inj h
         exact yar (prv_2 (prv1_c rfl zm3 rfl) (yat rfl)) zsn ⟨rfl, rfl⟩
        ·replace hq34 := yaw hc39 hq34
         refine yao (yae (yab (yaa ?_)))
         refine zmv (p := .v (.bool x37.2.1)) rfl rfl rfl rfl rfl ?_
         refine yad (yae ?_)
         refine yal rfl (fun hc40 => ?_) (fun hc40 => ?_)
         ·replace hq34 := yav hc40 hq34
          refine yab (yaa ?_)
          refine yah rfl rfl rfl (yac rfl rfl rfl rfl rfl (.p rfl)) ?_
          refine yah rfl rfl rfl (yag (p := .v (.slice a17 l16.length c18)) rfl (.p rfl) zm2 rfl) ?_
          refine yah rfl rfl rfl (yag (p := .agg [.v (.int .i64 x37.1.Kind), .v (.int .i64 x37.1.Measure), .v (.int .i64 x37.1.Quantity), .v (.int .i64 x37.1.Value), .v (.int .i64 x37.1.Amount)]) rfl (.p rfl) zm0 rfl) ?_
          refine ybl rfl rfl rfl (pl_lit rfl rfl rfl rfl rfl (zic rfl zin) rfl rfl rfl rfl (fun b41 => ?_))
          refine yaf hq34 ?_; clear hq34; intro l43 hl43 hq34
          refine ybl rfl rfl rfl (pl_app_o (enc := TDebtLine.enc) rfl rfl rfl rfl rfl rfl rfl rfl rfl zm0 (by exact zpt (zpt (zpt (zpt (zpt zph))))) hl43 (fun a44 c45 => ?_))
          refine yah rfl rfl rfl (yac rfl rfl rfl rfl rfl (.p rfl)) ?_
          refine pwl_l0 rfl rfl (yax (vs := [.v (.slice a44 l43.length c45)]) rfl rfl rfl rfl rfl (zut (zut (zut (zut zuh)))) (zlc zln) ?_)
          refine yad (yae (yaa ?_))
          refine yah rfl rfl rfl (yac rfl rfl rfl rfl rfl (.p rfl)) ?_
          refine yah rfl rfl rfl (yag (p := .v (.int .i64 v19)) rfl (.p rfl) zm4 rfl) ?_
          refine yah rfl rfl rfl (yac rfl rfl rfl rfl rfl (.p rfl)) ?_
          refine yah rfl rfl rfl (yag (p := .v (.int .i64 x37.1.Amount)) rfl (.p rfl) zm2 rfl) ?_
          refine yah rfl rfl rfl (yas rfl (.p rfl) (.p rfl) rfl) ?_
          refine yah rfl rfl rfl (yac rfl rfl rfl rfl rfl (.p rfl)) ?_
          refine pwl_l0 rfl rfl (yax (vs := [.v (.int .i64 (IntKind.i64.wrap (v19 + x37.1.Amount)))]) rfl rfl rfl rfl rfl (zut (zut (zut (zut zuh)))) (zlt (zlc zln)) ?_)
          refine yad (ybc ?_)
          obtain rfl := Option.some.inj hq34
          exact ybb ((a44, c45), (l43, (IntKind.i64.wrap (v19 + x37.1.Amount)))) (zhc rfl (zhc rfl (zhc rfl (zhc rfl (zhc rfl (zhc rfl zhn)))))) (zsc (zpt (zpt (zpt (zpt zph)))) (zsc (zpt (zpt (zpt (zpt zph)))) (zsc zph zsn))) rfl
         ·replace hq34 := yaw hc40 hq34
          refine yao (ybc ?_)
          obtain rfl := Option.some.inj hq34
          exact ybb ((a17, c18), (l16, v19)) (zhc rfl (zhc rfl (zhc rfl (zhc rfl (zhc rfl (zhc rfl zhn)))))) (zsc (zpt (zpt zph)) (zsc (zpt (zpt zph)) (zsc (zpt (zpt zph)) zsn))) rfl
       ·rintro ⟨⟨a30, c31⟩, ⟨l32, v33⟩⟩ τ hz; (try dsimp only at hz); subst q34; (try dsimp only at hb25); dsimp only [pupds]
        refine yaa ?_
        refine yah rfl rfl rfl (yas rfl (.p rfl) (.p rfl) rfl) ?_
        refine zmv (p := .v (.int .i64 (IntKind.i64.wrap (v14 + 1)))) rfl rfl rfl rfl rfl ?_
        refine yad ?_
        exact pk_loop hb25 (a30, c31) (zhc rfl (zhc rfl (zhc rfl (zhc rfl (zhc rfl (zhc rfl zhn)))))) (zsc zph (zsc zph (zsc zph zsn)))
      ·replace hb25 := yaw hc28 hb25
       refine pwc_exit (ybm ?_)
       refine ybh hb25 (fun ht => ?_)
       refine ybj rfl ?_
       exact ybb ((a17, c18), (l16, v19)) (zhc rfl (zhc rfl zhn)) (zsc zph (zsc zph (zsc zph zsn))) ht.symm
     ·rintro ⟨⟨a21, c22⟩, ⟨l23, v24⟩⟩ τ hz; (try dsimp only at hz); subst q26; (try dsimp only at h); dsimp only [pupds]
      refine yab (yab (yaa ?_))
      refine yah rfl rfl rfl (yac rfl rfl rfl rfl rfl (.p rfl)) ?_
      refine yah rfl rfl rfl (yag (p := .v (.int .i64 v24)) rfl (.p rfl) zm0 rfl) ?_
      refine yah rfl rfl rfl (yak rfl (.p rfl) (.p rfl) rfl) ?_
      refine yad (yae ?_)
      refine yal rfl (fun hc47 => ?_) (fun hc47 => ?_)
      ·replace h := yav hc47 h
       refine yab (yaa ?_)
       refine yah rfl rfl rfl (pq_build (cs := [.v (.slice none 0 0), .v (.int .i64 0)]) rfl rfl rfl rfl rfl rfl rfl zfn) ?_
       refine pwl_l0 rfl rfl (yax (vs := [.v (.slice none 0 0), .v (.int .i64 0)]) rfl rfl rfl rfl rfl (zut zuh) (zlc (zlc zln)) ?_)
       refine zas (p := .v (.int .i64 3)) rfl rfl rfl rfl rfl ?_
       refine yad (yae ?_)
       refine pwc_nilb (k := 0) (b := b2) rfl (zut zuh) ?_
       refine yaq (yap ?_)
       obtain rfl := Option.some.inj h
       exact yar (prv_2 (prv1_c rfl zm1 rfl) (yat rfl)) zsn ⟨rfl, rfl⟩
      ·replace h := yaw hc47 h
       refine yao (yae (yab (yaa ?_)))
       refine pwl_frz (css := List.map TDebtLine.enc l23) (a := a21) (by exact zpt (zpt zph)) ?_
       refine pwl_viewb (k := 0) (css := List.map TDebtLine.enc l23) (b := b13) (a := a21) rfl zm0 (zut zuh) ?_
       refine yah rfl rfl rfl (yag (p := .agg [.slc (List.map TDebtLine.enc l23), .v (.int .i64 v24)]) rfl (.p rfl) zm1 rfl) ?_
       refine pwl_l0 rfl rfl (yax (vs := [.slc (List.map TDebtLine.enc l23), .v (.int .i64 v24)]) rfl rfl rfl rfl rfl (zut (zut zuh)) (zlc (zlc zln)) ?_)
       refine zas (p := .v (.int .i64 0)) rfl rfl rfl rfl rfl ?_
       refine yad (yae (yaq ?_))
       obtain rfl := Option.some.inj h
       exact yar (prv_2 (prv1_c rfl zm2 rfl) (yat rfl)) zsn ⟨rfl, rfl⟩
def assess_Total (p0 : (List TMeasure)) (p1 : TItem) : Option (Int × Int) := Option.bind (assess_Assess p0 p1) (fun x2 => some (x2.1.Total, x2.2))
set_option maxHeartbeats 4000000 in
theorem assess_Total_ok {p0 : (List TMeasure)} {p1 : TItem} {r : (Int × Int)}  (h : assess_Total p0 p1 = some r) : PF 19 [.slc (List.map TMeasure.enc p0), .agg [.v (.string p1.Code), .v (.string p1.Origin), .v (.bool p1.Proof), .v (.int .i64 p1.Company), .v (.int .i64 p1.Day), .v (.int .i64 p1.Quantity), .v (.int .i64 p1.Value), .v (.int .i64 p1.Granted)]] (.tup [.v (.int .i64 r.1), .v (.int .i64 r.2)]) := by
 unfold assess_Total at h
 refine pf_of ?_
 refine penter Tryz.func19 fk19 rfl Tryz.ntmps19 Tryz.results19 rfl ?_
 refine yab (yaa ?_)
 refine ybl rfl rfl rfl (pl_box (cs := [.v (.string p1.Code), .v (.string p1.Origin), .v (.bool p1.Proof), .v (.int .i64 p1.Company), .v (.int .i64 p1.Day), .v (.int .i64 p1.Quantity), .v (.int .i64 p1.Value), .v (.int .i64 p1.Granted)]) rfl rfl (fun b1 => ?_))
 refine zas (p := .v (.int .i64 0)) rfl rfl rfl rfl rfl ?_
 refine zas (p := .v (.int .i64 0)) rfl rfl rfl rfl rfl ?_
 refine yad (yae (yab (yaa ?_)))
 refine zmv (p := .slc (List.map TMeasure.enc p0)) rfl rfl rfl rfl rfl ?_
 refine yah rfl rfl rfl (yag (p := .agg [.v (.string p1.Code), .v (.string p1.Origin), .v (.bool p1.Proof), .v (.int .i64 p1.Company), .v (.int .i64 p1.Day), .v (.int .i64 p1.Quantity), .v (.int .i64 p1.Value), .v (.int .i64 p1.Granted)]) rfl (.p rfl) zm0 rfl) ?_
 refine yaf h ?_; clear h; intro x2 hx2 h
 refine ybd rfl rfl rfl rfl rfl (assess_Assess_ok hx2) ?_
 refine zmv (p := .tup [.agg [.slc (List.map TDebtLine.enc x2.1.Lines), .v (.int .i64 x2.1.Total)], .v (.int .i64 x2.2)]) rfl rfl rfl rfl rfl ?_
 refine zex (p := .agg [.slc (List.map TDebtLine.enc x2.1.Lines), .v (.int .i64 x2.1.Total)]) rfl rfl rfl rfl rfl rfl ?_
 refine zex (p := .v (.int .i64 x2.2)) rfl rfl rfl rfl rfl rfl ?_
 refine ybl rfl rfl rfl (pl_alloc (cs := [.v (.slice none 0 0), .v (.int .i64 0)]) rfl rfl rfl rfl (fun b3 => ?_))
 refine pwl_l0 rfl rfl (yax (vs := [.slc (List.map TDebtLine.enc x2.1.Lines), .v (.int .i64 x2.1.Total)]) rfl rfl rfl rfl rfl zuh (zlc (zlc zln)) ?_)
 refine zas (p := .v (.int .i64 x2.2)) rfl rfl rfl rfl rfl ?_
 refine yad (yae (yab (yaa ?_)))
 refine yah rfl rfl rfl (yac rfl rfl rfl rfl rfl (.p rfl)) ?_
 refine yah rfl rfl rfl (yag (p := .v (.int .i64 x2.1.Total)) rfl (.p rfl) zm0 rfl) ?_
 refine zmv (p := .v (.int .i64 x2.2)) rfl rfl rfl rfl rfl ?_
 refine zas (p := .v (.int .i64 x2.1.Total)) rfl rfl rfl rfl rfl ?_
 refine zas (p := .v (.int .i64 x2.2)) rfl rfl rfl rfl rfl ?_
 refine yad (yae (yaq ?_))
 obtain rfl := Option.some.inj h
 exact yar (prv_2 (yat rfl) (yat rfl)) zsn ⟨rfl, rfl⟩
def law20_awake  : Option Bool := Option.bind (assess_Assess [(⟨1, 1, (⟨#[57, 52]⟩ : ByteArray), [], 0, 0, 100, (-1), (⟨50000, 0, 0, false, 0, false, 0⟩ : TDuty)⟩ : TMeasure), (⟨2, 3, (⟨#[57, 52]⟩ : ByteArray), [], 0, 0, 100, (-1), (⟨0, 0, 0, false, 0, false, 0⟩ : TDuty)⟩ : TMeasure)] (⟨(⟨#[57, 52, 48, 49, 51, 48, 48, 48]⟩ : ByteArray), (⟨#[65, 65]⟩ : ByteArray), false, 0, 0, 10, 10000, 0⟩ : TItem)) (fun x4 => Option.bind (assess_Total [(⟨1, 1, (⟨#[57, 52]⟩ : ByteArray), [], 0, 0, 100, (-1), (⟨50000, 0, 0, false, 0, false, 0⟩ : TDuty)⟩ : TMeasure), (⟨2, 3, (⟨#[57, 52]⟩ : ByteArray), [], 0, 0, 100, (-1), (⟨0, 0, 0, false, 0, false, 0⟩ : TDuty)⟩ : TMeasure)] (⟨(⟨#[57, 52, 48, 49, 51, 48, 48, 48]⟩ : ByteArray), (⟨#[65, 65]⟩ : ByteArray), true, 0, 0, 10, 10000, 0⟩ : TItem)) (fun x6 => some (((((x4.2 == 0) && (x6.2 == 0)) && (x4.1.Total == 500)) && ((x4.1.Lines.length : Int) == 1)) && (x6.1 == 0))))
set_option maxHeartbeats 4000000 in
theorem law20_awake_ok  {r : Bool}  (h : law20_awake  = some r) : PF 15 [] (.v (.bool r)) := by
 unfold law20_awake at h
 refine pf_of ?_
 refine penter Tryz.func15 fk15 rfl Tryz.ntmps15 Tryz.results15 rfl ?_
 refine yab (yaa ?_)
 refine zas (p := .v (.bool false)) rfl rfl rfl rfl rfl ?_
 refine yad (yae (yab (yaa ?_)))
 refine yah rfl rfl rfl (pq_build (cs := [.v (.int .i64 50000), .v (.int .i64 0), .v (.int .i64 0), .v (.bool false), .v (.int .i64 0), .v (.bool false), .v (.int .i64 0)]) rfl rfl rfl rfl rfl rfl rfl (zfc rfl rfl rfl rfl (zlc zln) zfn)) ?_
 refine yah rfl rfl rfl (pq_build (cs := [.v (.int .i64 1), .v (.int .i64 1), .v (.string (⟨#[57, 52]⟩ : ByteArray)), .v (.slice none 0 0), .v (.int .i64 0), .v (.int .i64 0), .v (.int .i64 100), .v (.int .i64 (-1)), .v (.int .i64 50000), .v (.int .i64 0), .v (.int .i64 0), .v (.bool false), .v (.int .i64 0), .v (.bool false), .v (.int .i64 0)]) rfl rfl rfl rfl rfl rfl rfl (zfc rfl rfl rfl rfl (zlc zln) (zfc rfl rfl rfl rfl (zlt (zlc zln)) (zfc rfl rfl rfl rfl (zlt (zlt (zlc zln))) (zfc rfl rfl rfl rfl (zlt (zlt (zlt (zlt (zlt (zlt (zlc zln))))))) (zfc rfl rfl rfl rfl (zlt (zlt (zlt (zlt (zlt (zlt (zlt (zlc zln)))))))) (zfc rfl rfl rfl rfl (zlt (zlt (zlt (zlt (zlt (zlt (zlt (zlt (zlc (zlc (zlc (zlc (zlc (zlc (zlc zln))))))))))))))) zfn))))))) ?_
 refine yah rfl rfl rfl (pq_build (cs := [.v (.int .i64 2), .v (.int .i64 3), .v (.string (⟨#[57, 52]⟩ : ByteArray)), .v (.slice none 0 0), .v (.int .i64 0), .v (.int .i64 0), .v (.int .i64 100), .v (.int .i64 (-1)), .v (.int .i64 0), .v (.int .i64 0), .v (.int .i64 0), .v (.bool false), .v (.int .i64 0), .v (.bool false), .v (.int .i64 0)]) rfl rfl rfl rfl rfl rfl rfl (zfc rfl rfl rfl rfl (zlc zln) (zfc rfl rfl rfl rfl (zlt (zlc zln)) (zfc rfl rfl rfl rfl (zlt (zlt (zlc zln))) (zfc rfl rfl rfl rfl (zlt (zlt (zlt (zlt (zlt (zlt (zlc zln))))))) (zfc rfl rfl rfl rfl (zlt (zlt (zlt (zlt (zlt (zlt (zlt (zlc zln)))))))) zfn)))))) ?_
 refine pwl_aggnil 8 3 rfl rfl ?_
 refine pwl_aggnil 9 3 rfl rfl ?_
 refine ybl rfl rfl rfl (pl_lit rfl rfl rfl rfl rfl (zic rfl (zic rfl zin)) rfl rfl rfl rfl (fun b1 => ?_))
 refine zas (p := .v (.slice (some ⟨b1, 0, none⟩) 2 2)) rfl rfl rfl rfl rfl ?_
 refine yad (yae (yab (yaa ?_)))
 refine yah rfl rfl rfl (pq_build (cs := [.v (.string (⟨#[57, 52, 48, 49, 51, 48, 48, 48]⟩ : ByteArray)), .v (.string (⟨#[65, 65]⟩ : ByteArray)), .v (.bool false), .v (.int .i64 0), .v (.int .i64 0), .v (.int .i64 10), .v (.int .i64 10000), .v (.int .i64 0)]) rfl rfl rfl rfl rfl rfl rfl (zfc rfl rfl rfl rfl (zlc zln) (zfc rfl rfl rfl rfl (zlt (zlc zln)) (zfc rfl rfl rfl rfl (zlt (zlt (zlt (zlt (zlt (zlc zln)))))) (zfc rfl rfl rfl rfl (zlt (zlt (zlt (zlt (zlt (zlt (zlc zln))))))) zfn))))) ?_
 refine ybl rfl rfl rfl (pl_alloc (cs := [.v (.string ByteArray.empty), .v (.string ByteArray.empty), .v (.bool false), .v (.int .i64 0), .v (.int .i64 0), .v (.int .i64 0), .v (.int .i64 0), .v (.int .i64 0)]) rfl rfl rfl rfl (fun b3 => ?_))
 refine pwl_l0 rfl rfl (yax (vs := [.v (.string (⟨#[57, 52, 48, 49, 51, 48, 48, 48]⟩ : ByteArray)), .v (.string (⟨#[65, 65]⟩ : ByteArray)), .v (.bool false), .v (.int .i64 0), .v (.int .i64 0), .v (.int .i64 10), .v (.int .i64 10000), .v (.int .i64 0)]) rfl rfl rfl rfl rfl zuh (zlc (zlc (zlc (zlc (zlc (zlc (zlc (zlc zln)))))))) ?_)
 refine yad (yae (yab (yaa ?_)))
 refine zmv (p := .v (.slice (some ⟨b1, 0, none⟩) 2 2)) rfl rfl rfl rfl rfl ?_
 refine yah rfl rfl rfl (yag (p := .agg [.v (.string (⟨#[57, 52, 48, 49, 51, 48, 48, 48]⟩ : ByteArray)), .v (.string (⟨#[65, 65]⟩ : ByteArray)), .v (.bool false), .v (.int .i64 0), .v (.int .i64 0), .v (.int .i64 10), .v (.int .i64 10000), .v (.int .i64 0)]) rfl (.p rfl) zm0 rfl) ?_
 refine pwl_frzt (css := List.map TMeasure.enc [(⟨1, 1, (⟨#[57, 52]⟩ : ByteArray), [], 0, 0, 100, (-1), (⟨50000, 0, 0, false, 0, false, 0⟩ : TDuty)⟩ : TMeasure), (⟨2, 3, (⟨#[57, 52]⟩ : ByteArray), [], 0, 0, 100, (-1), (⟨0, 0, 0, false, 0, false, 0⟩ : TDuty)⟩ : TMeasure)]) 13 rfl (by exact zpt zph) ?_
 refine yaf h ?_; clear h; intro x4 hx4 h
 refine ybd rfl rfl rfl rfl rfl (assess_Assess_ok hx4) ?_
 refine zmv (p := .tup [.agg [.slc (List.map TDebtLine.enc x4.1.Lines), .v (.int .i64 x4.1.Total)], .v (.int .i64 x4.2)]) rfl rfl rfl rfl rfl ?_
 refine zex (p := .agg [.slc (List.map TDebtLine.enc x4.1.Lines), .v (.int .i64 x4.1.Total)]) rfl rfl rfl rfl rfl rfl ?_
 refine zex (p := .v (.int .i64 x4.2)) rfl rfl rfl rfl rfl rfl ?_
 refine ybl rfl rfl rfl (pl_alloc (cs := [.v (.slice none 0 0), .v (.int .i64 0)]) rfl rfl rfl rfl (fun b5 => ?_))
 refine pwl_l0 rfl rfl (yax (vs := [.slc (List.map TDebtLine.enc x4.1.Lines), .v (.int .i64 x4.1.Total)]) rfl rfl rfl rfl rfl zuh (zlc (zlc zln)) ?_)
 refine zas (p := .v (.int .i64 x4.2)) rfl rfl rfl rfl rfl ?_
 refine yad (yae (yab (yaa ?_)))
 refine yah rfl rfl rfl (yac rfl rfl rfl rfl rfl (.p rfl)) ?_
 refine pwl_l0 rfl rfl (yax (vs := [.v (.bool true)]) rfl rfl rfl rfl rfl (zut (zut zuh)) (zlt (zlt (zlc zln))) ?_)
 refine yad (yae (yab (yaa ?_)))
 refine zmv (p := .v (.slice (some ⟨b1, 0, none⟩) 2 2)) rfl rfl rfl rfl rfl ?_
 refine yah rfl rfl rfl (yag (p := .agg [.v (.string (⟨#[57, 52, 48, 49, 51, 48, 48, 48]⟩ : ByteArray)), .v (.string (⟨#[65, 65]⟩ : ByteArray)), .v (.bool true), .v (.int .i64 0), .v (.int .i64 0), .v (.int .i64 10), .v (.int .i64 10000), .v (.int .i64 0)]) rfl (.p rfl) zm2 rfl) ?_
 refine pwl_view (css := List.map TMeasure.enc [(⟨1, 1, (⟨#[57, 52]⟩ : ByteArray), [], 0, 0, 100, (-1), (⟨50000, 0, 0, false, 0, false, 0⟩ : TDuty)⟩ : TMeasure), (⟨2, 3, (⟨#[57, 52]⟩ : ByteArray), [], 0, 0, 100, (-1), (⟨0, 0, 0, false, 0, false, 0⟩ : TDuty)⟩ : TMeasure)]) 20 rfl zm1 ?_
 refine yaf h ?_; clear h; intro x6 hx6 h
 refine ybd rfl rfl rfl rfl rfl (assess_Total_ok hx6) ?_
 refine zmv (p := .tup [.v (.int .i64 x6.1), .v (.int .i64 x6.2)]) rfl rfl rfl rfl rfl ?_
 refine zex (p := .v (.int .i64 x6.1)) rfl rfl rfl rfl rfl rfl ?_
 refine zex (p := .v (.int .i64 x6.2)) rfl rfl rfl rfl rfl rfl ?_
 refine zas (p := .v (.int .i64 x6.1)) rfl rfl rfl rfl rfl ?_
 refine zas (p := .v (.int .i64 x6.2)) rfl rfl rfl rfl rfl ?_
 refine yad (yae (yab (yaa ?_)))
 refine zmv (p := .v (.int .i64 x4.2)) rfl rfl rfl rfl rfl ?_
 refine yah rfl rfl rfl (yak rfl (.p rfl) (.p rfl) rfl) ?_
 refine zmv (p := .v (.bool (x4.2 == 0))) rfl rfl rfl rfl rfl ?_
 refine yaj (yan rfl rfl rfl) rfl rfl (yam (p := .v (.int .i64 x6.2)) rfl (.p rfl)) ?_
 refine yaj (yan rfl rfl rfl) rfl rfl (yak rfl (.g rfl) (.p rfl) rfl) ?_
 refine yah rfl rfl rfl (pq_and rfl (.p rfl) (.p rfl) (.g rfl)) ?_
 refine zmv (p := .v (.bool ((x4.2 == 0) && (x6.2 == 0)))) rfl rfl rfl rfl rfl ?_
 refine yaj (yan rfl rfl rfl) rfl rfl (yac rfl rfl rfl rfl rfl (.p rfl)) ?_
 refine yaj (yan rfl rfl rfl) rfl rfl (yag (p := .v (.int .i64 x4.1.Total)) rfl (.g rfl) zm0 rfl) ?_
 refine yaj (yan rfl rfl rfl) rfl rfl (yak rfl (.g rfl) (.p rfl) rfl) ?_
 refine yah rfl rfl rfl (pq_and rfl (.p rfl) (.p rfl) (.g rfl)) ?_
 refine zmv (p := .v (.bool (((x4.2 == 0) && (x6.2 == 0)) && (x4.1.Total == 500)))) rfl rfl rfl rfl rfl ?_
 refine yaj (yan rfl rfl rfl) rfl rfl (yac rfl rfl rfl rfl rfl (.p rfl)) ?_
 refine yaj (yan rfl rfl rfl) rfl rfl (yag (p := .slc (List.map TDebtLine.enc x4.1.Lines)) rfl (.g rfl) zm0 rfl) ?_
 refine yaj (yan rfl rfl rfl) rfl rfl (pq_lenT (enc := TDebtLine.enc) rfl rfl (.g rfl)) ?_
 refine yaj (yan rfl rfl rfl) rfl rfl (yak rfl (.g rfl) (.p rfl) rfl) ?_
 refine yah rfl rfl rfl (pq_and rfl (.p rfl) (.p rfl) (.g rfl)) ?_
 refine zmv (p := .v (.bool ((((x4.2 == 0) && (x6.2 == 0)) && (x4.1.Total == 500)) && ((x4.1.Lines.length : Int) == 1)))) rfl rfl rfl rfl rfl ?_
 refine yaj (yan rfl rfl rfl) rfl rfl (yam (p := .v (.int .i64 x6.1)) rfl (.p rfl)) ?_
 refine yaj (yan rfl rfl rfl) rfl rfl (yak rfl (.g rfl) (.p rfl) rfl) ?_
 refine yah rfl rfl rfl (pq_and rfl (.p rfl) (.p rfl) (.g rfl)) ?_
 refine zas (p := .v (.bool (((((x4.2 == 0) && (x6.2 == 0)) && (x4.1.Total == 500)) && ((x4.1.Lines.length : Int) == 1)) && (x6.1 == 0)))) rfl rfl rfl rfl rfl ?_
 refine yad (yae (yaq ?_))
 obtain rfl := Option.some.inj h
 exact yar (prv_1 (yat rfl)) zsn ⟨rfl, rfl⟩
end SX
end Go.Proofs.YtfcecieppoljlaaGreatDoor
set_option maxRecDepth 100000
namespace Go.Proofs.YtfcecieppoljlaaGreatDoor
namespace SX
open Go
def k0 (W : World) : Kr := ⟨W, fun b => b < W.heap.size⟩
theorem cellsOf_eq {t : Nat} {z : Value} {s b : Nat} (h : inf t = some (z, s, b)) : Tryz.prog.cellsOf t = s ∧ Tryz.prog.bytesOf t = b := by
 obtain ⟨i, h1, h2, h3, h4⟩ := inf_get h
 constructor
 ·simp [Program.cellsOf, h1, h3]
 ·simp [Program.bytesOf, h1, h4]
def Light {H : Type} (t : Nat) (d : DataW H) : Prop := ∀ n ∈ d.weights Tryz.prog t, n ≤ reachBytes
def Opens {H : Type} (eh : TypeId × Value → H) {α : Type} (t : Nat) (e : α → List PV) : Prop :=
 ∀ (W : World) (fuel : Nat) (cs : List Value) (x : DataW H × List MemPlace), DataW.trod eh Tryz.prog W 0 (fun _ => true) true fuel t cs = some x → Light t x.1 → ∃ m, Rps (k0 W) (e m) cs ∧ One cs
section
variable {H : Type} {eh : TypeId × Value → H}
theorem one1 {v : Value} (h : v.oneCell' = true) : One [v] := fun u hu => by rw [List.mem_singleton.1 hu]; exact h
theorem opens_int {t : Nat} {k : IntKind} (h : und t = some (.int k)) : Opens eh t (fun x : Int => [.v (.int k x)]) := fun W fuel cs x hx _ => by
 obtain ⟨n, rfl, _, _⟩ := DataW.trod_int (und_ok h) hx
 exact ⟨n, .cons (.v rfl) .nil, one1 rfl⟩
theorem weightsAll_mem {e : Nat} : ∀ {l : List (DataW H)} {d : DataW H} {n : Nat}, d ∈ l → n ∈ d.weights Tryz.prog e → n ∈ DataW.weightsAll Tryz.prog e l
 | d' :: l, d, n, hd, hn => by
  simp only [DataW.weightsAll, List.mem_append]
  rcases List.mem_cons.1 hd with rfl | hd
  ·exact .inl hn
  ·exact .inr (weightsAll_mem hd hn)
theorem list_of {α β : Type} {R : α → β → Prop} : ∀ (l : List β), (∀ b ∈ l, ∃ a, R a b) → ∃ la : List α, la.length = l.length ∧ ∀ (i : Nat) (b : β), l[i]? = some b → ∃ a, la[i]? = some a ∧ R a b
 | [], _ => ⟨[], rfl, fun i b h => by simp at h⟩
 | b :: l, h => by
  obtain ⟨a, ha⟩ := h b (by simp)
  obtain ⟨la, h1, h2⟩ := list_of l fun b hb => h b (by simp [hb])
  refine ⟨a :: la, by simp [h1], fun i b' hb => ?_⟩
  cases i with
  | zero => simp only [List.getElem?_cons_zero, Option.some.injEq] at hb; subst hb; exact ⟨a, rfl, ha⟩
  | succ i => simp only [List.getElem?_cons_succ] at hb ⊢; exact h2 i b' hb
theorem opens_slice {α : Type} {t E sz by' : Nat} {z : Value} {e : α → List PV} (hu : und t = some (.slice E)) (hi : inf E = some (z, sz, by')) (h0 : Nat.blt 0 sz = true) (hb0 : Nat.blt 0 by' = true) (hE : Opens eh E e) : Opens eh t (eL e) := fun W fuel cs x hx hw => by
 obtain ⟨hcz, hby⟩ := cellsOf_eq hi
 have hsz : 0 < sz := by have := h0; simp [Nat.blt] at this; omega
 have hbp : 0 < by' := by have := hb0; simp [Nat.blt] at this; omega
 rcases DataW.trod_slice (und_ok hu) hx with ⟨rfl, _⟩ | ⟨a, len, cap, elems, rest, n, rfl, rfl, rfl, _, hl, hm, hlen, hel, _, _⟩
 ·exact ⟨[], .cons (.slc (sz := sz) (css := []) Sl.nil (by omega) (fun _ h => by cases h) .nil) .nil, one1 rfl⟩
 ·rw [hcz] at hel
  have hwl : (elems.length + rest.length) * by' ≤ reachBytes := by
   have := hw ((elems.length + rest.length) * by') (by simp only [DataW.weights, und_ok hu, hby, List.length_map]; exact List.mem_cons_self)
   exact this
  have hn : len ≤ 140737488355328 := by
   unfold reachBytes at hwl
   have : elems.length * 1 ≤ (elems.length + rest.length) * by' := Nat.mul_le_mul (by omega) (by omega)
   omega
  have hcells : ∀ i ∈ List.range len, ∃ p : α × List Value, W.cells? 0 (a.add (i * sz)) sz = some p.2 ∧ Rps (k0 W) (e p.1) p.2 ∧ One p.2 := fun i hi' => by
   have hi' : i < len := List.mem_range.1 hi'
   have h1 := hel i hi'
   have hlt : i < elems.length := by omega
   rw [List.getElem?_eq_getElem hlt] at h1
   obtain ⟨cs, h2, h3⟩ := Option.bind_eq_some_iff.1 h1
   obtain ⟨m, k1, k2⟩ := hE W n cs _ h3 fun q hq => hw q (by
    simp only [DataW.weights, und_ok hu]
    exact List.mem_cons_of_mem _ (List.mem_append.2 (.inl (weightsAll_mem (List.mem_map.2 ⟨_, List.getElem_mem hlt, rfl⟩) hq))))
   exact ⟨(m, cs), h2, k1, k2⟩
  obtain ⟨ps, g1, g2⟩ := list_of (R := fun (p : α × List Value) i => W.cells? 0 (a.add (i * sz)) sz = some p.2 ∧ Rps (k0 W) (e p.1) p.2 ∧ One p.2) (List.range len) hcells
  rw [List.length_range] at g1
  have g3 : ∀ (i : Nat) (p : α × List Value), ps[i]? = some p → W.cells? 0 (a.add (i * sz)) sz = some p.2 ∧ Rps (k0 W) (e p.1) p.2 ∧ One p.2 := fun i p hp => by
   have hlt := (List.getElem?_eq_some_iff.1 hp).1
   obtain ⟨p', h1, h2⟩ := g2 i i (by rw [List.getElem?_range (by omega)])
   rw [hp] at h1; injection h1 with h1; subst h1; exact h2
  refine ⟨ps.map (·.1), .cons (.slc (sz := sz) (css := ps.map (·.2)) ⟨by simp [g1], hl, ?_, ?_⟩ hn ?_ ?_) .nil, one1 rfl⟩
  ·intro c hc
   obtain ⟨p, hp, rfl⟩ := List.mem_map.1 hc
   obtain ⟨i, hi', rfl⟩ := List.getElem_of_mem hp
   exact (World.cells?_some (g3 i _ (List.getElem?_eq_getElem hi')).1).2.1
  ·intro hpos
   have hp0 : 0 < ps.length := by omega
   have hc0 := (World.cells?_some (g3 0 _ (List.getElem?_eq_getElem hp0)).1)
   have hread := hc0.2.2 0 hsz
   have hspot : a.spot = none := by
    have hlt : 0 < (ps[0]).2.length := by rw [hc0.2.1]; exact hsz
    rw [List.getElem?_eq_getElem hlt] at hread
    unfold World.cell? at hread
    cases hs : a.spot with
    | none => rfl
    | some q =>
     have hsp : ((a.add (0 * sz)).add 0).spot.isSome = true := by simp [Addr.add, hs]
     split at hread
     ·rw [if_pos hsp] at hread; cases hread
     ·cases hread
   obtain ⟨ab, ao, asp⟩ := a
   simp only at hspot; subst hspot
   refine ⟨ab, ao, rfl, fun j c hj => ?_⟩
   rw [List.getElem?_map] at hj
   cases hpj : ps[j]? with
   | none => rw [hpj] at hj; cases hj
   | some p =>
    rw [hpj] at hj; simp only [Option.map_some, Option.some.injEq] at hj; subst hj
    have hcj := World.cells?_some (g3 j p hpj).1
    refine ⟨?_, fun i u hu' => ?_⟩
    ·have h1 := hcj.2.2 0 hsz
     have hlt : 0 < p.2.length := by rw [hcj.2.1]; exact hsz
     rw [List.getElem?_eq_getElem hlt, add_none, add_none] at h1
     unfold World.cell? at h1
     split at h1
     ·rename_i heq
      have := heap_some_lt heq
      exact this
     ·cases h1
    ·have hlt : i < sz := by have := (List.getElem?_eq_some_iff.1 hu').1; omega
     have h1 := hcj.2.2 i hlt
     rw [add_none, add_none] at h1
     rw [← hu']; exact h1
  ·intro c hc
   obtain ⟨p, hp, rfl⟩ := List.mem_map.1 hc
   obtain ⟨i, hi', rfl⟩ := List.getElem_of_mem hp
   exact (g3 i _ (List.getElem?_eq_getElem hi')).2.2
  ·have : ∀ (l : List (α × List Value)), (∀ p ∈ l, Rps (k0 W) (e p.1) p.2) → Rpss (k0 W) ((l.map (·.1)).map e) (l.map (·.2)) := fun l => by
    induction l with
    | nil => exact fun _ => .nil
    | cons p l ih => exact fun h => .cons (h p (by simp)) (ih fun q hq => h q (by simp [hq]))
   refine this ps fun p hp => ?_
   obtain ⟨i, hi', rfl⟩ := List.getElem_of_mem hp
   exact (g3 i _ (List.getElem?_eq_getElem hi')).2.1
end
end SX
end Go.Proofs.YtfcecieppoljlaaGreatDoor
set_option maxRecDepth 100000
namespace Go.Proofs.YtfcecieppoljlaaGreatDoor
open Go Go.ChangeShapes Go.WideShapes Go.RowKit
namespace SX
theorem own_ok : ownKnob Tryz.prog.godebug = none := by kernel_rfl
theorem laidOut_ok : laidOutB Tryz.prog = true := by kernel_rfl
def laidL : List (String × DataW Unit) := [("unicode/utf8.acceptRanges", Rows.laid_unicode_utf8_acceptRanges), ("customs/nomenclature.lengths", Rows.laid_customs_nomenclature_lengths), ("unicode/utf8.first", Rows.laid_unicode_utf8_first)]
mutual
def cellsD : DataW Unit → List Value
 | .lit (.int k n) => [.int k n]
 | .agg ds => cellsDs ds
 | _ => []
def cellsDs : List (DataW Unit) → List Value
 | [] => []
 | d :: r => cellsD d ++ cellsDs r
end
def c_acc : Array Value := (cellsD Rows.laid_unicode_utf8_acceptRanges).toArray
def c_len : Array Value := #[.int .i64 2, .int .i64 4, .int .i64 6, .int .i64 8]
def c_first : Array Value := (cellsD Rows.laid_unicode_utf8_first).toArray
def layAt (h : Array Obj) (g : Nat) (cs : Array Value) : Array Obj := h.modify g fun | .cells _ t frozen => .cells cs t frozen | o => o
noncomputable def laidWorld (os : Os) : World :=
 { World.holding Tryz.prog os ⟨#[], #[], []⟩ with heap := layAt (layAt (layAt (World.holding Tryz.prog os ⟨#[], #[], []⟩).heap 4 c_acc) 0 c_len) 3 c_first }
theorem laid_plain : (laidL.filter fun x => x.2.handleName?.isSome) = [] := by kernel_rfl
def placeB (w : World) : MemPlace → Bool
 | .cell b off => match w.heap[b]? with
  | some (.cells c _ (0, 0)) => match c[off]? with | some (.iface _ _) => false | _ => true
  | _ => false
 | _ => true
theorem placesB_ok {w : World} {ps : List MemPlace} (h : ps.all (placeB w) = true) : ∀ b off, MemPlace.cell b off ∈ ps → (∃ c t, w.heap[b]? = some (.cells c t (0, 0))) ∧ ∀ u v, w.cell? ⟨b, off, none⟩ = some (.iface u v) → Value.okWide Tryz.prog w .any 0 u v := fun b off hm => by
 have := List.all_eq_true.1 h _ hm
 unfold placeB at this
 split at this
 ·rename_i b' off' e
  injection e with e1 e2; subst e1; subst e2
  split at this
  ·rename_i c t heq
   refine ⟨⟨c, t, heq⟩, fun u v hc => ?_⟩
   simp only [World.cell?, heq] at hc
   split at this
   ·cases this
   ·rename_i hno; exact absurd hc (by simpa using hno u v)
  ·cases this
 ·rename_i hno; exact absurd rfl (hno b off)
theorem laidWorld_met (os : Os) (args : Array Value) : laidMetH Tryz.prog laidL ((laidWorld os).forCall (fun _ _ => 0) ⟨#[], args, []⟩).memory := by
 unfold laidMetH
 rw [laid_plain]
 refine ⟨_, ⟨4, 193, c_acc, 8, [], _, by kernel_rfl, by kernel_rfl, by kernel_rfl, by kernel_rfl, ⟨0, 94, c_len, 8, [], _, by kernel_rfl, by kernel_rfl, by kernel_rfl, by kernel_rfl, ⟨3, 190, c_first, 8, [], _, by kernel_rfl, by kernel_rfl, by kernel_rfl, by kernel_rfl, rfl, rfl⟩, rfl⟩, rfl⟩, ?_, ?_⟩
 ·exact of_decide_eq_true (by kernel_rfl)
 ·exact placesB_ok (by kernel_rfl)
theorem int_of_trod {H : Type} {eh : TypeId × Value → H} {P : Program} {w : World} {base : Nat} {sp : Nat → Bool} {held : Bool} {fuel : Nat} {t : TypeId} {k : IntKind} {c : Value} {y : DataW H × List MemPlace} (ht : P.underlying t = some (.int k)) (h : DataW.trod eh P w base sp held fuel t [c] = some y) : ∃ n, c = .int k n ∧ y = (.lit (.int k n), []) := by
 obtain ⟨n, h1, h2, _⟩ := DataW.trod_int ht h
 injection h1 with h1 _
 exact ⟨n, h1, h2⟩
theorem gok_of_laid {W : World} (h : laidMetH Tryz.prog laidL W) : GOK (k0 W) := by
 unfold laidMetH at h
 rw [laid_plain] at h
 obtain ⟨ps, ⟨_, _, _, _, _, _, _, _, _, _, ⟨g, t, cs, fuel, p, q, hg, ht, hvar, hd, _, _⟩, _⟩, _⟩ := h
 obtain rfl := Option.some.inj ((show Tryz.prog.globalNamed "customs/nomenclature.lengths" = some 0 by kernel_rfl).symm.trans hg)
 obtain rfl := Option.some.inj ((show (Tryz.prog.globals[0]?).map (·.type) = some 94 by kernel_rfl).symm.trans ht)
 have hcs : cs = c_len := by
  obtain ⟨l⟩ := cs
  cases fuel with
  | zero => simp [DataW.trod] at hd
  | succ fuel =>
   have hc1 := (cellsOf_eq (t := 94) rfl).1
   have hc2 := (cellsOf_eq (t := 3) rfl).1
   have hu1 : Tryz.prog.underlying 94 = some (.array 4 3) := und_ok rfl
   simp only [DataW.trod, hu1, hc1, hc2] at hd
   split at hd
   ·rename_i hl
    obtain ⟨c0, c1, c2, c3, rfl⟩ : ∃ c0 c1 c2 c3, l = [c0, c1, c2, c3] := by
     match l, hl with
     | [a, b, c, d], _ => exact ⟨a, b, c, d, rfl⟩
    have e : List.range 4 = [0, 1, 2, 3] := rfl
    rw [e] at hd
    simp only [Option.map_eq_some_iff, List.mapM_cons, List.mapM_nil, Option.bind_eq_bind, Option.bind_eq_some_iff, Option.pure_def, Option.some.injEq] at hd
    obtain ⟨xs, ⟨y0, h0, _, ⟨y1, h1, _, ⟨y2, h2, _, ⟨y3, h3, _, rfl, rfl⟩, rfl⟩, rfl⟩, rfl⟩, hx⟩ := hd
    have hui : Tryz.prog.underlying 3 = some (.int .i64) := und_ok rfl
    obtain ⟨n0, rfl, rfl⟩ := int_of_trod hui h0
    obtain ⟨n1, rfl, rfl⟩ := int_of_trod hui h1
    obtain ⟨n2, rfl, rfl⟩ := int_of_trod hui h2
    obtain ⟨n3, rfl, rfl⟩ := int_of_trod hui h3
    simp [Rows.laid_customs_nomenclature_lengths] at hx
    obtain ⟨⟨rfl, rfl, rfl, rfl⟩, _⟩ := hx
    rfl
   ·cases hd
 subst hcs
 have hcell : ∀ j u, c_len[j]? = some u → W.cell? ⟨0, j, none⟩ = some u := fun j u hu => by
  have := World.var?_cell hg hvar j
  rw [this]; exact hu
 refine ⟨?_, fun j u hu => ?_⟩
 ·have h0 := hcell 0 _ rfl
  unfold World.cell? at h0
  split at h0
  ·rename_i heq; exact heap_some_lt heq
  ·cases h0
 ·rw [Nat.zero_add]; exact hcell j u (by simpa [c_len] using hu)
end SX
end Go.Proofs.YtfcecieppoljlaaGreatDoor
set_option maxRecDepth 100000
namespace Go.Proofs.YtfcecieppoljlaaGreatDoor
open Go Go.ChangeShapes Go.WideShapes Go.RowKit
namespace SX
theorem inv0 (W : World) : Inv ⟨k0 W, []⟩ [] (k0 W) := ⟨.refl _ _, fun _ h => h, (fun _ h => by cases h), (fun _ h => by cases h), .nil⟩
theorem below_of {W : World} {ρ : List Res} {κ : Kr} (h : Inv ⟨k0 W, []⟩ ρ κ) : Below W.heap.size W κ.w := ⟨h.le.os, h.le.tape, h.le.output, h.le.kle.size, fun k hk => h.le.same k hk (by simp)⟩
section
variable {H : Type} {eh : TypeId × Value → H}
theorem trodAll_below {W W' : World} (hb : Below W.heap.size W W') {ts : List TypeId} (hr : ∀ t ∈ ts, Tryz.prog.readableRec t = true ∧ t < Tryz.prog.types.size) : ∀ {vs : List Value} {ds : List (DataW H)} {ps : List MemPlace}, DataW.TrodAll eh Tryz.prog W 0 (fun _ => true) true ts vs ds ps → (∀ p ∈ ps, p.block < W.heap.size) → DataW.TrodAll eh Tryz.prog W' 0 (fun b => decide (b < W.heap.size)) true ts vs ds ps := by
 induction ts with
 | nil => intro vs ds ps h _; cases vs <;> cases ds <;> first | exact h | cases h
 | cons t ts ih =>
  intro vs ds ps h hlt
  cases vs with
  | nil => cases h
  | cons v vs =>
   cases ds with
   | nil => cases h
   | cons d ds =>
    obtain ⟨p, q, h1, h2, e⟩ := h
    have ht := hr t (by simp)
    exact ⟨p, q, Below.trod laidOut_ok ht.1 ht.2 h1 hb (fun x hx => hlt x (by rw [e]; simp [hx])), ih (fun u hu => hr u (by simp [hu])) h2 (fun x hx => hlt x (by rw [e]; simp [hx])), e⟩
theorem readB {ts : List TypeId} (h : (ts.all fun t => Tryz.prog.readableRec t && Nat.blt t Tryz.prog.types.size) = true) : ∀ t ∈ ts, Tryz.prog.readableRec t = true ∧ t < Tryz.prog.types.size := fun t ht => by
 have := List.all_eq_true.1 h t ht
 rw [Bool.and_eq_true] at this
 exact ⟨this.1, by have h2 := this.2; exact Nat.le_of_ble_eq_true h2⟩
theorem row_post {f tb : Nat} {fn : Func} {s : ChangeSpec} {W : World} {args : Array Value} {ds gs : List (DataW H)} {before : List MemPlace} {pargs : List PV}
    (hrd : ∀ t ∈ fn.params.toList, Tryz.prog.readableRec t = true ∧ t < Tryz.prog.types.size) (hres : fn.resultTypes = #[tb]) (hub : Tryz.prog.underlying tb = some .bool) (hvars : s.vars = [])
    (hspec : s.fn H ds = { results := [.lit (.bool true)], args := ds }) (hW : DataW.Whole eh Tryz.prog fn.params.toList s.vars false W args.toList ds gs before) (hG : GOK (k0 W)) (hargs : Rps (k0 W) pargs args.toList) (hPF : PF f pargs (.v (.bool true))) :
    Calls Tryz.prog f args W fun e W' => ∃ v, e = .returned v ∧ s.post eh Tryz.prog fn false true false false W args v W' := by
  have hc := (hPF (k0 W) args.toList hG hargs).2 (inv0 W)
  have e : args.toList.toArray = args := by simp
  rw [e] at hc
  refine Calls.mono hc fun en W' ⟨v, ρ', κ', h1, h2, h3, h4, h5⟩ => ⟨v, h1, ?_⟩
  subst h2
  have hv := h5.val
  subst hv
  have hb := below_of h3
  have hW' := hW
  obtain ⟨p, q, hA, hV, rfl, hfz, hnd⟩ := hW
  rw [hvars] at hV
  obtain ⟨rfl, rfl⟩ : gs = [] ∧ q = [] := by
    cases gs with
    | nil => exact ⟨rfl, hV⟩
    | cons g r => exact absurd hV (by intro h; cases h)
  refine ⟨ds, [], _, [], p, [], hW', ?_, ?_, ?_, hb.frame _, fun h => by cases h⟩
  · rw [List.append_nil, hspec, hres]; exact trodAll_mk1 (shut_bool hub true)
  · rw [List.append_nil, hspec]; exact trodAll_below hb hrd hA (DataW.TrodAll.lt hA)
  · rw [hvars, List.append_nil, hspec]; rfl
theorem trodAll_cons {W : World} {t : TypeId} {ts : List TypeId} {vs : List Value} {ds : List (DataW H)} {ps : List MemPlace} (h : DataW.TrodAll eh Tryz.prog W 0 (fun _ => true) true (t :: ts) vs ds ps) : ∃ v vs' d ds' p q, vs = v :: vs' ∧ ds = d :: ds' ∧ DataW.Trod eh Tryz.prog W 0 (fun _ => true) true t v d p ∧ DataW.TrodAll eh Tryz.prog W 0 (fun _ => true) true ts vs' ds' q := by
 cases vs with
 | nil => cases h
 | cons v vs =>
  cases ds with
  | nil => cases h
  | cons d ds => obtain ⟨p, q, h1, h2, _⟩ := h; exact ⟨v, vs, d, ds, p, q, rfl, rfl, h1, h2⟩
theorem trodAll_nil {W : World} {vs : List Value} {ds : List (DataW H)} {ps : List MemPlace} (h : DataW.TrodAll eh Tryz.prog W 0 (fun _ => true) true [] vs ds ps) : vs = [] ∧ ds = [] := by
 cases vs <;> cases ds <;> first | exact ⟨rfl, rfl⟩ | cases h
theorem standIns_no {l : Array TypeId} (h : (l.toList.all fun t => !Tryz.prog.wantsStandIn t) = true) {j : Nat} {t : TypeId} (ht : l[j]? = some t) : Tryz.prog.wantsStandIn t = false := by
 have := List.all_eq_true.1 h t (by have := Array.mem_of_getElem? ht; simpa using this)
 simpa using this
theorem light_head {t : Nat} {ts : List Nat} {d : DataW H} {ds : List (DataW H)} (h : (DataW.weightsEach Tryz.prog (t :: ts) (d :: ds)).all (· ≤ reachBytes) = true) : Light t d ∧ (DataW.weightsEach Tryz.prog ts ds).all (· ≤ reachBytes) = true := by
 simp only [DataW.weightsEach, List.all_append, Bool.and_eq_true] at h
 exact ⟨fun n hn => by simpa using List.all_eq_true.1 h.1 n hn, h.2⟩
def isPlainD : TypeDesc → Bool
 | .int _ | .bool | .string | .slice _ => true
 | _ => false
theorem not_agg {W : World} {r : Reach} {base t : Nat} {v : Value} {D : TypeDesc} (hu : und t = some D) (hD : isPlainD D = true) (h : Value.okWide Tryz.prog W r base t v) : ∀ cs, v.cells.toList = [cs] → v = cs := fun cs he => by
 cases v with
 | agg arr =>
  exfalso
  unfold Value.okWide at h
  rw [und_ok hu] at h
  cases D <;> first | (revert hD; simp [isPlainD]; done) | (simp only at h; unfold Cell.okWide at h; rw [und_ok hu] at h; simp only at h; unfold Cell.ok at h; rw [und_ok hu] at h; simp at h)
 | _ => simpa [Value.cells] using he
theorem arg_one {W : World} {r : Reach} {base t : Nat} {v : Value} {D : TypeDesc} {α : Type} {e : α → List PV} {d : DataW H} {ps : List MemPlace} (hu : und t = some D) (hD : isPlainD D = true) (hO : Opens eh t e) (h1 : ∀ m, ∃ p, e m = [p]) (h : Value.okWide Tryz.prog W r base t v) (hd : DataW.Trod eh Tryz.prog W 0 (fun _ => true) true t v d ps) (hl : Light t d) : ∃ m, Rps (k0 W) (e m) [v] := by
 obtain ⟨fuel, hf⟩ := hd
 obtain ⟨m, h2, _⟩ := hO W fuel _ _ hf hl
 refine ⟨m, ?_⟩
 obtain ⟨p, hp⟩ := h1 m
 rw [hp] at h2
 generalize hc : v.cells.toList = cs at h2
 obtain ⟨w, ws, rfl, h3, h4⟩ := h2.cons_inv
 rw [h4.nil_inv] at hc
 rw [not_agg hu hD h w hc, hp]
 exact .cons h3 .nil
end
end SX
end Go.Proofs.YtfcecieppoljlaaGreatDoor
set_option maxRecDepth 100000
namespace Go.Proofs.YtfcecieppoljlaaGreatDoor
namespace SX
open Go
theorem loopF_run {S T : Type} {body : S → Option (S ⊕ T)} (P : S → Prop) (μ : S → Nat) (Q : T → Prop) (step : ∀ s, P s → (∃ s', body s = some (.inl s') ∧ P s' ∧ μ s' < μ s) ∨ ∃ t, body s = some (.inr t) ∧ Q t) : ∀ (N : Nat) (s : S), P s → μ s < N → ∃ t, loopF body N s = some t ∧ Q t := by
 intro N
 induction N with
 | zero => intro s _ h; exact absurd h (Nat.not_lt_zero _)
 | succ N ih =>
  intro s hp hm
  rw [loopF_succ]
  rcases step s hp with ⟨s', h1, h2, h3⟩ | ⟨t, h1, h2⟩
  ·rw [h1]; exact ih s' h2 (by omega)
  ·rw [h1]; exact ⟨t, rfl, h2⟩
theorem bnd {α β : Type} {x : Option α} {f : α → Option β} {a : α} (h : x = some a) : x.bind f = f a := by rw [h]; rfl
theorem i64s {r : Int} (h1 : -9223372036854775808 ≤ r) (h2 : r ≤ 9223372036854775807) : IntKind.i64.wrap r = r := wrap_i64 ⟨h1, h2⟩
theorem fuel_big {n : Nat} (h : n ≤ 1267650600228229401496703205000) : n < FUEL := Nat.lt_of_le_of_lt h (by unfold FUEL; omega)
theorem within_ok (a n : Int) (h1 : 1 ≤ n) (h2 : n ≤ 4611686018427387904) : ∃ r, made_Within a n = some r ∧ 0 ≤ r ∧ r < n := by
 have hl := Int.tmod_lt_of_pos a (show 0 < n by omega)
 have hl2 := Int.tmod_lt_of_pos (-a) (show 0 < n by omega)
 rw [Int.neg_tmod] at hl2
 unfold made_Within nz lb
 rw [if_neg (by omega), i64s (by omega) (by omega)]
 exact ⟨_, rfl, Int.tmod_nonneg _ (by omega), Int.tmod_lt_of_pos _ (by omega)⟩
def SOK (p : Tmade_Source) : Prop := 0 ≤ p.I ∧ p.I ≤ p.L.length ∧ p.L.length ≤ 1000000000000000
theorem next_ok {p : Tmade_Source} (hp : SOK p) (n : Int) (h1 : 1 ≤ n) (h2 : n ≤ 4611686018427387904) : ∃ r q, made_Source_Next p n = some (r, q) ∧ 0 ≤ r ∧ r < n ∧ SOK q := by
 obtain ⟨a1, a2, a3⟩ := hp
 unfold made_Source_Next
 by_cases h : (p.L.length : Int) ≤ p.I
 ·rw [decide_eq_true h]; exact ⟨_, _, rfl, by omega, by omega, a1, a2, a3⟩
 ·rw [decide_eq_false h, i64s (r := p.I + 1) (by omega) (by omega), i64s (by omega) (by omega)]
  simp only [cond_false]
  have e : idx p.L (p.I + 1 - 1) = some (p.L[p.I.toNat]'(by omega)) := by
   unfold idx; rw [if_pos (by omega)]
   have : (p.I + 1 - 1).toNat = p.I.toNat := by omega
   rw [this]; exact List.getElem?_eq_getElem _
  rw [bnd e]
  obtain ⟨r, h3, h4, h5⟩ := within_ok (p.L[p.I.toNat]'(by omega)) n h1 h2
  rw [bnd h3]
  exact ⟨_, _, rfl, h4, h5, by simp only; omega, by simp only; omega, a3⟩
theorem cut_ok (l : List Int) (n : Int) (h : 0 ≤ n) (h2 : n ≤ 1000) : ∃ m, made_Cut l n = some m ∧ (m.length : Int) ≤ n := by
 unfold made_Cut
 by_cases h1 : n < (l.length : Int)
 ·rw [decide_eq_true h1]
  have e : sub l 0 n = some ((l.take n.toNat).drop 0) := by unfold sub; rw [if_pos (by omega)]; rfl
  simp only [cond_true]; rw [bnd e]; exact ⟨_, rfl, by simp; omega⟩
 ·rw [decide_eq_false h1]; exact ⟨_, rfl, by omega⟩
def Digs (l : List Int) : Prop := ∀ x ∈ l, 48 ≤ x ∧ x ≤ 57
theorem code_ok {p : Tmade_Source} (hp : SOK p) : ∃ l q, made_Source_Code p 8 = some (strOfNums l, q) ∧ l.length = 8 ∧ Digs l ∧ SOK q := by
 unfold made_Source_Code
 obtain ⟨r, q, h1, h2, h3, h4⟩ := next_ok hp 2 (by omega) (by omega)
 rw [bnd h1]
 simp only
 rw [i64s (by omega) (by omega), wrap_u8 (by omega)]
 obtain ⟨t, h5, h6⟩ := loopF_run (body := fun (l5, l8, v9) => cond (decide (((l5.length : Nat) : Int) < 8)) (Option.bind (made_Source_Next (⟨l8, v9⟩ : Tmade_Source) 3) (fun x19 => Option.bind (app 1 l5 [48, (IntKind.u8.wrap (IntKind.i64.wrap (49 + x19.1)))]) (fun l22 => some (.inl (l22, x19.2.L, x19.2.I))))) (some (.inr (l5, l8, v9))))
  (fun s : List Int × List Int × Int => (s.1.length = 2 ∨ s.1.length = 4 ∨ s.1.length = 6 ∨ s.1.length = 8) ∧ Digs s.1 ∧ SOK ⟨s.2.1, s.2.2⟩) (fun s => 8 - s.1.length) (fun t : List Int × List Int × Int => t.1.length = 8 ∧ Digs t.1 ∧ SOK ⟨t.2.1, t.2.2⟩)
  (fun s hs => by
   obtain ⟨l, l8, v9⟩ := s
   obtain ⟨a1, a2, a3⟩ := hs
   simp only at a1 a2 a3 ⊢
   by_cases hl : ((l.length : Nat) : Int) < 8
   ·left
    rw [decide_eq_true hl]; simp only [cond_true]
    obtain ⟨r, q, b1, b2, b3, b4⟩ := next_ok a3 3 (by omega) (by omega)
    rw [bnd b1]; simp only
    rw [i64s (by omega) (by omega), wrap_u8 (by omega)]
    have e : app 1 l [48, 49 + r] = some (l ++ [48, 49 + r]) := by unfold app; rw [if_pos]; simp; omega
    rw [bnd e]
    refine ⟨_, rfl, ⟨by simp only [List.length_append, List.length_cons, List.length_nil]; omega, ?_, b4⟩, by simp only [List.length_append, List.length_cons, List.length_nil]; omega⟩
    intro x hx
    simp only [List.mem_append, List.mem_cons, List.not_mem_nil, or_false] at hx
    rcases hx with hx | rfl | rfl
    ·exact a2 x hx
    ·omega
    ·omega
   ·right
    rw [decide_eq_false hl]
    exact ⟨_, rfl, by show l.length = 8; omega, a2, a3⟩)
  FUEL ([57, 52 + r], q.L, q.I) ⟨by simp, by intro x hx; simp only [List.mem_cons, List.not_mem_nil, or_false] at hx; omega, h4⟩ (fuel_big (by simp))
 obtain ⟨l, l8, v9⟩ := t
 rw [bnd h5]
 exact ⟨_, _, rfl, h6.1, h6.2.1, h6.2.2⟩
theorem lvl_eight {l : List Int} (h1 : l.length = 8) (h2 : Digs l) : level (strOfNums l) = 8 := by
 have hs : (strOfNums l).size = 8 := by simp [strOfNums, ByteArray.size, h1]
 unfold level
 rw [if_pos, hs]; rfl
 refine ⟨by omega, ?_⟩
 unfold allDig bl strOfNums
 simp only [List.all_eq_true]
 intro c hc
 simp only [List.mem_map] at hc
 obtain ⟨x, hx, rfl⟩ := hc
 have := h2 x hx
 simp [isDig]
 omega
end SX
end Go.Proofs.YtfcecieppoljlaaGreatDoor
set_option maxRecDepth 100000
namespace Go.Proofs.YtfcecieppoljlaaGreatDoor
namespace SX
open Go
def U64 (a : Int) : Prop := 0 ≤ a ∧ a < 18446744073709551616
theorem wu (a : Int) : IntKind.u64.wrap a = a % 18446744073709551616 := rfl
theorem wu_id {a : Int} (h : U64 a) : IntKind.u64.wrap a = a := by rw [wu]; unfold U64 at h; omega
theorem bv64 {a : Int} (h : U64 a) : (BitVec.ofInt 64 a).toNat = a.toNat := by
 rw [BitVec.toNat_ofInt]; unfold U64 at h; omega
theorem iand_eq {a b : Int} (ha : U64 a) (hb : U64 b) : iand .u64 a b = ((a.toNat &&& b.toNat : Nat) : Int) := by
 have hlt : a.toNat &&& b.toNat < 18446744073709551616 := Nat.lt_of_le_of_lt Nat.and_le_left (by unfold U64 at ha; omega)
 have e : iand .u64 a b = IntKind.u64.wrap (((BitVec.ofInt 64 a &&& BitVec.ofInt 64 b).toNat : Nat) : Int) := rfl
 rw [e, BitVec.toNat_and, bv64 ha, bv64 hb, wu_id]
 exact ⟨by omega, by omega⟩
theorem ior_eq {a b : Int} (ha : U64 a) (hb : U64 b) : ior .u64 a b = ((a.toNat ||| b.toNat : Nat) : Int) := by
 have hlt : a.toNat ||| b.toNat < 2 ^ 64 := Nat.or_lt_two_pow (by unfold U64 at ha; omega) (by unfold U64 at hb; omega)
 have e : ior .u64 a b = IntKind.u64.wrap (((BitVec.ofInt 64 a ||| BitVec.ofInt 64 b).toNat : Nat) : Int) := rfl
 rw [e, BitVec.toNat_or, bv64 ha, bv64 hb, wu_id]
 exact ⟨by omega, by omega⟩
theorem iand_low {a : Int} (h : U64 a) : iand .u64 a 4294967295 = a % 4294967296 := by
 rw [iand_eq h ⟨by omega, by omega⟩]
 have : a.toNat &&& (4294967295 : Int).toNat = a.toNat % 4294967296 := Nat.and_two_pow_sub_one_eq_mod (n := 32) a.toNat
 rw [this]; unfold U64 at h; omega
theorem iand_one {a : Int} (h : U64 a) : iand .u64 a 1 = a % 2 := by
 rw [iand_eq h ⟨by omega, by omega⟩]
 have : a.toNat &&& (1 : Int).toNat = a.toNat % 2 := Nat.and_two_pow_sub_one_eq_mod (n := 1) a.toNat
 rw [this]; unfold U64 at h; omega
theorem ishr_32 {a : Int} : ishr .u64 a 32 = a / 4294967296 := Int.fdiv_eq_ediv_of_nonneg a (show (0 : Int) ≤ 4294967296 by omega)
theorem mul64 {a b : Int} (ha : U64 a) (hb : U64 b) : ∃ h l, math_bits_Mul64 a b = some (h, l) ∧ U64 h ∧ U64 l ∧ h * 18446744073709551616 + l = a * b := by
 unfold math_bits_Mul64 lb
 rw [iand_low ha, iand_low hb]
 simp only [ishr_32]
 unfold U64 at ha hb
 have ea : a = 4294967296 * (a / 4294967296) + a % 4294967296 := by omega
 have eb : b = 4294967296 * (b / 4294967296) + b % 4294967296 := by omega
 have h1 : 0 ≤ a / 4294967296 ∧ a / 4294967296 < 4294967296 := by omega
 have h2 : 0 ≤ a % 4294967296 ∧ a % 4294967296 < 4294967296 := by omega
 have h3 : 0 ≤ b / 4294967296 ∧ b / 4294967296 < 4294967296 := by omega
 have h4 : 0 ≤ b % 4294967296 ∧ b % 4294967296 < 4294967296 := by omega
 generalize a / 4294967296 = x1 at *
 generalize a % 4294967296 = x0 at *
 generalize b / 4294967296 = y1 at *
 generalize b % 4294967296 = y0 at *
 subst ea eb
 have p00 : 0 ≤ x0 * y0 ∧ x0 * y0 ≤ 4294967295 * 4294967295 := ⟨Int.mul_nonneg h2.1 h4.1, Int.mul_le_mul (by omega) (by omega) h4.1 (by omega)⟩
 have p01 : 0 ≤ x0 * y1 ∧ x0 * y1 ≤ 4294967295 * 4294967295 := ⟨Int.mul_nonneg h2.1 h3.1, Int.mul_le_mul (by omega) (by omega) h3.1 (by omega)⟩
 have p10 : 0 ≤ x1 * y0 ∧ x1 * y0 ≤ 4294967295 * 4294967295 := ⟨Int.mul_nonneg h1.1 h4.1, Int.mul_le_mul (by omega) (by omega) h4.1 (by omega)⟩
 have p11 : 0 ≤ x1 * y1 ∧ x1 * y1 ≤ 4294967295 * 4294967295 := ⟨Int.mul_nonneg h1.1 h3.1, Int.mul_le_mul (by omega) (by omega) h3.1 (by omega)⟩
 have e : (4294967296 * x1 + x0) * (4294967296 * y1 + y0) = 18446744073709551616 * (x1 * y1) + 4294967296 * (x1 * y0) + 4294967296 * (x0 * y1) + x0 * y0 := by
  rw [Int.add_mul, Int.mul_add, Int.mul_add]
  have t1 : 4294967296 * x1 * (4294967296 * y1) = 18446744073709551616 * (x1 * y1) := by
   rw [Int.mul_assoc, ← Int.mul_assoc x1, Int.mul_comm x1 4294967296, Int.mul_assoc 4294967296 x1, ← Int.mul_assoc]; rfl
  have t2 : 4294967296 * x1 * y0 = 4294967296 * (x1 * y0) := Int.mul_assoc _ _ _
  have t3 : x0 * (4294967296 * y1) = 4294967296 * (x0 * y1) := by rw [← Int.mul_assoc, Int.mul_comm x0, Int.mul_assoc]
  rw [t1, t2, t3]; omega
 rw [e]
 generalize x0 * y0 = p at *
 generalize x0 * y1 = q at *
 generalize x1 * y0 = r at *
 generalize x1 * y1 = s at *
 refine ⟨_, _, rfl, ?_, ?_, ?_⟩
 all_goals simp only [wu, U64]
 all_goals first | omega | (rw [iand_low (by unfold U64; omega)]; omega)
end SX
end Go.Proofs.YtfcecieppoljlaaGreatDoor
set_option maxRecDepth 100000
namespace Go.Proofs.YtfcecieppoljlaaGreatDoor
namespace SX
open Go
def rv (w : Tref01_Wide) : Int := w.Hi * 18446744073709551616 + w.Lo
def RW (w : Tref01_Wide) : Prop := U64 w.Hi ∧ U64 w.Lo
theorem ref_add {p q : Tref01_Wide} (hp : RW p) (hq : RW q) : ∃ w b, ref01_Add p q = some (w, b) ∧ RW w ∧ (rv p + rv q < 340282366920938463463374607431768211456 → rv w = rv p + rv q) := by
 obtain ⟨ph, pl⟩ := p; obtain ⟨qh, ql⟩ := q
 obtain ⟨⟨a1, a2⟩, ⟨a3, a4⟩⟩ := hp
 obtain ⟨⟨b1, b2⟩, ⟨b3, b4⟩⟩ := hq
 simp only at a1 a2 a3 a4 b1 b2 b3 b4
 unfold ref01_Add lb
 dsimp only
 by_cases h : IntKind.u64.wrap (pl + ql) < pl
 ·rw [decide_eq_true h]
  simp only [cond_true, Option.bind_some]
  refine ⟨_, _, rfl, ?_, ?_⟩
  ·simp only [RW, U64, wu]; omega
  ·rw [wu] at h; simp only [rv, wu]; omega
 ·rw [decide_eq_false h]
  simp only [cond_false, Option.bind_some]
  refine ⟨_, _, rfl, ?_, ?_⟩
  ·simp only [RW, U64, wu]; omega
  ·rw [wu] at h; simp only [rv, wu]; omega
theorem ishr_u {a n : Int} (h : n.toNat ≤ 64) : ishr .u64 a n = a / 2 ^ n.toNat := by
 have e : ishr .u64 a n = a.fdiv (2 ^ min n.toNat 64) := rfl
 rw [e, Nat.min_eq_left h]
 exact Int.fdiv_eq_ediv_of_nonneg a (Int.le_of_lt (Int.pow_pos (by omega)))
theorem half_step (b : Int) (k : Nat) : b / 2 ^ k = 2 * (b / 2 ^ (k + 1)) + b / 2 ^ k % 2 := by
 have : b / 2 ^ (k + 1) = b / 2 ^ k / 2 := by rw [Int.pow_succ, Int.ediv_ediv_of_nonneg (Int.le_of_lt (Int.pow_pos (by omega)))]
 rw [this]; omega
theorem ref_mul {a b : Int} (ha : U64 a) (hb : U64 b) : ∃ w, ref01_Mul a b = some w ∧ RW w ∧ rv w = a * b := by
 unfold ref01_Mul
 obtain ⟨t, h5, h6⟩ := loopF_run (body := fun (v3, v4, v5) => cond (decide (0 ≤ v3)) (Option.bind (Option.bind (ref01_Add (⟨v4, v5⟩ : Tref01_Wide) (⟨v4, v5⟩ : Tref01_Wide)) (fun x14 => Option.bind (ge0 v3) (fun u15 => cond ((iand .u64 (ishr .u64 b v3) 1) == 1) (Option.bind (ref01_Add x14.1 (⟨0, a⟩ : Tref01_Wide)) (fun x17 => some (x17.1.Hi, x17.1.Lo))) (some (x14.1.Hi, x14.1.Lo))))) (fun (v11, v12) => some (.inl ((IntKind.i64.wrap (v3 - 1)), v11, v12)))) (some (.inr (v4, v5))))
  (fun s : Int × Int × Int => -1 ≤ s.1 ∧ s.1 ≤ 63 ∧ RW ⟨s.2.1, s.2.2⟩ ∧ rv ⟨s.2.1, s.2.2⟩ = a * (b / 2 ^ (s.1 + 1).toNat)) (fun s => (s.1 + 1).toNat) (fun t : Int × Int => RW ⟨t.1, t.2⟩ ∧ rv ⟨t.1, t.2⟩ = a * b)
  (fun s hs => by
   obtain ⟨v, x, y⟩ := s
   obtain ⟨a1, a2, a3, a4⟩ := hs
   dsimp only at a1 a2 a3 a4 ⊢
   by_cases h0 : 0 ≤ v
   ·left
    obtain ⟨k, rfl⟩ : ∃ k : Nat, v = (k : Int) := ⟨v.toNat, by omega⟩
    have ek : ((k : Int) + 1).toNat = k + 1 := by omega
    rw [ek] at a4
    have hs := half_step b k
    have hbk : 0 ≤ b / 2 ^ k := Int.ediv_nonneg hb.1 (Int.le_of_lt (Int.pow_pos (by omega)))
    have hbk2 : b / 2 ^ k ≤ b := Int.ediv_le_self _ hb.1
    have hm : a * (b / 2 ^ k) = 2 * (a * (b / 2 ^ (k + 1))) + a * (b / 2 ^ k % 2) := by
     have := congrArg (a * ·) hs
     simp only [Int.mul_add] at this
     rw [this, ← Int.mul_assoc, Int.mul_comm a 2, Int.mul_assoc]
    have hle : a * (b / 2 ^ k) ≤ 18446744073709551615 * 18446744073709551615 := Int.mul_le_mul (by unfold U64 at ha; omega) (by unfold U64 at hb; omega) hbk (by omega)
    have hnn : 0 ≤ a * (b / 2 ^ k % 2) := Int.mul_nonneg ha.1 (by omega)
    rw [decide_eq_true h0]
    simp only [cond_true]
    obtain ⟨w, o, c1, c2, c3⟩ := ref_add a3 a3
    have c3 := c3 (by omega)
    rw [bnd c1]
    have hg : ge0 (k : Int) = some () := by unfold ge0; rw [if_pos h0]
    rw [bnd hg, ishr_u (by omega), Int.toNat_natCast, iand_one ⟨hbk, by unfold U64 at hb; omega⟩, i64s (by omega) (by omega)]
    rcases (by omega : b / 2 ^ k % 2 = 0 ∨ b / 2 ^ k % 2 = 1) with e | e
    ·rw [e] at hm ⊢
     refine ⟨_, rfl, ⟨by dsimp only; omega, by dsimp only; omega, c2, ?_⟩, by dsimp only; omega⟩
     have : ((k : Int) - 1 + 1).toNat = k := by omega
     dsimp only; rw [this, hm]; show rv w = _; omega
    ·rw [e] at hm ⊢
     obtain ⟨w2, o2, d1, d2, d3⟩ := ref_add (p := w) (q := ⟨0, a⟩) c2 ⟨⟨by simp, by simp⟩, ha⟩
     have e0 : rv ⟨0, a⟩ = a := by simp [rv]
     rw [e0] at d3
     have d3 := d3 (by omega)
     simp only [beq_self_eq_true, cond_true]
     rw [bnd d1]
     refine ⟨_, rfl, ⟨by dsimp only; omega, by dsimp only; omega, d2, ?_⟩, by dsimp only; omega⟩
     have : ((k : Int) - 1 + 1).toNat = k := by omega
     dsimp only; rw [this, hm]; show rv w2 = _; omega
   ·right
    rw [decide_eq_false h0]
    have : v = -1 := by omega
    subst this
    refine ⟨_, rfl, a3, ?_⟩
    rw [a4]; simp)
  FUEL (63, 0, 0) ⟨by simp, by simp, ⟨⟨by simp, by simp⟩, ⟨by simp, by simp⟩⟩, by
   have : b / 18446744073709551616 = 0 := Int.ediv_eq_zero_of_lt hb.1 hb.2
   simp [rv, this]⟩ (fuel_big (by simp))
 obtain ⟨t1, t2⟩ := t
 rw [bnd h5]
 exact ⟨_, rfl, h6.1, h6.2⟩
end SX
end Go.Proofs.YtfcecieppoljlaaGreatDoor
set_option maxRecDepth 100000
namespace Go.Proofs.YtfcecieppoljlaaGreatDoor
namespace SX
open Go
theorem iand63 : ∀ {n : Nat}, n < 128 → iand .i64 (n : Int) 63 = ((n % 64 : Nat) : Int) := by decide
theorem ishl_one {a : Int} (h : U64 a) : ishl .u64 a 1 = (2 * a) % 18446744073709551616 := by
 have e : ishl .u64 a 1 = IntKind.u64.wrap (a * 2) := rfl
 rw [e, wu, Int.mul_comm]
theorem ior_bit {a b : Int} (ha : U64 a) (h2 : a % 2 = 0) (hb : b = 0 ∨ b = 1) : ior .u64 a b = a + b := by
 rw [ior_eq ha (by rcases hb with rfl | rfl <;> exact ⟨by omega, by omega⟩)]
 unfold U64 at ha
 rcases hb with rfl | rfl
 ·simp; omega
 ·have : a.toNat ||| (1 : Int).toNat = a.toNat + 1 := by
   have e : a.toNat = 2 ^ 1 * (a.toNat / 2) := by omega
   have := Nat.two_pow_add_eq_or_of_lt (i := 1) (b := 1) (by omega) (a.toNat / 2)
   rw [← e] at this
   exact this.symm
  rw [this]; omega
theorem bit_lo {h l : Int} (hl : U64 l) {k : Nat} (hk : k < 64) : (h * 18446744073709551616 + l) / 2 ^ k % 2 = l / 2 ^ k % 2 := by
 have e : (18446744073709551616 : Int) = 2 ^ k * (2 * 2 ^ (63 - k)) := by
  have : (2 : Int) ^ k * (2 * 2 ^ (63 - k)) = 2 ^ (k + (1 + (63 - k))) := by rw [Int.pow_add, Int.pow_add]; rfl
  rw [this, show k + (1 + (63 - k)) = 64 by omega]; rfl
 have hp : (2 : Int) ^ k ≠ 0 := Int.ne_of_gt (Int.pow_pos (by omega))
 rw [e, show h * (2 ^ k * (2 * 2 ^ (63 - k))) + l = l + 2 ^ k * (2 * (h * 2 ^ (63 - k))) by rw [Int.add_comm, Int.mul_left_comm h, Int.mul_left_comm h 2], Int.add_mul_ediv_left _ _ hp, Int.add_mul_emod_self_left]
theorem bit_hi {h l : Int} (hl : U64 l) {k : Nat} (hk : 64 ≤ k) : (h * 18446744073709551616 + l) / 2 ^ k = h / 2 ^ (k - 64) := by
 have e : (2 : Int) ^ k = 18446744073709551616 * 2 ^ (k - 64) := by
  have : (18446744073709551616 : Int) * 2 ^ (k - 64) = 2 ^ (64 + (k - 64)) := by rw [Int.pow_add]; rfl
  rw [this, show 64 + (k - 64) = k by omega]
 rw [e, ← Int.ediv_ediv_of_nonneg (by omega)]
 congr 1
 unfold U64 at hl; omega
theorem ref_divmod {p : Tref01_Wide} {d : Int} (hp : RW p) (hd : U64 d) (h1 : 1 ≤ d) : ∃ q r, ref01_DivMod p d = some (q, r) ∧ RW q ∧ rv q = rv p / d ∧ r = rv p % d := by
 have hN : 0 ≤ rv p ∧ rv p < 340282366920938463463374607431768211456 := by obtain ⟨⟨a, b⟩, ⟨c, e⟩⟩ := hp; unfold rv; omega
 unfold ref01_DivMod
 obtain ⟨t, h5, h6⟩ := loopF_run (body := fun (v4, v5, v6, v7) => cond (decide (0 ≤ v5)) (Option.bind (Option.bind (ge0 (iand .i64 v5 63)) (fun u18 => lb ((iand .u64 (ishr .u64 p.Lo (iand .i64 v5 63)) 1)) (fun w19 => Option.bind (cond (decide (63 < v5)) (Option.bind (ge0 (IntKind.i64.wrap (v5 - 64))) (fun u23 => lb ((iand .u64 (ishr .u64 p.Hi (IntKind.i64.wrap (v5 - 64))) 1)) (fun w24 => some w24))) (some w19)) (fun v20 => Option.bind (ref01_Add (⟨v6, v7⟩ : Tref01_Wide) (⟨v6, v7⟩ : Tref01_Wide)) (fun x25 => cond (((ishr .u64 v4 63) == 1) || (decide (d ≤ (ior .u64 (ishl .u64 v4 1) v20)))) (lb ((IntKind.u64.wrap ((ior .u64 (ishl .u64 v4 1) v20) - d))) (fun w27 => some (w27, x25.1.Hi, (ior .u64 x25.1.Lo 1)))) (some ((ior .u64 (ishl .u64 v4 1) v20), x25.1.Hi, x25.1.Lo))))))) (fun (v14, v15, v16) => some (.inl (v14, (IntKind.i64.wrap (v5 - 1)), v15, v16)))) (some (.inr (v4, v6, v7))))
  (fun s : Int × Int × Int × Int => -1 ≤ s.2.1 ∧ s.2.1 ≤ 127 ∧ RW ⟨s.2.2.1, s.2.2.2⟩ ∧ 0 ≤ s.1 ∧ s.1 < d ∧ rv p / 2 ^ (s.2.1 + 1).toNat = rv ⟨s.2.2.1, s.2.2.2⟩ * d + s.1) (fun s => (s.2.1 + 1).toNat) (fun t : Int × Int × Int => RW ⟨t.2.1, t.2.2⟩ ∧ 0 ≤ t.1 ∧ t.1 < d ∧ rv p = rv ⟨t.2.1, t.2.2⟩ * d + t.1)
  (fun s hs => by
   obtain ⟨v4, v5, x, y⟩ := s
   obtain ⟨a1, a2, a3, a4, a5, a6⟩ := hs
   dsimp only at a1 a2 a3 a4 a5 a6 ⊢
   by_cases h0 : 0 ≤ v5
   ·left
    obtain ⟨k, rfl⟩ : ∃ k : Nat, v5 = (k : Int) := ⟨v5.toNat, by omega⟩
    have ek : ((k : Int) + 1).toNat = k + 1 := by omega
    rw [ek] at a6
    have hs := half_step (rv p) k
    generalize hbit : rv p / 2 ^ k % 2 = bit at hs
    have hb01 : bit = 0 ∨ bit = 1 := by omega
    rw [decide_eq_true h0, iand63 (by omega)]
    simp only [cond_true]
    have hg : ge0 ((k % 64 : Nat) : Int) = some () := by unfold ge0; rw [if_pos (by omega)]
    rw [bnd hg]
    unfold lb
    have hv : (cond (decide (63 < (k : Int))) (Option.bind (ge0 (IntKind.i64.wrap ((k : Int) - 64))) (fun _ => some (iand .u64 (ishr .u64 p.Hi (IntKind.i64.wrap ((k : Int) - 64))) 1))) (some (iand .u64 (ishr .u64 p.Lo ((k % 64 : Nat) : Int)) 1))) = some bit := by
     by_cases hk : 63 < (k : Int)
     ·rw [decide_eq_true hk, i64s (by omega) (by omega)]
      have hg2 : ge0 ((k : Int) - 64) = some () := by unfold ge0; rw [if_pos (by omega)]
      simp only [cond_true]
      rw [bnd hg2, ishr_u (by omega), show ((k : Int) - 64).toNat = k - 64 by omega, iand_one ⟨Int.ediv_nonneg hp.1.1 (Int.le_of_lt (Int.pow_pos (by omega))), Int.lt_of_le_of_lt (Int.ediv_le_self _ hp.1.1) hp.1.2⟩, ← hbit]
      unfold rv; rw [bit_hi hp.2 (by omega)]
     ·rw [decide_eq_false hk]
      simp only [cond_false]
      rw [ishr_u (by omega), Int.toNat_natCast, Nat.mod_eq_of_lt (by omega), iand_one ⟨Int.ediv_nonneg hp.2.1 (Int.le_of_lt (Int.pow_pos (by omega))), Int.lt_of_le_of_lt (Int.ediv_le_self _ hp.2.1) hp.2.2⟩, ← hbit]
      unfold rv; rw [bit_lo hp.2 (by omega)]
    dsimp only
    rw [bnd hv]
    obtain ⟨w, o, c1, c2, c3⟩ := ref_add a3 a3
    have hq0 : 0 ≤ rv ⟨x, y⟩ := by obtain ⟨⟨b1, b2⟩, ⟨b3, b4⟩⟩ := a3; unfold rv; dsimp only at *; omega
    have hqd : rv ⟨x, y⟩ ≤ rv ⟨x, y⟩ * d := by have := Int.mul_le_mul_of_nonneg_left h1 hq0; omega
    have hle : rv p / 2 ^ k ≤ rv p := Int.ediv_le_self _ hN.1
    have c3 := c3 (by omega)
    rw [bnd c1]
    have hu4 : U64 v4 := ⟨a4, by unfold U64 at hd; omega⟩
    have hsh : ishr .u64 v4 63 = v4 / 9223372036854775808 := ishr_u (by omega)
    have hlow : ior .u64 (ishl .u64 v4 1) bit = (2 * v4) % 18446744073709551616 + bit := by rw [ishl_one hu4]; exact ior_bit ⟨by omega, by omega⟩ (by omega) hb01
    rw [hlow, hsh, i64s (by omega) (by omega)]
    have ekk : ((k : Int) - 1 + 1).toNat = k := by omega
    unfold U64 at hd hu4
    by_cases hT : d ≤ 2 * v4 + bit
    ·have hc : ((v4 / 9223372036854775808 == 1) || decide (d ≤ (2 * v4) % 18446744073709551616 + bit)) = true := by
      simp only [Bool.or_eq_true, beq_iff_eq, decide_eq_true_eq]; omega
     rw [hc]
     simp only [cond_true]
     obtain ⟨⟨e1, e2⟩, ⟨e3, e4⟩⟩ := c2
     have hev : w.Lo % 2 = 0 := by unfold rv at c3; dsimp only at c3; omega
     rw [ior_bit ⟨e3, e4⟩ hev (.inr rfl), wu]
     refine ⟨_, rfl, ⟨by dsimp only; omega, by dsimp only; omega, ⟨⟨e1, e2⟩, ⟨by dsimp only; omega, by dsimp only; omega⟩⟩, by dsimp only; omega, by dsimp only; omega, ?_⟩, by dsimp only; omega⟩
     dsimp only
     rw [ekk, hs, a6]
     have e5 : rv ⟨w.Hi, w.Lo + 1⟩ = 2 * rv ⟨x, y⟩ + 1 := by unfold rv at c3 ⊢; dsimp only at c3 ⊢; omega
     rw [e5, Int.add_mul, Int.mul_assoc]; omega
    ·have hc : ((v4 / 9223372036854775808 == 1) || decide (d ≤ (2 * v4) % 18446744073709551616 + bit)) = false := by
      simp only [Bool.or_eq_false_iff, beq_eq_false_iff_ne, decide_eq_false_iff_not]; omega
     rw [hc]
     simp only [cond_false]
     refine ⟨_, rfl, ⟨by dsimp only; omega, by dsimp only; omega, c2, by dsimp only; omega, by dsimp only; omega, ?_⟩, by dsimp only; omega⟩
     dsimp only
     rw [ekk, hs, a6, show rv ⟨w.Hi, w.Lo⟩ = 2 * rv ⟨x, y⟩ by show rv w = _; omega, Int.mul_assoc]; omega
   ·right
    rw [decide_eq_false h0]
    have : v5 = -1 := by omega
    subst this
    refine ⟨_, rfl, a3, a4, a5, ?_⟩
    rw [← a6]; simp)
  FUEL (0, 127, 0, 0) ⟨by simp, by simp, ⟨⟨by simp, by simp⟩, ⟨by simp, by simp⟩⟩, by simp, by simp; omega, by
   have : rv p / 340282366920938463463374607431768211456 = 0 := Int.ediv_eq_zero_of_lt hN.1 hN.2
   simp [rv] at this ⊢; exact this⟩ (fuel_big (by simp))
 obtain ⟨t1, t2, t3⟩ := t
 rw [bnd h5]
 obtain ⟨g1, g2, g3, g4⟩ := h6
 dsimp only at g1 g2 g3 g4
 have gd : rv p / d = rv ⟨t2, t3⟩ := by
  rw [g4, Int.add_comm, Int.add_mul_ediv_right _ _ (by omega), Int.ediv_eq_zero_of_lt g2 g3, Int.zero_add]
 refine ⟨_, _, rfl, g1, gd.symm, ?_⟩
 have := Int.emod_add_mul_ediv (rv p) d
 rw [gd, Int.mul_comm] at this
 omega
end SX
end Go.Proofs.YtfcecieppoljlaaGreatDoor
set_option maxRecDepth 100000
namespace Go.Proofs.YtfcecieppoljlaaGreatDoor
namespace SX
open Go
structure KnInv (u u1 y1 y0 q rh : Int) : Prop where
 eq : u = q * y1 + rh
 r0 : 0 ≤ rh
 r1 : rh < 4294967296
 q0 : 0 ≤ q
 q1 : q ≤ 4294967297
 up : u * 4294967296 + u1 < q * (y1 * 4294967296 + y0) + (y1 * 4294967296 + y0)
section
variable {u u1 y1 y0 q rh : Int} (hu : 0 ≤ u) (huy : u < y1 * 4294967296 + y0) (h1 : 0 ≤ u1) (h1' : u1 < 4294967296) (hy : 2147483648 ≤ y1) (hy' : y1 < 4294967296) (hz : 0 ≤ y0) (hz' : y0 < 4294967296)
include hu huy h1 h1' hy hy' hz hz'
theorem kn_start : KnInv u u1 y1 y0 (u / y1) (u % y1) := by
 have hq0 : 0 ≤ u / y1 := Int.ediv_nonneg hu (by omega)
 have hr0 := Int.emod_nonneg u (show y1 ≠ 0 by omega)
 have hr1 := Int.emod_lt_of_pos u (show 0 < y1 by omega)
 have he := Int.emod_add_mul_ediv u y1
 rw [Int.mul_comm] at he
 have hz2 : 0 ≤ u / y1 * y0 := Int.mul_nonneg hq0 hz
 refine ⟨by omega, hr0, by omega, hq0, ?_, ?_⟩
 ·apply Int.le_of_lt_add_one
  apply Int.ediv_lt_of_lt_mul (by omega)
  omega
 ·rw [Int.mul_add, ← Int.mul_assoc]; omega
theorem kn_true (i : KnInv u u1 y1 y0 q rh) (h : 4294967296 ≤ q ∨ 4294967296 * rh + u1 < q * y0) : u * 4294967296 + u1 < q * (y1 * 4294967296 + y0) ∧ 1 ≤ q := by
 have e := i.eq
 have hlt : u * 4294967296 + u1 < q * (y1 * 4294967296 + y0) := by
  rcases h with h | h
  ·have : 4294967296 * (y1 * 4294967296 + y0) ≤ q * (y1 * 4294967296 + y0) := Int.mul_le_mul_of_nonneg_right h (by omega)
   omega
  ·rw [Int.mul_add, ← Int.mul_assoc]; omega
 refine ⟨hlt, ?_⟩
 have hq := i.q0
 by_cases hq0 : q = 0
 ·subst hq0; rw [Int.zero_mul] at hlt; omega
 ·omega
theorem kn_next (i : KnInv u u1 y1 y0 q rh) (h : 4294967296 ≤ q ∨ 4294967296 * rh + u1 < q * y0) (h2 : rh + y1 < 4294967296) : KnInv u u1 y1 y0 (q - 1) (rh + y1) := by
 obtain ⟨hlt, hq⟩ := kn_true hu huy h1 h1' hy hy' hz hz' i h
 have := i.eq; have := i.r0; have := i.q1
 refine ⟨by rw [Int.sub_mul]; omega, by omega, h2, by omega, by omega, ?_⟩
 rw [Int.sub_mul]; omega
theorem kn_stop (i : KnInv u u1 y1 y0 q rh) (h : 4294967296 ≤ q ∨ 4294967296 * rh + u1 < q * y0) (h2 : 4294967296 ≤ rh + y1) : (q - 1) * (y1 * 4294967296 + y0) ≤ u * 4294967296 + u1 ∧ u * 4294967296 + u1 < (q - 1) * (y1 * 4294967296 + y0) + (y1 * 4294967296 + y0) := by
 obtain ⟨hlt, hq⟩ := kn_true hu huy h1 h1' hy hy' hz hz' i h
 have e := i.eq; have := i.r0; have hq1 := i.q1
 refine ⟨?_, by rw [Int.sub_mul]; omega⟩
 have hz2 : (q - 1) * y0 ≤ 4294967296 * 4294967295 := Int.mul_le_mul (by omega) (by omega) hz (by omega)
 rw [Int.mul_add, ← Int.mul_assoc]
 rw [Int.sub_mul q 1 y1]
 omega
omit hu huy h1 h1' hy hy' hz hz' in
theorem kn_false (i : KnInv u u1 y1 y0 q rh) (h : ¬ (4294967296 ≤ q ∨ 4294967296 * rh + u1 < q * y0)) : q * (y1 * 4294967296 + y0) ≤ u * 4294967296 + u1 := by
 have e := i.eq
 rw [Int.mul_add, ← Int.mul_assoc]; omega
end
end SX
end Go.Proofs.YtfcecieppoljlaaGreatDoor
set_option maxRecDepth 100000
namespace Go.Proofs.YtfcecieppoljlaaGreatDoor
namespace SX
open Go
section
variable {u u1 y1 y0 : Int} (hu : 0 ≤ u) (huy : u < y1 * 4294967296 + y0) (h1 : 0 ≤ u1) (h1' : u1 < 4294967296) (hy : 2147483648 ≤ y1) (hy' : y1 < 4294967296) (hz : 0 ≤ y0) (hz' : y0 < 4294967296)
include hu huy h1 h1' hy hy' hz hz'
omit hu huy hy hy' in
theorem kn_cond {q rh : Int} (i : KnInv u u1 y1 y0 q rh) : ((decide (4294967296 ≤ q)) || (decide ((IntKind.u64.wrap ((IntKind.u64.wrap (4294967296 * rh)) + u1)) < (IntKind.u64.wrap (q * y0))))) = decide (4294967296 ≤ q ∨ 4294967296 * rh + u1 < q * y0) := by
 have := i.r0; have := i.r1; have := i.q0
 rw [wu_id (a := 4294967296 * rh) ⟨by omega, by omega⟩, wu_id (a := 4294967296 * rh + u1) ⟨by omega, by omega⟩]
 by_cases hq : 4294967296 ≤ q
 ·rw [decide_eq_true hq, decide_eq_true (Or.inl hq)]; rfl
 ·have hp : q * y0 ≤ 4294967295 * 4294967295 := Int.mul_le_mul (by omega) (by omega) hz (by omega)
  have hp0 : 0 ≤ q * y0 := Int.mul_nonneg (by omega) hz
  rw [wu_id (a := q * y0) ⟨hp0, by omega⟩, decide_eq_false hq, Bool.false_or]
  congr 1
  exact propext ⟨.inr, fun h => h.resolve_left hq⟩
omit hy hy' hz hz' in
theorem kn_end {q : Int} (h0 : 0 ≤ q) (h2 : q * (y1 * 4294967296 + y0) ≤ u * 4294967296 + u1) : q < 4294967296 := by
 have : q * (y1 * 4294967296 + y0) < 4294967296 * (y1 * 4294967296 + y0) := by omega
 exact Int.lt_of_mul_lt_mul_right this (by omega)
def KQ (u u1 y1 y0 q : Int) : Prop := 0 ≤ q ∧ q < 4294967296 ∧ q * (y1 * 4294967296 + y0) ≤ u * 4294967296 + u1 ∧ u * 4294967296 + u1 < q * (y1 * 4294967296 + y0) + (y1 * 4294967296 + y0)
theorem kn_loopA : ∃ q, loopF (S := Int × Int) (T := (Int)) (fun (v18, v19) => cond ((decide (4294967296 ≤ v18)) || (decide ((IntKind.u64.wrap ((IntKind.u64.wrap (4294967296 * v19)) + u1)) < (IntKind.u64.wrap (v18 * y0))))) (cond (decide (4294967296 ≤ (IntKind.u64.wrap (v19 + y1)))) (some (.inr (IntKind.u64.wrap (v18 - 1)))) (some (.inl ((IntKind.u64.wrap (v18 - 1)), (IntKind.u64.wrap (v19 + y1)))))) (some (.inr v18))) FUEL (u / y1, u % y1) = some q ∧ KQ u u1 y1 y0 q := by
 refine loopF_run (fun s : Int × Int => KnInv u u1 y1 y0 s.1 s.2) (fun s => s.1.toNat) (KQ u u1 y1 y0) ?_ FUEL _ (kn_start hu huy h1 h1' hy hy' hz hz') ?_
 ·rintro ⟨q, rh⟩ i
  dsimp only at i ⊢
  rw [kn_cond h1 h1' hz hz' i]
  have i0 := i.r0; have i1 := i.r1; have i2 := i.q0; have i3 := i.q1
  by_cases h : 4294967296 ≤ q ∨ 4294967296 * rh + u1 < q * y0
  ·rw [decide_eq_true h]
   obtain ⟨_, hq1⟩ := kn_true hu huy h1 h1' hy hy' hz hz' i h
   rw [wu_id (a := rh + y1) ⟨by omega, by omega⟩, wu_id (a := q - 1) ⟨by omega, by omega⟩]
   by_cases h2 : 4294967296 ≤ rh + y1
   ·rw [decide_eq_true h2]; right
    obtain ⟨e1, e2⟩ := kn_stop hu huy h1 h1' hy hy' hz hz' i h h2
    exact ⟨_, rfl, by omega, kn_end hu huy h1 h1' (by omega) e1, e1, e2⟩
   ·rw [decide_eq_false h2]; left
    exact ⟨_, rfl, kn_next hu huy h1 h1' hy hy' hz hz' i h (by omega), by dsimp only; omega⟩
  ·rw [decide_eq_false h]; right
   have e1 := kn_false i h
   exact ⟨_, rfl, i2, kn_end hu huy h1 h1' i2 e1, e1, i.up⟩
 ·have := (kn_start hu huy h1 h1' hy hy' hz hz').q1
  exact fuel_big (by dsimp only; omega)
theorem kn_loopB : ∃ q, loopF (S := Int × Int) (T := (Int)) (fun (v28, v29) => cond ((decide (4294967296 ≤ v29)) || (decide ((IntKind.u64.wrap ((IntKind.u64.wrap (4294967296 * v28)) + u1)) < (IntKind.u64.wrap (v29 * y0))))) (cond (decide (4294967296 ≤ (IntKind.u64.wrap (v28 + y1)))) (some (.inr (IntKind.u64.wrap (v29 - 1)))) (some (.inl ((IntKind.u64.wrap (v28 + y1)), (IntKind.u64.wrap (v29 - 1)))))) (some (.inr v29))) FUEL (u % y1, u / y1) = some q ∧ KQ u u1 y1 y0 q := by
 refine loopF_run (fun s : Int × Int => KnInv u u1 y1 y0 s.2 s.1) (fun s => s.2.toNat) (KQ u u1 y1 y0) ?_ FUEL _ (kn_start hu huy h1 h1' hy hy' hz hz') ?_
 ·rintro ⟨rh, q⟩ i
  dsimp only at i ⊢
  rw [kn_cond h1 h1' hz hz' i]
  have i0 := i.r0; have i1 := i.r1; have i2 := i.q0; have i3 := i.q1
  by_cases h : 4294967296 ≤ q ∨ 4294967296 * rh + u1 < q * y0
  ·rw [decide_eq_true h]
   obtain ⟨_, hq1⟩ := kn_true hu huy h1 h1' hy hy' hz hz' i h
   rw [wu_id (a := rh + y1) ⟨by omega, by omega⟩, wu_id (a := q - 1) ⟨by omega, by omega⟩]
   by_cases h2 : 4294967296 ≤ rh + y1
   ·rw [decide_eq_true h2]; right
    obtain ⟨e1, e2⟩ := kn_stop hu huy h1 h1' hy hy' hz hz' i h h2
    exact ⟨_, rfl, by omega, kn_end hu huy h1 h1' (by omega) e1, e1, e2⟩
   ·rw [decide_eq_false h2]; left
    exact ⟨_, rfl, kn_next hu huy h1 h1' hy hy' hz hz' i h (by omega), by dsimp only; omega⟩
  ·rw [decide_eq_false h]; right
   have e1 := kn_false i h
   exact ⟨_, rfl, i2, kn_end hu huy h1 h1' i2 e1, e1, i.up⟩
 ·have := (kn_start hu huy h1 h1' hy hy' hz hz').q1
  exact fuel_big (by dsimp only; omega)
end
theorem len_shift {a v : Int} {k n : Nat} (h : v = a / 2 ^ k) (hn : 1 ≤ n) (l : 2 ^ (n - 1) ≤ v) (g : v < 2 ^ n) : 2 ^ (k + n - 1) ≤ a ∧ a < 2 ^ (k + n) := by
 have hp : (0 : Int) < 2 ^ k := Int.pow_pos (by omega)
 have e1 := Int.ediv_mul_le a (Int.ne_of_gt hp)
 have e2 := Int.lt_ediv_add_one_mul_self a hp
 rw [← h] at e1 e2
 constructor
 ·rw [show k + n - 1 = (n - 1) + k by omega, Int.pow_add]
  exact Int.le_trans (Int.mul_le_mul_of_nonneg_right l (Int.le_of_lt hp)) e1
 ·rw [show k + n = n + k by omega, Int.pow_add]
  exact Int.lt_of_lt_of_le e2 (Int.mul_le_mul_of_nonneg_right (by omega) (Int.le_of_lt hp))
def lenTab : ByteArray := ⟨#[0, 1, 2, 2, 3, 3, 3, 3, 4, 4, 4, 4, 4, 4, 4, 4, 5, 5, 5, 5, 5, 5, 5, 5, 5, 5, 5, 5, 5, 5, 5, 5, 6, 6, 6, 6, 6, 6, 6, 6, 6, 6, 6, 6, 6, 6, 6, 6, 6, 6, 6, 6, 6, 6, 6, 6, 6, 6, 6, 6, 6, 6, 6, 6, 7, 7, 7, 7, 7, 7, 7, 7, 7, 7, 7, 7, 7, 7, 7, 7, 7, 7, 7, 7, 7, 7, 7, 7, 7, 7, 7, 7, 7, 7, 7, 7, 7, 7, 7, 7, 7, 7, 7, 7, 7, 7, 7, 7, 7, 7, 7, 7, 7, 7, 7, 7, 7, 7, 7, 7, 7, 7, 7, 7, 7, 7, 7, 7, 8, 8, 8, 8, 8, 8, 8, 8, 8, 8, 8, 8, 8, 8, 8, 8, 8, 8, 8, 8, 8, 8, 8, 8, 8, 8, 8, 8, 8, 8, 8, 8, 8, 8, 8, 8, 8, 8, 8, 8, 8, 8, 8, 8, 8, 8, 8, 8, 8, 8, 8, 8, 8, 8, 8, 8, 8, 8, 8, 8, 8, 8, 8, 8, 8, 8, 8, 8, 8, 8, 8, 8, 8, 8, 8, 8, 8, 8, 8, 8, 8, 8, 8, 8, 8, 8, 8, 8, 8, 8, 8, 8, 8, 8, 8, 8, 8, 8, 8, 8, 8, 8, 8, 8, 8, 8, 8, 8, 8, 8, 8, 8, 8, 8, 8, 8, 8, 8, 8, 8, 8, 8, 8, 8, 8, 8, 8, 8]⟩
theorem lenTab_all : ∀ v : Fin 256, (match idx lenTab.data.toList (v.val : Int) with | some c => decide (1 ≤ v.val → 1 ≤ c.toNat ∧ 2 ^ (c.toNat - 1) ≤ v.val) && decide (v.val < 2 ^ c.toNat) && decide (c.toNat ≤ 8) | none => false) = true := by decide
theorem lenTab_ok {v : Int} (h0 : 0 ≤ v) (h1 : v < 256) : ∃ c, idx lenTab.data.toList v = some c ∧ (1 ≤ v → 1 ≤ c.toNat ∧ 2 ^ (c.toNat - 1) ≤ v) ∧ v < 2 ^ c.toNat ∧ c.toNat ≤ 8 := by
 obtain ⟨k, rfl⟩ : ∃ k : Nat, v = (k : Int) := ⟨v.toNat, by omega⟩
 have := lenTab_all ⟨k, by omega⟩
 split at this
 ·rename_i c hc
  simp only [Bool.and_eq_true, decide_eq_true_eq] at this
  obtain ⟨⟨a, b⟩, d⟩ := this
  refine ⟨c, hc, fun h => ⟨(a (by omega)).1, ?_⟩, ?_, d⟩
  ·have := (a (by omega)).2; exact_mod_cast this
  ·exact_mod_cast b
 ·cases this
theorem len64 {a : Int} (ha : U64 a) (h1 : 1 ≤ a) : ∃ n : Nat, math_bits_Len64 a = some (n : Int) ∧ 1 ≤ n ∧ n ≤ 64 ∧ 2 ^ (n - 1) ≤ a ∧ a < 2 ^ n := by
 have key : ∃ (k : Nat) (v : Int), k ≤ 56 ∧ v = a / 2 ^ k ∧ 1 ≤ v ∧ v < 256 ∧ math_bits_Len64 a = Option.bind (idx lenTab.data.toList (IntKind.u8.wrap v)) (fun c13 => lb ((IntKind.i64.wrap ((k : Int) + (IntKind.i64.wrap (c13.toNat : Int))))) (fun w14 => some w14)) := by
  unfold U64 at ha
  have s32 : ∀ x : Int, ishr .u64 x 32 = x / 4294967296 := fun x => ishr_u (by decide)
  have s16 : ∀ x : Int, ishr .u64 x 16 = x / 65536 := fun x => ishr_u (by decide)
  have s8 : ∀ x : Int, ishr .u64 x 8 = x / 256 := fun x => ishr_u (by decide)
  unfold math_bits_Len64
  simp only [s32, s16, s8]
  by_cases c1 : 4294967296 ≤ a
  ·rw [decide_eq_true c1]
   simp only [cond_true, Option.bind_some]
   by_cases c2 : 65536 ≤ a / 4294967296
   ·rw [decide_eq_true c2]
    simp only [cond_true, Option.bind_some]
    by_cases c3 : 256 ≤ a / 4294967296 / 65536
    ·rw [decide_eq_true c3]
     exact ⟨56, a / 4294967296 / 65536 / 256, by omega, by simp only [Int.reducePow]; omega, by omega, by omega, rfl⟩
    ·rw [decide_eq_false c3]
     exact ⟨48, a / 4294967296 / 65536, by omega, by simp only [Int.reducePow]; omega, by omega, by omega, rfl⟩
   ·rw [decide_eq_false c2]
    simp only [cond_false, Option.bind_some]
    by_cases c3 : 256 ≤ a / 4294967296
    ·rw [decide_eq_true c3]
     exact ⟨40, a / 4294967296 / 256, by omega, by simp only [Int.reducePow]; omega, by omega, by omega, rfl⟩
    ·rw [decide_eq_false c3]
     exact ⟨32, a / 4294967296, by omega, by simp only [Int.reducePow], by omega, by omega, rfl⟩
  ·rw [decide_eq_false c1]
   simp only [cond_false, Option.bind_some]
   by_cases c2 : 65536 ≤ a
   ·rw [decide_eq_true c2]
    simp only [cond_true, Option.bind_some]
    by_cases c3 : 256 ≤ a / 65536
    ·rw [decide_eq_true c3]
     exact ⟨24, a / 65536 / 256, by omega, by simp only [Int.reducePow]; omega, by omega, by omega, rfl⟩
    ·rw [decide_eq_false c3]
     exact ⟨16, a / 65536, by omega, by simp only [Int.reducePow], by omega, by omega, rfl⟩
   ·rw [decide_eq_false c2]
    simp only [cond_false, Option.bind_some]
    by_cases c3 : 256 ≤ a
    ·rw [decide_eq_true c3]
     exact ⟨8, a / 256, by omega, by simp only [Int.reducePow], by omega, by omega, rfl⟩
    ·rw [decide_eq_false c3]
     exact ⟨0, a, by omega, by simp, by omega, by omega, rfl⟩
 obtain ⟨k, v, k1, k2, k3, k4, k5⟩ := key
 obtain ⟨c, c1, c2, c3, c4⟩ := lenTab_ok (v := v) (by omega) k4
 obtain ⟨c5, c6⟩ := c2 k3
 obtain ⟨l1, l2⟩ := len_shift k2 c5 c6 c3
 rw [k5, wrap_u8 (by omega), bnd c1]
 unfold lb
 rw [i64s (r := (c.toNat : Int)) (by omega) (by omega), i64s (by omega) (by omega)]
 exact ⟨k + c.toNat, by simp, by omega, by omega, l1, l2⟩
theorem lz64 {a : Int} (ha : U64 a) (h1 : 1 ≤ a) : ∃ s : Nat, math_bits_LeadingZeros64 a = some (s : Int) ∧ s ≤ 63 ∧ 9223372036854775808 ≤ a * 2 ^ s ∧ a * 2 ^ s < 18446744073709551616 := by
 obtain ⟨n, e1, e2, e3, e4, e5⟩ := len64 ha h1
 unfold math_bits_LeadingZeros64
 rw [bnd e1, i64s (by omega) (by omega)]
 refine ⟨64 - n, by congr 1; omega, by omega, ?_, ?_⟩
 ·have := Int.mul_le_mul_of_nonneg_right e4 (Int.le_of_lt (show (0 : Int) < 2 ^ (64 - n) from Int.pow_pos (by decide)))
  rw [← Int.pow_add, show n - 1 + (64 - n) = 63 by omega] at this
  exact this
 ·have := Int.mul_lt_mul_of_pos_right e5 (show (0 : Int) < 2 ^ (64 - n) from Int.pow_pos (by decide))
  rw [← Int.pow_add, show n + (64 - n) = 64 by omega] at this
  exact this
end SX
end Go.Proofs.YtfcecieppoljlaaGreatDoor
set_option maxRecDepth 100000
namespace Go.Proofs.YtfcecieppoljlaaGreatDoor
namespace SX
open Go
theorem ge0_ok {b : Int} (h : 0 ≤ b) : ge0 b = some () := by unfold ge0; rw [if_pos h]
theorem nz_ok {b : Int} (h : b ≠ 0) : nz b = some () := by unfold nz; rw [if_neg h]
theorem ishl_u {a : Int} {s : Nat} (h : s ≤ 64) : ishl .u64 a (s : Int) = IntKind.u64.wrap (a * 2 ^ s) := by
 have e : ishl .u64 a (s : Int) = IntKind.u64.wrap (a * 2 ^ min (s : Int).toNat 64) := rfl
 rw [e, Int.toNat_natCast, Nat.min_eq_left h]
theorem ior_sh {h b : Int} {s : Nat} (hh : 0 ≤ h) (hb : 0 ≤ b) (hb2 : b < 2 ^ s) (h1 : U64 (h * 2 ^ s)) (h2 : U64 b) : ior .u64 (h * 2 ^ s) b = h * 2 ^ s + b := by
 rw [ior_eq h1 h2]
 obtain ⟨x, rfl⟩ : ∃ k : Nat, h = (k : Int) := ⟨h.toNat, by omega⟩
 obtain ⟨z, rfl⟩ : ∃ k : Nat, b = (k : Int) := ⟨b.toNat, by omega⟩
 have e : ((x : Int) * 2 ^ s) = ((2 ^ s * x : Nat) : Int) := by push_cast; exact Int.mul_comm _ _
 have hz : z < 2 ^ s := by exact_mod_cast hb2
 rw [e, Int.toNat_natCast, Int.toNat_natCast, ← Nat.two_pow_add_eq_or_of_lt hz]
 rfl
theorem dm_of {n q r y : Int} (e : n = q * y + r) (h0 : 0 ≤ r) (h1 : r < y) : n / y = q ∧ n % y = r := by
 have gd : n / y = q := by
  rw [e, Int.add_comm, Int.add_mul_ediv_right _ _ (by omega), Int.ediv_eq_zero_of_lt h0 h1, Int.zero_add]
 refine ⟨gd, ?_⟩
 have := Int.emod_add_mul_ediv n y
 rw [gd, Int.mul_comm] at this
 omega
theorem div64 {hi lo y : Int} (h1 : U64 hi) (h2 : U64 lo) (h3 : U64 y) (h4 : hi < y) : math_bits_Div64 hi lo y = some ((hi * 18446744073709551616 + lo) / y, (hi * 18446744073709551616 + lo) % y) := by
 have hi0 := h1.1
 have hlo := h2.1
 have hy1 : 1 ≤ y := by omega
 unfold math_bits_Div64
 have cy : (y == 0) = false := by simp; omega
 rw [cy, decide_eq_false (show ¬ y ≤ hi by omega)]
 simp only [cond_false]
 by_cases hz : hi = 0
 ·subst hz
  have : ((0 : Int) == 0) = true := rfl
  rw [this]
  simp only [cond_true]
  rw [bnd (nz_ok (show y ≠ 0 by omega)), bnd (nz_ok (show y ≠ 0 by omega)), Int.tdiv_eq_ediv_of_nonneg hlo, Int.tmod_eq_emod_of_nonneg hlo]
  have : lo / y ≤ lo := Int.ediv_le_self _ hlo
  rw [wu_id ⟨Int.ediv_nonneg hlo (by omega), by have := h2.2; omega⟩]
  simp
 have cz : (hi == 0) = false := by simp; exact hz
 rw [cz]
 simp only [cond_false]
 obtain ⟨s, e1, e2, e3, e4⟩ := lz64 h3 hy1
 have hP : (0 : Int) < 2 ^ s := Int.pow_pos (by omega)
 have hM : (0 : Int) < 2 ^ (64 - s) := Int.pow_pos (by omega)
 have hPM : (2 : Int) ^ s * 2 ^ (64 - s) = 18446744073709551616 := by rw [← Int.pow_add, show s + (64 - s) = 64 by omega]; rfl
 have hhP : hi * 2 ^ s < y * 2 ^ s := Int.mul_lt_mul_of_pos_right h4 hP
 have hhP0 : 0 ≤ hi * 2 ^ s := Int.mul_nonneg hi0 (by omega)
 have hqd0 : 0 ≤ lo / 2 ^ (64 - s) := Int.ediv_nonneg hlo (by omega)
 have hqd1 : lo / 2 ^ (64 - s) < 2 ^ s := by
  apply Int.ediv_lt_of_lt_mul hM
  rw [hPM]; exact h2.2
 have hPle : (2 : Int) ^ s ≤ 18446744073709551616 := by rw [← hPM]; have := Int.mul_le_mul_of_nonneg_left (show (1 : Int) ≤ 2 ^ (64 - s) by omega) (Int.le_of_lt hP); omega
 have f1 : IntKind.u64.wrap (s : Int) = (s : Int) := wu_id ⟨by omega, by omega⟩
 have f2 : IntKind.u64.wrap (64 - (s : Int)) = ((64 - s : Nat) : Int) := by rw [wu_id ⟨by omega, by omega⟩]; omega
 have f3 : ishl .u64 y (s : Int) = y * 2 ^ s := by rw [ishl_u (by omega), wu_id ⟨by omega, e4⟩]
 have f4 : ishl .u64 hi (s : Int) = hi * 2 ^ s := by rw [ishl_u (by omega), wu_id ⟨hhP0, by omega⟩]
 have f5 : ishr .u64 lo ((64 - s : Nat) : Int) = lo / 2 ^ (64 - s) := by rw [ishr_u (by omega), Int.toNat_natCast]
 have f6 : ishl .u64 lo (s : Int) = (lo * 2 ^ s) % 18446744073709551616 := by rw [ishl_u (by omega), wu]
 have f7 : ior .u64 (hi * 2 ^ s) (lo / 2 ^ (64 - s)) = hi * 2 ^ s + lo / 2 ^ (64 - s) := ior_sh hi0 hqd0 hqd1 ⟨hhP0, by omega⟩ ⟨hqd0, by omega⟩
 rw [bnd e1]
 simp only [lb, f1, f2, f3, f4, f5, f6, f7, ge0_ok (Int.natCast_nonneg s), ge0_ok (Int.natCast_nonneg (64 - s)), Option.bind_some, ishr_32]
 have hN : (hi * 18446744073709551616 + lo) * 2 ^ s = (hi * 2 ^ s + lo / 2 ^ (64 - s)) * 18446744073709551616 + (lo * 2 ^ s) % 18446744073709551616 := by
  have g1 := Int.emod_add_mul_ediv lo (2 ^ (64 - s))
  have g2 : lo * 2 ^ s = lo % 2 ^ (64 - s) * 2 ^ s + 18446744073709551616 * (lo / 2 ^ (64 - s)) := by
   have := congrArg (· * (2 : Int) ^ s) g1
   simp only [Int.add_mul] at this
   rw [← this, ← hPM]
   rw [Int.mul_assoc, Int.mul_comm (lo / 2 ^ (64 - s)), ← Int.mul_assoc, Int.mul_comm (2 ^ (64 - s)), Int.mul_assoc]
  have g3 : 0 ≤ lo % 2 ^ (64 - s) * 2 ^ s := Int.mul_nonneg (Int.emod_nonneg _ (by omega)) (by omega)
  have g4 : lo % 2 ^ (64 - s) * 2 ^ s < 18446744073709551616 := by
   rw [← hPM, Int.mul_comm (2 ^ s)]
   exact Int.mul_lt_mul_of_pos_right (Int.emod_lt_of_pos _ hM) hP
  rw [Int.add_mul, Int.mul_right_comm hi]
  generalize lo % 2 ^ (64 - s) * 2 ^ s = A at *
  generalize lo / 2 ^ (64 - s) = B at *
  generalize lo * 2 ^ s = C at *
  generalize hi * 2 ^ s = D at *
  omega
 have hu0 : 0 ≤ hi * 2 ^ s + lo / 2 ^ (64 - s) := by omega
 have huy : hi * 2 ^ s + lo / 2 ^ (64 - s) < y * 2 ^ s := by
  have : (hi + 1) * 2 ^ s ≤ y * 2 ^ s := Int.mul_le_mul_of_nonneg_right (by omega) (by omega)
  rw [Int.add_mul] at this; omega
 have hU0 : 0 ≤ (lo * 2 ^ s) % 18446744073709551616 := by omega
 have hU1 : (lo * 2 ^ s) % 18446744073709551616 < 18446744073709551616 := by omega
 have hfin : ∀ q R : Int, (hi * 18446744073709551616 + lo) * 2 ^ s = q * (y * 2 ^ s) + R → 0 ≤ R → R < y * 2 ^ s → (hi * 18446744073709551616 + lo) / y = q ∧ (hi * 18446744073709551616 + lo) % y = R / 2 ^ s := by
  intro q R hq hR0 hR1
  have hr : R = (hi * 18446744073709551616 + lo - q * y) * 2 ^ s := by rw [Int.sub_mul, Int.mul_assoc q]; omega
  have hd : R / 2 ^ s = hi * 18446744073709551616 + lo - q * y := by rw [hr]; exact Int.mul_ediv_cancel _ (by omega)
  rw [hd]
  generalize hi * 18446744073709551616 + lo = n at *
  have : 0 ≤ n - q * y := by
   by_cases hc : 0 ≤ n - q * y
   ·exact hc
   ·have := Int.mul_le_mul_of_nonneg_right (show n - q * y ≤ -1 by omega) (Int.le_of_lt hP); omega
  have : n - q * y < y := by
   apply Int.lt_of_mul_lt_mul_right (a := 2 ^ s) _ (by omega)
   omega
  exact dm_of (by omega) (by assumption) (by assumption)
 generalize (hi * 18446744073709551616 + lo) * 2 ^ s = NP at *
 generalize hYe : y * 2 ^ s = Y at *
 generalize hi * 2 ^ s + lo / 2 ^ (64 - s) = u at *
 generalize (lo * 2 ^ s) % 18446744073709551616 = U at *
 rw [iand_low (a := Y) ⟨by omega, e4⟩, iand_low (a := U) ⟨hU0, hU1⟩]
 have k1 : Y / 4294967296 * 4294967296 + Y % 4294967296 = Y := by omega
 have k2 : 2147483648 ≤ Y / 4294967296 := by omega
 have k3 : Y / 4294967296 < 4294967296 := by omega
 have k4 : 0 ≤ Y % 4294967296 := by omega
 have k5 : Y % 4294967296 < 4294967296 := by omega
 have k6 : 0 ≤ U / 4294967296 := by omega
 have k7 : U / 4294967296 < 4294967296 := by omega
 have k8 : 0 ≤ U % 4294967296 := by omega
 have k9 : U % 4294967296 < 4294967296 := by omega
 have k10 : U = U / 4294967296 * 4294967296 + U % 4294967296 := by omega
 generalize U / 4294967296 = u1 at *
 generalize U % 4294967296 = u0 at *
 generalize Y / 4294967296 = y1 at *
 generalize Y % 4294967296 = y0 at *
 have dv : ∀ v : Int, 0 ≤ v → v < Y → IntKind.u64.wrap (Int.tdiv v y1) = v / y1 ∧ IntKind.u64.wrap (v - IntKind.u64.wrap (v / y1 * y1)) = v % y1 := by
  intro v v0 v1
  have := Int.ediv_le_self y1 v0
  have q0 := Int.ediv_nonneg v0 (show 0 ≤ y1 by omega)
  have m0 := Int.emod_nonneg v (show y1 ≠ 0 by omega)
  have m1 := Int.emod_lt_of_pos v (show 0 < y1 by omega)
  have e := Int.emod_add_mul_ediv v y1
  rw [Int.mul_comm] at e
  rw [Int.tdiv_eq_ediv_of_nonneg v0, wu_id (a := v / y1) ⟨q0, by omega⟩]
  refine ⟨rfl, ?_⟩
  have : 0 ≤ v / y1 * y1 := Int.mul_nonneg q0 (by omega)
  rw [wu_id (a := v / y1 * y1) ⟨this, by omega⟩, wu_id ⟨by omega, by omega⟩]
  omega
 have hnz : nz y1 = some () := nz_ok (by omega)
 obtain ⟨d1, d2⟩ := dv u hu0 huy
 simp only [hnz, d1, d2, Option.bind_some]
 obtain ⟨q1, l1, l2, l3, l4, l5⟩ := kn_loopA (u := u) (u1 := u1) (y1 := y1) (y0 := y0) hu0 (by omega) k6 k7 k2 k3 k4 k5
 rw [k1] at l4 l5
 rw [bnd l1]
 have w25 : IntKind.u64.wrap (IntKind.u64.wrap (IntKind.u64.wrap (u * 4294967296) + u1) - IntKind.u64.wrap (q1 * Y)) = u * 4294967296 + u1 - q1 * Y := by
  simp only [wu]
  generalize q1 * Y = z at *
  omega
 simp only [w25]
 have v0 : 0 ≤ u * 4294967296 + u1 - q1 * Y := by omega
 have v1 : u * 4294967296 + u1 - q1 * Y < Y := by omega
 have hv : u * 4294967296 + u1 = q1 * Y + (u * 4294967296 + u1 - q1 * Y) := by omega
 generalize u * 4294967296 + u1 - q1 * Y = v at *
 obtain ⟨d3, d4⟩ := dv v v0 v1
 simp only [d3, d4]
 obtain ⟨q0, m1, m2, m3, m4, m5⟩ := kn_loopB (u := v) (u1 := u0) (y1 := y1) (y0 := y0) v0 (by omega) k8 k9 k2 k3 k4 k5
 rw [k1] at m4 m5
 rw [bnd m1]
 have w36 : IntKind.u64.wrap (IntKind.u64.wrap (q1 * 4294967296) + q0) = q1 * 4294967296 + q0 := by simp only [wu]; omega
 have w37 : IntKind.u64.wrap (IntKind.u64.wrap (IntKind.u64.wrap (v * 4294967296) + u0) - IntKind.u64.wrap (q0 * Y)) = v * 4294967296 + u0 - q0 * Y := by
  simp only [wu]
  generalize q0 * Y = z at *
  omega
 rw [w36, w37, ishr_u (by omega), Int.toNat_natCast]
 obtain ⟨g1, g2⟩ := hfin (q1 * 4294967296 + q0) (v * 4294967296 + u0 - q0 * Y) (by
  rw [hN, k10, Int.add_mul, Int.mul_right_comm]
  generalize q1 * Y = z at *
  generalize q0 * Y = z0 at *
  omega) (by omega) (by omega)
 rw [g1, g2]
def xv (w : Texact_Wide) : Int := w.Hi * 18446744073709551616 + w.Lo
def XW (w : Texact_Wide) : Prop := U64 w.Hi ∧ U64 w.Lo
theorem exact_mul {a b : Int} (ha : U64 a) (hb : U64 b) : ∃ w, exact_Mul a b = some w ∧ XW w ∧ xv w = a * b := by
 obtain ⟨h, l, e1, e2, e3, e4⟩ := mul64 ha hb
 unfold exact_Mul; rw [bnd e1]
 exact ⟨_, rfl, ⟨e2, e3⟩, e4⟩
theorem exact_mulmod {a b c : Int} (ha : U64 a) (hb : U64 b) (hc : U64 c) (h1 : 1 ≤ c) : exact_MulMod a b c = some (a * b % c) := by
 unfold exact_MulMod
 have cc : (c == 0) = false := by simp; omega
 rw [cc]; simp only [cond_false]
 obtain ⟨w, e1, e2, e3⟩ := exact_mul ha hb
 rw [bnd e1]
 unfold math_bits_Rem64
 have hm0 : 0 ≤ w.Hi % c := Int.emod_nonneg _ (by omega)
 have hm1 : w.Hi % c < c := Int.emod_lt_of_pos _ (by omega)
 rw [bnd (nz_ok (show c ≠ 0 by omega)), Int.tmod_eq_emod_of_nonneg e2.1.1, bnd (div64 ⟨hm0, by have := hc.2; omega⟩ e2.2 hc hm1)]
 simp only [Option.bind_some]
 congr 1
 rw [← e3, xv, Int.add_emod, Int.mul_emod, Int.emod_emod, ← Int.mul_emod, ← Int.add_emod]
def rnd (n c m : Int) : Int := if m = 2 ∧ c ≤ 2 * (n % c) then n / c + 1 else n / c
theorem exact_div {w : Texact_Wide} {c m : Int} (hw : XW w) (hc : U64 c) (h1 : 1 ≤ c) (hm : m = 0 ∨ m = 2) : exact_Div w c m = some (if rnd (xv w) c m < 18446744073709551616 then (rnd (xv w) c m, 0) else (0, 3)) := by
 unfold exact_Div
 have hc0 : ((((c == 0) || (decide (m < 0))) || (decide (3 < m))) : Bool) = false := by
  rcases hm with rfl | rfl <;> simp <;> omega
 rw [hc0]; simp only [cond_false]
 have hn0 : 0 ≤ xv w := by unfold xv; have := hw.1.1; have := hw.2.1; omega
 have hr0 : 0 ≤ xv w % c := Int.emod_nonneg _ (by omega)
 have hr1 : xv w % c < c := Int.emod_lt_of_pos _ (by omega)
 have hle : xv w / c ≤ rnd (xv w) c m := by unfold rnd; split <;> omega
 by_cases h : c ≤ w.Hi
 ·rw [decide_eq_true h]
  have : 18446744073709551616 ≤ xv w / c := by
   apply Int.le_ediv_of_mul_le (by omega)
   have := Int.mul_le_mul_of_nonneg_left h (show (0 : Int) ≤ 18446744073709551616 by omega)
   unfold xv; have := hw.2.1; omega
  rw [if_neg (by omega)]; rfl
 ·rw [decide_eq_false h]
  simp only [cond_false]
  have e := div64 hw.1 hw.2 hc (by omega)
  rw [show w.Hi * 18446744073709551616 + w.Lo = xv w from rfl] at e
  rw [bnd e]
  have hq : xv w / c < 18446744073709551616 := by
   apply Int.ediv_lt_of_lt_mul (by omega)
   have := Int.mul_le_mul_of_nonneg_right (show w.Hi + 1 ≤ c by omega) (show (0 : Int) ≤ 18446744073709551616 by omega)
   unfold xv; have := hw.2.2; rw [Int.mul_comm 18446744073709551616]; omega
  have hq0 : 0 ≤ xv w / c := Int.ediv_nonneg hn0 (by omega)
  dsimp only
  have er : exact_raised (xv w / c) (xv w % c) c m = some (decide (m = 2 ∧ c ≤ 2 * (xv w % c))) := by
   unfold exact_raised
   rw [wu_id (a := c - xv w % c) ⟨by omega, by have := hc.2; omega⟩]
   rcases hm with rfl | rfl
   ·simp
   ·simp; omega
  rw [bnd er]
  unfold rnd
  by_cases hu : m = 2 ∧ c ≤ 2 * (xv w % c)
  ·rw [decide_eq_true hu, if_pos hu]
   simp only [Bool.not_true, cond_false]
   by_cases hx : xv w / c = 18446744073709551615
   ·rw [hx]; rfl
   ·have : (xv w / c == 18446744073709551615) = false := by simp; exact hx
    rw [this, if_pos (by omega), wu_id ⟨by omega, by omega⟩]; rfl
  ·rw [decide_eq_false hu, if_neg hu, if_pos hq]; rfl
theorem ref_div {w : Tref01_Wide} {c m : Int} (hw : RW w) (hc : U64 c) (h1 : 1 ≤ c) (hm : m = 0 ∨ m = 2) : ref01_Div w c m = some (if rnd (rv w) c m < 18446744073709551616 then (rnd (rv w) c m, 0) else (0, 3)) := by
 unfold ref01_Div
 have hc0 : ((((c == 0) || (decide (m < 0))) || (decide (3 < m))) : Bool) = false := by
  rcases hm with rfl | rfl <;> simp <;> omega
 rw [hc0]; simp only [cond_false]
 have hn0 : 0 ≤ rv w := by unfold rv; have := hw.1.1; have := hw.2.1; omega
 have hn1 : rv w < 340282366920938463463374607431768211456 := by unfold rv; have := hw.1.2; have := hw.2.2; omega
 have hr0 : 0 ≤ rv w % c := Int.emod_nonneg _ (by omega)
 have hr1 : rv w % c < c := Int.emod_lt_of_pos _ (by omega)
 obtain ⟨q, r, e1, e2, e3, e4⟩ := ref_divmod hw hc h1
 rw [bnd e1]
 dsimp only
 have er : (cond (m == 1) (some (decide (0 < r))) (cond (m == 2) (some (decide ((IntKind.u64.wrap (c - r)) ≤ r))) (cond (m == 3) (some ((decide ((IntKind.u64.wrap (c - r)) < r)) || ((r == (IntKind.u64.wrap (c - r))) && ((iand .u64 q.Lo 1) == 1)))) (some false)))) = some (decide (m = 2 ∧ c ≤ 2 * (rv w % c))) := by
  rw [e4, wu_id (a := c - rv w % c) ⟨by omega, by have := hc.2; omega⟩]
  rcases hm with rfl | rfl
  ·simp
  ·simp; omega
 rw [bnd er]
 have hq0 : 0 ≤ rv w / c := Int.ediv_nonneg hn0 (by omega)
 unfold rnd
 have hfin : ∀ z : Tref01_Wide, RW z → (cond (decide (0 < z.Hi)) (some ((0 : Int), (3 : Int))) (some (z.Lo, 0))) = some (if rv z < 18446744073709551616 then (rv z, 0) else (0, 3)) := by
  intro z hz
  obtain ⟨⟨a1, a2⟩, ⟨a3, a4⟩⟩ := hz
  by_cases h : 0 < z.Hi
  ·rw [decide_eq_true h, if_neg (by unfold rv; omega)]; rfl
  ·have : rv z = z.Lo := by unfold rv; omega
   rw [decide_eq_false h, this, if_pos a4]; rfl
 by_cases hu : m = 2 ∧ c ≤ 2 * (rv w % c)
 ·rw [decide_eq_true hu, if_pos hu]
  obtain ⟨z, b, f1, f2, f3⟩ := ref_add (p := q) (q := ⟨0, 1⟩) e2 ⟨⟨by simp, by simp⟩, ⟨by simp, by simp⟩⟩
  have hone : rv ⟨0, 1⟩ = 1 := rfl
  have : rv w / c ≤ rv w := Int.ediv_le_self _ hn0
  have hc2 : 2 ≤ c := by omega
  have t1 := Int.ediv_mul_le (rv w) (show c ≠ 0 by omega)
  have t2 := Int.mul_le_mul_of_nonneg_left hc2 hq0
  rw [hone, e3] at f3
  have f3 := f3 (by omega)
  simp only [cond_true]
  rw [bnd f1]
  simp only [Option.bind_some]
  rw [hfin z f2, f3]
 ·rw [decide_eq_false hu, if_neg hu]
  simp only [cond_false, Option.bind_some]
  rw [hfin q e2, e3]
end SX
end Go.Proofs.YtfcecieppoljlaaGreatDoor
