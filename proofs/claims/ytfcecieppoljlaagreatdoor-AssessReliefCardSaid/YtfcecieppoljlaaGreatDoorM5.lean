/- AssessRelief: for every input the law returns true, and each argument reads afterwards as it read before. Conditions: the package variables are as the program's text lays them (the card ties them). -/
import Derived.Test.YtfcecieppoljlaaGreatDoorM4
import Derived.Test.YtfcecieppoljlaaGreatDoorChecked
import Derived.KernelRfl
import Derived.WalkKit
import Derived.OrdersHeld
import Derived.Laws.CopyRow
import Derived.Laws.StructEq
import Derived.Maps.AppendAt
import Derived.Laws.MakeOwn
import Derived.Laws.BytesArg
import Derived.Laws.Externs
import Derived.Laws.Cover3
import Derived.ChangeArms
import Derived.DataReads
import GoSem.ClaimJoined
import Derived.Test.YtfcecieppoljlaaGreatDoorRows
import Derived.ChangeSame
import Derived.ChangeVars
import Derived.JoinedOf
import Derived.RowKit
import Derived.RowKitTokens
import Derived.LaidLaws
import Derived.LaidHandle
import Derived.Carry
import Derived.Handed
import Derived.ChangeOld
import Derived.SevenTiedAt
import Derived.Test.YtfcecieppoljlaaGreatDoorCards
import Derived.Test.YtfcecieppoljlaaGreatDoorTie
set_option linter.unusedVariables false
set_option linter.unusedSimpArgs false
set_option maxRecDepth 100000
namespace Go.Proofs.YtfcecieppoljlaaGreatDoor
namespace SX
open Go
theorem lfb_step {S T β : Type} {body : S → Option (S ⊕ T)} {N : Nat} {s : S} (s' : S) {k : T → Option β} (h : body s = some (.inl s')) : (loopF body (N + 1) s).bind k = (loopF body N s').bind k := by rw [loopF_succ, h]
theorem lfb_done {S T β : Type} {body : S → Option (S ⊕ T)} {N : Nat} {s : S} (t : T) {k : T → Option β} (h : body s = some (.inr t)) : (loopF body (N + 1) s).bind k = k t := by rw [loopF_succ, h]; rfl
theorem fuel9 : FUEL = 1267650600228229401496703205367 + 9 := rfl
structure ShareOK (t g r : Int) : Prop where
 t0 : 0 ≤ t
 t1 : t ≤ 1000000000000
 g0 : 0 ≤ g
 g1 : g ≤ 1000000000000
 r0 : 0 ≤ r
 r1 : r ≤ 1000000000000
 s1 : 1 ≤ g + r
def shLeft (t g r : Int) : Int := t - t * g / (g + r) - t * r / (g + r)
def share2 (t g r : Int) : Int × Int := if shLeft t g r = 1 then (if t * g % (g + r) < t * r % (g + r) then (t * g / (g + r), t * r / (g + r) + 1) else (t * g / (g + r) + 1, t * r / (g + r))) else (t * g / (g + r), t * r / (g + r))
structure ShareFacts (t g r : Int) : Prop where
 a0 : 0 ≤ t * g / (g + r)
 a1 : t * g / (g + r) ≤ t
 b0 : 0 ≤ t * r / (g + r)
 b1 : t * r / (g + r) ≤ t
 c0 : 0 ≤ t * g % (g + r)
 c1 : t * g % (g + r) < g + r
 d0 : 0 ≤ t * r % (g + r)
 d1 : t * r % (g + r) < g + r
 l01 : shLeft t g r = 0 ∨ shLeft t g r = 1
section
variable {t g r : Int} (h : ShareOK t g r)
include h
theorem shareFacts : ShareFacts t g r := by
 obtain ⟨t0, t1, g0, g1, r0, r1, s1⟩ := h
 have p1 := Int.mul_nonneg t0 g0
 have p2 := Int.mul_nonneg t0 r0
 have e1 := Int.emod_add_mul_ediv (t * g) (g + r)
 have e2 := Int.emod_add_mul_ediv (t * r) (g + r)
 have a0 := Int.ediv_nonneg p1 (show 0 ≤ g + r by omega)
 have b0 := Int.ediv_nonneg p2 (show 0 ≤ g + r by omega)
 have c0 := Int.emod_nonneg (t * g) (show g + r ≠ 0 by omega)
 have d0 := Int.emod_nonneg (t * r) (show g + r ≠ 0 by omega)
 have c1 := Int.emod_lt_of_pos (t * g) (show 0 < g + r by omega)
 have d1 := Int.emod_lt_of_pos (t * r) (show 0 < g + r by omega)
 have hs : t * (g + r) = t * g + t * r := Int.mul_add _ _ _
 have key : (g + r) * shLeft t g r = t * g % (g + r) + t * r % (g + r) := by
  unfold shLeft
  rw [Int.mul_sub, Int.mul_sub, Int.mul_comm (g + r) t]
  generalize t * g / (g + r) = x at *
  generalize t * r / (g + r) = y at *
  generalize (g + r) * x = X at *
  generalize (g + r) * y = Y at *
  omega
 have l0 : 0 ≤ shLeft t g r := by
  by_cases hc : 0 ≤ shLeft t g r
  ·exact hc
  ·have := Int.mul_le_mul_of_nonneg_left (show shLeft t g r ≤ -1 by omega) (show 0 ≤ g + r by omega); omega
 have l1 : shLeft t g r ≤ 1 := by
  by_cases hc : shLeft t g r ≤ 1
  ·exact hc
  ·have := Int.mul_le_mul_of_nonneg_left (show 2 ≤ shLeft t g r by omega) (show 0 ≤ g + r by omega); omega
 refine ⟨a0, ?_, b0, ?_, c0, c1, d0, d1, by omega⟩
 ·unfold shLeft at l0; omega
 ·unfold shLeft at l0; omega
theorem share2_ok : (share2 t g r).1 + (share2 t g r).2 = t ∧ 0 ≤ (share2 t g r).1 ∧ (share2 t g r).1 ≤ 1000000000000 ∧ 0 ≤ (share2 t g r).2 ∧ (share2 t g r).2 ≤ 1000000000000 := by
 obtain ⟨a0, a1, b0, b1, c0, c1, d0, d1, l01⟩ := shareFacts h
 have := h.t1
 have hl : shLeft t g r = t - t * g / (g + r) - t * r / (g + r) := rfl
 unfold share2
 split
 ·split <;> (dsimp only; omega)
 ·dsimp only; omega
theorem muldiv2 {w : Int} (hw : 0 ≤ w) (hw1 : w ≤ 1000000000000) (hle : t * w / (g + r) ≤ t) : exact_MulDiv t w (g + r) 0 = some (t * w / (g + r), 0) := by
 obtain ⟨t0, t1, g0, g1, r0, r1, s1⟩ := h
 unfold exact_MulDiv
 obtain ⟨z, e1, e2, e3⟩ := exact_mul (a := t) (b := w) ⟨by omega, by omega⟩ ⟨by omega, by omega⟩
 rw [bnd e1, exact_div e2 (c := g + r) ⟨by omega, by omega⟩ s1 (.inl rfl), e3]
 have : rnd (t * w) (g + r) 0 = t * w / (g + r) := by unfold rnd; rw [if_neg (by omega)]
 rw [this, if_pos (by omega)]
 rfl
theorem check2 : apportion_check t [g, r] = some 0 := by
 obtain ⟨t0, t1, g0, g1, r0, r1, s1⟩ := h
 unfold apportion_check
 rw [show decide ((1000 : Int) < (([g, r] : List Int).length : Int)) = false from rfl, show ((decide (t < 0)) || (decide (1000000000000 < t))) = false by simp; omega, fuel9]
 simp only [cond_false]
 refine (lfb_step 1 ?_).trans ((lfb_step 2 ?_).trans ((lfb_done (.inl ()) ?_).trans ?_))
 ·rw [show decide ((0 : Int) < (([g, r] : List Int).length : Int)) = true from rfl, bnd (show idx [g, r] 0 = some g from rfl), show ((decide (g < 0)) || (decide (1000000000000 < g))) = false by simp; omega]; rfl
 ·rw [show decide ((1 : Int) < (([g, r] : List Int).length : Int)) = true from rfl, bnd (show idx [g, r] 1 = some r from rfl), show ((decide (r < 0)) || (decide (1000000000000 < r))) = false by simp; omega]; rfl
 ·rfl
 ·rfl
theorem sum2 : apportion_sumOf [g, r] = some (g + r) := by
 obtain ⟨t0, t1, g0, g1, r0, r1, s1⟩ := h
 unfold apportion_sumOf
 rw [fuel9]
 refine (lfb_step (g, 1) ?_).trans ((lfb_step (g + r, 2) ?_).trans ((lfb_done (g + r) ?_).trans ?_))
 ·dsimp only
  rw [show decide ((0 : Int) < (([g, r] : List Int).length : Int)) = true from rfl, bnd (show idx [g, r] 0 = some g from rfl), i64s (by omega) (by omega), Int.zero_add]; rfl
 ·dsimp only
  rw [show decide ((1 : Int) < (([g, r] : List Int).length : Int)) = true from rfl, bnd (show idx [g, r] 1 = some r from rfl), i64s (by omega) (by omega)]; rfl
 ·rfl
 ·rfl
end
theorem cmpI (a b : Int) : cmp_Compare_int a b = some (if a < b then -1 else if b < a then 1 else 0) := by
 unfold cmp_Compare_int cmp_isNaN_int
 simp only [bne_self_eq_false, Option.bind_some, cond_false]
 by_cases h : a < b
 ·rw [decide_eq_true h, if_pos h]; rfl
 ·rw [decide_eq_false h, if_neg h]
  by_cases h2 : b < a
  ·rw [decide_eq_true h2, if_pos h2]; rfl
  ·rw [decide_eq_false h2, if_neg h2]; rfl
theorem cmpU (a b : Int) : cmp_Compare_uint64 a b = some (if a < b then -1 else if b < a then 1 else 0) := by
 unfold cmp_Compare_uint64 cmp_isNaN_uint64
 simp only [bne_self_eq_false, Option.bind_some, cond_false]
 by_cases h : a < b
 ·rw [decide_eq_true h, if_pos h]; rfl
 ·rw [decide_eq_false h, if_neg h]
  by_cases h2 : b < a
  ·rw [decide_eq_true h2, if_pos h2]; rfl
  ·rw [decide_eq_false h2, if_neg h2]; rfl
theorem len2 : math_bits_Len 2 = some 2 := by kernel_rfl
theorem sort2 (s0 m0 s1 m1 : Int) : apportion_ranking_sort (⟨()⟩ : Tapportion_ranking) [⟨0, s0, m0⟩, ⟨1, s1, m1⟩] = some (if m0 < m1 then [⟨1, s1, m1⟩, ⟨0, s0, m0⟩] else [⟨0, s0, m0⟩, ⟨1, s1, m1⟩]) := by
 have hby : apportion_ranking_sort_1 ⟨1, s1, m1⟩ ⟨0, s0, m0⟩ (⟨()⟩ : Tapportion_ranking) = some (if m0 < m1 then -1 else 1) := by
  unfold apportion_ranking_sort_1 apportion_byRest
  rw [cmpU, cmpI]
  dsimp only
  by_cases h : m0 < m1
  ·rw [if_pos h, if_pos h]; rfl
  ·rw [if_neg h, if_neg h]
   by_cases h2 : m1 < m0
   ·rw [if_pos h2]; rfl
   ·rw [if_neg h2]; rfl
 unfold apportion_ranking_sort slices_SortFunc_apportion_portion_apportion_portion
 rw [show IntKind.u64.wrap ((([(⟨0, s0, m0⟩ : Tapportion_portion), ⟨1, s1, m1⟩] : List Tapportion_portion).length : Nat) : Int) = 2 from rfl, bnd len2]
 have hins : slices_insertionSortCmpFunc_apportion_portion [⟨0, s0, m0⟩, ⟨1, s1, m1⟩] 0 2 (fun y2 y3 => apportion_ranking_sort_1 y2 y3 (⟨()⟩ : Tapportion_ranking)) = some (if m0 < m1 then [⟨1, s1, m1⟩, ⟨0, s0, m0⟩] else [⟨0, s0, m0⟩, ⟨1, s1, m1⟩]) := by
  unfold slices_insertionSortCmpFunc_apportion_portion
  rw [fuel9]
  refine (lfb_step (if m0 < m1 then [⟨1, s1, m1⟩, ⟨0, s0, m0⟩] else [⟨0, s0, m0⟩, ⟨1, s1, m1⟩], 2) ?_).trans ((lfb_done _ ?_).trans rfl)
  ·show Option.bind (loopF _ _ (([⟨0, s0, m0⟩, ⟨1, s1, m1⟩] : List Tapportion_portion), (1 : Int))) _ = _
   by_cases h : m0 < m1
   ·rw [if_pos h] at hby ⊢
    refine (lfb_step ([⟨1, s1, m1⟩, ⟨0, s0, m0⟩], 0) ?_).trans ((lfb_done [⟨1, s1, m1⟩, ⟨0, s0, m0⟩] ?_).trans rfl)
    ·show Option.bind (gd true (apportion_ranking_sort_1 ⟨1, s1, m1⟩ ⟨0, s0, m0⟩ (⟨()⟩ : Tapportion_ranking))) _ = _
     rw [hby]; rfl
    ·rfl
   ·rw [if_neg h] at hby ⊢
    refine (lfb_done [⟨0, s0, m0⟩, ⟨1, s1, m1⟩] ?_).trans rfl
    show Option.bind (gd true (apportion_ranking_sort_1 ⟨1, s1, m1⟩ ⟨0, s0, m0⟩ (⟨()⟩ : Tapportion_ranking))) _ = _
    rw [hby]; rfl
  ·rfl
 have hpdq : slices_pdqsortCmpFunc_apportion_portion [⟨0, s0, m0⟩, ⟨1, s1, m1⟩] 0 2 2 (fun y2 y3 => apportion_ranking_sort_1 y2 y3 (⟨()⟩ : Tapportion_ranking)) = some (if m0 < m1 then [⟨1, s1, m1⟩, ⟨0, s0, m0⟩] else [⟨0, s0, m0⟩, ⟨1, s1, m1⟩]) := by
  unfold slices_pdqsortCmpFunc_apportion_portion
  rw [fuel9]
  refine (lfb_done (.inr (if m0 < m1 then [⟨1, s1, m1⟩, ⟨0, s0, m0⟩] else [⟨0, s0, m0⟩, ⟨1, s1, m1⟩])) ?_).trans rfl
  rw [show decide (IntKind.i64.wrap ((2 : Int) - 0) ≤ 12) = true from rfl, hins]; rfl
 show Option.bind (Option.bind (slices_pdqsortCmpFunc_apportion_portion [⟨0, s0, m0⟩, ⟨1, s1, m1⟩] 0 2 2 _) _) _ = _
 rw [hpdq]; rfl
section
variable {t g r : Int} (h : ShareOK t g r)
include h
theorem share_prog : apportion_Share t [g, r] = some ([(share2 t g r).1, (share2 t g r).2], 0) := by
 obtain ⟨a0, a1, b0, b1, c0, c1, d0, d1, l01⟩ := shareFacts h
 have md1 := muldiv2 h h.g0 h.g1 a1
 have md2 := muldiv2 h h.r0 h.r1 b1
 have hc := check2 h
 have hsum := sum2 h
 obtain ⟨t0, t1, g0, g1, r0, r1, s1⟩ := h
 have mm1 := exact_mulmod (a := t) (b := g) (c := g + r) ⟨by omega, by omega⟩ ⟨by omega, by omega⟩ ⟨by omega, by omega⟩ s1
 have mm2 := exact_mulmod (a := t) (b := r) (c := g + r) ⟨by omega, by omega⟩ ⟨by omega, by omega⟩ ⟨by omega, by omega⟩ s1
 unfold apportion_Share
 rw [bnd hc]
 simp only [bne_self_eq_false, cond_false]
 rw [bnd hsum]
 have hz : (g + r == 0) = false := by simp; omega
 rw [hz]
 simp only [cond_false, Option.bind_some]
 rw [bnd (show mk 24 (⟨(0 : Int), (0 : Int), (0 : Int)⟩ : Tapportion_portion) (([g, r] : List Int).length : Int) = some [⟨0, 0, 0⟩, ⟨0, 0, 0⟩] from rfl), fuel9]
 have ws : IntKind.u64.wrap (g + r) = g + r := wu_id ⟨by omega, by omega⟩
 have wt : IntKind.u64.wrap t = t := wu_id ⟨by omega, by omega⟩
 have wg : IntKind.u64.wrap g = g := wu_id ⟨by omega, by omega⟩
 have wr : IntKind.u64.wrap r = r := wu_id ⟨by omega, by omega⟩
 have i1 : IntKind.i64.wrap (t * g / (g + r)) = t * g / (g + r) := i64s (by omega) (by omega)
 have i2 : IntKind.i64.wrap (t * r / (g + r)) = t * r / (g + r) := i64s (by omega) (by omega)
 have i3 : IntKind.i64.wrap (t - t * g / (g + r)) = t - t * g / (g + r) := i64s (by omega) (by omega)
 have i4 : IntKind.i64.wrap (t - t * g / (g + r) - t * r / (g + r)) = shLeft t g r := i64s (by omega) (by omega)
 refine (lfb_step (t - t * g / (g + r), [⟨0, t * g / (g + r), t * g % (g + r)⟩, ⟨0, 0, 0⟩], 1) ?_).trans ((lfb_step (shLeft t g r, [⟨0, t * g / (g + r), t * g % (g + r)⟩, ⟨1, t * r / (g + r), t * r % (g + r)⟩], 2) ?_).trans ((lfb_done (shLeft t g r, [⟨0, t * g / (g + r), t * g % (g + r)⟩, ⟨1, t * r / (g + r), t * r % (g + r)⟩]) ?_).trans ?_))
 ·dsimp only
  rw [show decide ((0 : Int) < (([g, r] : List Int).length : Int)) = true from rfl, ws, wt]
  simp only [cond_true]
  rw [bnd (show idx [g, r] 0 = some g from rfl), wg, bnd md1, bnd mm1]
  dsimp only [lb]
  rw [i1, i3]; rfl
 ·dsimp only
  rw [show decide ((1 : Int) < (([g, r] : List Int).length : Int)) = true from rfl, ws, wt]
  simp only [cond_true]
  rw [bnd (show idx [g, r] 1 = some r from rfl), wr, bnd md2, bnd mm2]
  dsimp only [lb]
  rw [i2, i4]; rfl
 ·rfl
 dsimp only
 rw [bnd (sort2 _ _ _ _), bnd (show mk 8 (0 : Int) (([g, r] : List Int).length : Int) = some [0, 0] from rfl)]
 have w1 : IntKind.i64.wrap (t * g / (g + r) + 1) = t * g / (g + r) + 1 := i64s (by omega) (by omega)
 have w2 : IntKind.i64.wrap (t * r / (g + r) + 1) = t * r / (g + r) + 1 := i64s (by omega) (by omega)
 unfold share2
 generalize t * g / (g + r) = x0 at *
 generalize t * r / (g + r) = x1 at *
 generalize t * g % (g + r) = m0 at *
 generalize t * r % (g + r) = m1 at *
 rcases l01 with l | l <;> rw [l] <;> by_cases hm : m0 < m1
 ·simp only [if_pos hm]
  refine (lfb_step ([0, x1], 1) ?_).trans ((lfb_step ([x0, x1], 2) ?_).trans ((lfb_done [x0, x1] ?_).trans rfl))
  ·show some (Sum.inl ([0, IntKind.i64.wrap x1], 1)) = _; rw [i2]
  ·show some (Sum.inl ([IntKind.i64.wrap x0, x1], 2)) = _; rw [i1]
  ·rfl
 ·simp only [if_neg hm]
  refine (lfb_step ([x0, 0], 1) ?_).trans ((lfb_step ([x0, x1], 2) ?_).trans ((lfb_done [x0, x1] ?_).trans rfl))
  ·show some (Sum.inl ([IntKind.i64.wrap x0, 0], 1)) = _; rw [i1]
  ·show some (Sum.inl ([x0, IntKind.i64.wrap x1], 2)) = _; rw [i2]
  ·rfl
 ·simp only [if_pos hm]
  refine (lfb_step ([0, x1 + 1], 1) ?_).trans ((lfb_step ([x0, x1 + 1], 2) ?_).trans ((lfb_done [x0, x1 + 1] ?_).trans rfl))
  ·show some (Sum.inl ([0, IntKind.i64.wrap (IntKind.i64.wrap x1 + 1)], 1)) = _; rw [i2, w2]
  ·show some (Sum.inl ([IntKind.i64.wrap x0, x1 + 1], 2)) = _; rw [i1]
  ·rfl
 ·simp only [if_neg hm]
  refine (lfb_step ([x0 + 1, 0], 1) ?_).trans ((lfb_step ([x0 + 1, x1], 2) ?_).trans ((lfb_done [x0 + 1, x1] ?_).trans rfl))
  ·show some (Sum.inl ([IntKind.i64.wrap (IntKind.i64.wrap x0 + 1), 0], 1)) = _; rw [i1, w1]
  ·show some (Sum.inl ([x0 + 1, IntKind.i64.wrap x1], 2)) = _; rw [i2]
  ·rfl
end
end SX
end Go.Proofs.YtfcecieppoljlaaGreatDoor
set_option maxRecDepth 100000
namespace Go.Proofs.YtfcecieppoljlaaGreatDoor
namespace SX
open Go
section
variable {t g r : Int} (h : ShareOK t g r)
include h
end
end SX
end Go.Proofs.YtfcecieppoljlaaGreatDoor
set_option maxRecDepth 100000
namespace Go.Proofs.YtfcecieppoljlaaGreatDoor
namespace SX
open Go
theorem idx_nat {α : Type} {xs : List α} {k : Nat} (h : k < xs.length) : idx xs (k : Int) = some xs[k] := by
 unfold idx; rw [if_pos (by omega)]; simp [h]
theorem gd_tt {α : Type} [Inhabited α] {x : Option α} : gd true x = x := rfl
theorem gd_ff {α : Type} [Inhabited α] {x : Option α} : gd false x = some default := rfl
theorem ix0 {α : Type} {a b : α} : idx [a, b] 0 = some a := rfl
theorem ix1 {α : Type} {a b : α} : idx [a, b] 1 = some b := rfl
theorem cap_eq (c : Int) : production_isCapital c = some (decide (65 ≤ c) && decide (c ≤ 90)) := rfl
def ctry (s : ByteArray) : Bool := match s.data.toList with | [a, b] => decide (65 ≤ (a.toNat : Int)) && decide ((a.toNat : Int) ≤ 90) && decide (65 ≤ (b.toNat : Int)) && decide ((b.toNat : Int) ≤ 90) | _ => false
theorem size_two {s : ByteArray} (h : ((s.size : Int) == 2) = true) : ∃ a b, s.data.toList = [a, b] := by
 have h2 : s.data.toList.length = 2 := by
  have := eq_of_beq h
  rw [Array.length_toList]; have e : s.size = s.data.size := rfl; omega
 match hd : s.data.toList, h2 with
 | [a, b], _ => exact ⟨a, b, rfl⟩
theorem not_two {s : ByteArray} (h : ((s.size : Int) == 2) = false) : ctry s = false := by
 unfold ctry
 split
 ·rename_i a b hd
  have e : s.size = s.data.toList.length := by rw [Array.length_toList]; rfl
  rw [hd] at e
  have e2 : (s.size : Int) = 2 := by rw [e]; rfl
  rw [e2] at h; cases h
 ·rfl
theorem valid_country (s : ByteArray) : production_ValidCountry s = some (ctry s) := by
 unfold production_ValidCountry
 cases h : ((s.size : Int) == 2)
 ·rw [not_two h]; rfl
 ·obtain ⟨a, b, hd⟩ := size_two h
  simp only [Bool.true_and, gd_tt, cap_eq]
  rw [hd]
  simp only [ctry, hd]
  rw [bnd ix0]
  simp only [Option.bind_some]
  cases h1 : (decide (65 ≤ (a.toNat : Int)) && decide ((a.toNat : Int) ≤ 90))
  ·rfl
  ·simp only [gd_tt, Bool.true_and]; rw [bnd ix1]; rfl
structure Good (m : TItem) : Prop where
 code : ∃ l, m.Code = strOfNums l ∧ l.length = 8 ∧ Digs l
 orig : ctry m.Origin = true
 comp : 0 ≤ m.Company ∧ m.Company ≤ 999
 day : 0 ≤ m.Day ∧ m.Day ≤ 36524
 quant : 0 ≤ m.Quantity ∧ m.Quantity ≤ 1000000000
 value : 0 ≤ m.Value ∧ m.Value ≤ 1000000000000
 grant : 0 ≤ m.Granted ∧ m.Granted ≤ m.Quantity
theorem Good.size {m : TItem} (h : Good m) : m.Code.size = 8 := by
 obtain ⟨l, e, h1, _⟩ := h.code
 rw [e]; simp [strOfNums, ByteArray.size, h1]
theorem Good.valid {m : TItem} (h : Good m) : assess_Validate m = some 0 := by
 have e1 : nomenclature_Level m.Code = some 8 := by
  obtain ⟨l, e, h1, h2⟩ := h.code
  rw [e]; show some (level _) = _; rw [lvl_eight h1 h2]
 have := h.comp; have := h.day; have := h.quant; have := h.value; have := h.grant
 unfold assess_Validate
 rw [bnd e1, valid_country, h.orig]
 simp only [bne_self_eq_false, Bool.not_false, gd_tt, Option.bind_some, Bool.not_true, Bool.or_self, cond_false]
 rw [decide_eq_false (by omega), decide_eq_false (by omega), decide_eq_false (by omega), decide_eq_false (by omega), decide_eq_false (by omega), decide_eq_false (by omega), decide_eq_false (by omega), decide_eq_false (by omega), decide_eq_false (by omega), decide_eq_false (by omega)]
 rfl
theorem country_ok {k : Int} (h1 : 0 ≤ k) (h2 : k < 6) {l : List ByteArray} (hl : made_Countries = some l) : ∃ s, idx l k = some s ∧ ctry s = true := by
 have hl := Option.some.inj hl; subst hl
 obtain ⟨n, rfl⟩ : ∃ n : Nat, k = (n : Int) := ⟨k.toNat, by omega⟩
 match n, (show n < 6 by omega) with
 | 0, _ => exact ⟨_, rfl, rfl⟩
 | 1, _ => exact ⟨_, rfl, rfl⟩
 | 2, _ => exact ⟨_, rfl, rfl⟩
 | 3, _ => exact ⟨_, rfl, rfl⟩
 | 4, _ => exact ⟨_, rfl, rfl⟩
 | 5, _ => exact ⟨_, rfl, rfl⟩
theorem item_ok (l : List Int) : ∃ m, made_Item l = some m ∧ Good m := by
 unfold made_Item
 obtain ⟨c, hc, hc2⟩ := cut_ok l 20 (by omega) (by omega)
 rw [bnd hc]
 obtain ⟨cd, q, h1, h2, h3, hq⟩ := code_ok (p := ⟨c, 0⟩) ⟨by simp, by simp, by simp only; omega⟩
 obtain ⟨cl, hcl⟩ : ∃ cl, made_Countries = some cl := ⟨_, rfl⟩
 rw [bnd h1, bnd hcl]
 simp only
 obtain ⟨x6, q6, g6, a6, b6, s6⟩ := next_ok hq 4 (by omega) (by omega)
 rw [bnd g6]; simp only
 obtain ⟨s, hs, hs2⟩ := country_ok a6 (by omega) hcl
 rw [bnd hs]
 obtain ⟨x8, q8, g8, a8, b8, s8⟩ := next_ok s6 2 (by omega) (by omega)
 rw [bnd g8]; simp only
 obtain ⟨x9, q9, g9, a9, b9, s9⟩ := next_ok s8 3 (by omega) (by omega)
 rw [bnd g9]; simp only
 obtain ⟨x10, q10, g10, a10, b10, s10⟩ := next_ok s9 41 (by omega) (by omega)
 rw [bnd g10]; simp only
 obtain ⟨x11, q11, g11, a11, b11, s11⟩ := next_ok s10 1000 (by omega) (by omega)
 rw [bnd g11]; simp only
 obtain ⟨x12, q12, g12, a12, b12, s12⟩ := next_ok s11 1000000 (by omega) (by omega)
 rw [bnd g12]; simp only
 obtain ⟨x14, q14, g14, a14, b14, s14⟩ := next_ok s12 6 (by omega) (by omega)
 rw [bnd g14]; simp only
 have hb : ∃ u v l' i, cond (x14 == 1) (Option.bind (made_Source_Next q14 1000000001) (fun x21 => Option.bind (made_Source_Next x21.2 1000000000001) (fun x22 => some (x21.1, x22.1, x22.2.L, x22.2.I)))) (some (x11, x12, q14.L, q14.I)) = some (u, v, l', i) ∧ SOK ⟨l', i⟩ ∧ 0 ≤ u ∧ u ≤ 1000000000 ∧ 0 ≤ v ∧ v ≤ 1000000000000 := by
  cases (x14 == 1)
  ·exact ⟨_, _, _, _, rfl, s14, by omega, by omega, by omega, by omega⟩
  ·obtain ⟨y1, r1, e1, c1, d1, t1⟩ := next_ok s14 1000000001 (by omega) (by omega)
   obtain ⟨y2, r2, e2, c2, d2, t2⟩ := next_ok t1 1000000000001 (by omega) (by omega)
   simp only [cond_true]
   rw [bnd e1]; simp only
   rw [bnd e2]
   exact ⟨_, _, _, _, rfl, t2, by omega, by omega, by omega, by omega⟩
 obtain ⟨u, v, l', i, hb1, hb2, hb3, hb4, hb5, hb6⟩ := hb
 rw [bnd hb1]; simp only
 obtain ⟨x23, q23, g23, a23, b23, s23⟩ := next_ok hb2 6 (by omega) (by omega)
 rw [bnd g23]; simp only
 have hw : ∃ w, cond (x23 == 1) (some 0) (some u) = some w ∧ 0 ≤ w ∧ w ≤ 1000000000 := by
  cases (x23 == 1)
  ·exact ⟨_, rfl, hb3, hb4⟩
  ·exact ⟨_, rfl, by omega, by omega⟩
 obtain ⟨w, hw1, hw2, hw3⟩ := hw
 rw [bnd hw1]
 obtain ⟨x27, q27, g27, a27, b27, s27⟩ := next_ok s23 2 (by omega) (by omega)
 rw [bnd g27]; simp only
 have hz : ∃ z, cond (x27 == 1) (Option.bind (made_Source_Next q27 (IntKind.i64.wrap (w + 1))) (fun x31 => some x31.1)) (some 0) = some z ∧ 0 ≤ z ∧ z ≤ w := by
  cases (x27 == 1)
  ·exact ⟨_, rfl, by omega, by omega⟩
  ·rw [i64s (by omega) (by omega)]
   obtain ⟨y1, r1, e1, c1, d1, t1⟩ := next_ok s27 (w + 1) (by omega) (by omega)
   simp only [cond_true]
   rw [bnd e1]
   exact ⟨_, rfl, by simp only; omega, by simp only; omega⟩
 obtain ⟨z, hz1, hz2, hz3⟩ := hz
 rw [bnd hz1]
 exact ⟨_, rfl, ⟨⟨cd, rfl, h2, h3⟩, hs2, ⟨a9, by simp only; omega⟩, ⟨a10, by simp only; omega⟩, ⟨hw2, hw3⟩, ⟨hb5, hb6⟩, ⟨hz2, hz3⟩⟩⟩
theorem awake_ok : law20_awake = some true := by kernel_rfl
end SX
end Go.Proofs.YtfcecieppoljlaaGreatDoor
set_option maxRecDepth 100000
namespace Go.Proofs.YtfcecieppoljlaaGreatDoor
namespace SX
open Go
def bindR {A B R : Type} (p : A ⊕ R) (g : A → B ⊕ R) : B ⊕ R := match p with | .inl a => g a | .inr r => .inr r
def run {α A R : Type} (f : Nat → α → A → A ⊕ R) : List α → Nat → A → A ⊕ R
 | [], _, a => .inl a
 | x :: xs, k, a => bindR (f k x a) (fun a' => run f xs (k + 1) a')
theorem run_cons {α A R : Type} (f : Nat → α → A → A ⊕ R) (x : α) (xs : List α) (k : Nat) (a : A) : run f (x :: xs) k a = bindR (f k x a) (run f xs (k + 1)) := rfl
def outc {S T A R : Type} (g : A → S) (e : R → T) : A ⊕ R → S ⊕ T
 | .inl a => .inl (g a)
 | .inr r => .inr (e r)
def outf {T A R : Type} (g : A → T) (e : R → T) : A ⊕ R → T
 | .inl a => g a
 | .inr r => e r
theorem loop_run {S T α A R : Type} {l : List α} (hl : l.length ≤ 4611686018427387904) {body : S → Option (S ⊕ T)} (pack : Int → A → S) (f : Nat → α → A → A ⊕ R) (fin : A → T) (exit : R → T) (P : Nat → A → Prop)
    (hstep : ∀ (k : Nat) (hk : k < l.length) (a : A), P k a → body (pack (k : Int) a) = some (outc (pack ((k + 1 : Nat) : Int)) exit (f k l[k] a)) ∧ ∀ a', f k l[k] a = .inl a' → P (k + 1) a')
    (hend : ∀ a, P l.length a → body (pack (l.length : Int) a) = some (.inr (fin a))) (a : A) (h0 : P 0 a) : loopF body FUEL (pack 0 a) = some (outf fin exit (run f l 0 a)) ∧ ∀ a', run f l 0 a = .inl a' → P l.length a' := by
  have main : ∀ (xs : List α) (k N : Nat) (a : A), l.drop k = xs → k ≤ l.length → P k a → xs.length < N → loopF body N (pack (k : Int) a) = some (outf fin exit (run f xs k a)) ∧ ∀ a', run f xs k a = .inl a' → P l.length a' := by
    intro xs
    induction xs with
    | nil =>
      intro k N a hd hk hp hN
      have : k = l.length := by
        have := congrArg List.length hd; simp at this; omega
      subst this
      obtain ⟨N, rfl⟩ : ∃ M, N = M + 1 := ⟨N - 1, by omega⟩
      rw [loopF_succ, hend a hp]
      exact ⟨rfl, fun a' h => by injection h with h; exact h ▸ hp⟩
    | cons x xs ih =>
      intro k N a hd hk hp hN
      have hk' : k < l.length := by
        have := congrArg List.length hd; simp at this; omega
      have hx : l[k] = x ∧ l.drop (k + 1) = xs := by
        rw [List.drop_eq_getElem_cons hk'] at hd; injection hd with h1 h2; exact ⟨h1, h2⟩
      obtain ⟨N, rfl⟩ : ∃ M, N = M + 1 := ⟨N - 1, by omega⟩
      obtain ⟨e1, e2⟩ := hstep k hk' a hp
      rw [hx.1] at e1 e2
      rw [loopF_succ, e1]
      rw [run_cons]
      cases hf : f k x a with
      | inl a' => exact ih (k + 1) N a' hx.2 (by omega) (e2 a' hf) (by simp at hN; omega)
      | inr r => exact ⟨rfl, fun a' h => by change Sum.inr r = _ at h; cases h⟩
  exact main l 0 FUEL a rfl (by omega) h0 (fuel_big (by omega))
theorem run_inl {α A R : Type} {f : Nat → α → A → A ⊕ R} (Q : α → Prop) (hf : ∀ k x a a', f k x a = .inl a' → Q x) : ∀ (l : List α) (k : Nat) (a a' : A), run f l k a = .inl a' → ∀ x ∈ l, Q x := by
 intro l
 induction l with
 | nil => intro k a a' _ x hx; cases hx
 | cons y ys ih =>
  intro k a a' h x hx
  rw [run_cons] at h
  cases hfy : f k y a with
  | inl b => rw [hfy] at h; cases hx with
   | head => exact hf _ _ _ _ hfy
   | tail _ hx => exact ih _ _ _ h x hx
  | inr r => rw [hfy] at h; change Sum.inr r = _ at h; cases h
theorem u8tri (a b : UInt8) : a < b ∨ a = b ∨ b < a := by
 rcases Nat.lt_trichotomy a.toNat b.toNat with h | h | h
 ·exact .inl h
 ·exact .inr (.inl (UInt8.toNat_inj.1 h))
 ·exact .inr (.inr h)
theorem bytes_tot : ∀ (x y : List UInt8), (Op.bytesLess x y || (x == y)) = !Op.bytesLess y x
 | [], [] => by simp [Op.bytesLess]
 | _ :: _, [] => by simp [Op.bytesLess]
 | [], _ :: _ => by simp [Op.bytesLess]
 | a :: x, b :: y => by
  rw [Op.bytesLess, Op.bytesLess]
  have ih := bytes_tot x y
  rcases u8tri a b with h | h | h
  ·have h1 : ¬ b < a := fun h' => by have : a.toNat < b.toNat := h; have : b.toNat < a.toNat := h'; omega
   have h2 : ¬ b = a := fun h' => by subst h'; have : b.toNat < b.toNat := h; omega
   have h3 : ¬ a = b := fun h' => h2 h'.symm
   simp [h, h1, h2]
  ·subst h
   have h1 : ¬ a < a := fun h' => by have : a.toNat < a.toNat := h'; omega
   simp [h1] at ih ⊢
   rw [← ih]
  ·have h1 : ¬ a < b := fun h' => by have : a.toNat < b.toNat := h'; have : b.toNat < a.toNat := h; omega
   have h3 : ¬ a = b := fun h' => by subst h'; have : a.toNat < a.toNat := h; omega
   simp [h, h1, h3]
theorem str_tot (x y : ByteArray) : (Op.bytesLess x.toList y.toList || decide (x = y)) = !Op.bytesLess y.toList x.toList := by
 rw [← beq_str]; exact bytes_tot _ _
theorem idx_prev {α : Type} {l : List α} {k : Nat} (h : 0 < k) (hk : k < l.length) (hl : l.length ≤ 4611686018427387904) : idx l (IntKind.i64.wrap ((k : Int) - 1)) = some (l[k - 1]'(by omega)) := by
 rw [i64s (by omega) (by omega), show (k : Int) - 1 = ((k - 1 : Nat) : Int) by omega]
 exact idx_nat (by omega)
theorem wnext {k : Nat} {n : Nat} (hk : k < n) (hn : n ≤ 4611686018427387904) : IntKind.i64.wrap ((k : Int) + 1) = ((k + 1 : Nat) : Int) := by rw [i64s (by omega) (by omega)]; omega
theorem dlt {k n : Nat} (h : k < n) : decide ((k : Int) < (n : Int)) = true := by simp; omega
theorem dnlt (n : Nat) : decide ((n : Int) < (n : Int)) = false := by simp
def oBad (l : List ByteArray) (k : Nat) (x : ByteArray) : Bool := !ctry x || (decide (0 < k) && !Op.bytesLess (l.getD (k - 1) x).toList x.toList)
def origs (l : List ByteArray) : Unit ⊕ Unit := run (fun k x _ => if oBad l k x then .inr () else .inl ()) l 0 ()
theorem getD_in {α : Type} {l : List α} {k : Nat} (h : k < l.length) (d : α) : l.getD k d = l[k] := by simp [List.getD, h]
theorem validOrigins (l : List ByteArray) (hl : l.length ≤ 4611686018427387904) : measure_validOrigins l = some (match origs l with | .inl _ => true | .inr _ => false) := by
 unfold measure_validOrigins
 obtain ⟨e, _⟩ := loop_run (T := Unit ⊕ Bool) hl (body := fun v1 => cond (decide (v1 < (l.length : Int))) (Option.bind (idx l v1) (fun m5 => Option.bind (production_ValidCountry m5) (fun x6 => Option.bind (gd ((!(!x6)) && (decide (0 < v1))) (idx l (IntKind.i64.wrap (v1 - 1)))) (fun m7 => cond ((!x6) || ((decide (0 < v1)) && (Op.bytesLess m5.toList m7.toList || decide (m5 = m7)))) (some (.inr (.inr false))) (some (.inl (IntKind.i64.wrap (v1 + 1)))))))) (some (.inr (.inl ()))))
  (fun i (_ : Unit) => i) (fun k x _ => if oBad l k x then .inr () else .inl ()) (fun _ => .inl ()) (fun (_ : Unit) => .inr false) (fun _ _ => True) (by
   intro k hk a _
   refine ⟨?_, fun _ _ => trivial⟩
   try dsimp only
   rw [dlt hk, cond_true, bnd (idx_nat hk), valid_country, wnext hk hl, Option.bind_some]
   unfold oBad
   cases hc : ctry l[k]
   ·rfl
   ·by_cases h0 : 0 < k
    ·rw [decide_eq_true (show (0 : Int) < (k : Int) by omega), decide_eq_true h0]
     simp only [Bool.not_true, Bool.not_false, Bool.true_and, Bool.false_or]
     rw [gd_tt, bnd (idx_prev h0 hk hl), getD_in (by omega), str_tot]
     cases Op.bytesLess (l[k-1]'(by omega)).toList l[k].toList <;> rfl
    ·rw [decide_eq_false (show ¬ (0 : Int) < (k : Int) by omega), decide_eq_false h0]; rfl)
  (by intro a _; (try dsimp only); rw [dnlt]; rfl) () trivial
 rw [bnd e]
 unfold origs
 cases run (fun k x _ => if oBad l k x then Sum.inr () else Sum.inl ()) l 0 () <;> rfl
def hasS (l : List ByteArray) (s : ByteArray) : Bool := l.any fun x => decide (s = x)
theorem hasS_iff (l : List ByteArray) (s : ByteArray) : hasS l s = true ↔ s ∈ l := by
 unfold hasS; simp
theorem index_ok (l : List ByteArray) (s : ByteArray) (hl : l.length ≤ 4611686018427387904) : slices_Contains_string_string l s = some (hasS l s) ∧ ref08_Has l s = some (hasS l s) := by
 have hrun : ∀ (g : Nat → Int) (xs : List ByteArray) (k : Nat), (∃ j, run (fun k x (_ : Unit) => if s = x then Sum.inr (g k) else Sum.inl ()) xs k () = .inr (g j) ∧ s ∈ xs) ∨ (run (fun k x (_ : Unit) => if s = x then Sum.inr (g k) else Sum.inl ()) xs k () = .inl () ∧ s ∉ xs) := by
  intro g xs
  induction xs with
  | nil => intro k; right; exact ⟨rfl, by simp⟩
  | cons y ys ih =>
   intro k
   rw [run_cons]
   by_cases h : s = y
   ·simp only [if_pos h]; left; exact ⟨k, rfl, by simp [h]⟩
   ·simp only [if_neg h]
    rcases ih (k + 1) with ⟨j, h1, h2⟩ | ⟨h1, h2⟩
    ·left; exact ⟨j, h1, by simp [h2]⟩
    ·right; exact ⟨h1, by simp [h, h2]⟩
 constructor
 ·unfold slices_Contains_string_string slices_Index_string_string
  obtain ⟨e, _⟩ := loop_run (T := Unit ⊕ Int) hl (body := fun v1 => cond (decide (v1 < (l.length : Int))) (Option.bind (idx l v1) (fun m5 => cond (decide (s = m5)) (some (.inr (.inr v1))) (some (.inl (IntKind.i64.wrap (v1 + 1)))))) (some (.inr (.inl ()))))
   (fun i (_ : Unit) => i) (fun k x _ => if s = x then .inr (k : Int) else .inl ()) (fun _ => .inl ()) (fun (r : Int) => .inr r) (fun _ _ => True) (by
    intro k hk a _
    refine ⟨?_, fun _ _ => trivial⟩
    try dsimp only
    rw [dlt hk, cond_true, bnd (idx_nat hk), wnext hk hl]
    by_cases h : s = l[k]
    ·rw [decide_eq_true h, if_pos h]; rfl
    ·rw [decide_eq_false h, if_neg h]; rfl)
   (by intro a _; (try dsimp only); rw [dnlt]; rfl) () trivial
  rw [bnd e]
  rcases hrun (fun k => (k : Int)) l 0 with ⟨j, h1, h2⟩ | ⟨h1, h2⟩
  ·rw [h1, (hasS_iff l s).2 h2]
   show some (decide ((0 : Int) ≤ (j : Int))) = _
   rw [decide_eq_true (by omega)]
  ·rw [h1, show hasS l s = false from Bool.eq_false_iff.2 (fun h => h2 ((hasS_iff l s).1 h))]; rfl
 ·unfold ref08_Has
  obtain ⟨e, _⟩ := loop_run (T := Unit ⊕ Bool) hl (body := fun v1 => cond (decide (v1 < (l.length : Int))) (Option.bind (idx l v1) (fun m5 => cond (decide (m5 = s)) (some (.inr (.inr true))) (some (.inl (IntKind.i64.wrap (v1 + 1)))))) (some (.inr (.inl ()))))
   (fun i (_ : Unit) => i) (fun k x _ => if s = x then .inr (k : Int) else .inl ()) (fun _ => .inl ()) (fun (r : Int) => .inr true) (fun _ _ => True) (by
    intro k hk a _
    refine ⟨?_, fun _ _ => trivial⟩
    try dsimp only
    rw [dlt hk, cond_true, bnd (idx_nat hk), wnext hk hl]
    by_cases h : s = l[k]
    ·rw [decide_eq_true h.symm, if_pos h]; rfl
    ·rw [decide_eq_false (fun h' => h h'.symm), if_neg h]; rfl)
   (by intro a _; (try dsimp only); rw [dnlt]; rfl) () trivial
  rw [bnd e]
  rcases hrun (fun k => (k : Int)) l 0 with ⟨j, h1, h2⟩ | ⟨h1, h2⟩
  ·rw [h1, (hasS_iff l s).2 h2]; try rfl
  ·rw [h1, show hasS l s = false from Bool.eq_false_iff.2 (fun h => h2 ((hasS_iff l s).1 h))]; rfl
structure MOK (m : TMeasure) : Prop where
 id0 : 1 ≤ m.ID
 id1 : m.ID ≤ 1000000
 k0 : 1 ≤ m.Kind
 k1 : m.Kind ≤ 6
 c0 : 0 ≤ m.Company
 pre : m.Prefix.size ≤ 8
 orig : m.Origins.length ≤ 20
 reg : -1 ≤ m.Registered
 duty : duty_Validate m.Duty = some 0
def pfx (s p : ByteArray) : Bool := decide ((p.size : Int) ≤ (s.size : Int)) && decide (s.extract 0 p.size = p)
theorem pfx_ok (s p : ByteArray) : ref08_Prefix s p = some (pfx s p) := by
 unfold ref08_Prefix pfx
 by_cases h : (p.size : Int) ≤ (s.size : Int)
 ·rw [decide_eq_true h, gd_tt]
  have e : ssub s 0 (p.size : Int) = some (s.extract 0 p.size) := by unfold ssub; rw [if_pos (by omega)]; rfl
  rw [bnd e]
 ·rw [decide_eq_false h]; rfl
theorem hasPrefix_ok (s p : ByteArray) : strings_HasPrefix s p = some (pfx s p) := by
 unfold strings_HasPrefix
 rw [show stringslite_HasPrefix s p = ref08_Prefix s p from rfl, pfx_ok]; rfl
def cov (m : TMeasure) (code origin : ByteArray) (company day : Int) : Bool := (((((decide (m.From ≤ day)) && (decide (day < m.To))) || (((decide (0 ≤ m.Registered)) && (decide (m.Registered ≤ day))) && (decide (day < m.From)))) && pfx code m.Prefix) && (((m.Origins.length : Int) == 0) || hasS m.Origins origin)) && ((m.Company == 0) || (m.Company == company))
theorem covers_ref (m : TMeasure) (hm : m.Origins.length ≤ 4611686018427387904) (code origin : ByteArray) (company day : Int) : ref19_Covers m code origin company day = some (cov m code origin company day) := by
 unfold ref19_Covers ref19_InForce cov
 rw [Option.bind_some, pfx_ok, (index_ok m.Origins origin hm).2]
 generalize (((decide (m.From ≤ day)) && (decide (day < m.To))) || (((decide (0 ≤ m.Registered)) && (decide (m.Registered ≤ day))) && (decide (day < m.From)))) = a
 generalize pfx code m.Prefix = b
 generalize ((m.Origins.length : Int) == 0) = c
 generalize hasS m.Origins origin = d
 generalize ((m.Company == 0) || (m.Company == company)) = e
 cases a <;> cases b <;> cases c <;> cases d <;> cases e <;> rfl
theorem covers_prog (m : TMeasure) (hm : m.Origins.length ≤ 4611686018427387904) (hr : -1 ≤ m.Registered) (code origin : ByteArray) (company day : Int) : measure_Covers m code origin company day = some (cov m code origin company day) := by
 unfold measure_Covers measure_InForce cov
 have : (m.Registered != (-1)) = decide (0 ≤ m.Registered) := by
  by_cases h : m.Registered = -1
  ·rw [h]; rfl
  ·rw [decide_eq_true (by omega)]; simp [h]
 rw [Option.bind_some, hasPrefix_ok, (index_ok m.Origins origin hm).1, this]
 generalize (((decide (m.From ≤ day)) && (decide (day < m.To))) || (((decide (0 ≤ m.Registered)) && (decide (m.Registered ≤ day))) && (decide (day < m.From)))) = a
 generalize pfx code m.Prefix = b
 generalize ((m.Origins.length : Int) == 0) = c
 generalize hasS m.Origins origin = d
 generalize ((m.Company == 0) || (m.Company == company)) = e
 cases a <;> cases b <;> cases c <;> cases d <;> cases e <;> rfl
def rankN (m : TMeasure) : Int := (((m.Prefix.size : Int) * 2 + (if m.Company = 0 then 0 else 1)) * 100 + 50 - (if m.Origins.length = 0 then 21 else (m.Origins.length : Int))) * 10000000 + m.ID
theorem rank_ok {m : TMeasure} (h : MOK m) : ref19_rank m = some (rankN m) := by
 obtain ⟨a1, a2, a3, a4, a5, a6, a7, a8, a9⟩ := h
 unfold ref19_rank rankN
 have e1 : (cond (decide (0 < (m.Origins.length : Int))) (some (m.Origins.length : Int)) (some 21)) = some (if m.Origins.length = 0 then 21 else (m.Origins.length : Int)) := by
  by_cases h : m.Origins.length = 0
  ·rw [h]; rfl
  ·rw [decide_eq_true (by omega), if_neg h]; rfl
 have e2 : (cond (m.Company != 0) (some (1 : Int)) (some 0)) = some (if m.Company = 0 then 0 else 1) := by
  by_cases h : m.Company = 0
  ·rw [h]; rfl
  ·rw [if_neg h, show (m.Company != 0) = true by simp [h]]; rfl
 rw [bnd e1, bnd e2]
 have b1 : (0 : Int) ≤ (if m.Origins.length = 0 then 21 else (m.Origins.length : Int)) ∧ (if m.Origins.length = 0 then 21 else (m.Origins.length : Int)) ≤ 21 := by split <;> omega
 have b2 : (0 : Int) ≤ (if m.Company = 0 then 0 else 1) ∧ (if m.Company = 0 then (0 : Int) else 1) ≤ 1 := by split <;> omega
 generalize (if m.Origins.length = 0 then 21 else (m.Origins.length : Int)) = n at *
 generalize (if m.Company = 0 then (0 : Int) else 1) = c at *
 unfold lb
 have hz : (m.Prefix.size : Int) ≤ 8 := by omega
 have hz0 : 0 ≤ (m.Prefix.size : Int) := by omega
 generalize (m.Prefix.size : Int) = z at *
 rw [i64s (r := z * 2) (by omega) (by omega), i64s (r := z * 2 + c) (by omega) (by omega), i64s (r := (z * 2 + c) * 100) (by omega) (by omega), i64s (r := (z * 2 + c) * 100 + 50) (by omega) (by omega), i64s (r := (z * 2 + c) * 100 + 50 - n) (by omega) (by omega), i64s (r := ((z * 2 + c) * 100 + 50 - n) * 10000000) (by omega) (by omega), i64s (by omega) (by omega)]
theorem precedes_ok {x y : TMeasure} (hx : MOK x) (hy : MOK y) : measure_precedes x y = some (decide (rankN y < rankN x)) := by
 obtain ⟨a1, a2, a3, a4, a5, a6, a7, a8, a9⟩ := hx
 obtain ⟨b1, b2, b3, b4, b5, b6, b7, b8, b9⟩ := hy
 unfold measure_precedes rankN
 have nx : (x.Origins.length = 0 ∧ (if x.Origins.length = 0 then 21 else (x.Origins.length : Int)) = 21) ∨ (x.Origins.length ≠ 0 ∧ (if x.Origins.length = 0 then 21 else (x.Origins.length : Int)) = (x.Origins.length : Int)) := by split <;> omega
 have ny : (y.Origins.length = 0 ∧ (if y.Origins.length = 0 then 21 else (y.Origins.length : Int)) = 21) ∨ (y.Origins.length ≠ 0 ∧ (if y.Origins.length = 0 then 21 else (y.Origins.length : Int)) = (y.Origins.length : Int)) := by split <;> omega
 have cx : (x.Company = 0 ∧ (if x.Company = 0 then (0 : Int) else 1) = 0) ∨ (x.Company ≠ 0 ∧ (if x.Company = 0 then (0 : Int) else 1) = 1) := by split <;> omega
 have cy : (y.Company = 0 ∧ (if y.Company = 0 then (0 : Int) else 1) = 0) ∨ (y.Company ≠ 0 ∧ (if y.Company = 0 then (0 : Int) else 1) = 1) := by split <;> omega
 generalize (if x.Origins.length = 0 then 21 else (x.Origins.length : Int)) = ox at *
 generalize (if y.Origins.length = 0 then 21 else (y.Origins.length : Int)) = oy at *
 generalize (if x.Company = 0 then (0 : Int) else 1) = px at *
 generalize (if y.Company = 0 then (0 : Int) else 1) = py at *
 have dx : (x.Company != 0) = decide (px = 1) := by
  rw [Bool.eq_iff_iff]; simp only [bne_iff_ne, decide_eq_true_eq]; omega
 have dy : (y.Company != 0) = decide (py = 1) := by
  rw [Bool.eq_iff_iff]; simp only [bne_iff_ne, decide_eq_true_eq]; omega
 rw [dx, dy]
 by_cases h1 : (x.Prefix.size : Int) = (y.Prefix.size : Int)
 ·rw [show ((x.Prefix.size : Int) != (y.Prefix.size : Int)) = false by rw [h1]; simp, cond_false]
  by_cases h2 : px = py
  ·rw [h2, bne_self_eq_false, cond_false]
   by_cases h3 : (x.Origins.length : Int) = (y.Origins.length : Int)
   ·rw [show ((x.Origins.length : Int) != (y.Origins.length : Int)) = false by rw [h3]; simp, cond_false]
    congr 1
    apply decide_eq_decide.2
    omega
   ·rw [show ((x.Origins.length : Int) != (y.Origins.length : Int)) = true from bne_iff_ne.2 h3, cond_true]
    congr 1
    rw [Bool.eq_iff_iff]; simp only [Bool.or_eq_true, Bool.and_eq_true, beq_iff_eq, bne_iff_ne, decide_eq_true_eq]; omega
  ·have : (decide (px = 1) != decide (py = 1)) = true := by
    rw [bne_iff_ne]; intro h
    have := decide_eq_decide.1 h; omega
   rw [this, cond_true]
   congr 1
   apply decide_eq_decide.2
   omega
 ·rw [show ((x.Prefix.size : Int) != (y.Prefix.size : Int)) = true from bne_iff_ne.2 h1, cond_true]
  congr 1
  apply decide_eq_decide.2
  omega
end SX
end Go.Proofs.YtfcecieppoljlaaGreatDoor
set_option maxRecDepth 100000
namespace Go.Proofs.YtfcecieppoljlaaGreatDoor
namespace SX
open Go
def farB (m : TMeasure) : Bool := ((((((decide (m.ID < 1)) || (decide (1000000 < m.ID))) || (decide (m.Kind < 1))) || (decide (6 < m.Kind))) || (decide (m.Company < 0))) || (decide (999 < m.Company)))
def dayB (m : TMeasure) : Bool := (((((decide (m.From < 0)) || (decide (m.To ≤ m.From))) || (decide (36525 < m.To))) || (decide (m.Registered < (-1)))) || (decide (m.From < m.Registered)))
def oneE (m : TMeasure) : Int := if level m.Prefix = 0 then 1 else if 20 < m.Origins.length then 8 else match origs m.Origins with | .inr _ => 1 | .inl _ => if dayB m then 2 else (duty_Validate m.Duty).getD 0
def mErr (l : List TMeasure) (k : Nat) (m : TMeasure) : Int := if farB m then 2 else if 0 < k ∧ m.ID ≤ (l.getD (k - 1) m).ID then 9 else oneE m
theorem level_size {s : ByteArray} (h : level s ≠ 0) : s.size ≤ 8 := by
 unfold level at h; split at h
 ·rename_i h; omega
 ·exact absurd rfl h
theorem mErr_ok {l : List TMeasure} {k : Nat} {m : TMeasure} (h : mErr l k m = 0) : MOK m := by
 unfold mErr at h
 split at h
 ·cases h
 rename_i hf
 split at h
 ·cases h
 unfold oneE at h
 split at h
 ·cases h
 rename_i hl
 split at h
 ·cases h
 rename_i ho
 split at h
 ·cases h
 split at h
 ·cases h
 rename_i hd
 simp [farB] at hf
 simp [dayB] at hd
 obtain ⟨e, e1, e2, _⟩ := dutyVal m.Duty
 rw [e1] at h
 have : e = 0 := h
 subst this
 exact ⟨by omega, by omega, by omega, by omega, by omega, level_size hl, by omega, by omega, e1⟩
theorem run_inr {α A R : Type} {f : Nat → α → A → A ⊕ R} (Q : R → Prop) (hf : ∀ k x a r, f k x a = .inr r → Q r) : ∀ (l : List α) (k : Nat) (a : A) (r : R), run f l k a = .inr r → Q r := by
 intro l
 induction l with
 | nil => intro k a r h; cases h
 | cons y ys ih =>
  intro k a r h
  rw [run_cons] at h
  cases hfy : f k y a with
  | inl b => rw [hfy] at h; exact ih _ _ _ h
  | inr r' => rw [hfy] at h; change Sum.inr r' = Sum.inr r at h; injection h with h; exact h ▸ hf _ _ _ _ hfy
def mF (l : List TMeasure) (k : Nat) (m : TMeasure) (_ : Unit) : Unit ⊕ Int := if mErr l k m = 0 then .inl () else .inr (mErr l k m)
def msErr (l : List TMeasure) : Int := if 300 < l.length then 8 else match run (mF l) l 0 () with | .inl _ => 0 | .inr r => r
theorem msErr_ok {l : List TMeasure} (h : msErr l = 0) : l.length ≤ 300 ∧ ∀ m ∈ l, MOK m := by
 unfold msErr at h
 split at h
 ·cases h
 refine ⟨by omega, ?_⟩
 cases hr : run (mF l) l 0 () with
 | inl a =>
  refine run_inl MOK ?_ l 0 () a hr
  intro k x a a' hx
  unfold mF at hx; split at hx
  ·exact mErr_ok (by assumption)
  ·cases hx
 | inr r =>
  rw [hr] at h
  have : r ≠ 0 := run_inr (fun r => r ≠ 0) (by
   intro k x a r hx
   unfold mF at hx; split at hx
   ·cases hx
   ·injection hx with hx; rw [← hx]; assumption) l 0 () r hr
  exact absurd h this
theorem validate_prog (l : List TMeasure) : measure_Validate l = some (msErr l) := by
 unfold measure_Validate msErr
 by_cases h : 300 < l.length
 ·rw [decide_eq_true (by omega), if_pos h]; rfl
 rw [decide_eq_false (by omega), if_neg h, cond_false]
 have hl : l.length ≤ 4611686018427387904 := by omega
 obtain ⟨e, _⟩ := loop_run (T := Unit ⊕ Int) hl (body := fun v2 => cond (decide (v2 < (l.length : Int))) (Option.bind (idx l v2) (fun m6 => cond ((((((decide (m6.ID < 1)) || (decide (1000000 < m6.ID))) || (decide (m6.Kind < 1))) || (decide (6 < m6.Kind))) || (decide (m6.Company < 0))) || (decide (999 < m6.Company))) (some (.inr (.inr 2))) (Option.bind (gd (decide (0 < v2)) (idx l (IntKind.i64.wrap (v2 - 1)))) (fun m9 => cond ((decide (0 < v2)) && (decide (m6.ID ≤ m9.ID))) (some (.inr (.inr 9))) (Option.bind (nomenclature_Level m6.Prefix) (fun x11 => cond (x11 == 0) (some (.inr (.inr 1))) (cond (decide (20 < (m6.Origins.length : Int))) (some (.inr (.inr 8))) (Option.bind (measure_validOrigins m6.Origins) (fun x14 => cond (!x14) (some (.inr (.inr 1))) (cond (((((decide (m6.From < 0)) || (decide (m6.To ≤ m6.From))) || (decide (36525 < m6.To))) || (decide (m6.Registered < (-1)))) || (decide (m6.From < m6.Registered))) (some (.inr (.inr 2))) (Option.bind (duty_Validate m6.Duty) (fun x17 => cond (x17 != 0) (some (.inr (.inr x17))) (some (.inl (IntKind.i64.wrap (v2 + 1)))))))))))))))) (some (.inr (.inl ()))))
  (fun i (_ : Unit) => i) (mF l) (fun _ => .inl ()) (fun r => .inr r) (fun _ _ => True) (by
   intro k hk a _
   refine ⟨?_, fun _ _ => trivial⟩
   rw [dlt hk, cond_true, bnd (idx_nat hk), wnext hk hl]
   have fin : ∀ z : Option (Int ⊕ (Unit ⊕ Int)), z = some (if mErr l k l[k] = 0 then Sum.inl ((k + 1 : Nat) : Int) else Sum.inr (Sum.inr (mErr l k l[k]))) → z = some (outc (fun _ => ((k + 1 : Nat) : Int)) (fun r => Sum.inr r) (mF l k l[k] a)) := by
    intro z hz
    rw [hz]; unfold mF
    by_cases h : mErr l k l[k] = 0
    ·rw [if_pos h, if_pos h]; rfl
    ·rw [if_neg h, if_neg h]; rfl
   refine fin _ ?_
   unfold mErr
   rw [show (((((((decide (l[k].ID < 1)) || (decide (1000000 < l[k].ID))) || (decide (l[k].Kind < 1))) || (decide (6 < l[k].Kind))) || (decide (l[k].Company < 0))) || (decide (999 < l[k].Company))) : Bool) = farB l[k] from rfl]
   cases hf : farB l[k]
   case true => rfl
   rw [cond_false]
   have hrest : ∀ c : Bool, (c = true ↔ 0 < k ∧ l[k].ID ≤ (l.getD (k - 1) l[k]).ID) → cond c (some (Sum.inr (Sum.inr 9)) : Option (Int ⊕ (Unit ⊕ Int))) (Option.bind (nomenclature_Level l[k].Prefix) (fun x11 => cond (x11 == 0) (some (.inr (.inr 1))) (cond (decide (20 < (l[k].Origins.length : Int))) (some (.inr (.inr 8))) (Option.bind (measure_validOrigins l[k].Origins) (fun x14 => cond (!x14) (some (.inr (.inr 1))) (cond (((((decide (l[k].From < 0)) || (decide (l[k].To ≤ l[k].From))) || (decide (36525 < l[k].To))) || (decide (l[k].Registered < (-1)))) || (decide (l[k].From < l[k].Registered))) (some (.inr (.inr 2))) (Option.bind (duty_Validate l[k].Duty) (fun x17 => cond (x17 != 0) (some (.inr (.inr x17))) (some (.inl ((k + 1 : Nat) : Int))))))))))) = some (if (if false = true then 2 else if 0 < k ∧ l[k].ID ≤ (l.getD (k - 1) l[k]).ID then 9 else oneE l[k]) = 0 then Sum.inl ((k + 1 : Nat) : Int) else Sum.inr (Sum.inr (if false = true then 2 else if 0 < k ∧ l[k].ID ≤ (l.getD (k - 1) l[k]).ID then 9 else oneE l[k]))) := by
    intro c hc
    rw [if_neg (show ¬ false = true by decide)]
    cases c
    case true => rw [if_pos (hc.1 rfl)]; rfl
    have hn : ¬ (0 < k ∧ l[k].ID ≤ (l.getD (k - 1) l[k]).ID) := fun h => by have := hc.2 h; cases this
    rw [if_neg hn, cond_false]
    show cond (level l[k].Prefix == 0) _ _ = _
    unfold oneE
    by_cases h1 : level l[k].Prefix = 0
    ·rw [if_pos h1, h1]; rfl
    rw [if_neg h1, show (level l[k].Prefix == 0) = false by simp [h1], cond_false]
    by_cases h2 : 20 < l[k].Origins.length
    ·rw [if_pos h2, decide_eq_true (by omega)]; rfl
    rw [if_neg h2, decide_eq_false (by omega), cond_false, validOrigins _ (by omega)]
    cases origs l[k].Origins with
    | inr u => rfl
    | inl u =>
     show cond (((((decide (l[k].From < 0)) || (decide (l[k].To ≤ l[k].From))) || (decide (36525 < l[k].To))) || (decide (l[k].Registered < (-1)))) || (decide (l[k].From < l[k].Registered))) _ _ = _
     rw [show (((((decide (l[k].From < 0)) || (decide (l[k].To ≤ l[k].From))) || (decide (36525 < l[k].To))) || (decide (l[k].Registered < (-1)))) || (decide (l[k].From < l[k].Registered))) = dayB l[k] from rfl]
     dsimp only
     cases dayB l[k]
     ·obtain ⟨e, e1, _⟩ := dutyVal l[k].Duty
      rw [cond_false, e1, Option.bind_some]
      by_cases h3 : e = 0
      ·subst h3; rfl
      ·rw [show (e != 0) = true by simp [h3]]
       show _ = some (if e = 0 then Sum.inl ((k + 1 : Nat) : Int) else Sum.inr (Sum.inr e))
       rw [if_neg h3]; rfl
     ·rfl
   by_cases h0 : 0 < k
   ·rw [decide_eq_true (show (0 : Int) < (k : Int) by omega), gd_tt, bnd (idx_prev h0 hk hl), Bool.true_and]
    refine hrest _ ?_
    rw [getD_in (by omega)]; simp [h0]
   ·rw [decide_eq_false (show ¬ (0 : Int) < (k : Int) by omega), gd_ff, Option.bind_some, Bool.false_and]
    exact hrest false (by simp [h0]))
  (by intro a _; rw [dnlt]; rfl) () trivial
 rw [bnd e]
 cases run (mF l) l 0 () <;> rfl
end SX
end Go.Proofs.YtfcecieppoljlaaGreatDoor
set_option maxRecDepth 100000
namespace Go.Proofs.YtfcecieppoljlaaGreatDoor
namespace SX
open Go
theorem idx_int {α : Type} {l : List α} {b : Int} (h0 : 0 ≤ b) (h1 : b < l.length) : idx l b = some (l[b.toNat]'(by omega)) := by
 obtain ⟨k, rfl⟩ : ∃ k : Nat, b = (k : Int) := ⟨b.toNat, by omega⟩
 exact idx_nat (by omega)
def wants (kind : Int) (code origin : ByteArray) (company day : Int) (m : TMeasure) : Bool := (m.Kind == kind) && cov m code origin company day
def pickB (l : List TMeasure) (c : TMeasure → Bool) (k : Nat) (m : TMeasure) (b : Int) : Int := if c m = true ∧ (b < 0 ∨ rankN (l.getD b.toNat m) < rankN m) then (k : Int) else b
def pickF (l : List TMeasure) (c : TMeasure → Bool) (k : Nat) (m : TMeasure) (b : Int) : Int ⊕ Unit := .inl (pickB l c k m b)
def bestI (l : List TMeasure) (c : TMeasure → Bool) : Int := outf id (fun _ => -1) (run (pickF l c) l 0 (-1))
def ofM (l : List TMeasure) (c : TMeasure → Bool) : Option TMeasure := if bestI l c < 0 then none else l[(bestI l c).toNat]?
def BP (l : List TMeasure) (c : TMeasure → Bool) (k : Nat) (b : Int) : Prop := -1 ≤ b ∧ b < (k : Int) ∧ (0 ≤ b → ∃ m, l[b.toNat]? = some m ∧ c m = true)
theorem pick_bp {l : List TMeasure} {c : TMeasure → Bool} {k : Nat} (hk : k < l.length) {b : Int} (h : BP l c k b) : BP l c (k + 1) (pickB l c k l[k] b) := by
 obtain ⟨a1, a2, a3⟩ := h
 unfold pickB
 split
 ·rename_i h
  exact ⟨by omega, by omega, fun _ => ⟨l[k], by simp, h.1⟩⟩
 ·exact ⟨a1, by omega, a3⟩
theorem run_pick (l : List TMeasure) (c : TMeasure → Bool) : ∀ (xs : List TMeasure) (k : Nat) (b : Int), ∃ b', run (pickF l c) xs k b = .inl b' := by
 intro xs
 induction xs with
 | nil => intro k b; exact ⟨b, rfl⟩
 | cons x xs ih => intro k b; exact ih (k + 1) _
def addM (acc : List TMeasure) (o : Option TMeasure) : List TMeasure := acc ++ o.toList
theorem addM_len (acc : List TMeasure) (o : Option TMeasure) : (addM acc o).length ≤ acc.length + 1 := by
 unfold addM; cases o <;> simp
section
variable {l : List TMeasure} (hl : l.length ≤ 300) (hm : ∀ m ∈ l, MOK m) (kind : Int) (code origin : ByteArray) (company day : Int)
include hl hm
theorem of_loop : loopF (S := ByteArray × Int × Int × Int × Int) (T := (Int)) (fun (v2, v3, v4, v5, v6) => cond (decide (v6 < (l.length : Int))) (Option.bind (Option.bind (idx l v6) (fun m13 => Option.bind (gd (m13.Kind == kind) (idx l v6)) (fun m14 => Option.bind (gd (m13.Kind == kind) (ref19_Covers m14 code v2 v3 v4)) (fun x15 => Option.bind (gd (((m13.Kind == kind) && x15) && (!(decide (v5 < 0)))) (idx l v6)) (fun m16 => Option.bind (gd (((m13.Kind == kind) && x15) && (!(decide (v5 < 0)))) (idx l v5)) (fun m17 => Option.bind (gd (((m13.Kind == kind) && x15) && (!(decide (v5 < 0)))) (ref19_rank m16)) (fun x18 => Option.bind (gd (((m13.Kind == kind) && x15) && (!(decide (v5 < 0)))) (ref19_rank m17)) (fun x19 => cond (((m13.Kind == kind) && x15) && ((decide (v5 < 0)) || (decide (x19 < x18)))) (some v6) (some v5))))))))) (fun v11 => some (.inl (v2, v3, v4, v11, (IntKind.i64.wrap (v6 + 1)))))) (some (.inr v5))) FUEL (origin, company, day, (-1), 0) = some (bestI l (wants kind code origin company day)) ∧ BP l (wants kind code origin company day) l.length (bestI l (wants kind code origin company day)) := by
 have hl' : l.length ≤ 4611686018427387904 := by omega
 obtain ⟨e, e2⟩ := loop_run (S := ByteArray × Int × Int × Int × Int) (T := Int) hl' (body := fun (v2, v3, v4, v5, v6) => cond (decide (v6 < (l.length : Int))) (Option.bind (Option.bind (idx l v6) (fun m13 => Option.bind (gd (m13.Kind == kind) (idx l v6)) (fun m14 => Option.bind (gd (m13.Kind == kind) (ref19_Covers m14 code v2 v3 v4)) (fun x15 => Option.bind (gd (((m13.Kind == kind) && x15) && (!(decide (v5 < 0)))) (idx l v6)) (fun m16 => Option.bind (gd (((m13.Kind == kind) && x15) && (!(decide (v5 < 0)))) (idx l v5)) (fun m17 => Option.bind (gd (((m13.Kind == kind) && x15) && (!(decide (v5 < 0)))) (ref19_rank m16)) (fun x18 => Option.bind (gd (((m13.Kind == kind) && x15) && (!(decide (v5 < 0)))) (ref19_rank m17)) (fun x19 => cond (((m13.Kind == kind) && x15) && ((decide (v5 < 0)) || (decide (x19 < x18)))) (some v6) (some v5))))))))) (fun v11 => some (.inl (v2, v3, v4, v11, (IntKind.i64.wrap (v6 + 1)))))) (some (.inr v5)))
  (fun i b => (origin, company, day, b, i)) (pickF l (wants kind code origin company day)) id (fun _ => -1) (BP l (wants kind code origin company day)) (by
   intro k hk b hb
   refine ⟨?_, fun a' h => by injection h with h; rw [← h]; exact pick_bp hk hb⟩
   have mk := hm _ (List.getElem_mem hk)
   dsimp only
   rw [dlt hk, cond_true, bnd (idx_nat hk), wnext hk hl']
   show Option.bind _ _ = some (Sum.inl (origin, company, day, pickB l (wants kind code origin company day) k l[k] b, ((k + 1 : Nat) : Int)))
   unfold pickB wants
   cases hkd : (l[k].Kind == kind)
   ·rfl
   rw [gd_tt, bnd (idx_nat hk), gd_tt, covers_ref _ (by have := mk.orig; omega)]
   rw [Option.bind_some]
   cases hc : cov l[k] code origin company day
   ·rfl
   by_cases hb0 : b < 0
   ·rw [decide_eq_true hb0, if_pos ⟨rfl, .inl hb0⟩]; rfl
   ·obtain ⟨b1, b2, b3⟩ := hb
    have hbl : b < l.length := by omega
    have mb := hm _ (List.getElem_mem (show b.toNat < l.length by omega))
    rw [decide_eq_false hb0]
    simp only [Bool.not_false, Bool.and_self, Bool.true_and, Bool.false_or]
    rw [gd_tt, bnd (idx_nat hk), gd_tt, bnd (idx_int (by omega) hbl), gd_tt, bnd (rank_ok mk), gd_tt, bnd (rank_ok mb), getD_in (by omega)]
    by_cases hr : rankN (l[b.toNat]'(by omega)) < rankN l[k]
    ·rw [decide_eq_true hr, if_pos ⟨trivial, .inr hr⟩]; rfl
    ·rw [decide_eq_false hr, if_neg (fun h => h.2.elim hb0 hr)]; rfl)
  (by intro b _; dsimp only; rw [dnlt]; rfl) (-1) ⟨by omega, by omega, fun h => absurd h (by omega)⟩
 refine ⟨e, ?_⟩
 obtain ⟨b', hb'⟩ := run_pick l (wants kind code origin company day) l 0 (-1)
 have := e2 b' hb'
 unfold bestI; rw [hb']; exact this
theorem app_loop : loopF (S := Int × Int) (T := (Int)) (fun (v22, v23) => cond (decide (v23 < (l.length : Int))) (Option.bind (Option.bind (idx l v23) (fun m32 => Option.bind (gd (m32.Kind == kind) (measure_Covers m32 code origin company day)) (fun x34 => Option.bind (gd (((m32.Kind == kind) && x34) && (!(decide (v22 < 0)))) (idx l v22)) (fun m35 => Option.bind (gd (((m32.Kind == kind) && x34) && (!(decide (v22 < 0)))) (measure_precedes m32 m35)) (fun x36 => cond (((m32.Kind == kind) && x34) && ((decide (v22 < 0)) || x36)) (some v23) (some v22)))))) (fun v30 => some (.inl (v30, (IntKind.i64.wrap (v23 + 1)))))) (some (.inr v22))) FUEL ((-1), 0) = some (bestI l (wants kind code origin company day)) := by
 have hl' : l.length ≤ 4611686018427387904 := by omega
 obtain ⟨e, e2⟩ := loop_run (S := Int × Int) (T := Int) hl' (body := fun (v22, v23) => cond (decide (v23 < (l.length : Int))) (Option.bind (Option.bind (idx l v23) (fun m32 => Option.bind (gd (m32.Kind == kind) (measure_Covers m32 code origin company day)) (fun x34 => Option.bind (gd (((m32.Kind == kind) && x34) && (!(decide (v22 < 0)))) (idx l v22)) (fun m35 => Option.bind (gd (((m32.Kind == kind) && x34) && (!(decide (v22 < 0)))) (measure_precedes m32 m35)) (fun x36 => cond (((m32.Kind == kind) && x34) && ((decide (v22 < 0)) || x36)) (some v23) (some v22)))))) (fun v30 => some (.inl (v30, (IntKind.i64.wrap (v23 + 1)))))) (some (.inr v22)))
  (fun i b => (b, i)) (pickF l (wants kind code origin company day)) id (fun _ => -1) (BP l (wants kind code origin company day)) (by
   intro k hk b hb
   refine ⟨?_, fun a' h => by injection h with h; rw [← h]; exact pick_bp hk hb⟩
   have mk := hm _ (List.getElem_mem hk)
   dsimp only
   rw [dlt hk, cond_true, bnd (idx_nat hk), wnext hk hl']
   show Option.bind _ _ = some (Sum.inl (pickB l (wants kind code origin company day) k l[k] b, ((k + 1 : Nat) : Int)))
   unfold pickB wants
   cases hkd : (l[k].Kind == kind)
   ·rfl
   rw [gd_tt, covers_prog _ (by have := mk.orig; omega) mk.reg]
   rw [Option.bind_some]
   cases hc : cov l[k] code origin company day
   ·rfl
   by_cases hb0 : b < 0
   ·rw [decide_eq_true hb0, if_pos ⟨rfl, .inl hb0⟩]; rfl
   ·obtain ⟨b1, b2, b3⟩ := hb
    have hbl : b < l.length := by omega
    have mb := hm _ (List.getElem_mem (show b.toNat < l.length by omega))
    rw [decide_eq_false hb0]
    simp only [Bool.not_false, Bool.and_self, Bool.true_and, Bool.false_or]
    rw [gd_tt, bnd (idx_int (by omega) hbl), gd_tt, bnd (precedes_ok mk mb), getD_in (by omega)]
    by_cases hr : rankN (l[b.toNat]'(by omega)) < rankN l[k]
    ·rw [decide_eq_true hr, if_pos ⟨trivial, .inr hr⟩]; rfl
    ·rw [decide_eq_false hr, if_neg (fun h => h.2.elim hb0 hr)]; rfl)
  (by intro b _; dsimp only; rw [dnlt]; rfl) (-1) ⟨by omega, by omega, fun h => absurd h (by omega)⟩
 exact e
theorem ofM_cases : (ofM l (wants kind code origin company day) = none ∧ bestI l (wants kind code origin company day) < 0) ∨ ∃ m, ofM l (wants kind code origin company day) = some m ∧ 0 ≤ bestI l (wants kind code origin company day) ∧ idx l (bestI l (wants kind code origin company day)) = some m ∧ MOK m ∧ m.Kind = kind ∧ m ∈ l := by
 obtain ⟨_, b1, b2, b3⟩ := of_loop hl hm kind code origin company day
 unfold ofM
 by_cases h : bestI l (wants kind code origin company day) < 0
 ·left; rw [if_pos h]; exact ⟨rfl, h⟩
 ·right
  rw [if_neg h]
  obtain ⟨m, h1, h2⟩ := b3 (by omega)
  have hmem := List.mem_of_getElem? h1
  refine ⟨m, h1, by omega, ?_, hm m hmem, ?_, hmem⟩
  ·unfold idx; rw [if_pos (by omega)]; exact h1
  ·unfold wants at h2; simp only [Bool.and_eq_true, beq_iff_eq] at h2; exact h2.1
theorem app_round (acc : List TMeasure) (ha : acc.length ≤ 10) : (Option.bind (some (bestI l (wants kind code origin company day))) (fun v25 => cond (decide (0 ≤ v25)) (Option.bind (idx l v25) (fun m39 => Option.bind (slices_Clone_string_string m39.Origins) (fun x41 => Option.bind (app 144 acc [(⟨m39.ID, m39.Kind, m39.Prefix, x41, m39.Company, m39.From, m39.To, m39.Registered, m39.Duty⟩ : TMeasure)]) (fun l47 => some l47)))) (some acc))) = some (addM acc (ofM l (wants kind code origin company day))) := by
 rw [Option.bind_some]
 rcases ofM_cases hl hm kind code origin company day with ⟨h1, h2⟩ | ⟨m, h1, h2, h3, h4, _⟩
 ·rw [h1, decide_eq_false (by omega)]; simp [addM]
 ·rw [h1, decide_eq_true h2, cond_true, bnd h3]
  have := h4.orig
  have e1 : slices_Clone_string_string m.Origins = some m.Origins := by
   unfold slices_Clone_string_string app; rw [if_pos (by simp; omega)]; rfl
  have e2 : app 144 acc [m] = some (acc ++ [m]) := by unfold app; rw [if_pos (by simp; omega)]
  rw [bnd e1, show (⟨m.ID, m.Kind, m.Prefix, m.Origins, m.Company, m.From, m.To, m.Registered, m.Duty⟩ : TMeasure) = m from rfl, bnd e2]; rfl
end
def appl (l : List TMeasure) (code origin : ByteArray) (company day : Int) : List TMeasure := addM (addM (addM (addM (addM (addM [] (ofM l (wants 1 code origin company day))) (ofM l (wants 2 code origin company day))) (ofM l (wants 3 code origin company day))) (ofM l (wants 4 code origin company day))) (ofM l (wants 5 code origin company day))) (ofM l (wants 6 code origin company day))
theorem applicable {l : List TMeasure} (hl : l.length ≤ 300) (hm : ∀ m ∈ l, MOK m) (code origin : ByteArray) (company day : Int) : measure_Applicable l code origin company day = some (appl l code origin company day) := by
  unfold measure_Applicable
  have hfu : FUEL = 1267650600228229401496703205367 + 9 := rfl
  have hstep : ∀ (N : Nat) (acc : List TMeasure) (k : Int), 1 ≤ k → k ≤ 6 → acc.length ≤ 10 → ∀ {β : Type} (c : List TMeasure → Option β),
      (loopF (S := ByteArray × Int × Int × (List TMeasure) × Int) (T := ((List TMeasure))) (fun (v1, v2, v3, l5, v8) => cond (decide (v8 ≤ 6)) (Option.bind (Option.bind (loopF (S := Int × Int) (T := (Int)) (fun (v22, v23) => cond (decide (v23 < (l.length : Int))) (Option.bind (Option.bind (idx l v23) (fun m32 => Option.bind (gd (m32.Kind == v8) (measure_Covers m32 code v1 v2 v3)) (fun x34 => Option.bind (gd (((m32.Kind == v8) && x34) && (!(decide (v22 < 0)))) (idx l v22)) (fun m35 => Option.bind (gd (((m32.Kind == v8) && x34) && (!(decide (v22 < 0)))) (measure_precedes m32 m35)) (fun x36 => cond (((m32.Kind == v8) && x34) && ((decide (v22 < 0)) || x36)) (some v23) (some v22)))))) (fun v30 => some (.inl (v30, (IntKind.i64.wrap (v23 + 1)))))) (some (.inr v22))) FUEL ((-1), 0)) (fun v25 => cond (decide (0 ≤ v25)) (Option.bind (idx l v25) (fun m39 => Option.bind (slices_Clone_string_string m39.Origins) (fun x41 => Option.bind (app 144 l5 [(⟨m39.ID, m39.Kind, m39.Prefix, x41, m39.Company, m39.From, m39.To, m39.Registered, m39.Duty⟩ : TMeasure)]) (fun l47 => some l47)))) (some l5))) (fun l20 => some (.inl (v1, v2, v3, l20, (IntKind.i64.wrap (v8 + 1)))))) (some (.inr l5))) (N + 1) (origin, company, day, acc, k)).bind c = (loopF (S := ByteArray × Int × Int × (List TMeasure) × Int) (T := ((List TMeasure))) (fun (v1, v2, v3, l5, v8) => cond (decide (v8 ≤ 6)) (Option.bind (Option.bind (loopF (S := Int × Int) (T := (Int)) (fun (v22, v23) => cond (decide (v23 < (l.length : Int))) (Option.bind (Option.bind (idx l v23) (fun m32 => Option.bind (gd (m32.Kind == v8) (measure_Covers m32 code v1 v2 v3)) (fun x34 => Option.bind (gd (((m32.Kind == v8) && x34) && (!(decide (v22 < 0)))) (idx l v22)) (fun m35 => Option.bind (gd (((m32.Kind == v8) && x34) && (!(decide (v22 < 0)))) (measure_precedes m32 m35)) (fun x36 => cond (((m32.Kind == v8) && x34) && ((decide (v22 < 0)) || x36)) (some v23) (some v22)))))) (fun v30 => some (.inl (v30, (IntKind.i64.wrap (v23 + 1)))))) (some (.inr v22))) FUEL ((-1), 0)) (fun v25 => cond (decide (0 ≤ v25)) (Option.bind (idx l v25) (fun m39 => Option.bind (slices_Clone_string_string m39.Origins) (fun x41 => Option.bind (app 144 l5 [(⟨m39.ID, m39.Kind, m39.Prefix, x41, m39.Company, m39.From, m39.To, m39.Registered, m39.Duty⟩ : TMeasure)]) (fun l47 => some l47)))) (some l5))) (fun l20 => some (.inl (v1, v2, v3, l20, (IntKind.i64.wrap (v8 + 1)))))) (some (.inr l5))) N (origin, company, day, addM acc (ofM l (wants k code origin company day)), k + 1)).bind c := by
    intro N acc k k0 k1 ha β c
    refine lfb_step _ ?_
    dsimp only
    rw [decide_eq_true k1, cond_true, app_loop hl hm k code origin company day, app_round hl hm k code origin company day acc ha, Option.bind_some, i64s (by omega) (by omega)]
  have l1 := addM_len [] (ofM l (wants 1 code origin company day))
  have l2 := addM_len (addM [] (ofM l (wants 1 code origin company day))) (ofM l (wants 2 code origin company day))
  have l3 := addM_len (addM (addM [] (ofM l (wants 1 code origin company day))) (ofM l (wants 2 code origin company day))) (ofM l (wants 3 code origin company day))
  have l4 := addM_len (addM (addM (addM [] (ofM l (wants 1 code origin company day))) (ofM l (wants 2 code origin company day))) (ofM l (wants 3 code origin company day))) (ofM l (wants 4 code origin company day))
  have l5 := addM_len (addM (addM (addM (addM [] (ofM l (wants 1 code origin company day))) (ofM l (wants 2 code origin company day))) (ofM l (wants 3 code origin company day))) (ofM l (wants 4 code origin company day))) (ofM l (wants 5 code origin company day))
  simp only [List.length_nil] at l1
  refine (hstep 1267650600228229401496703205375 [] 1 (by omega) (by omega) (by simp) _).trans ?_
  refine (hstep 1267650600228229401496703205374 _ 2 (by omega) (by omega) (by omega) _).trans ?_
  refine (hstep 1267650600228229401496703205373 _ 3 (by omega) (by omega) (by omega) _).trans ?_
  refine (hstep 1267650600228229401496703205372 _ 4 (by omega) (by omega) (by omega) _).trans ?_
  refine (hstep 1267650600228229401496703205371 _ 5 (by omega) (by omega) (by omega) _).trans ?_
  refine (hstep 1267650600228229401496703205370 _ 6 (by omega) (by omega) (by omega) _).trans ?_
  exact (lfb_done (appl l code origin company day) rfl)
end SX
end Go.Proofs.YtfcecieppoljlaaGreatDoor
set_option maxRecDepth 100000
namespace Go.Proofs.YtfcecieppoljlaaGreatDoor
namespace SX
open Go
abbrev LS := Bool × Int × Int × Int × Int × Int
def zeroL : TDebtLine := ⟨0, 0, 0, 0, 0⟩
def stepM (q v : Int) (st : LS) (m : TMeasure) : LS ⊕ Int :=
 if (evN m.Duty v q).2 ≠ 0 then .inr (evN m.Duty v q).2 else if st.1 = false ∨ (evN m.Duty v q).1 < st.2.2.2.2.2 then .inl (true, m.Kind, m.ID, q, v, (evN m.Duty v q).1) else .inl st
def stepO (q v : Int) (o : Option TMeasure) (st : LS) : LS ⊕ Int := match o with | none => .inl st | some m => stepM q v st m
def innerF (kind q v : Int) (_ : Nat) (m : TMeasure) (st : LS) : LS ⊕ Int := if m.Kind = kind then stepM q v st m else .inl st
def leastF (ms : List TMeasure) (q v : Int) (_ : Nat) (k : Int) (st : LS) : LS ⊕ Int := run (innerF k q v) ms 0 st
def least (ms : List TMeasure) (q v : Int) (ks : List Int) : LS ⊕ Int := run (leastF ms q v) ks 0 (false, 0, 0, 0, 0, 0)
def lineOf (st : LS) : TDebtLine := ⟨st.2.1, st.2.2.1, st.2.2.2.1, st.2.2.2.2.1, st.2.2.2.2.2⟩
section
variable {ms : List TMeasure} (hl : ms.length ≤ 300) (hm : ∀ m ∈ ms, MOK m) {q v : Int} (hv : 0 ≤ v) (hv' : v ≤ 1000000000000) (hq : 0 ≤ q) (hq' : q ≤ 1000000000)
include hl hm hv hv' hq hq'
theorem least_ok (ks : List Int) (hks : ks.length ≤ 10) : assess_leastDuty ms ⟨q, v, ks⟩ = some (outf (fun st => (lineOf st, st.1, 0)) (fun e => (zeroL, false, e)) (least ms q v ks)) := by
 unfold assess_leastDuty
 have inner : ∀ (kind : Int) (st : LS), loopF (S := Bool × Int × Int × Int × Int × Int × Int) (T := (Bool × Int × Int × Int × Int × Int) ⊕ ((Bool × Int × Int × Int × Int × Int × Int) ⊕ ((Bool × Int × Int × Int × Int × Int) ⊕ (TDebtLine × Bool × Int)))) (fun (v21, v22, v23, v24, v25, v26, v27) => cond (decide (v22 < (ms.length : Int))) (Option.bind (α := (Bool × Int × Int × Int × Int × Int) ⊕ _) (Option.bind (idx ms v22) (fun m44 => cond (m44.Kind != kind) (some (.inl (v21, v23, v24, v25, v26, v27))) (Option.bind (duty_Evaluate m44.Duty v q) (fun x47 => cond (x47.2 != 0) (some (.inr (.inr (.inr (.inr (.inr ((⟨0, 0, 0, 0, 0⟩ : TDebtLine), false, x47.2))))))) (cond ((!v21) || (decide (x47.1 < v27))) (some (.inl (true, m44.Kind, m44.ID, q, v, x47.1))) (some (.inl (v21, v23, v24, v25, v26, v27)))))))) (fun q => match q with | .inl (v37, v38, v39, v40, v41, v42) => some (.inl (v37, (IntKind.i64.wrap (v22 + 1)), v38, v39, v40, v41, v42)) | .inr e => some e)) (some (.inr (.inl (v21, v23, v24, v25, v26, v27))))) FUEL (st.1, 0, st.2.1, st.2.2.1, st.2.2.2.1, st.2.2.2.2.1, st.2.2.2.2.2) = some (outf (fun st => .inl st) (fun e => .inr (.inr (.inr (zeroL, false, e)))) (run (innerF kind q v) ms 0 st)) := by
  intro kind st
  have hl' : ms.length ≤ 4611686018427387904 := by omega
  exact (loop_run (S := Bool × Int × Int × Int × Int × Int × Int) (T := (Bool × Int × Int × Int × Int × Int) ⊕ ((Bool × Int × Int × Int × Int × Int × Int) ⊕ ((Bool × Int × Int × Int × Int × Int) ⊕ (TDebtLine × Bool × Int)))) hl' (body := fun (v21, v22, v23, v24, v25, v26, v27) => cond (decide (v22 < (ms.length : Int))) (Option.bind (α := (Bool × Int × Int × Int × Int × Int) ⊕ _) (Option.bind (idx ms v22) (fun m44 => cond (m44.Kind != kind) (some (.inl (v21, v23, v24, v25, v26, v27))) (Option.bind (duty_Evaluate m44.Duty v q) (fun x47 => cond (x47.2 != 0) (some (.inr (.inr (.inr (.inr (.inr ((⟨0, 0, 0, 0, 0⟩ : TDebtLine), false, x47.2))))))) (cond ((!v21) || (decide (x47.1 < v27))) (some (.inl (true, m44.Kind, m44.ID, q, v, x47.1))) (some (.inl (v21, v23, v24, v25, v26, v27)))))))) (fun q => match q with | .inl (v37, v38, v39, v40, v41, v42) => some (.inl (v37, (IntKind.i64.wrap (v22 + 1)), v38, v39, v40, v41, v42)) | .inr e => some e)) (some (.inr (.inl (v21, v23, v24, v25, v26, v27)))))
   (fun i (st : LS) => (st.1, i, st.2.1, st.2.2.1, st.2.2.2.1, st.2.2.2.2.1, st.2.2.2.2.2)) (innerF kind q v) (fun st => .inl st) (fun e => .inr (.inr (.inr (zeroL, false, e)))) (fun _ _ => True) (by
    intro k hk st _
    refine ⟨?_, fun _ _ => trivial⟩
    have mk := hm _ (List.getElem_mem hk)
    obtain ⟨e0, e1, e2, _⟩ := dutyVal ms[k].Duty
    rw [mk.duty] at e1
    have hd := e2 (Option.some.inj e1).symm
    dsimp only
    rw [dlt hk, cond_true, bnd (idx_nat hk), eval_prog hd hv hv' hq hq' mk.duty, wnext hk hl', Option.bind_some]
    unfold innerF stepM
    by_cases h1 : ms[k].Kind = kind
    ·rw [if_pos h1, show (ms[k].Kind != kind) = false by simp [h1], cond_false]
     by_cases h2 : (evN ms[k].Duty v q).2 = 0
     ·rw [if_neg (by simp [h2]), show ((evN ms[k].Duty v q).2 != 0) = false by simp [h2], cond_false]
      by_cases h3 : st.1 = false ∨ (evN ms[k].Duty v q).1 < st.2.2.2.2.2
      ·rw [if_pos h3, show ((!st.1) || (decide ((evN ms[k].Duty v q).1 < st.2.2.2.2.2))) = true by simp; exact h3]; rfl
      ·rw [if_neg h3, show ((!st.1) || (decide ((evN ms[k].Duty v q).1 < st.2.2.2.2.2))) = false by
        rw [Bool.eq_false_iff]; intro h; apply h3; simpa using h]; rfl
     ·rw [if_pos h2, show ((evN ms[k].Duty v q).2 != 0) = true by simp [h2]]; rfl
    ·rw [if_neg h1, show (ms[k].Kind != kind) = true by simp [h1]]; rfl)
   (by intro st _; dsimp only; rw [dnlt]; rfl) st trivial).1
 have hk' : ks.length ≤ 4611686018427387904 := by omega
 obtain ⟨e, _⟩ := loop_run (S := Bool × Int × Int × Int × Int × Int × Int) (T := (Bool × Int × Int × Int × Int × Int) ⊕ (TDebtLine × Bool × Int)) hk' (body := fun (v4, v5, v6, v7, v8, v9, v10) => cond (decide (v5 < (ks.length : Int))) (Option.bind (idx ks v5) (fun m20 => Option.bind (loopF (S := Bool × Int × Int × Int × Int × Int × Int) (T := (Bool × Int × Int × Int × Int × Int) ⊕ (_)) (fun (v21, v22, v23, v24, v25, v26, v27) => cond (decide (v22 < (ms.length : Int))) (Option.bind (α := (Bool × Int × Int × Int × Int × Int) ⊕ _) (Option.bind (idx ms v22) (fun m44 => cond (m44.Kind != m20) (some (.inl (v21, v23, v24, v25, v26, v27))) (Option.bind (duty_Evaluate m44.Duty v q) (fun x47 => cond (x47.2 != 0) (some (.inr (.inr (.inr (.inr (.inr ((⟨0, 0, 0, 0, 0⟩ : TDebtLine), false, x47.2))))))) (cond ((!v21) || (decide (x47.1 < v27))) (some (.inl (true, m44.Kind, m44.ID, q, v, x47.1))) (some (.inl (v21, v23, v24, v25, v26, v27)))))))) (fun q => match q with | .inl (v37, v38, v39, v40, v41, v42) => some (.inl (v37, (IntKind.i64.wrap (v22 + 1)), v38, v39, v40, v41, v42)) | .inr e => some e)) (some (.inr (.inl (v21, v23, v24, v25, v26, v27))))) FUEL (v4, 0, v6, v7, v8, v9, v10)) (fun q => match q with | .inl (v28, v29, v30, v31, v32, v33) => some (.inl (v28, (IntKind.i64.wrap (v5 + 1)), v29, v30, v31, v32, v33)) | .inr e => some e))) (some (.inr (.inl (v4, v6, v7, v8, v9, v10)))))
  (fun i (st : LS) => (st.1, i, st.2.1, st.2.2.1, st.2.2.2.1, st.2.2.2.2.1, st.2.2.2.2.2)) (leastF ms q v) (fun st => .inl st) (fun e => .inr (zeroL, false, e)) (fun _ _ => True) (by
   intro k hk st _
   refine ⟨?_, fun _ _ => trivial⟩
   dsimp only
   rw [dlt hk, cond_true, bnd (idx_nat hk), inner, wnext hk hk', Option.bind_some]
   unfold leastF
   cases run (innerF ks[k] q v) ms 0 st <;> rfl)
  (by intro st _; dsimp only; rw [dnlt]; rfl) (false, 0, 0, 0, 0, 0) trivial
 dsimp only
 erw [bnd e]
 unfold least
 cases run (leastF ms q v) ks 0 (false, 0, 0, 0, 0, 0) <;> rfl
end
def val2 (x : TItem) : Int × Int := if 0 < x.Quantity then share2 x.Value x.Granted (x.Quantity - x.Granted) else (0, x.Value)
def kinds3 (x : TItem) : List Int := if x.Proof = true then [1, 2, 3] else [1, 2]
def partsL (x : TItem) : List Tassess_part := (if 0 < x.Granted then [⟨x.Granted, (val2 x).1, kinds3 x ++ [4]⟩] else []) ++ (if 0 < x.Quantity - x.Granted ∨ x.Quantity = 0 then [⟨x.Quantity - x.Granted, (val2 x).2, kinds3 x⟩] else []) ++ [⟨x.Quantity, x.Value, [5]⟩, ⟨x.Quantity, x.Value, [6]⟩]
structure ItOK (x : TItem) : Prop where
 q0 : 0 ≤ x.Quantity
 q1 : x.Quantity ≤ 1000000000
 v0 : 0 ≤ x.Value
 v1 : x.Value ≤ 1000000000000
 g0 : 0 ≤ x.Granted
 g1 : x.Granted ≤ x.Quantity
theorem itOK {x : TItem} (h : assess_Validate x = some 0) : ItOK x := by
 unfold assess_Validate at h
 rw [show nomenclature_Level x.Code = some (level x.Code) from rfl, valid_country, Option.bind_some] at h
 have : ∃ b, gd (!(level x.Code != 8)) (some (ctry x.Origin)) = some b := by cases (!(level x.Code != 8)) <;> exact ⟨_, rfl⟩
 obtain ⟨b, hb⟩ := this
 rw [bnd hb] at h
 cases hc : ((level x.Code != 8) || (!b))
 ·rw [hc, cond_false] at h
  cases hd : (((((((((((decide (x.Company < 0)) || (decide (999 < x.Company))) || (decide (x.Day < 0))) || (decide (36524 < x.Day))) || (decide (x.Quantity < 0))) || (decide (1000000000 < x.Quantity))) || (decide (x.Value < 0))) || (decide (1000000000000 < x.Value))) || (decide (x.Granted < 0))) || (decide (x.Quantity < x.Granted))) : Bool)
  ·simp at hd
   exact ⟨by omega, by omega, by omega, by omega, by omega, by omega⟩
  ·rw [hd] at h; cases h
 ·rw [hc] at h; cases h
theorem val2_ok {x : TItem} (h : ItOK x) : (val2 x).1 + (val2 x).2 = x.Value ∧ 0 ≤ (val2 x).1 ∧ (val2 x).1 ≤ 1000000000000 ∧ 0 ≤ (val2 x).2 ∧ (val2 x).2 ≤ 1000000000000 := by
 obtain ⟨q0, q1, v0, v1, g0, g1⟩ := h
 unfold val2
 split
 ·exact share2_ok ⟨v0, v1, g0, by omega, by omega, by omega, by omega⟩
 ·dsimp only; omega
theorem parts_ok {x : TItem} (h : ItOK x) : assess_partsOf x = some (partsL x, 0) := by
  have hok := h
  obtain ⟨q0, q1, v0, v1, g0, g1⟩ := h
  unfold assess_partsOf
  rw [i64s (r := x.Quantity - x.Granted) (by omega) (by omega)]
  have e1 : (cond (decide (0 < x.Quantity)) (Option.bind (apportion_Share x.Value [x.Granted, x.Quantity - x.Granted]) (fun x9 => cond (x9.2 != 0) (some (.inr (([] : List Tassess_part), x9.2))) (some (.inl x9.1)))) (some (.inl [0, x.Value]))) = some (Sum.inl [(val2 x).1, (val2 x).2] : List Int ⊕ (List Tassess_part × Int)) := by
    unfold val2
    by_cases hq : 0 < x.Quantity
    · rw [decide_eq_true hq, if_pos hq, cond_true, bnd (share_prog ⟨v0, v1, g0, by omega, by omega, by omega, by omega⟩)]; rfl
    · rw [decide_eq_false hq, if_neg hq]; rfl
  rw [bnd e1]
  dsimp only
  have e2 : (cond x.Proof (Option.bind (app 8 [1, 2] [3]) (fun l21 => some l21)) (some [1, 2])) = some (kinds3 x) := by
    unfold kinds3; cases x.Proof <;> rfl
  rw [bnd e2]
  have hk3 : (kinds3 x).length ≤ 3 := by unfold kinds3; split <;> simp
  have e3 : slices_Clone_int_int (kinds3 x) = some (kinds3 x) := by unfold slices_Clone_int_int app; rw [if_pos (by simp; omega)]; rfl
  have e4 : app 8 (kinds3 x) [4] = some (kinds3 x ++ [4]) := by unfold app; rw [if_pos (by simp; omega)]
  have e5 : (cond (decide (0 < x.Granted)) (Option.bind (idx [(val2 x).1, (val2 x).2] 0) (fun m32 => Option.bind (slices_Clone_int_int (kinds3 x)) (fun x33 => Option.bind (app 8 x33 [4]) (fun l39 => Option.bind (app 40 ([] : List Tassess_part) [(⟨x.Granted, m32, l39⟩ : Tassess_part)]) (fun l44 => some l44))))) (some ([] : (List Tassess_part)))) = some (if 0 < x.Granted then [⟨x.Granted, (val2 x).1, kinds3 x ++ [4]⟩] else []) := by
    by_cases hg : 0 < x.Granted
    · rw [decide_eq_true hg, if_pos hg, cond_true, bnd ix0, bnd e3, bnd e4]; rfl
    · rw [decide_eq_false hg, if_neg hg]; rfl
  rw [bnd e5]
  have e6 : ∀ p : List Tassess_part, p.length ≤ 1 → (cond ((decide (0 < x.Quantity - x.Granted)) || (x.Quantity == 0)) (Option.bind (idx [(val2 x).1, (val2 x).2] 1) (fun m54 => Option.bind (app 40 p [(⟨x.Quantity - x.Granted, m54, kinds3 x⟩ : Tassess_part)]) (fun l57 => some l57))) (some p)) = some (p ++ (if 0 < x.Quantity - x.Granted ∨ x.Quantity = 0 then [⟨x.Quantity - x.Granted, (val2 x).2, kinds3 x⟩] else [])) := by
    intro p hp
    by_cases hg : 0 < x.Quantity - x.Granted ∨ x.Quantity = 0
    · rw [if_pos hg, show ((decide (0 < x.Quantity - x.Granted)) || (x.Quantity == 0)) = true by simpa using hg, cond_true, bnd ix1]
      have : app 40 p [(⟨x.Quantity - x.Granted, (val2 x).2, kinds3 x⟩ : Tassess_part)] = some (p ++ [⟨x.Quantity - x.Granted, (val2 x).2, kinds3 x⟩]) := by unfold app; rw [if_pos (by simp; omega)]
      rw [bnd this]
    · rw [if_neg hg, show ((decide (0 < x.Quantity - x.Granted)) || (x.Quantity == 0)) = false by rw [Bool.eq_false_iff]; intro h; apply hg; simpa using h, cond_false, List.append_nil]
  have hp1 : (if 0 < x.Granted then [(⟨x.Granted, (val2 x).1, kinds3 x ++ [4]⟩ : Tassess_part)] else []).length ≤ 1 := by split <;> simp
  rw [bnd (e6 _ hp1)]
  have e7 : ∀ p : List Tassess_part, p.length ≤ 2 → app 40 p [(⟨x.Quantity, x.Value, [5]⟩ : Tassess_part), (⟨x.Quantity, x.Value, [6]⟩ : Tassess_part)] = some (p ++ [⟨x.Quantity, x.Value, [5]⟩, ⟨x.Quantity, x.Value, [6]⟩]) := by
    intro p hp; unfold app; rw [if_pos (by simp; omega)]
  rw [bnd (e7 _ (by rw [List.length_append]; have : (if 0 < x.Quantity - x.Granted ∨ x.Quantity = 0 then [(⟨x.Quantity - x.Granted, (val2 x).2, kinds3 x⟩ : Tassess_part)] else []).length ≤ 1 := by split <;> simp
                    omega))]
  rfl
end SX
end Go.Proofs.YtfcecieppoljlaaGreatDoor
set_option maxRecDepth 100000
namespace Go.Proofs.YtfcecieppoljlaaGreatDoor
namespace SX
open Go
abbrev bindS (p : LS ⊕ Int) (f : LS → LS ⊕ Int) : LS ⊕ Int := bindR p f
def st0 : LS := (false, 0, 0, 0, 0, 0)
def chain (o : Int → Option TMeasure) (q v : Int) : List Int → LS → LS ⊕ Int
 | [], st => .inl st
 | k :: ks, st => bindS (stepO q v (o k) st) (chain o q v ks)
def oK (l : List TMeasure) (x : TItem) (k : Int) : Option TMeasure := ofM l (wants k x.Code x.Origin x.Company x.Day)
theorem run_append {k q v : Int} : ∀ (a b : List TMeasure) (j : Nat) (st : LS), run (innerF k q v) (a ++ b) j st = bindS (run (innerF k q v) a j st) (run (innerF k q v) b 0) := by
 have shift : ∀ (b : List TMeasure) (j i : Nat) (st : LS), run (innerF k q v) b j st = run (innerF k q v) b i st := by
  intro b
  induction b with
  | nil => intro j i st; rfl
  | cons y ys ih =>
   intro j i st
   rw [run_cons, run_cons]
   have : innerF k q v j y st = innerF k q v i y st := rfl
   rw [this]
   cases innerF k q v i y st with
   | inl a' => exact ih _ _ _
   | inr r => rfl
 intro a
 induction a with
 | nil => intro b j st; exact shift b j 0 st
 | cons y ys ih =>
  intro b j st
  rw [List.cons_append, run_cons, run_cons]
  cases innerF k q v j y st with
  | inl a' => exact ih b _ _
  | inr r => rfl
theorem bindR_l {A B R : Type} (a : A) (g : A → B ⊕ R) : bindR (.inl a) g = g a := rfl
theorem bindS_inl (p : LS ⊕ Int) : bindR p (fun s => .inl s) = p := by cases p <;> rfl
section
variable {l : List TMeasure} (hl : l.length ≤ 300) (hm : ∀ m ∈ l, MOK m) (x : TItem)
include hl hm
theorem oK_cases (k : Int) : oK l x k = none ∨ ∃ m, oK l x k = some m ∧ MOK m ∧ m.Kind = k ∧ m ∈ l := by
 rcases ofM_cases hl hm k x.Code x.Origin x.Company x.Day with ⟨h1, _⟩ | ⟨m, h1, _, _, h2, h3, h4⟩
 ·exact .inl h1
 ·exact .inr ⟨m, h1, h2, h3, h4⟩
theorem inner_one (k k' q v : Int) : run (innerF k q v) (oK l x k').toList 0 = fun st => if k' = k then stepO q v (oK l x k) st else .inl st := by
 funext st
 rcases oK_cases hl hm x k' with h | ⟨m, h, _, h2, _⟩
 ·by_cases e : k' = k
  ·subst e; rw [h, if_pos rfl]; rfl
  ·rw [h, if_neg e]; rfl
 ·rw [h]
  show bindR (innerF k q v 0 m st) (run (innerF k q v) [] 1) = _
  unfold innerF
  by_cases e : k' = k
  ·subst e; rw [h, if_pos h2, if_pos rfl]
   show _ = stepM q v st m
   cases stepM q v st m <;> rfl
  ·rw [if_neg (by rw [h2]; exact e), if_neg e]; rfl
theorem inner_all {k : Int} (h1 : 1 ≤ k) (h6 : k ≤ 6) (q v : Int) (st : LS) : run (innerF k q v) (appl l x.Code x.Origin x.Company x.Day) 0 st = stepO q v (oK l x k) st := by
 unfold appl addM
 rw [run_append, run_append, run_append, run_append, run_append, run_append]
 rw [show ofM l (wants 1 x.Code x.Origin x.Company x.Day) = oK l x 1 from rfl, show ofM l (wants 2 x.Code x.Origin x.Company x.Day) = oK l x 2 from rfl, show ofM l (wants 3 x.Code x.Origin x.Company x.Day) = oK l x 3 from rfl, show ofM l (wants 4 x.Code x.Origin x.Company x.Day) = oK l x 4 from rfl, show ofM l (wants 5 x.Code x.Origin x.Company x.Day) = oK l x 5 from rfl, show ofM l (wants 6 x.Code x.Origin x.Company x.Day) = oK l x 6 from rfl]
 rw [inner_one hl hm x k 1, inner_one hl hm x k 2, inner_one hl hm x k 3, inner_one hl hm x k 4, inner_one hl hm x k 5, inner_one hl hm x k 6]
 have hk : k = 1 ∨ k = 2 ∨ k = 3 ∨ k = 4 ∨ k = 5 ∨ k = 6 := by omega
 have base : run (innerF k q v) [] 0 st = .inl st := rfl
 rw [base]
 rcases hk with rfl | rfl | rfl | rfl | rfl | rfl <;> simp [bindR_l, bindS_inl]
theorem least_appl (q v : Int) (ks : List Int) (hks : ∀ k ∈ ks, 1 ≤ k ∧ k ≤ 6) : least (appl l x.Code x.Origin x.Company x.Day) q v ks = chain (oK l x) q v ks st0 := by
 unfold least
 have : ∀ (ks : List Int) (j : Nat) (st : LS), (∀ k ∈ ks, 1 ≤ k ∧ k ≤ 6) → run (leastF (appl l x.Code x.Origin x.Company x.Day) q v) ks j st = chain (oK l x) q v ks st := by
  intro ks
  induction ks with
  | nil => intro j st _; rfl
  | cons k ks ih =>
   intro j st h
   have hk := h k (by simp)
   rw [run_cons]
   show _ = bindS (stepO q v (oK l x k) st) (chain (oK l x) q v ks)
   unfold leastF
   rw [inner_all hl hm x hk.1 hk.2]
   cases stepO q v (oK l x k) st with
   | inl s => exact ih _ _ (fun k' h' => h k' (by simp [h']))
   | inr e => rfl
 exact this ks 0 _ hks
theorem appl_mem : (appl l x.Code x.Origin x.Company x.Day).length ≤ 300 ∧ ∀ m ∈ appl l x.Code x.Origin x.Company x.Day, MOK m := by
 have key : ∀ k, (∀ m ∈ (ofM l (wants k x.Code x.Origin x.Company x.Day)).toList, MOK m) ∧ (ofM l (wants k x.Code x.Origin x.Company x.Day)).toList.length ≤ 1 := by
  intro k
  rcases oK_cases hl hm x k with h | ⟨m, h, h2, _⟩
  ·rw [show ofM l (wants k x.Code x.Origin x.Company x.Day) = none from h]; simp
  ·rw [show ofM l (wants k x.Code x.Origin x.Company x.Day) = some m from h]; simp; exact h2
 unfold appl addM
 constructor
 ·simp only [List.length_append, List.length_nil]
  have := (key 1).2; have := (key 2).2; have := (key 3).2; have := (key 4).2; have := (key 5).2; have := (key 6).2
  omega
 ·intro m h
  simp only [List.mem_append, List.not_mem_nil, false_or] at h
  rcases h with ((((h | h) | h) | h) | h) | h
  ·exact (key 1).1 m h
  ·exact (key 2).1 m h
  ·exact (key 3).1 m h
  ·exact (key 4).1 m h
  ·exact (key 5).1 m h
  ·exact (key 6).1 m h
end
theorem containsFunc (ms : List TMeasure) (hl : ms.length ≤ 4611686018427387904) : slices_ContainsFunc_api_Measure_api_Measure ms (fun y8 => assess_Assess_1 y8) = some (ms.any fun m => m.Kind == 1) := by
 unfold slices_ContainsFunc_api_Measure_api_Measure slices_IndexFunc_api_Measure_api_Measure
 obtain ⟨e, _⟩ := loop_run (T := Unit ⊕ Int) hl (body := fun v1 => cond (decide (v1 < (ms.length : Int))) (Option.bind (idx ms v1) (fun m5 => Option.bind ((fun y8 => assess_Assess_1 y8) m5) (fun x6 => cond x6 (some (.inr (.inr v1))) (some (.inl (IntKind.i64.wrap (v1 + 1))))))) (some (.inr (.inl ()))))
  (fun i (_ : Unit) => i) (fun k m _ => if m.Kind == 1 then .inr (k : Int) else .inl ()) (fun _ => .inl ()) (fun r => .inr r) (fun _ _ => True) (by
   intro k hk a _
   refine ⟨?_, fun _ _ => trivial⟩
   rw [dlt hk, cond_true, bnd (idx_nat hk), wnext hk hl]
   show Option.bind (some (ms[k].Kind == 1)) _ = _
   rw [Option.bind_some]
   cases (ms[k].Kind == 1) <;> rfl)
  (by intro a _; rw [dnlt]; rfl) () trivial
 rw [bnd e]
 have hrun : ∀ (xs : List TMeasure) (k : Nat), (∃ j : Nat, run (fun k (m : TMeasure) (_ : Unit) => if m.Kind == 1 then Sum.inr (k : Int) else Sum.inl ()) xs k () = .inr (j : Int) ∧ (xs.any fun m => m.Kind == 1) = true) ∨ (run (fun k (m : TMeasure) (_ : Unit) => if m.Kind == 1 then Sum.inr (k : Int) else Sum.inl ()) xs k () = .inl () ∧ (xs.any fun m => m.Kind == 1) = false) := by
  intro xs
  induction xs with
  | nil => intro k; right; exact ⟨rfl, rfl⟩
  | cons y ys ih =>
   intro k
   rw [run_cons]
   rw [List.any_cons]
   cases hy : (y.Kind == 1)
   ·exact ih (k + 1)
   ·left; exact ⟨k, rfl, rfl⟩
 rcases hrun ms 0 with ⟨j, h1, h2⟩ | ⟨h1, h2⟩
 ·rw [h1, h2]; show some (decide ((0 : Int) ≤ (j : Int))) = _; rw [decide_eq_true (by omega)]
 ·rw [h1, h2]; rfl
def itErr (x : TItem) : Int := (assess_Validate x).getD 0
def errD (e : Int) : TDebt × Int := (⟨[], 0⟩, e)
def partF (o : Int → Option TMeasure) (_ : Nat) (p : Tassess_part) (st : List TDebtLine × Int) : (List TDebtLine × Int) ⊕ Int := match chain o p.quantity p.value p.kinds st0 with | .inr e => .inr e | .inl s => .inl (if s.1 = true then (st.1 ++ [lineOf s], st.2 + s.2.2.2.2.2) else st)
def finD (st : List TDebtLine × Int) : TDebt × Int := if 1000000000000 < st.2 then errD 3 else (⟨st.1, st.2⟩, 0)
def assessS (l : List TMeasure) (x : TItem) : TDebt × Int := if msErr l ≠ 0 then errD (msErr l) else if itErr x ≠ 0 then errD (itErr x) else if oK l x 1 = none then errD 7 else outf finD errD (run (partF (oK l x)) (partsL x) 0 ([], 0))
def AmtOK (st : LS) : Prop := 0 ≤ st.2.2.2.2.2 ∧ st.2.2.2.2.2 ≤ 1000000000000
structure PartOK (p : Tassess_part) : Prop where
 v0 : 0 ≤ p.value
 v1 : p.value ≤ 1000000000000
 q0 : 0 ≤ p.quantity
 q1 : p.quantity ≤ 1000000000
 kl : p.kinds.length ≤ 10
 kr : ∀ k ∈ p.kinds, 1 ≤ k ∧ k ≤ 6
theorem kinds3_ok (x : TItem) : (kinds3 x).length ≤ 3 ∧ ∀ k ∈ kinds3 x, 1 ≤ k ∧ k ≤ 6 := by
 unfold kinds3; split <;> refine ⟨by simp, ?_⟩ <;> intro k hk <;> simp at hk <;> omega
theorem parts_all {x : TItem} (h : ItOK x) : (partsL x).length ≤ 4 ∧ ∀ p ∈ partsL x, PartOK p := by
 obtain ⟨s, a0, a1, b0, b1⟩ := val2_ok h
 obtain ⟨k1, k2⟩ := kinds3_ok x
 obtain ⟨q0, q1, v0, v1, g0, g1⟩ := h
 unfold partsL
 constructor
 ·simp only [List.length_append, List.length_cons, List.length_nil]
  split <;> split <;> simp
 ·intro p hp
  simp only [List.mem_append, List.mem_cons, List.not_mem_nil, or_false] at hp
  rcases hp with (hp | hp) | hp | hp
  ·split at hp
   ·simp only [List.mem_cons, List.not_mem_nil, or_false] at hp; subst hp
    refine ⟨a0, a1, by dsimp only; omega, by dsimp only; omega, by simp; omega, ?_⟩
    intro k hk
    simp only [List.mem_append, List.mem_cons, List.not_mem_nil, or_false] at hk
    rcases hk with hk | rfl
    ·exact k2 k hk
    ·omega
   ·cases hp
  ·split at hp
   ·simp only [List.mem_cons, List.not_mem_nil, or_false] at hp; subst hp
    exact ⟨b0, b1, by dsimp only; omega, by dsimp only; omega, by dsimp only; omega, k2⟩
   ·cases hp
  ·subst hp; exact ⟨v0, v1, q0, q1, by simp, by intro k hk; simp at hk; omega⟩
  ·subst hp; exact ⟨v0, v1, q0, q1, by simp, by intro k hk; simp at hk; omega⟩
theorem evN_amt {m : TMeasure} (h : MOK m) {q v : Int} (hv : 0 ≤ v) (hv' : v ≤ 1000000000000) (hq : 0 ≤ q) (hq' : q ≤ 1000000000) : ((evN m.Duty v q).2 = 0 ∧ 0 ≤ (evN m.Duty v q).1 ∧ (evN m.Duty v q).1 ≤ 1000000000000) ∨ ((evN m.Duty v q).2 = 3 ∧ (evN m.Duty v q).1 = 0) := by
 obtain ⟨e, e1, e2, _⟩ := dutyVal m.Duty
 rw [h.duty] at e1
 have hd := e2 (Option.some.inj e1).symm
 exact evN_ok m.Duty v q (evSum_ok hd hv hv' hq hq').1.1 (perU hd).1
theorem stepO_amt {o : Option TMeasure} (ho : ∀ m, o = some m → MOK m) {q v : Int} (hv : 0 ≤ v) (hv' : v ≤ 1000000000000) (hq : 0 ≤ q) (hq' : q ≤ 1000000000) {st : LS} (h : AmtOK st) : (∃ s, stepO q v o st = .inl s ∧ AmtOK s ∧ (st.1 = true → s.1 = true) ∧ (o ≠ none → s.1 = true)) ∨ stepO q v o st = .inr 3 := by
 cases o with
 | none => left; exact ⟨st, rfl, h, id, fun h => absurd rfl h⟩
 | some m =>
  have := evN_amt (ho m rfl) hv hv' hq hq'
  show (∃ s, stepM q v st m = .inl s ∧ _) ∨ stepM q v st m = .inr 3
  unfold stepM
  rcases this with ⟨a, b, c⟩ | ⟨a, b⟩
  ·left
   rw [if_neg (by simp [a])]
   by_cases hc : st.1 = false ∨ (evN m.Duty v q).1 < st.2.2.2.2.2
   ·rw [if_pos hc]; exact ⟨_, rfl, ⟨b, c⟩, fun _ => rfl, fun _ => rfl⟩
   ·rw [if_neg hc]; exact ⟨_, rfl, h, id, fun _ => by cases hs : st.1; exact absurd (.inl hs) hc; rfl⟩
  ·right; rw [if_pos (by simp [a]), a]
theorem chain_amt {o : Int → Option TMeasure} (ho : ∀ k m, o k = some m → MOK m) {q v : Int} (hv : 0 ≤ v) (hv' : v ≤ 1000000000000) (hq : 0 ≤ q) (hq' : q ≤ 1000000000) : ∀ (ks : List Int) (st : LS), AmtOK st → (∃ s, chain o q v ks st = .inl s ∧ AmtOK s ∧ (st.1 = true → s.1 = true)) ∨ chain o q v ks st = .inr 3 := by
 intro ks
 induction ks with
 | nil => intro st h; left; exact ⟨st, rfl, h, id⟩
 | cons k ks ih =>
  intro st h
  show (∃ s, bindS (stepO q v (o k) st) (chain o q v ks) = .inl s ∧ _) ∨ bindS (stepO q v (o k) st) (chain o q v ks) = .inr 3
  rcases stepO_amt (ho k) hv hv' hq hq' h with ⟨s, h1, h2, h3, _⟩ | h1
  ·rw [h1]
   rcases ih s h2 with ⟨s', g1, g2, g3⟩ | g1
   ·left; exact ⟨s', g1, g2, fun h => g3 (h3 h)⟩
   ·right; exact g1
  ·rw [h1]; right; rfl
theorem appl_any {l : List TMeasure} (hl : l.length ≤ 300) (hm : ∀ m ∈ l, MOK m) (x : TItem) : ((appl l x.Code x.Origin x.Company x.Day).any fun m => m.Kind == 1) = decide (oK l x 1 ≠ none) := by
 have key : ∀ k, ((ofM l (wants k x.Code x.Origin x.Company x.Day)).toList.any fun m => m.Kind == 1) = decide (k = 1 ∧ oK l x k ≠ none) := by
  intro k
  rcases oK_cases hl hm x k with h | ⟨m, h, _, h2, _⟩
  ·rw [show ofM l (wants k x.Code x.Origin x.Company x.Day) = none from h, h]; simp
  ·rw [show ofM l (wants k x.Code x.Origin x.Company x.Day) = some m from h, h]; simp [h2]
   by_cases e : k = 1 <;> simp [e]
 unfold appl addM
 simp only [List.any_append, List.any_nil, Bool.false_or, key]
 simp
theorem assess_prog (l : List TMeasure) (x : TItem) (hx : ∃ e, assess_Validate x = some e) : assess_Assess l x = some (assessS l x) := by
 obtain ⟨e, he⟩ := hx
 unfold assess_Assess assessS
 have hie : itErr x = e := by unfold itErr; rw [he]; rfl
 rw [bnd (validate_prog l), he, hie]
 rcases Decidable.em (¬ msErr l = 0) with h1 | h1
 ·rw [if_pos h1, show (msErr l != 0) = true by simp [h1]]; rfl
 have h1 := Decidable.not_not.1 h1
 obtain ⟨hl, hm⟩ := msErr_ok h1
 rw [if_neg (by simp [h1]), show (msErr l != 0) = false by simp [h1], cond_false, Option.bind_some]
 rcases Decidable.em (¬ e = 0) with h2 | h2
 ·rw [if_pos h2, show (e != 0) = true by simp [h2]]; rfl
 have h2 := Decidable.not_not.1 h2
 subst h2
 have hit := itOK he
 rw [if_neg (by simp), bne_self_eq_false, cond_false, bnd (applicable hl hm _ _ _ _), bnd (containsFunc _ (by have := (appl_mem hl hm x).1; omega)), appl_any hl hm x]
 by_cases h3 : oK l x 1 = none
 ·rw [if_pos h3, decide_eq_false (by simp [h3])]; rfl
 rw [if_neg h3, decide_eq_true h3, Bool.not_true, cond_false, bnd (parts_ok hit), bne_self_eq_false, cond_false]
 obtain ⟨pl, pa⟩ := parts_all hit
 have hpl : (partsL x).length ≤ 4611686018427387904 := by omega
 have ho : ∀ k m, oK l x k = some m → MOK m := by
  intro k m h
  rcases oK_cases hl hm x k with h' | ⟨m', h', h2, _⟩
  ·rw [h'] at h; cases h
  ·rw [h'] at h; injection h with h; exact h ▸ h2
 obtain ⟨e, _⟩ := loop_run (S := Int × (List TDebtLine) × Int) (T := ((List TDebtLine) × Int) ⊕ (TDebt × Int)) hpl (body := fun (v14, l16, v19) => cond (decide (v14 < ((partsL x).length : Int))) (Option.bind (α := ((List TDebtLine) × Int) ⊕ _) (Option.bind (idx (partsL x) v14) (fun m35 => Option.bind (assess_leastDuty (appl l x.Code x.Origin x.Company x.Day) m35) (fun x37 => cond (x37.2.2 != 0) (some (.inr (.inr (.inr ((⟨[], 0⟩ : TDebt), x37.2.2))))) (cond x37.2.1 (Option.bind (app 40 l16 [x37.1]) (fun l43 => some (.inl (l43, (IntKind.i64.wrap (v19 + x37.1.Amount)))))) (some (.inl (l16, v19))))))) (fun q => match q with | .inl (l32, v33) => some (.inl ((IntKind.i64.wrap (v14 + 1)), l32, v33)) | .inr e => some e)) (some (.inr (.inl (l16, v19)))))
  (fun i (st : List TDebtLine × Int) => (i, st.1, st.2)) (partF (oK l x)) (fun st => .inl st) (fun e => .inr (errD e)) (fun k st => st.1.length ≤ k ∧ 0 ≤ st.2 ∧ st.2 ≤ k * 1000000000000) (by
   intro k hk st ⟨s1, s2, s3⟩
   have pk := pa _ (List.getElem_mem hk)
   obtain ⟨a1, a2⟩ := appl_mem hl hm x
   have hle := least_ok a1 a2 pk.v0 pk.v1 pk.q0 pk.q1 _ pk.kl
   rw [least_appl hl hm x _ _ _ pk.kr] at hle
   have hch := chain_amt ho pk.v0 pk.v1 pk.q0 pk.q1 (partsL x)[k].kinds st0 ⟨by unfold st0; simp, by unfold st0; simp⟩
   dsimp only
   rw [dlt hk, cond_true, bnd (idx_nat hk), show (partsL x)[k] = ⟨(partsL x)[k].quantity, (partsL x)[k].value, (partsL x)[k].kinds⟩ from rfl, hle, wnext hk hpl, Option.bind_some]
   unfold partF
   rcases hch with ⟨s, g1, g2, _⟩ | g1
   ·rw [g1]
    dsimp only [outf]
    obtain ⟨b1, b2⟩ := g2
    cases hs : s.1
    ·refine ⟨rfl, fun a' h => ?_⟩
     injection h with h; subst h
     simp; omega
    ·have hap : app 40 st.1 [lineOf s] = some (st.1 ++ [lineOf s]) := by unfold app; rw [if_pos (by simp; omega)]
     rw [bne_self_eq_false, cond_false, cond_true, bnd hap]
     have hw : IntKind.i64.wrap (st.2 + (lineOf s).Amount) = st.2 + s.2.2.2.2.2 := i64s (by show -9223372036854775808 ≤ st.2 + s.2.2.2.2.2; omega) (by show st.2 + s.2.2.2.2.2 ≤ 9223372036854775807; omega)
     rw [hw]
     refine ⟨rfl, fun a' h => ?_⟩
     injection h with h; subst h
     simp; omega
   ·rw [g1]
    exact ⟨rfl, fun a' h => by cases h⟩)
  (by intro st _; dsimp only; rw [dnlt]; rfl) ([], 0) ⟨by simp, by simp, by simp⟩
 refine (bnd e).trans ?_
 cases hr : run (partF (oK l x)) (partsL x) 0 ([], 0) with
 | inr e => rfl
 | inl st =>
  show cond (decide (1000000000000 < st.2)) _ _ = some (finD st)
  unfold finD
  by_cases h : 1000000000000 < st.2
  ·rw [decide_eq_true h, if_pos h]; rfl
  ·rw [decide_eq_false h, if_neg h]; rfl
end SX
end Go.Proofs.YtfcecieppoljlaaGreatDoor
set_option maxRecDepth 100000
namespace Go.Proofs.YtfcecieppoljlaaGreatDoor
namespace SX
open Go
section
variable {o : Int → Option TMeasure} (ho : ∀ k m, o k = some m → MOK m ∧ m.Kind = k) {q v : Int} (hv : 0 ≤ v) (hv' : v ≤ 1000000000000) (hq : 0 ≤ q) (hq' : q ≤ 1000000000)
include ho hv hv' hq hq'
end
section
variable {l : List TMeasure} (hl : l.length ≤ 300) (hm : ∀ m ∈ l, MOK m) (x : TItem)
include hl hm
theorem oK_ok : ∀ k m, oK l x k = some m → MOK m ∧ m.Kind = k := by
 intro k m h
 rcases oK_cases hl hm x k with h' | ⟨m', h', h2, h3, _⟩
 ·rw [h'] at h; cases h
 ·rw [h'] at h; injection h with h; exact h ▸ ⟨h2, h3⟩
end
end SX
end Go.Proofs.YtfcecieppoljlaaGreatDoor
set_option maxRecDepth 100000
namespace Go.Proofs.YtfcecieppoljlaaGreatDoor
namespace SX
open Go
def sumF (_ : Nat) (y : TDebtLine) (t : Int) : Int ⊕ Unit := .inl (IntKind.i64.wrap (t + y.Amount))
def sumR (ls : List TDebtLine) : Int := outf id (fun _ => 0) (run sumF ls 0 0)
def RelO (n : Nat) (p : (List TDebtLine × Int) ⊕ Int) (r : Bool × List TDebtLine) : Prop := r.2.length ≤ n ∧ ((∃ st, p = .inl st ∧ r = (false, st.1) ∧ sumR st.1 = st.2 ∧ 0 ≤ st.2 ∧ st.2 ≤ (n : Int) * 1000000000000) ∨ (p = .inr 3 ∧ r.1 = true))
theorem RelO.up {n m : Nat} (h : n ≤ m) {p : (List TDebtLine × Int) ⊕ Int} {r : Bool × List TDebtLine} (hr : RelO n p r) : RelO m p r := by
 obtain ⟨a, b⟩ := hr
 refine ⟨by omega, ?_⟩
 rcases b with ⟨st, h1, h2, h3, h4, h5⟩ | b
 ·left; exact ⟨st, h1, h2, h3, h4, by omega⟩
 ·right; exact b
section
variable {l : List TMeasure} (hl : l.length ≤ 300) (hm : ∀ m ∈ l, MOK m) {x : TItem} (hx : ItOK x) {m1 : TMeasure} (h1 : oK l x 1 = some m1)
include hl hm hx h1
end
end SX
end Go.Proofs.YtfcecieppoljlaaGreatDoor
set_option maxRecDepth 100000
namespace Go.Proofs.YtfcecieppoljlaaGreatDoor
namespace SX
open Go
theorem code_gen {p : Tmade_Source} (hp : SOK p) {n : Nat} (hn : n = 2 ∨ n = 4 ∨ n = 6 ∨ n = 8) : ∃ l q, made_Source_Code p (n : Int) = some (strOfNums l, q) ∧ l.length = n ∧ Digs l ∧ SOK q := by
 unfold made_Source_Code
 obtain ⟨r, q, h1, h2, h3, h4⟩ := next_ok hp 2 (by omega) (by omega)
 rw [bnd h1]
 simp only
 rw [i64s (by omega) (by omega), wrap_u8 (by omega)]
 obtain ⟨t, h5, h6⟩ := loopF_run (body := fun (l5, l8, v9) => cond (decide (((l5.length : Nat) : Int) < (n : Int))) (Option.bind (made_Source_Next (⟨l8, v9⟩ : Tmade_Source) 3) (fun x19 => Option.bind (app 1 l5 [48, (IntKind.u8.wrap (IntKind.i64.wrap (49 + x19.1)))]) (fun l22 => some (.inl (l22, x19.2.L, x19.2.I))))) (some (.inr (l5, l8, v9))))
  (fun s : List Int × List Int × Int => (∃ j, s.1.length = 2 * j) ∧ 2 ≤ s.1.length ∧ s.1.length ≤ n ∧ Digs s.1 ∧ SOK ⟨s.2.1, s.2.2⟩) (fun s => 8 - s.1.length) (fun t : List Int × List Int × Int => t.1.length = n ∧ Digs t.1 ∧ SOK ⟨t.2.1, t.2.2⟩)
  (fun s hs => by
   obtain ⟨l, l8, v9⟩ := s
   obtain ⟨⟨j, a0⟩, a1, a1', a2, a3⟩ := hs
   simp only at a0 a1 a1' a2 a3 ⊢
   by_cases hl : ((l.length : Nat) : Int) < (n : Int)
   ·left
    rw [decide_eq_true hl]; simp only [cond_true]
    obtain ⟨r, q, b1, b2, b3, b4⟩ := next_ok a3 3 (by omega) (by omega)
    rw [bnd b1]; simp only
    rw [i64s (by omega) (by omega), wrap_u8 (by omega)]
    have e : app 1 l [48, 49 + r] = some (l ++ [48, 49 + r]) := by unfold app; rw [if_pos]; simp; omega
    rw [bnd e]
    refine ⟨_, rfl, ⟨⟨j + 1, by simp only [List.length_append, List.length_cons, List.length_nil]; omega⟩, by simp only [List.length_append, List.length_cons, List.length_nil]; omega, by simp only [List.length_append, List.length_cons, List.length_nil]; omega, ?_, b4⟩, by simp only [List.length_append, List.length_cons, List.length_nil]; omega⟩
    intro x hx
    simp only [List.mem_append, List.mem_cons, List.not_mem_nil, or_false] at hx
    rcases hx with hx | rfl | rfl
    ·exact a2 x hx
    ·omega
    ·omega
   ·right
    rw [decide_eq_false hl]
    exact ⟨_, rfl, by show l.length = n; omega, a2, a3⟩)
  FUEL ([57, 52 + r], q.L, q.I) ⟨⟨1, rfl⟩, by simp, by simp; omega, by intro x hx; simp only [List.mem_cons, List.not_mem_nil, or_false] at hx; omega, h4⟩ (fuel_big (by simp))
 obtain ⟨l, l8, v9⟩ := t
 rw [bnd h5]
 exact ⟨_, _, rfl, h6.1, h6.2.1, h6.2.2⟩
theorem rate_ok {p : Tmade_Source} (hp : SOK p) : ∃ r q, made_Source_rate p = some (r, q) ∧ 0 ≤ r ∧ r ≤ 1010000 ∧ SOK q := by
 unfold made_Source_rate
 obtain ⟨a, q, h1, h2, h3, h4⟩ := next_ok hp 4 (by omega) (by omega)
 rw [bnd h1]
 dsimp only
 cases decide (0 < a)
 ·obtain ⟨b, q2, g1, g2, g3, g4⟩ := next_ok h4 1000001 (by omega) (by omega)
  rw [cond_false, bnd g1]
  exact ⟨_, _, rfl, g2, by omega, g4⟩
 ·obtain ⟨b, q2, g1, g2, g3, g4⟩ := next_ok h4 101 (by omega) (by omega)
  rw [cond_true, bnd g1]
  dsimp only
  rw [i64s (by omega) (by omega)]
  exact ⟨_, _, rfl, by omega, by omega, g4⟩
theorem duty_ok {p : Tmade_Source} (hp : SOK p) : ∃ d q, made_Source_duty p = some (d, q) ∧ SOK q := by
 unfold made_Source_duty
 obtain ⟨a, q1, h1, h2, h3, h4⟩ := next_ok hp 3 (by omega) (by omega)
 rw [bnd h1]
 have k1 : ∃ l v w, (cond (decide (0 < (a, q1).1)) (Option.bind (made_Source_rate (a, q1).2) (fun x9 => some (x9.2.L, x9.2.I, (IntKind.i64.wrap (Int.tdiv x9.1 4))))) (some ((a, q1).2.L, (a, q1).2.I, 0))) = some (l, v, w) ∧ SOK ⟨l, v⟩ := by
  cases decide (0 < (a, q1).1)
  ·exact ⟨_, _, _, rfl, h4⟩
  ·obtain ⟨r, q, g1, _, _, g2⟩ := rate_ok h4
   dsimp only
   rw [cond_true, bnd g1]; exact ⟨_, _, _, rfl, g2⟩
 obtain ⟨l, v, w, k1, k2⟩ := k1
 rw [bnd k1]
 dsimp only
 obtain ⟨a2, q2, h1, h2, h3, h4⟩ := next_ok k2 3 (by omega) (by omega)
 rw [bnd h1]
 have k3 : ∃ (l : List Int) (v w z : Int), (cond ((a2, q2).1 == 1) (Option.bind (made_Source_Next (a2, q2).2 500) (fun x17 => Option.bind (made_Source_Next x17.2 5) (fun x20 => Option.bind (idx [1, 100, 1000, 1000000, 7] x20.1) (fun m21 => some (x20.2.L, x20.2.I, (IntKind.i64.wrap (1 + x17.1)), m21))))) (some ((a2, q2).2.L, (a2, q2).2.I, 0, 0))) = some (l, v, w, z) ∧ SOK ⟨l, v⟩ := by
  cases ((a2, q2).1 == 1)
  ·exact ⟨_, _, _, _, rfl, h4⟩
  ·obtain ⟨r, q, g1, g2, g3, g4⟩ := next_ok h4 500 (by omega) (by omega)
   obtain ⟨r', q', f1, f2, f3, f4⟩ := next_ok g4 5 (by omega) (by omega)
   dsimp only
   rw [cond_true, bnd g1, bnd f1]
   dsimp only
   rw [bnd (idx_int (l := [1, 100, 1000, 1000000, 7]) f2 (by simp; omega))]
   exact ⟨_, _, _, _, rfl, f4⟩
 obtain ⟨l, v, w, z, k3, k4⟩ := k3
 rw [bnd k3]
 dsimp only
 obtain ⟨a3, q3, h1, h2, h3, h4⟩ := next_ok k4 4 (by omega) (by omega)
 rw [bnd h1]
 have k5 : ∃ l v w z, (cond ((a3, q3).1 == 1) (Option.bind (made_Source_rate (a3, q3).2) (fun x30 => some (x30.2.L, x30.2.I, true, x30.1))) (some ((a3, q3).2.L, (a3, q3).2.I, false, 0))) = some (l, v, w, z) ∧ SOK ⟨l, v⟩ := by
  cases ((a3, q3).1 == 1)
  ·exact ⟨_, _, _, _, rfl, h4⟩
  ·obtain ⟨r, q, g1, _, _, g2⟩ := rate_ok h4
   dsimp only
   rw [cond_true, bnd g1]; exact ⟨_, _, _, _, rfl, g2⟩
 obtain ⟨l, v, w5, z5, k5, k6⟩ := k5
 rw [bnd k5]
 dsimp only
 obtain ⟨a4, q4, h1, h2, h3, h4⟩ := next_ok k6 4 (by omega) (by omega)
 rw [bnd h1]
 have k7 : ∃ l v w z, (cond ((a4, q4).1 == 1) (Option.bind (made_Source_rate (a4, q4).2) (fun x38 => cond w5 (some (x38.2.L, x38.2.I, true, (imin (IntKind.i64.wrap (Int.tdiv x38.1 8)) z5))) (some (x38.2.L, x38.2.I, true, (IntKind.i64.wrap (Int.tdiv x38.1 8)))))) (some ((a4, q4).2.L, (a4, q4).2.I, false, 0))) = some (l, v, w, z) ∧ SOK ⟨l, v⟩ := by
  cases ((a4, q4).1 == 1)
  ·exact ⟨_, _, _, _, rfl, h4⟩
  ·obtain ⟨r, q, g1, _, _, g2⟩ := rate_ok h4
   dsimp only
   rw [cond_true, bnd g1]
   cases w5
   ·exact ⟨_, _, _, _, rfl, g2⟩
   ·exact ⟨_, _, _, _, rfl, g2⟩
 obtain ⟨l, v, w, z, k7, k8⟩ := k7
 rw [bnd k7]
 exact ⟨_, _, rfl, k8⟩
theorem bind_run {S T β : Type} {body : S → Option (S ⊕ T)} {k : T → Option β} {s : S} {Z : Option β → Prop} (P : S → Prop) (μ : S → Nat) (Q : T → Prop) (hs : P s) (hμ : μ s < FUEL) (hk : ∀ t, Q t → Z (k t)) (step : ∀ s, P s → (∃ s', body s = some (.inl s') ∧ P s' ∧ μ s' < μ s) ∨ ∃ t, body s = some (.inr t) ∧ Q t) : Z ((loopF body FUEL s).bind k) := by
 obtain ⟨t, e, h⟩ := loopF_run P μ Q step FUEL s hs hμ
 rw [bnd e]; exact hk t h
theorem ctry_loop (b : Int) : ∃ t, loopF (S := Int × (List ByteArray)) (T := ((List ByteArray))) (fun (v60, l62) => cond ((decide (v60 < 3)) && (decide (7 < b))) (Option.bind (Option.bind (ge0 v60) (fun u80 => cond ((iand .i64 (ishr .i64 b v60) 1) == 1) (Option.bind (made_Countries) (fun x82 => Option.bind (idx x82 v60) (fun m83 => Option.bind (app 16 l62 [m83]) (fun l86 => some l86)))) (some l62))) (fun l78 => some (.inl ((IntKind.i64.wrap (v60 + 1)), l78)))) (some (.inr l62))) FUEL (0, ([] : List ByteArray)) = some t ∧ t.length ≤ 3 := by
 refine loopF_run (fun s : Int × List ByteArray => 0 ≤ s.1 ∧ s.1 ≤ 3 ∧ (s.2.length : Int) ≤ s.1) (fun s => (3 - s.1).toNat) (fun t : List ByteArray => t.length ≤ 3) ?_ FUEL (0, []) ⟨by simp, by simp, by simp⟩ (fuel_big (by simp))
 rintro ⟨k, ls⟩ ⟨h1, h2, h3⟩
 dsimp only at h1 h2 h3 ⊢
 by_cases hk : k < 3
 ·cases decide (7 < b)
  ·right; rw [Bool.and_false]; exact ⟨_, rfl, by omega⟩
  ·left
   rw [decide_eq_true hk, Bool.and_true, cond_true, bnd (ge0_ok h1), i64s (by omega) (by omega)]
   cases ((iand .i64 (ishr .i64 b k) 1) == 1)
   ·exact ⟨_, rfl, ⟨by dsimp only; omega, by dsimp only; omega, by dsimp only; omega⟩, by dsimp only; omega⟩
   ·obtain ⟨s, hs, _⟩ := country_ok (k := k) h1 (by omega) (l := [(⟨#[65, 65]⟩ : ByteArray), (⟨#[66, 66]⟩ : ByteArray), (⟨#[67, 67]⟩ : ByteArray), (⟨#[68, 68]⟩ : ByteArray), (⟨#[69, 69]⟩ : ByteArray), (⟨#[70, 70]⟩ : ByteArray)]) rfl
    have ha : app 16 ls [s] = some (ls ++ [s]) := by unfold app; rw [if_pos (by simp; omega)]
    rw [cond_true, bnd (show made_Countries = some [(⟨#[65, 65]⟩ : ByteArray), (⟨#[66, 66]⟩ : ByteArray), (⟨#[67, 67]⟩ : ByteArray), (⟨#[68, 68]⟩ : ByteArray), (⟨#[69, 69]⟩ : ByteArray), (⟨#[70, 70]⟩ : ByteArray)] from rfl), bnd hs, bnd ha]
    exact ⟨_, rfl, ⟨by dsimp only; omega, by dsimp only; omega, by simp; omega⟩, by dsimp only; omega⟩
 ·right
  rw [decide_eq_false hk]; exact ⟨_, rfl, by omega⟩
theorem strOf_size (l : List Int) : (strOfNums l).size = l.length := by simp [strOfNums, ByteArray.size]
def MsB (n : Nat) (ms : List TMeasure) : Prop := ms.length ≤ n ∧ ∀ m ∈ ms, m.Prefix.size ≤ 8
theorem measures_ok (p : List Int) : ∃ ms, made_Measures p = some ms ∧ MsB 15 ms := by
 unfold made_Measures
 obtain ⟨x, h1, h2⟩ := cut_ok p 300 (by omega) (by omega)
 rw [bnd h1]
 have hs : SOK ⟨x, 0⟩ := ⟨by simp, by simp, by simp only; omega⟩
 obtain ⟨a, q, h3, h4, h5, h6⟩ := next_ok hs 8 (by omega) (by omega)
 rw [bnd h3]
 have k1 : ∃ ms l v, (cond (decide (0 < (a, q).1)) (Option.bind (made_Source_duty (a, q).2) (fun x12 => Option.bind (made_Source_duty x12.2) (fun x13 => Option.bind (app 144 ([] : List TMeasure) [(⟨1, 1, (⟨#[57, 52]⟩ : ByteArray), [], 0, 0, 36525, (-1), x12.1⟩ : TMeasure), (⟨2, 1, (⟨#[57, 53]⟩ : ByteArray), [], 0, 0, 25, (-1), x13.1⟩ : TMeasure)]) (fun l17 => some (l17, x13.2.L, x13.2.I))))) (some (([] : (List TMeasure)), (a, q).2.L, (a, q).2.I))) = some (ms, l, v) ∧ SOK ⟨l, v⟩ ∧ MsB 2 ms := by
  cases decide (0 < (a, q).1)
  ·exact ⟨_, _, _, rfl, h6, by simp, by intro m h; cases h⟩
  ·obtain ⟨d, q1, g1, g2⟩ := duty_ok h6
   obtain ⟨d', q2, f1, f2⟩ := duty_ok g2
   dsimp only
   rw [cond_true, bnd g1, bnd f1]
   refine ⟨_, _, _, rfl, f2, by simp, ?_⟩
   intro m hm
   simp only [List.nil_append, List.mem_cons, List.not_mem_nil, or_false] at hm
   rcases hm with rfl | rfl <;> (show (2 : Nat) ≤ 8; omega)
 obtain ⟨ms, l, v, k1, k2, k3⟩ := k1
 rw [bnd k1]
 dsimp only
 obtain ⟨n, q2, h1, h2, h3, h4⟩ := next_ok k2 13 (by omega) (by omega)
 rw [bnd h1]
 refine bind_run (Z := fun o => ∃ ms, o = some ms ∧ MsB 15 ms) (fun s : List TMeasure × Int × List Int × Int => 0 ≤ s.2.1 ∧ s.2.1 ≤ n ∧ SOK ⟨s.2.2.1, s.2.2.2⟩ ∧ MsB (2 + s.2.1.toNat) s.1) (fun s => (13 - s.2.1).toNat) (MsB 15) ⟨by simp, by simp; omega, h4, by simpa using k3⟩ (fuel_big (by simp)) (fun t ht => ⟨t, rfl, ht⟩) ?_
 ·rintro ⟨ms, i, ll, vv⟩ ⟨a1, a2, a3, a4⟩
  dsimp only at a1 a2 a3 a4 ⊢
  by_cases hi : i < n
  ·left
   rw [decide_eq_true hi, cond_true]
   obtain ⟨b1, s1, c1, d1, e1, f1⟩ := next_ok a3 6 (by omega) (by omega)
   rw [bnd c1]; dsimp only
   obtain ⟨b2, s2, c2, d2, e2, f2⟩ := next_ok f1 4 (by omega) (by omega)
   rw [bnd c2]; dsimp only
   rw [i64s (r := 2 * b2) (by omega) (by omega), i64s (r := 2 + 2 * b2) (by omega) (by omega)]
   obtain ⟨cl, s3, c3, d3, e3, f3⟩ := code_gen f2 (n := (2 + 2 * b2).toNat) (by omega)
   rw [show (((2 + 2 * b2).toNat : Nat) : Int) = 2 + 2 * b2 by omega] at c3
   rw [bnd c3]; dsimp only
   obtain ⟨b4, s4, c4, d4, e4, f4⟩ := next_ok f3 20 (by omega) (by omega)
   rw [bnd c4]; dsimp only
   obtain ⟨b5, s5, c5, f5⟩ := duty_ok f4
   rw [bnd c5]; dsimp only
   obtain ⟨b6, s6, c6, d6, e6, f6⟩ := next_ok f5 30 (by omega) (by omega)
   rw [bnd c6]; dsimp only
   obtain ⟨b7, s7, c7, d7, e7, f7⟩ := next_ok f6 3 (by omega) (by omega)
   rw [bnd c7]; dsimp only
   rw [i64s (r := b4 + 1) (by omega) (by omega)]
   have k8 : ∃ l v w, (cond (b7 == 1) (Option.bind (made_Source_Next s7 (b4 + 1)) (fun x50 => some (x50.2.L, x50.2.I, x50.1))) (some (s7.L, s7.I, (-1)))) = some (l, v, w) ∧ SOK ⟨l, v⟩ := by
    cases (b7 == 1)
    ·exact ⟨_, _, _, rfl, f7⟩
    ·obtain ⟨r, q, g1, _, _, g2⟩ := next_ok f7 (b4 + 1) (by omega) (by omega)
     rw [cond_true, bnd g1]; exact ⟨_, _, _, rfl, g2⟩
   obtain ⟨l8, v8, w8, k8, f8⟩ := k8
   rw [bnd k8]; dsimp only
   obtain ⟨b9, s9, c9, d9, e9, f9⟩ := next_ok f8 3 (by omega) (by omega)
   rw [bnd c9]; dsimp only
   have k10 : ∃ l v w, (cond (b9 == 1) (Option.bind (made_Source_Next s9 2) (fun x58 => some (x58.2.L, x58.2.I, (IntKind.i64.wrap (1 + x58.1))))) (some (s9.L, s9.I, 0))) = some (l, v, w) ∧ SOK ⟨l, v⟩ := by
    cases (b9 == 1)
    ·exact ⟨_, _, _, rfl, f9⟩
    ·obtain ⟨r, q, g1, _, _, g2⟩ := next_ok f9 2 (by omega) (by omega)
     rw [cond_true, bnd g1]; exact ⟨_, _, _, rfl, g2⟩
   obtain ⟨l10, v10, w10, k10, f10⟩ := k10
   rw [bnd k10]; dsimp only
   obtain ⟨b11, s11, c11, d11, e11, f11⟩ := next_ok f10 16 (by omega) (by omega)
   rw [bnd c11]; dsimp only
   obtain ⟨t, c12, d12⟩ := ctry_loop b11
   rw [bnd c12]
   have hap : ∀ m : TMeasure, app 144 ms [m] = some (ms ++ [m]) := by
    intro m; have := a4.1; unfold app; rw [if_pos (by simp; omega)]
   rw [bnd (hap _)]
   rw [i64s (r := i + 1) (by omega) (by omega)]
   refine ⟨_, rfl, ⟨by dsimp only; omega, by dsimp only; omega, f11, ?_⟩, by dsimp only; omega⟩
   refine ⟨by have := a4.1; simp; omega, ?_⟩
   intro m hm
   simp only [List.mem_append, List.mem_cons, List.not_mem_nil, or_false] at hm
   rcases hm with hm | rfl
   ·exact a4.2 m hm
   ·show (strOfNums cl).size ≤ 8; rw [strOf_size]; omega
  ·right
   rw [decide_eq_false hi]
   exact ⟨_, rfl, by have := a4.1; omega, a4.2⟩
end SX
end Go.Proofs.YtfcecieppoljlaaGreatDoor
set_option maxRecDepth 100000
namespace Go.Proofs.YtfcecieppoljlaaGreatDoor
namespace SX
open Go
theorem total_prog (l : List TMeasure) (x : TItem) (hx : ∃ e, assess_Validate x = some e) : assess_Total l x = some ((assessS l x).1.Total, (assessS l x).2) := by
 unfold assess_Total; rw [bnd (assess_prog l x hx)]
end SX
end Go.Proofs.YtfcecieppoljlaaGreatDoor
set_option maxRecDepth 100000
namespace Go.Proofs.YtfcecieppoljlaaGreatDoor
namespace SX
open Go
def pF (Q V : Int) (_ : Nat) (y : TDebtLine) (t : Int × Int × Int) : (Int × Int × Int) ⊕ Unit := if y.Kind ≤ 4 then .inl (IntKind.i64.wrap (t.1 + y.Quantity), IntKind.i64.wrap (t.2.1 + y.Value), IntKind.i64.wrap (t.2.2 + y.Amount)) else if y.Quantity = Q ∧ y.Value = V then .inl (t.1, t.2.1, IntKind.i64.wrap (t.2.2 + y.Amount)) else .inr ()
structure PI (Q V : Int) (n : Nat) (st : List TDebtLine × Int) (qs vs : Int) : Prop where
 eq : run (pF Q V) st.1 0 (0, 0, 0) = .inl (qs, vs, st.2)
 t0 : 0 ≤ st.2
 t1 : st.2 ≤ (n : Int) * 1000000000000
 q0 : 0 ≤ qs
 q1 : qs ≤ 1000000000
 v0 : 0 ≤ vs
 v1 : vs ≤ 1000000000000
theorem PI.up {Q V : Int} {n m : Nat} (hm : n ≤ m) {st : List TDebtLine × Int} {qs vs : Int} (h : PI Q V n st qs vs) : PI Q V m st qs vs := ⟨h.eq, h.t0, by have := h.t1; omega, h.q0, h.q1, h.v0, h.v1⟩
section
variable {o : Int → Option TMeasure} (ho : ∀ k m, o k = some m → MOK m ∧ m.Kind = k)
include ho
end
theorem assessS_ok {l : List TMeasure} {x : TItem} (h : (assessS l x).2 = 0) (hx : assess_Validate x = some 0) : l.length ≤ 300 ∧ (∀ m ∈ l, MOK m) ∧ ItOK x ∧ (∃ m1, oK l x 1 = some m1) ∧ ∃ st, run (partF (oK l x)) (partsL x) 0 ([], 0) = .inl st ∧ assessS l x = (⟨st.1, st.2⟩, 0) := by
 have hx2 := itOK hx
 unfold assessS at h ⊢
 split at h
 ·rename_i h1; exact absurd h h1
 rename_i h1
 obtain ⟨hl, hm⟩ := msErr_ok (Decidable.not_not.1 h1)
 split at h
 ·rename_i h2; exact absurd h h2
 rename_i h2
 split at h
 ·cases h
 rename_i h3
 refine ⟨hl, hm, hx2, ?_, ?_⟩
 ·cases ho : oK l x 1 with
  | none => exact absurd ho h3
  | some m => exact ⟨m, rfl⟩
 ·rw [if_neg h1, if_neg h2, if_neg h3]
  cases hr : run (partF (oK l x)) (partsL x) 0 ([], 0) with
  | inr e =>
   rw [hr] at h
   change e = 0 at h
   have ho := oK_ok hl hm x
   have : ∀ (ps : List Tassess_part) (k : Nat) (st : List TDebtLine × Int) (e : Int), (∀ p ∈ ps, PartOK p) → run (partF (oK l x)) ps k st = .inr e → e = 3 := by
    intro ps
    induction ps with
    | nil => intro k st e _ h; cases h
    | cons p ps ih =>
     intro k st e hp h
     rw [run_cons] at h
     have pk := hp p (by simp)
     cases hpf : partF (oK l x) k p st with
     | inl s => rw [hpf] at h; exact ih _ _ _ (fun q hq => hp q (by simp [hq])) h
     | inr z =>
      rw [hpf] at h; change Sum.inr z = Sum.inr e at h; injection h with h; subst h
      unfold partF at hpf
      rcases chain_amt (o := oK l x) (fun k m hm => (ho k m hm).1) pk.v0 pk.v1 pk.q0 pk.q1 p.kinds st0 ⟨by simp [st0], by simp [st0]⟩ with ⟨s2, f1, f2, f3⟩ | f1
      ·rw [f1] at hpf; cases hpf
      ·rw [f1] at hpf; injection hpf with hpf; exact hpf.symm
   have := this _ _ _ _ (parts_all hx2).2 hr
   omega
  | inl st =>
   rw [hr] at h
   change (finD st).2 = 0 at h
   refine ⟨st, rfl, ?_⟩
   show finD st = _
   unfold finD at h ⊢
   split at h
   ·cases h
   ·rename_i h4; rw [if_neg h4]
end SX
end Go.Proofs.YtfcecieppoljlaaGreatDoor
set_option maxRecDepth 100000
namespace Go.Proofs.YtfcecieppoljlaaGreatDoor
namespace SX
open Go
theorem chain_lo {o : Int → Option TMeasure} {q v : Int} : ∀ (ks : List Int) (st s : LS), chain o q v ks st = .inl s → (st.1 = true → s.1 = true ∧ s.2.2.2.2.2 ≤ st.2.2.2.2.2) ∧ ∀ k ∈ ks, ∀ m, o k = some m → s.1 = true ∧ s.2.2.2.2.2 ≤ (evN m.Duty v q).1 := by
 intro ks
 induction ks with
 | nil => intro st s h; injection h with h; subst h; exact ⟨fun h => ⟨h, Int.le_refl _⟩, fun k hk => by cases hk⟩
 | cons k ks ih =>
  intro st s h
  change bindS (stepO q v (o k) st) (chain o q v ks) = .inl s at h
  cases ho : o k with
  | none =>
   rw [ho] at h
   obtain ⟨a, b⟩ := ih st s h
   refine ⟨a, fun k' hk' m hm => ?_⟩
   rcases List.mem_cons.1 hk' with rfl | hk'
   ·rw [ho] at hm; cases hm
   ·exact b k' hk' m hm
  | some m0 =>
   rw [ho] at h
   change bindS (stepM q v st m0) (chain o q v ks) = .inl s at h
   unfold stepM at h
   split at h
   ·cases h
   split at h
   ·rename_i hc
    obtain ⟨a, b⟩ := ih _ s h
    obtain ⟨a1, a2⟩ := a rfl
    dsimp only at a2
    refine ⟨fun hs => ⟨a1, ?_⟩, fun k' hk' m hm => ?_⟩
    ·rcases hc with hc | hc
     ·rw [hs] at hc; cases hc
     ·omega
    ·rcases List.mem_cons.1 hk' with rfl | hk'
     ·rw [ho] at hm; injection hm with hm; subst hm; exact ⟨a1, a2⟩
     ·exact b k' hk' m hm
   ·rename_i hc
    obtain ⟨a, b⟩ := ih _ s h
    have hs : st.1 = true := by cases hs : st.1; exact absurd (.inl hs) hc; rfl
    have h2 : ¬ (evN m0.Duty v q).1 < st.2.2.2.2.2 := fun h => hc (.inr h)
    refine ⟨a, fun k' hk' m hm => ?_⟩
    rcases List.mem_cons.1 hk' with rfl | hk'
    ·rw [ho] at hm; injection hm with hm; subst hm; obtain ⟨a1, a2⟩ := a hs; exact ⟨a1, by omega⟩
    ·exact b k' hk' m hm
theorem chain_hi {o : Int → Option TMeasure} {q v : Int} : ∀ (ks : List Int) (st s : LS), chain o q v ks st = .inl s → s = st ∨ ∃ k ∈ ks, ∃ m, o k = some m ∧ s.2.2.2.2.2 = (evN m.Duty v q).1 := by
 intro ks
 induction ks with
 | nil => intro st s h; injection h with h; exact .inl h.symm
 | cons k ks ih =>
  intro st s h
  change bindS (stepO q v (o k) st) (chain o q v ks) = .inl s at h
  cases ho : o k with
  | none =>
   rw [ho] at h
   rcases ih st s h with h | ⟨k', h1, h2⟩
   ·exact .inl h
   ·exact .inr ⟨k', List.mem_cons_of_mem _ h1, h2⟩
  | some m0 =>
   rw [ho] at h
   change bindS (stepM q v st m0) (chain o q v ks) = .inl s at h
   unfold stepM at h
   split at h
   ·cases h
   split at h
   ·rcases ih _ s h with h | ⟨k', h1, h2⟩
    ·right; exact ⟨k, List.mem_cons_self, m0, ho, by rw [h]⟩
    ·exact .inr ⟨k', List.mem_cons_of_mem _ h1, h2⟩
   ·rcases ih _ s h with h | ⟨k', h1, h2⟩
    ·exact .inl h
    ·exact .inr ⟨k', List.mem_cons_of_mem _ h1, h2⟩
def amt (s : LS) : Int := if s.1 = true then s.2.2.2.2.2 else 0
def RLe (o o' : Int → Option TMeasure) (p p' : Tassess_part) : Prop := ∀ s s', chain o p.quantity p.value p.kinds st0 = .inl s → chain o' p'.quantity p'.value p'.kinds st0 = .inl s' → amt s' ≤ amt s
def Pw (R : Tassess_part → Tassess_part → Prop) : List Tassess_part → List Tassess_part → Prop
 | [], [] => True
 | a :: xs, b :: ys => R a b ∧ Pw R xs ys
 | [], _ :: _ => False
 | _ :: _, [] => False
theorem partF_amt {o : Int → Option TMeasure} {j : Nat} {p : Tassess_part} {a a' : List TDebtLine × Int} (h : partF o j p a = .inl a') : ∃ s, chain o p.quantity p.value p.kinds st0 = .inl s ∧ a'.2 = a.2 + amt s := by
 unfold partF at h
 cases hc : chain o p.quantity p.value p.kinds st0 with
 | inr e => rw [hc] at h; cases h
 | inl s =>
  rw [hc] at h
  injection h with h
  refine ⟨s, rfl, ?_⟩
  subst h
  unfold amt
  split <;> simp
theorem run_le {o o' : Int → Option TMeasure} : ∀ (ps ps' : List Tassess_part), Pw (RLe o o') ps ps' → ∀ (j j' : Nat) (a a' st st' : List TDebtLine × Int), run (partF o) ps j a = .inl st → run (partF o') ps' j' a' = .inl st' → a'.2 ≤ a.2 → st'.2 ≤ st.2 := by
 intro ps
 induction ps with
 | nil =>
  intro ps' h j j' a a' st st' e e' ha
  cases ps' with
  | nil => injection e with e; injection e' with e'; subst e; subst e'; exact ha
  | cons y ys => exact h.elim
 | cons p ps ih =>
  intro ps' h j j' a a' st st' e e' ha
  cases ps' with
  | nil => exact h.elim
  | cons p' ps' =>
   obtain ⟨h1, h2⟩ := h
   rw [run_cons] at e e'
   cases hp : partF o j p a with
   | inr r => rw [hp] at e; cases e
   | inl b =>
    cases hp' : partF o' j' p' a' with
    | inr r => rw [hp'] at e'; cases e'
    | inl b' =>
     rw [hp] at e; rw [hp'] at e'
     obtain ⟨s, c1, c2⟩ := partF_amt hp
     obtain ⟨s', d1, d2⟩ := partF_amt hp'
     have := h1 s s' c1 d1
     exact ih ps' h2 _ _ _ _ _ _ e e' (by omega)
theorem rle_low {o o' : Int → Option TMeasure} {q v : Int} {ks ks' : List Int} {m1 : TMeasure} (h1 : o 1 = some m1) (hk : (1 : Int) ∈ ks) (hs : ∀ k ∈ ks, ∀ m, o k = some m → k ∈ ks' ∧ o' k = some m) : RLe o o' ⟨q, v, ks⟩ ⟨q, v, ks'⟩ := by
 intro s s' e e'
 have a := (chain_lo _ _ _ e).2 1 hk m1 h1
 rcases chain_hi _ _ _ e with h | ⟨k, k1, m, k2, k3⟩
 ·subst h; cases a.1
 ·obtain ⟨b1, b2⟩ := hs k k1 m k2
  have b := (chain_lo _ _ _ e').2 k b1 m b2
  unfold amt
  rw [if_pos a.1, if_pos b.1]
  dsimp only at k3 b
  omega
theorem chain_ext {o o' : Int → Option TMeasure} {q v : Int} : ∀ (ks : List Int) (st : LS), (∀ k ∈ ks, o' k = o k) → chain o' q v ks st = chain o q v ks st := by
 intro ks
 induction ks with
 | nil => intro st _; rfl
 | cons k ks ih =>
  intro st h
  show bindS (stepO q v (o' k) st) (chain o' q v ks) = bindS (stepO q v (o k) st) (chain o q v ks)
  rw [h k List.mem_cons_self]
  cases stepO q v (o k) st with
  | inr e => rfl
  | inl s => exact ih s (fun k hk => h k (List.mem_cons_of_mem _ hk))
theorem rle_eq {o o' : Int → Option TMeasure} {q v : Int} {ks : List Int} (h : ∀ k ∈ ks, o' k = o k) : RLe o o' ⟨q, v, ks⟩ ⟨q, v, ks⟩ := by
 intro s s' e e'
 dsimp only at e e'
 rw [chain_ext ks st0 h, e] at e'
 injection e' with e'
 rw [e']; exact Int.le_refl _
def wp (x : TItem) (b : Bool) : TItem := ⟨x.Code, x.Origin, b, x.Company, x.Day, x.Quantity, x.Value, x.Granted⟩
theorem pw_app {R : Tassess_part → Tassess_part → Prop} : ∀ (a a' b b' : List Tassess_part), Pw R a a' → Pw R b b' → Pw R (a ++ b) (a' ++ b') := by
 intro a
 induction a with
 | nil => intro a' b b' h h'; cases a' with
  | nil => exact h'
  | cons y ys => exact h.elim
 | cons x xs ih => intro a' b b' h h'; cases a' with
  | nil => exact h.elim
  | cons y ys => exact ⟨h.1, ih ys b b' h.2 h'⟩
theorem parts_le {o o' : Int → Option TMeasure} {m1 : TMeasure} (h1 : o 1 = some m1) (hlow : ∀ k, k ≤ 4 → ∀ m, o k = some m → o' k = some m) (h5 : o' 5 = o 5) (h6 : o' 6 = o 6) (x : TItem) {b b' : Bool} (hb : b = true → b' = true) : Pw (RLe o o') (partsL (wp x b)) (partsL (wp x b')) := by
 have e1 : val2 (wp x b) = val2 (wp x b') := rfl
 have k1 : (1 : Int) ∈ kinds3 (wp x b) := by unfold kinds3; split <;> simp
 have k2 : ∀ k ∈ kinds3 (wp x b), k ≤ 4 ∧ k ∈ kinds3 (wp x b') := by
  intro k hk
  unfold kinds3 at hk ⊢
  change k ∈ (if b = true then [1, 2, 3] else [1, 2]) at hk
  change k ≤ 4 ∧ k ∈ (if b' = true then [1, 2, 3] else [1, 2])
  split at hk
  ·rename_i h; rw [if_pos (hb h)]; exact ⟨by simp at hk; omega, hk⟩
  ·split
   ·simp at hk ⊢; omega
   ·simp at hk ⊢; omega
 unfold partsL
 rw [e1]
 refine pw_app _ _ _ _ (pw_app _ _ _ _ ?_ ?_) ?_
 ·show Pw _ (if 0 < x.Granted then _ else _) (if 0 < x.Granted then _ else _)
  split
  ·refine ⟨rle_low h1 (by simp [k1]) ?_, trivial⟩
   intro k hk m hm
   rcases List.mem_append.1 hk with hk | hk
   ·exact ⟨List.mem_append.2 (.inl (k2 k hk).2), hlow k (k2 k hk).1 m hm⟩
   ·exact ⟨List.mem_append.2 (.inr hk), hlow k (by simp at hk; omega) m hm⟩
  ·trivial
 ·show Pw _ (if 0 < x.Quantity - x.Granted ∨ x.Quantity = 0 then _ else _) (if 0 < x.Quantity - x.Granted ∨ x.Quantity = 0 then _ else _)
  split
  ·exact ⟨rle_low h1 k1 (fun k hk m hm => ⟨(k2 k hk).2, hlow k (k2 k hk).1 m hm⟩), trivial⟩
  ·trivial
 ·refine ⟨rle_eq ?_, rle_eq ?_, trivial⟩
  ·intro k hk; simp at hk; subst hk; exact h5
  ·intro k hk; simp at hk; subst hk; exact h6
theorem run_snoc {l : List TMeasure} {z : TMeasure} {c : TMeasure → Bool} (hz : c z = false) : ∀ (xs : List TMeasure) (k : Nat) (b : Int), b < (k : Int) → k + xs.length = l.length → ∃ b', run (pickF (l ++ [z]) c) (xs ++ [z]) k b = .inl b' ∧ run (pickF l c) xs k b = .inl b' ∧ b' < (l.length : Int) := by
 intro xs
 induction xs with
 | nil =>
  intro k b hb hk
  refine ⟨b, ?_, rfl, by simp at hk; omega⟩
  show run (pickF (l ++ [z]) c) [z] k b = .inl b
  rw [run_cons]
  show run (pickF (l ++ [z]) c) [] (k + 1) (pickB (l ++ [z]) c k z b) = .inl b
  unfold pickB
  rw [if_neg (by simp [hz])]
  rfl
 | cons y ys ih =>
  intro k b hb hk
  rw [List.cons_append, run_cons, run_cons]
  have e : pickB (l ++ [z]) c k y b = pickB l c k y b := by
   unfold pickB
   by_cases h0 : b < 0
   ·simp [h0]
   ·have : (l ++ [z]).getD b.toNat y = l.getD b.toNat y := by
     rw [List.getD_eq_getElem?_getD, List.getD_eq_getElem?_getD, List.getElem?_append_left (by simp at hk; omega)]
    rw [this]
  show ∃ b', run (pickF (l ++ [z]) c) (ys ++ [z]) (k + 1) (pickB (l ++ [z]) c k y b) = .inl b' ∧ run (pickF l c) ys (k + 1) (pickB l c k y b) = .inl b' ∧ _
  rw [e]
  refine ih (k + 1) _ ?_ (by simp at hk; omega)
  unfold pickB; split <;> omega
theorem ofM_snoc (l : List TMeasure) {z : TMeasure} {c : TMeasure → Bool} (hz : c z = false) : ofM (l ++ [z]) c = ofM l c := by
 obtain ⟨b, h1, h2, h3⟩ := run_snoc (l := l) hz l 0 (-1) (by simp) (by simp)
 have e1 : bestI (l ++ [z]) c = b := by unfold bestI; rw [h1]; rfl
 have e2 : bestI l c = b := by unfold bestI; rw [h2]; rfl
 unfold ofM
 rw [e1, e2]
 by_cases h : b < 0
 ·rw [if_pos h, if_pos h]
 ·rw [if_neg h, if_neg h, List.getElem?_append_left (by omega)]
theorem wp_valid {x : TItem} (hv : assess_Validate x = some 0) (b : Bool) : assess_Validate (wp x b) = some 0 := hv
theorem assessS_err {l : List TMeasure} {x : TItem} (hx : assess_Validate x = some 0) (b b' : Bool) (h : (assessS l (wp x b)).2 ≠ 0) : (assessS l (wp x b')).2 = (assessS l (wp x b)).2 ∨ (assessS l (wp x b)).2 = 3 := by
 have hi : ∀ b, itErr (wp x b) = 0 := fun b => by unfold itErr; rw [wp_valid hx b]; rfl
 have ho : oK l (wp x b') 1 = oK l (wp x b) 1 := rfl
 have un : ∀ b, assessS l (wp x b) = if msErr l ≠ 0 then errD (msErr l) else if oK l (wp x b) 1 = none then errD 7 else outf finD errD (run (partF (oK l (wp x b))) (partsL (wp x b)) 0 ([], 0)) := fun b => by
  unfold assessS; rw [hi b]; rfl
 rw [un b] at h ⊢
 rw [un b', ho]
 by_cases h1 : msErr l ≠ 0
 ·left; rw [if_pos h1, if_pos h1]
 rw [if_neg h1] at h ⊢
 rw [if_neg h1]
 obtain ⟨hl, hm⟩ := msErr_ok (Decidable.not_not.1 h1)
 by_cases h3 : oK l (wp x b) 1 = none
 ·left; rw [if_pos h3, if_pos h3]
 rw [if_neg h3] at h ⊢
 rw [if_neg h3]
 right
 cases hr : run (partF (oK l (wp x b))) (partsL (wp x b)) 0 ([], 0) with
 | inr e =>
  have ho := oK_ok hl hm (wp x b)
  have : ∀ (ps : List Tassess_part) (k : Nat) (st : List TDebtLine × Int) (e : Int), (∀ p ∈ ps, PartOK p) → run (partF (oK l (wp x b))) ps k st = .inr e → e = 3 := by
   intro ps
   induction ps with
   | nil => intro k st e _ h; cases h
   | cons p ps ih =>
    intro k st e hp h
    rw [run_cons] at h
    have pk := hp p (by simp)
    cases hpf : partF (oK l (wp x b)) k p st with
    | inl s => rw [hpf] at h; exact ih _ _ _ (fun q hq => hp q (by simp [hq])) h
    | inr z =>
     rw [hpf] at h; change Sum.inr z = Sum.inr e at h; injection h with h; subst h
     unfold partF at hpf
     rcases chain_amt (o := oK l (wp x b)) (fun k m hm => (ho k m hm).1) pk.v0 pk.v1 pk.q0 pk.q1 p.kinds st0 ⟨by simp [st0], by simp [st0]⟩ with ⟨s2, f1, f2, f3⟩ | f1
     ·rw [f1] at hpf; cases hpf
     ·rw [f1] at hpf; injection hpf with hpf; exact hpf.symm
  exact this _ _ _ _ (parts_all (itOK (wp_valid hx b))).2 hr
 | inl st =>
  rw [hr] at h
  change (finD st).2 ≠ 0 at h
  show (finD st).2 = 3
  unfold finD at h ⊢
  split at h
  ·rename_i h4; rw [if_pos h4]; rfl
  ·exact absurd rfl h
theorem relief_proof {l : List TMeasure} {x : TItem} (hx : assess_Validate x = some 0) (h0 : (assessS l (wp x false)).2 = 0) (h1 : (assessS l (wp x true)).2 = 0) : (assessS l (wp x true)).1.Total ≤ (assessS l (wp x false)).1.Total := by
 obtain ⟨_, _, _, ⟨m1, o1⟩, st, r1, e1⟩ := assessS_ok h0 (wp_valid hx false)
 obtain ⟨_, _, _, _, st', r2, e2⟩ := assessS_ok h1 (wp_valid hx true)
 rw [e1, e2]
 exact run_le _ _ (parts_le o1 (fun _ _ _ h => h) rfl rfl x (fun h => by cases h)) _ _ _ _ _ _ r1 r2 (Int.le_refl _)
theorem relief_more {l : List TMeasure} {x : TItem} {z : TMeasure} (hx : assess_Validate x = some 0) (hk : ∀ m ∈ l, m.Kind ≠ z.Kind) (h0 : (assessS l (wp x true)).2 = 0) (h1 : (assessS (l ++ [z]) (wp x true)).2 = 0) (z1 : 2 ≤ z.Kind) (z2 : z.Kind ≤ 4) : (assessS (l ++ [z]) (wp x true)).1.Total ≤ (assessS l (wp x true)).1.Total := by
 obtain ⟨hl, hm, _, ⟨m1, o1⟩, st, r1, e1⟩ := assessS_ok h0 (wp_valid hx true)
 obtain ⟨_, _, _, _, st', r2, e2⟩ := assessS_ok h1 (wp_valid hx true)
 rw [e1, e2]
 have heq : ∀ k, k ≠ z.Kind → oK (l ++ [z]) (wp x true) k = oK l (wp x true) k := by
  intro k hk
  refine ofM_snoc l ?_
  unfold wants
  rw [show (z.Kind == k) = false by simp; exact fun h => hk h.symm]; rfl
 refine run_le _ _ (parts_le o1 ?_ (heq 5 (by omega)) (heq 6 (by omega)) x (fun h => h)) _ _ _ _ _ _ r1 r2 (Int.le_refl _)
 intro k _ m h
 by_cases e : k = z.Kind
 ·rcases oK_cases hl hm (wp x true) k with h' | ⟨m', h', _, h2, h3⟩
  ·rw [h'] at h; cases h
  ·exact absurd (h2.trans e) (hk m' h3)
 ·rw [heq k e]; exact h
theorem assessRelief_eq (p0 p1 p2 : List Int) : law20_AssessRelief p0 p1 p2 = some true := by
 unfold law20_AssessRelief
 obtain ⟨m, h1, h2⟩ := measures_ok p0
 obtain ⟨x, g1, g2⟩ := item_ok p1
 have hv := g2.valid
 rw [bnd h1, bnd g1]
 show Option.bind (assess_Total m (wp x false)) (fun x4 => Option.bind (assess_Total m (wp x true)) _) = _
 rw [bnd (total_prog m (wp x false) ⟨0, wp_valid hv false⟩), bnd (total_prog m (wp x true) ⟨0, wp_valid hv true⟩)]
 dsimp only
 by_cases e0 : (assessS m (wp x false)).2 = 0
 case neg =>
  rw [show ((assessS m (wp x false)).2 != 0) = true by simp [e0], Bool.true_or, cond_true]
  have : ((((assessS m (wp x false)).2 == 0) || ((assessS m (wp x true)).2 == (assessS m (wp x false)).2)) || ((assessS m (wp x false)).2 == 3)) = true := by
   rcases assessS_err hv false true e0 with h | h
   ·rw [h]; simp
   ·rw [h]; simp
  rw [this, gd_tt, bnd awake_ok]; rfl
 by_cases e1 : (assessS m (wp x true)).2 = 0
 case neg =>
  rw [show ((assessS m (wp x true)).2 != 0) = true by simp [e1], Bool.or_true, cond_true, e0]
  rw [show ((((0 : Int) == 0) || ((assessS m (wp x true)).2 == 0)) || ((0 : Int) == 3)) = true by simp, gd_tt, bnd awake_ok]; rfl
 have hle := relief_proof hv e0 e1
 rw [e0, e1]
 rw [show (((0 : Int) != 0) || ((0 : Int) != 0)) = false from rfl, cond_false, decide_eq_false (by omega), cond_false]
 obtain ⟨y, k1, k2⟩ := measures_ok p2
 rw [bnd k1]
 by_cases hy : y.length = 0
 ·rw [show ((y.length : Int) == 0) = true by simp [hy], cond_true, bnd awake_ok]
 have hyl := k2.1
 rw [show ((y.length : Int) == 0) = false by simp; intro h; exact hy (by simp [h]), cond_false, i64s (by omega) (by omega), bnd (idx_int (by omega) (by omega))]
 generalize (y[((y.length : Int) - 1).toNat]'(by omega)) = z
 have hml := h2.1
 have hl : m.length ≤ 4611686018427387904 := by omega
 obtain ⟨e, eP⟩ := loop_run (S := Int) (T := Unit ⊕ Bool) hl (body := fun v14 => cond (decide (v14 < (m.length : Int))) (Option.bind (idx m v14) (fun m18 => cond (m18.Kind == z.Kind) (Option.bind (law20_awake) (fun x20 => some (.inr (.inr x20)))) (some (.inl (IntKind.i64.wrap (v14 + 1)))))) (some (.inr (.inl ()))))
  (fun i (_ : Unit) => i) (fun k (y : TMeasure) (_ : Unit) => if y.Kind = z.Kind then (.inr () : Unit ⊕ Unit) else .inl ()) (fun _ => .inl ()) (fun _ => .inr true) (fun k _ => ∀ j (hj : j < k) (hj' : j < m.length), m[j].Kind ≠ z.Kind) (by
   intro k hk t hP
   rw [dlt hk, cond_true, bnd (idx_nat hk), wnext hk hl]
   by_cases c : m[k].Kind = z.Kind
   ·rw [if_pos c, show (m[k].Kind == z.Kind) = true by simp [c], cond_true, bnd awake_ok]
    exact ⟨rfl, fun a' h => by cases h⟩
   ·rw [if_neg c, show (m[k].Kind == z.Kind) = false by simp [c], cond_false]
    refine ⟨rfl, fun a' h j hj hj' => ?_⟩
    by_cases ejk : j = k
    ·subst ejk; exact c
    ·exact hP j (by omega) hj')
  (by intro t _; rw [dnlt]; rfl) () (by intro j hj; omega)
 refine (bnd e).trans ?_
 cases hr : run (fun k (y : TMeasure) (_ : Unit) => if y.Kind = z.Kind then (.inr () : Unit ⊕ Unit) else .inl ()) m 0 () with
 | inr u => rfl
 | inl u =>
  have hk : ∀ y ∈ m, y.Kind ≠ z.Kind := by
   intro y hy
   obtain ⟨j, hj, rfl⟩ := List.getElem_of_mem hy
   exact eP _ hr j hj hj
  dsimp only [outf]
  have a1 : app 144 ([] : List TMeasure) m = some m := by unfold app; rw [if_pos (by simp; omega)]; rfl
  have a2 : ∀ w : TMeasure, app 144 m [w] = some (m ++ [w]) := fun w => by unfold app; rw [if_pos (by simp; omega)]
  rw [bnd a1, bnd (a2 _)]
  show Option.bind (assess_Total _ (wp x true)) _ = _
  rw [bnd (total_prog _ (wp x true) ⟨0, wp_valid hv true⟩)]
  generalize hz : (⟨1000, z.Kind, z.Prefix, z.Origins, z.Company, z.From, z.To, z.Registered, z.Duty⟩ : TMeasure) = w
  have hwk : w.Kind = z.Kind := by rw [← hz]
  dsimp only
  have : (((((assessS (m ++ [w]) (wp x true)).2 != 0) || (decide (z.Kind < 2))) || (decide (4 < z.Kind))) || (decide ((assessS (m ++ [w]) (wp x true)).1.Total ≤ (assessS m (wp x true)).1.Total))) = true := by
   by_cases c0 : (assessS (m ++ [w]) (wp x true)).2 = 0
   ·by_cases c1 : z.Kind < 2
    ·simp [c1]
    ·by_cases c2 : 4 < z.Kind
     ·simp [c2]
     ·rw [decide_eq_true (relief_more hv (fun y hy => by rw [hwk]; exact hk y hy) e1 c0 (by omega) (by omega))]; simp
   ·simp [c0]
  rw [this, gd_tt, bnd awake_ok]; rfl
theorem assessRelief_law {κ : Kr} {v1 v2 v3 : List Value} (p0 p1 p2 : List Int) (_ : Rps κ [.slc (List.map eI p0)] v1) (_ : Rps κ [.slc (List.map eI p1)] v2) (_ : Rps κ [.slc (List.map eI p2)] v3) : law20_AssessRelief p0 p1 p2 = some true := assessRelief_eq p0 p1 p2
end SX
end Go.Proofs.YtfcecieppoljlaaGreatDoor
set_option maxRecDepth 100000
namespace Go.Proofs.YtfcecieppoljlaaGreatDoor
namespace SX
open Go
theorem op3 {H : Type} {eh : TypeId × Value → H} : Opens eh 3 eI := opens_int rfl
theorem op24 {H : Type} {eh : TypeId × Value → H} : Opens eh 24 (eL eI) := opens_slice rfl rfl rfl rfl op3
end SX
end Go.Proofs.YtfcecieppoljlaaGreatDoor
set_option maxRecDepth 100000
namespace Go.Proofs.YtfcecieppoljlaaGreatDoor
open Go Go.ChangeShapes Go.WideShapes Go.RowKit
open SX
theorem assessRelief_lifted (os : Os) (started : os.Started) (H : Type) (enc : TypeId × Value → H) :
    ReturnsInHanded {} Tryz.checked os 7 .any (fun w args => (Rows.assessReliefSpec.pre enc Tryz.prog Tryz.f7 [] false w args ∧ laidMetH Tryz.prog laidL w) ∧ sizedMet enc Tryz.prog Tryz.f7 (OpenSpec.ofChange Rows.assessReliefSpec) false w args)
      (Rows.assessReliefSpec.post enc Tryz.prog Tryz.f7 false true false false) := by
  refine returnsInHanded_of_change_and (C := Tryz.checked) (X := fun w _ => laidMetH Tryz.prog laidL w) (fun _ _ _ hh h => h.of_heap hh) own_ok started (by kernel_rfl) Tryz.func7
    (ChangeSpec.witness_at (enc := enc) (C := Tryz.checked) (os := os) (X := fun w _ => laidMetH Tryz.prog laidL w) false (laidWorld os) #[.slice none 0 0, .slice none 0 0, .slice none 0 0] 8 rfl (by kernel_rfl) (by kernel_rfl) (by kernel_rfl) (by kernel_rfl) (by kernel_rfl) (laidWorld_met os _)) ?_
  intro W base args ds gs before hval0 hW _ hwt hL _
  have hval : ∀ (j : Nat) t v, Tryz.f7.params[j]? = some t → args[j]? = some v → Value.okWide Tryz.prog W .any base t v := hval0
  have hW2 := hW
  obtain ⟨p, q, hA0, hV0, rfl, _, _⟩ := hW
  have hA : DataW.TrodAll enc Tryz.prog W 0 (fun _ => true) true [24, 24, 24] args.toList ds p := hA0
  obtain ⟨rfl, rfl⟩ : gs = [] ∧ q = [] := by
    cases gs with
    | nil => exact ⟨rfl, hV0⟩
    | cons g r => exact absurd hV0 (by intro h; cases h)
  generalize hargs : args.toList = vs at hA
  have hval2 : ∀ (j : Nat) t v, [24, 24, 24][j]? = some t → vs[j]? = some v → Value.okWide Tryz.prog W .any base t v := fun j t v h1 h2 => hval j t v (by rw [Tryz.params7]; simpa using h1) (by rw [← hargs] at h2; simpa using h2)
  obtain ⟨v0, vs0, d0, ds0, p0, q0, rfl, rfl, h0, hA⟩ := SX.trodAll_cons hA
  obtain ⟨v1, vs1, d1, ds1, p1, q1, rfl, rfl, h1, hA⟩ := SX.trodAll_cons hA
  obtain ⟨v2, vs2, d2, ds2, p2, q2, rfl, rfl, h2, hA⟩ := SX.trodAll_cons hA
  obtain ⟨rfl, rfl⟩ := SX.trodAll_nil hA
  have hw : (DataW.weightsEach Tryz.prog [24, 24, 24] [d0, d1, d2]).all (· ≤ reachBytes) = true := hwt
  obtain ⟨l0, hw⟩ := SX.light_head hw
  obtain ⟨m0, s0⟩ := arg_one rfl rfl op24 (fun _ => ⟨_, rfl⟩) (hval2 0 24 v0 rfl rfl) h0 l0
  obtain ⟨l1, hw⟩ := SX.light_head hw
  obtain ⟨m1, s1⟩ := arg_one rfl rfl op24 (fun _ => ⟨_, rfl⟩) (hval2 1 24 v1 rfl rfl) h1 l1
  obtain ⟨l2, hw⟩ := SX.light_head hw
  obtain ⟨m2, s2⟩ := arg_one rfl rfl op24 (fun _ => ⟨_, rfl⟩) (hval2 2 24 v2 rfl rfl) h2 l2
  exact row_post (readB (by kernel_rfl)) rfl (und_ok rfl) rfl (by simp [Rows.assessReliefSpec]) hW2 (gok_of_laid hL) (by rw [hargs]; exact (s0.app (s1.app s2))) (law20_AssessRelief_ok (assessRelief_law m0 m1 m2 s0 s1 s2))
theorem assessRelief_holds : Rows.AssessReliefSaid :=
 OpenClaim.holds_of_wide 7 Tryz.f7 rfl rfl rfl rfl rfl rfl rfl ⟨rfl, rfl, rfl, rfl, rfl⟩ rfl rfl rfl rfl rfl (by kernel_rfl) Tryz.func7 (by kernel_rfl)
  (of_decide_eq_true (by kernel_rfl)) (by unfold Func.isWrapper; rw [if_neg (of_decide_eq_false (by kernel_rfl))]; exact ⟨rfl, rfl⟩)
  (fun os started H enc _ => assessRelief_lifted os started H enc)
theorem assessRelief_card : Rows.AssessReliefCardSaid :=
 Claim7.holds_tied_plain_at .later [] [.data, .data, .pinned] true (true, "c44fdb8b3d3db5b11b14cf1358bdd2c8cf9d007e81e3e7ea20beffe313180608") false
  assessRelief_holds (fun _ h => by cases h) (by kernel_rfl) (fun _ h => by cases h) assessRelief_row_tie rfl ⟨rfl, rfl⟩ (by kernel_rfl) rfl
  (fun f fn hf hfn => by
   obtain rfl : f = 7 := Option.some.inj ((show Tryz.prog.funcNamed "customs/customslaw20.AssessRelief" = some 7 by kernel_rfl).symm.trans hf) |>.symm
   obtain rfl : fn = Tryz.f7 := (Option.some.inj (Tryz.func7.symm.trans hfn)).symm
   exact ⟨by kernel_rfl, fun j t ht => by
    rw [Tryz.params7] at ht
    exact standIns_no (by kernel_rfl) ht⟩)
  (by kernel_rfl)
#print axioms assessRelief_card
end Go.Proofs.YtfcecieppoljlaaGreatDoor
