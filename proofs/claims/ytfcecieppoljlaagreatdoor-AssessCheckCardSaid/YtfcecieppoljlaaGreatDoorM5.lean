/- A part of the proof: texts of the walk and of the plain laws, merged. No condition. -/
import Derived.Test.YtfcecieppoljlaaGreatDoorM4
import Derived.Test.YtfcecieppoljlaaGreatDoorChecked
import Derived.KernelRfl
import Derived.WalkKit
import Derived.OrdersHeld
import Derived.Laws.CopyRow
import Derived.Laws.StructEq
import Derived.Maps.AppendAt
import Derived.Laws.MakeOwn
import Derived.Laws.BytesArg
import Derived.Laws.Externs
import Derived.Laws.Cover3
import Derived.ChangeArms
import Derived.DataReads
import GoSem.ClaimJoined
import Derived.Test.YtfcecieppoljlaaGreatDoorRows
import Derived.ChangeSame
import Derived.ChangeVars
import Derived.JoinedOf
import Derived.RowKit
import Derived.RowKitTokens
import Derived.LaidLaws
import Derived.LaidHandle
import Derived.Carry
import Derived.Handed
import Derived.ChangeOld
import Derived.SevenTiedAt
import Derived.Test.YtfcecieppoljlaaGreatDoorCards
import Derived.Test.YtfcecieppoljlaaGreatDoorTie
set_option linter.unusedVariables false
set_option linter.unusedSimpArgs false
set_option maxRecDepth 100000
namespace Go.Proofs.YtfcecieppoljlaaGreatDoor
namespace SX
open Go
def W : Int := 18446744073709551616
def xw (n : Int) : Texact_Wide := ⟨n / 18446744073709551616, n % 18446744073709551616⟩
def rw' (n : Int) : Tref01_Wide := ⟨n / 18446744073709551616, n % 18446744073709551616⟩
def U128 (n : Int) : Prop := 0 ≤ n ∧ n < 340282366920938463463374607431768211456
theorem xw_ok {n : Int} (h : U128 n) : XW (xw n) ∧ xv (xw n) = n := by unfold U128 at h; unfold XW xv xw U64; dsimp only; omega
theorem rw_ok {n : Int} (h : U128 n) : RW (rw' n) ∧ rv (rw' n) = n := by unfold U128 at h; unfold RW rv rw' U64; dsimp only; omega
theorem xw_of {w : Texact_Wide} (h : XW w) : w = xw (xv w) ∧ U128 (xv w) := by
 obtain ⟨a, b⟩ := w
 unfold XW U64 at h; unfold xw xv U128; dsimp only at *
 refine ⟨?_, by omega⟩
 congr 1 <;> omega
theorem rw_of {w : Tref01_Wide} (h : RW w) : w = rw' (rv w) ∧ U128 (rv w) := by
 obtain ⟨a, b⟩ := w
 unfold RW U64 at h; unfold rw' rv U128; dsimp only at *
 refine ⟨?_, by omega⟩
 congr 1 <;> omega
theorem xmul {a b : Int} (ha : U64 a) (hb : U64 b) : exact_Mul a b = some (xw (a * b)) := by
 obtain ⟨w, e1, e2, e3⟩ := exact_mul ha hb
 rw [e1, ← e3]; exact congrArg some (xw_of e2).1
theorem rmul {a b : Int} (ha : U64 a) (hb : U64 b) : ref01_Mul a b = some (rw' (a * b)) := by
 obtain ⟨w, e1, e2, e3⟩ := ref_mul ha hb
 rw [e1, ← e3]; exact congrArg some (rw_of e2).1
theorem xadd {a b : Int} (ha : U128 a) (hb : U128 b) (h : U128 (a + b)) : exact_Add (xw a) (xw b) = some (xw (a + b), 0) := by
 unfold U128 at *
 unfold exact_Add math_bits_Add64 xw
 dsimp only
 rw [if_pos (by omega)]
 simp only [Option.bind_some]
 rw [if_pos (by omega)]
 simp only [Option.bind_some]
 have : ((a / 18446744073709551616 + b / 18446744073709551616 + (a % 18446744073709551616 + b % 18446744073709551616 + 0) / 18446744073709551616) / 18446744073709551616 != 0) = false := by simp; omega
 rw [this]
 simp only [cond_false]
 congr 3 <;> omega
theorem radd {a b : Int} (ha : U128 a) (hb : U128 b) (h : U128 (a + b)) : ∃ o, ref01_Add (rw' a) (rw' b) = some (rw' (a + b), o) := by
 obtain ⟨a1, a2⟩ := rw_ok ha
 obtain ⟨b1, b2⟩ := rw_ok hb
 obtain ⟨w, o, e1, e2, e3⟩ := ref_add a1 b1
 rw [a2, b2] at e3
 have e3 := e3 h.2
 rw [e1, ← e3, ← (rw_of e2).1]; exact ⟨_, rfl⟩
theorem xcmp {a b : Int} (ha : U128 a) (hb : U128 b) : exact_CompareWide (xw a) (xw b) = some (if a < b then -1 else if a = b then 0 else 1) := by
 unfold U128 at *
 unfold exact_CompareWide xw Texact_Wide.eqb
 dsimp only
 by_cases h : a < b
 ·have : ((decide (a / 18446744073709551616 < b / 18446744073709551616)) || ((a / 18446744073709551616 == b / 18446744073709551616) && (decide (a % 18446744073709551616 < b % 18446744073709551616)))) = true := by
   simp only [Bool.or_eq_true, Bool.and_eq_true, decide_eq_true_eq, beq_iff_eq]; omega
  rw [this, if_pos h]; rfl
 ·have : ((decide (a / 18446744073709551616 < b / 18446744073709551616)) || ((a / 18446744073709551616 == b / 18446744073709551616) && (decide (a % 18446744073709551616 < b % 18446744073709551616)))) = false := by
   simp only [Bool.or_eq_false_iff, Bool.and_eq_false_iff, decide_eq_false_iff_not, beq_eq_false_iff_ne]; omega
  rw [this, if_neg h]
  simp only [cond_false]
  by_cases h2 : a = b
  ·subst h2; simp
  ·rw [if_neg h2]
   have : ((a / 18446744073709551616 == b / 18446744073709551616) && (a % 18446744073709551616 == b % 18446744073709551616)) = false := by
    simp only [Bool.and_eq_false_iff, beq_eq_false_iff_ne]; omega
   simp [this]
theorem rless {a b : Int} (ha : U128 a) (hb : U128 b) : ref01_Less (rw' a) (rw' b) = some (decide (a < b)) := by
 unfold U128 at *
 unfold ref01_Less rw'
 dsimp only
 congr 1
 by_cases h : a < b
 ·rw [decide_eq_true h]; simp only [Bool.or_eq_true, Bool.and_eq_true, decide_eq_true_eq, beq_iff_eq]; omega
 ·rw [decide_eq_false h]; simp only [Bool.or_eq_false_iff, Bool.and_eq_false_iff, decide_eq_false_iff_not, beq_eq_false_iff_ne]; omega
theorem xdiv {n c : Int} (h : U128 n) (hc : U64 c) (h1 : 1 ≤ c) : exact_Div (xw n) c 2 = some (if rnd n c 2 < 18446744073709551616 then (rnd n c 2, 0) else (0, 3)) := by
 have := exact_div (xw_ok h).1 hc h1 (.inr rfl); rw [(xw_ok h).2] at this; exact this
theorem rdiv {n c : Int} (h : U128 n) (hc : U64 c) (h1 : 1 ≤ c) : ref01_Div (rw' n) c 2 = some (if rnd n c 2 < 18446744073709551616 then (rnd n c 2, 0) else (0, 3)) := by
 have := ref_div (rw_ok h).1 hc h1 (.inr rfl); rw [(rw_ok h).2] at this; exact this
structure DutyOK (d : TDuty) : Prop where
 r0 : 0 ≤ d.Rate
 r1 : d.Rate ≤ 10000000
 a0 : 0 ≤ d.Amount
 a1 : d.Amount ≤ 100000000
 p0 : 0 ≤ d.Per
 p1 : d.Per ≤ 1000000
 m0 : 0 ≤ d.Most
 m1 : d.Most ≤ 10000000
 l0 : 0 ≤ d.Least
 l1 : d.Least ≤ 10000000
theorem dutyVal (d : TDuty) : ∃ e, duty_Validate d = some e ∧ (e = 0 → DutyOK d) ∧ (e = 0 ∨ e = 1 ∨ e = 2) := by
 unfold duty_Validate
 by_cases h1 : ((((decide (d.Rate < 0)) || (decide (10000000 < d.Rate))) || (decide (d.Amount < 0))) || (decide (100000000 < d.Amount))) = true
 ·rw [h1]; exact ⟨_, rfl, by simp, by simp⟩
 rw [Bool.eq_false_iff.2 h1]
 by_cases h2 : (((decide (0 < d.Amount)) && ((decide (d.Per < 1)) || (decide (1000000 < d.Per)))) || ((d.Amount == 0) && (d.Per != 0))) = true
 ·rw [h2]; exact ⟨_, rfl, by simp, by simp⟩
 rw [Bool.eq_false_iff.2 h2]
 by_cases h3 : ((((decide (d.Most < 0)) || (decide (10000000 < d.Most))) || (decide (d.Least < 0))) || (decide (10000000 < d.Least))) = true
 ·rw [h3]; exact ⟨_, rfl, by simp, by simp⟩
 rw [Bool.eq_false_iff.2 h3]
 simp at h1 h2 h3
 have ok : DutyOK d := by constructor <;> omega
 simp only [cond_false]
 cases h4 : (((d.Most != 0) && (!d.HasMost)) || ((d.Least != 0) && (!d.HasLeast)))
 ·cases h5 : ((d.HasMost && d.HasLeast) && (decide (d.Most < d.Least)))
  ·exact ⟨_, rfl, fun _ => ok, by simp⟩
  ·exact ⟨_, rfl, by simp, by simp⟩
 ·exact ⟨_, rfl, by simp, by simp⟩
theorem dutyRef (d : TDuty) : ref17_Duty d = duty_Validate d := by
 unfold ref17_Duty duty_Validate ref17_in gd
 have t1 : ((decide (0 ≤ d.Rate)) && (decide (d.Rate ≤ 10000000))) = !((decide (d.Rate < 0)) || (decide (10000000 < d.Rate))) := by
  rw [Bool.not_or, ← decide_not, ← decide_not]; simp
 have t2 : ((decide (0 ≤ d.Amount)) && (decide (d.Amount ≤ 100000000))) = !((decide (d.Amount < 0)) || (decide (100000000 < d.Amount))) := by
  rw [Bool.not_or, ← decide_not, ← decide_not]; simp
 have t3 : ((decide (0 ≤ d.Most)) && (decide (d.Most ≤ 10000000))) = !((decide (d.Most < 0)) || (decide (10000000 < d.Most))) := by
  rw [Bool.not_or, ← decide_not, ← decide_not]; simp
 have t4 : ((decide (0 ≤ d.Least)) && (decide (d.Least ≤ 10000000))) = !((decide (d.Least < 0)) || (decide (10000000 < d.Least))) := by
  rw [Bool.not_or, ← decide_not, ← decide_not]; simp
 rw [t1, t2, t3, t4, Bool.or_assoc ((decide (d.Rate < 0)) || (decide (10000000 < d.Rate))), Bool.or_assoc ((decide (d.Most < 0)) || (decide (10000000 < d.Most)))]
 generalize ((decide (d.Rate < 0)) || (decide (10000000 < d.Rate))) = a
 generalize ((decide (d.Amount < 0)) || (decide (100000000 < d.Amount))) = b
 generalize ((decide (d.Most < 0)) || (decide (10000000 < d.Most))) = c
 generalize ((decide (d.Least < 0)) || (decide (10000000 < d.Least))) = e
 generalize ((decide (0 < d.Amount)) && ((decide (d.Per < 1)) || (decide (1000000 < d.Per)))) = f
 generalize ((d.Amount == 0) && (d.Per != 0)) = g
 generalize (((d.Most != 0) && (!d.HasMost)) || ((d.Least != 0) && (!d.HasLeast))) = i
 generalize ((d.HasMost && d.HasLeast) && (decide (d.Most < d.Least))) = j
 cases a <;> cases b <;> cases c <;> cases e <;> cases f <;> cases g <;> cases i <;> cases j <;> rfl
def evSum (d : TDuty) (v q : Int) : Int :=
 let p := imax d.Per 1
 let s := d.Rate * v * p + d.Amount * q * 1000000
 let s := if d.HasMost = true ∧ d.Most * v * p < s then d.Most * v * p else s
 if d.HasLeast = true ∧ s < d.Least * v * p then d.Least * v * p else s
def evN (d : TDuty) (v q : Int) : Int × Int := if rnd (evSum d v q) (1000000 * imax d.Per 1) 2 ≤ 1000000000000 then (rnd (evSum d v q) (1000000 * imax d.Per 1) 2, 0) else (0, 3)
theorem xstepM {β : Type} {b : Bool} {s m : Int} {k : Int × Int → Option β} (hs : U128 s) (hm : U128 m) : Option.bind (gd b (some (xw m))) (fun x12 => Option.bind (gd b (exact_CompareWide (xw s) x12)) (fun x13 => Option.bind (cond (b && (decide (0 < x13))) (Option.bind (some (xw m)) (fun x18 => some (x18.Hi, x18.Lo))) (some ((xw s).Hi, (xw s).Lo))) k)) = k ((xw (if b = true ∧ m < s then m else s)).Hi, (xw (if b = true ∧ m < s then m else s)).Lo) := by
 cases b
 ·simp [gd]
 ·simp only [gd, cond_true, Option.bind_some, Bool.true_and]
  rw [xcmp hs hm]
  simp only [Option.bind_some, true_and]
  by_cases h : m < s
  ·rw [if_neg (by omega), if_neg (by omega), if_pos h]; rfl
  ·rw [if_neg h]
   by_cases h2 : s < m
   ·rw [if_pos h2]; rfl
   ·rw [if_neg h2, if_pos (by omega)]; rfl
theorem xstepL {β : Type} {b : Bool} {s m : Int} {k : Int × Int → Option β} (hs : U128 s) (hm : U128 m) : Option.bind (gd b (some (xw m))) (fun x12 => Option.bind (gd b (exact_CompareWide ⟨(xw s).Hi, (xw s).Lo⟩ x12)) (fun x13 => Option.bind (cond (b && (decide (x13 < 0))) (Option.bind (some (xw m)) (fun x18 => some (x18.Hi, x18.Lo))) (some ((xw s).Hi, (xw s).Lo))) k)) = k ((xw (if b = true ∧ s < m then m else s)).Hi, (xw (if b = true ∧ s < m then m else s)).Lo) := by
 cases b
 ·simp [gd]
 ·simp only [gd, cond_true, Option.bind_some, Bool.true_and]
  rw [show exact_CompareWide ⟨(xw s).Hi, (xw s).Lo⟩ (xw m) = _ from xcmp hs hm]
  simp only [Option.bind_some, true_and]
  by_cases h : s < m
  ·rw [if_pos h, if_pos h]; rfl
  ·rw [if_neg h, if_neg h]
   split <;> rfl
theorem rstepM {β : Type} {b : Bool} {s m : Int} {k : Int × Int → Option β} (hs : U128 s) (hm : U128 m) : Option.bind (cond b (some (rw' m)) (some default)) (fun x12 => Option.bind (cond b (ref01_Less x12 (rw' s)) (some default)) (fun x13 => Option.bind (cond (b && x13) (Option.bind (some (rw' m)) (fun x18 => some (x18.Hi, x18.Lo))) (some ((rw' s).Hi, (rw' s).Lo))) k)) = k ((rw' (if b = true ∧ m < s then m else s)).Hi, (rw' (if b = true ∧ m < s then m else s)).Lo) := by
 cases b
 ·simp
 ·simp only [cond_true, Option.bind_some, Bool.true_and]
  rw [rless hm hs]
  simp only [Option.bind_some, true_and]
  by_cases h : m < s
  ·rw [decide_eq_true h, if_pos h]; rfl
  ·rw [decide_eq_false h, if_neg h]; rfl
theorem rstepL {β : Type} {b : Bool} {s m : Int} {k : Int × Int → Option β} (hs : U128 s) (hm : U128 m) : Option.bind (cond b (some (rw' m)) (some default)) (fun x12 => Option.bind (cond b (ref01_Less ⟨(rw' s).Hi, (rw' s).Lo⟩ x12) (some default)) (fun x13 => Option.bind (cond (b && x13) (Option.bind (some (rw' m)) (fun x18 => some (x18.Hi, x18.Lo))) (some ((rw' s).Hi, (rw' s).Lo))) k)) = k ((rw' (if b = true ∧ s < m then m else s)).Hi, (rw' (if b = true ∧ s < m then m else s)).Lo) := by
 cases b
 ·simp
 ·simp only [cond_true, Option.bind_some, Bool.true_and]
  rw [show ref01_Less ⟨(rw' s).Hi, (rw' s).Lo⟩ (rw' m) = _ from rless hs hm]
  simp only [Option.bind_some, true_and]
  by_cases h : s < m
  ·rw [decide_eq_true h, if_pos h]; rfl
  ·rw [decide_eq_false h, if_neg h]; rfl
theorem rnd_nonneg {n c : Int} (h : 0 ≤ n) (hc : 1 ≤ c) : 0 ≤ rnd n c 2 := by
 have := Int.ediv_nonneg h (show 0 ≤ c by omega)
 unfold rnd; split <;> omega
theorem evFin (r : Int) (h : 0 ≤ r) : (Option.bind (some (if r < 18446744073709551616 then (r, (0 : Int)) else (0, 3))) (fun x26 => cond ((x26.2 != 0) || (decide (1000000000000 < x26.1))) (some ((0 : Int), (3 : Int))) (some ((IntKind.i64.wrap x26.1), 0)))) = some (if r ≤ 1000000000000 then (r, 0) else (0, 3)) := by
 by_cases h1 : r ≤ 1000000000000
 ·rw [if_pos (by omega), if_pos h1]
  simp only [Option.bind_some]
  rw [decide_eq_false (by omega), i64s (by omega) (by omega)]; rfl
 ·rw [if_neg h1]
  by_cases h2 : r < 18446744073709551616
  ·rw [if_pos h2]
   simp only [Option.bind_some]
   rw [decide_eq_true (by omega), Bool.or_true]; rfl
  ·rw [if_neg h2]; rfl
section
variable {d : TDuty} {v q : Int} (hd : DutyOK d) (hv : 0 ≤ v) (hv' : v ≤ 1000000000000) (hq : 0 ≤ q) (hq' : q ≤ 1000000000)
include hv hv' in
theorem prodU {r : Int} (h0 : 0 ≤ r) (h1 : r ≤ 10000000) : U64 (r * v) ∧ 0 ≤ r * v ∧ r * v ≤ 10000000000000000000 := by
 have a := Int.mul_nonneg h0 hv
 have b : r * v ≤ 10000000 * 1000000000000 := Int.mul_le_mul h1 hv' hv (by omega)
 exact ⟨⟨a, by omega⟩, a, by omega⟩
include hq hq' in
theorem prodQ {r : Int} (h0 : 0 ≤ r) (h1 : r ≤ 100000000) : U64 (r * q) ∧ 0 ≤ r * q ∧ r * q ≤ 100000000000000000 := by
 have a := Int.mul_nonneg h0 hq
 have b : r * q ≤ 100000000 * 1000000000 := Int.mul_le_mul h1 hq' hq (by omega)
 exact ⟨⟨a, by omega⟩, a, by omega⟩
include hd in
theorem perU : 1 ≤ imax d.Per 1 ∧ imax d.Per 1 ≤ 1000000 := by
 have := hd.p0; have := hd.p1; unfold imax; split <;> omega
include hd hv hv' in
theorem partU {r : Int} (h0 : 0 ≤ r) (h1 : r ≤ 10000000) : U128 (r * v * imax d.Per 1) ∧ r * v * imax d.Per 1 ≤ 10000000000000000000000000 := by
 obtain ⟨_, a, b⟩ := prodU hv hv' h0 h1
 obtain ⟨p0, p1⟩ := perU hd
 have c := Int.mul_nonneg a (show 0 ≤ imax d.Per 1 by omega)
 have e : r * v * imax d.Per 1 ≤ 10000000000000000000 * 1000000 := Int.mul_le_mul b p1 (by omega) (by omega)
 exact ⟨⟨c, by omega⟩, by omega⟩
include hd hv hv' in
theorem xpart {r : Int} (h0 : 0 ≤ r) (h1 : r ≤ 10000000) : duty_Evaluate_1 r v (IntKind.u64.wrap (imax d.Per 1)) = some (xw (r * v * imax d.Per 1)) := by
 obtain ⟨a, _, _⟩ := prodU hv hv' h0 h1
 obtain ⟨p0, p1⟩ := perU hd
 unfold duty_Evaluate_1
 rw [wu_id (a := r) ⟨h0, by omega⟩, wu_id (a := v) ⟨hv, by omega⟩, wu_id a, wu_id (a := imax d.Per 1) ⟨by omega, by omega⟩, xmul a ⟨by omega, by omega⟩]; rfl
include hd hv hv' in
theorem rpart {r : Int} (h0 : 0 ≤ r) (h1 : r ≤ 10000000) : ref17_scaled r v (imax d.Per 1) = some (rw' (r * v * imax d.Per 1)) := by
 obtain ⟨a, _, _⟩ := prodU hv hv' h0 h1
 obtain ⟨p0, p1⟩ := perU hd
 unfold ref17_scaled
 rw [wu_id (a := r) ⟨h0, by omega⟩, wu_id (a := v) ⟨hv, by omega⟩, wu_id a, wu_id (a := imax d.Per 1) ⟨by omega, by omega⟩, rmul a ⟨by omega, by omega⟩]; rfl
include hd hv hv' hq hq'
theorem evSum_ok : U128 (evSum d v q) ∧ evSum d v q ≤ 20000000000000000000000000 := by
 obtain ⟨⟨a1, _⟩, a3⟩ := partU hd hv hv' hd.r0 hd.r1
 obtain ⟨⟨b1, _⟩, b3⟩ := partU hd hv hv' hd.m0 hd.m1
 obtain ⟨⟨c1, _⟩, c3⟩ := partU hd hv hv' hd.l0 hd.l1
 obtain ⟨_, e1, e2⟩ := prodQ hq hq' hd.a0 hd.a1
 unfold evSum U128
 dsimp only
 split <;> split <;> omega
theorem eval_prog (hval : duty_Validate d = some 0) : duty_Evaluate d v q = some (evN d v q) := by
 obtain ⟨A, a3⟩ := partU hd hv hv' hd.r0 hd.r1
 obtain ⟨B, b3⟩ := partU hd hv hv' hd.m0 hd.m1
 obtain ⟨C, c3⟩ := partU hd hv hv' hd.l0 hd.l1
 obtain ⟨e0, e1, e2⟩ := prodQ hq hq' hd.a0 hd.a1
 obtain ⟨p0, p1⟩ := perU hd
 obtain ⟨G, _⟩ := evSum_ok hd hv hv' hq hq'
 have ha0 := hd.a0; have ha1 := hd.a1
 have E : U128 (d.Amount * q * 1000000) := ⟨by omega, by omega⟩
 have F : U128 (d.Rate * v * imax d.Per 1 + d.Amount * q * 1000000) := ⟨by have := A.1; omega, by omega⟩
 unfold duty_Evaluate
 rw [bnd hval]
 have hc : ((((decide (v < 0)) || (decide (1000000000000 < v))) || (decide (q < 0))) || (decide (1000000000 < q))) = false := by simp; omega
 rw [hc, xpart hd hv hv' hd.r0 hd.r1, wu_id (a := d.Amount) ⟨ha0, by omega⟩, wu_id (a := q) ⟨hq, by omega⟩, wu_id e0, xmul e0 ⟨by omega, by omega⟩]
 simp only [bne_self_eq_false, cond_false, Option.bind_some]
 rw [xadd A E F]
 simp only [bne_self_eq_false, cond_false, Option.bind_some]
 rw [xpart hd hv hv' hd.m0 hd.m1, xpart hd hv hv' hd.l0 hd.l1, xstepM F B]
 dsimp only
 rw [xstepL (by split <;> assumption) C]
 dsimp only
 rw [wu_id (a := imax d.Per 1) ⟨by omega, by omega⟩, wu_id (a := 1000000 * imax d.Per 1) ⟨by omega, by omega⟩]
 have := xdiv G (c := 1000000 * imax d.Per 1) ⟨by omega, by omega⟩ (by omega)
 unfold evSum at this
 dsimp only at this
 erw [this]
 unfold evN evSum
 dsimp only
 exact evFin _ (rnd_nonneg G.1 (by omega))
theorem eval_ref (hval : duty_Validate d = some 0) : ref17_Evaluate d v q = some (evN d v q) := by
 obtain ⟨A, a3⟩ := partU hd hv hv' hd.r0 hd.r1
 obtain ⟨B, b3⟩ := partU hd hv hv' hd.m0 hd.m1
 obtain ⟨C, c3⟩ := partU hd hv hv' hd.l0 hd.l1
 obtain ⟨e0, e1, e2⟩ := prodQ hq hq' hd.a0 hd.a1
 obtain ⟨p0, p1⟩ := perU hd
 obtain ⟨G, _⟩ := evSum_ok hd hv hv' hq hq'
 have ha0 := hd.a0; have ha1 := hd.a1
 have E : U128 (d.Amount * q * 1000000) := ⟨by omega, by omega⟩
 have F : U128 (d.Rate * v * imax d.Per 1 + d.Amount * q * 1000000) := ⟨by have := A.1; omega, by omega⟩
 unfold ref17_Evaluate
 rw [dutyRef, bnd hval]
 unfold ref17_in
 have hc1 : ((decide (0 ≤ v)) && (decide (v ≤ 1000000000000))) = true := by simp; omega
 have hc2 : ((decide (0 ≤ q)) && (decide (q ≤ 1000000000))) = true := by simp; omega
 rw [hc1, hc2]
 simp only [bne_self_eq_false, cond_false, Option.bind_some, Bool.not_true, Bool.not_false, gd, cond_true, Bool.or_self]
 rw [rpart hd hv hv' hd.r0 hd.r1, wu_id (a := d.Amount) ⟨ha0, by omega⟩, wu_id (a := q) ⟨hq, by omega⟩, wu_id e0, rmul e0 ⟨by omega, by omega⟩]
 obtain ⟨o, hadd⟩ := radd A E F
 simp only [Option.bind_some]
 rw [hadd]
 simp only [Option.bind_some]
 rw [rpart hd hv hv' hd.m0 hd.m1, rpart hd hv hv' hd.l0 hd.l1]
 rw [rstepM F B]
 dsimp only
 rw [rstepL (by split <;> assumption) C]
 dsimp only
 rw [wu_id (a := imax d.Per 1) ⟨by omega, by omega⟩, Int.mul_comm (imax d.Per 1) 1000000, wu_id (a := 1000000 * imax d.Per 1) ⟨by omega, by omega⟩]
 have := rdiv G (c := 1000000 * imax d.Per 1) ⟨by omega, by omega⟩ (by omega)
 unfold evSum at this
 dsimp only at this
 erw [this]
 unfold evN evSum
 dsimp only
 exact evFin _ (rnd_nonneg G.1 (by omega))
end
theorem evN_ok (d : TDuty) (v q : Int) (h : 0 ≤ evSum d v q) (hp : 1 ≤ imax d.Per 1) : ((evN d v q).2 = 0 ∧ 0 ≤ (evN d v q).1 ∧ (evN d v q).1 ≤ 1000000000000) ∨ ((evN d v q).2 = 3 ∧ (evN d v q).1 = 0) := by
 have := rnd_nonneg (c := 1000000 * imax d.Per 1) h (by omega)
 unfold evN; split
 ·left; dsimp only; omega
 ·right; exact ⟨rfl, rfl⟩
end SX
end Go.Proofs.YtfcecieppoljlaaGreatDoor
set_option maxRecDepth 100000
namespace Go.Proofs.YtfcecieppoljlaaGreatDoor
namespace SX
open Go
attribute [local irreducible] PWL PWC PWD POpL POpQ PEv PGuardIs PSub PPick PUpd PSplice PFill PLit PF PFV PCall pseqK pblockK pmidK pcutK ploopK pretK Cov PHolds loopF idx app mk gd lb nz ge0 cat sub ssub iand ior ixor ishl ishr imin imax IntKind.wrap Int.tmod Int.tdiv Op.bytesLess strOfNums
def made_Source_duty (p0 : Tmade_Source) : Option (TDuty × Tmade_Source) := Option.bind (made_Source_Next p0 3) (fun x3 => Option.bind (cond (decide (0 < x3.1)) (Option.bind (made_Source_rate x3.2) (fun x9 => some (x9.2.L, x9.2.I, (IntKind.i64.wrap (Int.tdiv x9.1 4))))) (some (x3.2.L, x3.2.I, 0))) (fun (l4, v5, v6) => Option.bind (made_Source_Next (⟨l4, v5⟩ : Tmade_Source) 3) (fun x10 => Option.bind (cond (x10.1 == 1) (Option.bind (made_Source_Next x10.2 500) (fun x17 => Option.bind (made_Source_Next x17.2 5) (fun x20 => Option.bind (idx [1, 100, 1000, 1000000, 7] x20.1) (fun m21 => some (x20.2.L, x20.2.I, (IntKind.i64.wrap (1 + x17.1)), m21))))) (some (x10.2.L, x10.2.I, 0, 0))) (fun (l11, v12, v13, v14) => Option.bind (made_Source_Next (⟨l11, v12⟩ : Tmade_Source) 4) (fun x23 => Option.bind (cond (x23.1 == 1) (Option.bind (made_Source_rate x23.2) (fun x30 => some (x30.2.L, x30.2.I, true, x30.1))) (some (x23.2.L, x23.2.I, false, 0))) (fun (l24, v25, v26, v27) => Option.bind (made_Source_Next (⟨l24, v25⟩ : Tmade_Source) 4) (fun x31 => Option.bind (cond (x31.1 == 1) (Option.bind (made_Source_rate x31.2) (fun x38 => cond v26 (some (x38.2.L, x38.2.I, true, (imin (IntKind.i64.wrap (Int.tdiv x38.1 8)) v27))) (some (x38.2.L, x38.2.I, true, (IntKind.i64.wrap (Int.tdiv x38.1 8)))))) (some (x31.2.L, x31.2.I, false, 0))) (fun (l32, v33, v34, v35) => some ((⟨v6, v13, v14, v26, v27, v34, v35⟩ : TDuty), (⟨l32, v33⟩ : Tmade_Source))))))))))
set_option maxHeartbeats 4000000 in
theorem made_Source_duty_ok {p0 : Tmade_Source} {b0 : Nat} {r : (TDuty × Tmade_Source)}  (h : made_Source_duty p0 = some r) : PCall 34 [.v (.pointer (some ⟨b0, 0, none⟩))] [PRes.b b0 59 [.slc (List.map eI p0.L), .v (.int .i64 p0.I)]] (fun pv ρ' => pv = .agg [.v (.int .i64 r.1.Rate), .v (.int .i64 r.1.Amount), .v (.int .i64 r.1.Per), .v (.bool r.1.HasMost), .v (.int .i64 r.1.Most), .v (.bool r.1.HasLeast), .v (.int .i64 r.1.Least)] ∧ ρ' = [PRes.b b0 59 [.slc (List.map eI r.2.L), .v (.int .i64 r.2.I)]]) := by
 unfold made_Source_duty at h
 refine penter Tryz.func34 fk34 rfl Tryz.ntmps34 Tryz.results34 rfl ?_
 refine yab (yaa ?_)
 refine ybl rfl rfl rfl (pl_alloc (cs := [.v (.int .i64 0), .v (.int .i64 0), .v (.int .i64 0), .v (.bool false), .v (.int .i64 0), .v (.bool false), .v (.int .i64 0)]) rfl rfl rfl rfl (fun b1 => ?_))
 refine yad (yae (yab (yaa ?_)))
 refine yah rfl rfl rfl (pq_build (cs := [.v (.int .i64 0), .v (.int .i64 0), .v (.int .i64 0), .v (.bool false), .v (.int .i64 0), .v (.bool false), .v (.int .i64 0)]) rfl rfl rfl rfl rfl rfl rfl zfn) ?_
 refine ybl rfl rfl rfl (pl_alloc (cs := [.v (.int .i64 0), .v (.int .i64 0), .v (.int .i64 0), .v (.bool false), .v (.int .i64 0), .v (.bool false), .v (.int .i64 0)]) rfl rfl rfl rfl (fun b2 => ?_))
 refine pwl_l0 rfl rfl (yax (vs := [.v (.int .i64 0), .v (.int .i64 0), .v (.int .i64 0), .v (.bool false), .v (.int .i64 0), .v (.bool false), .v (.int .i64 0)]) rfl rfl rfl rfl rfl zuh (zlc (zlc (zlc (zlc (zlc (zlc (zlc zln))))))) ?_)
 refine yad (yae (yab (yab (yaa ?_))))
 refine zmv (p := .v (.pointer (some ⟨b0, 0, none⟩))) rfl rfl rfl rfl rfl ?_
 refine yaf h ?_; clear h; intro x3 hx3 h
 refine ybl rfl rfl rfl (pl_callR rfl rfl (ρ1 := [_]) (ybk (by exact zpt (zpt zph)) (List.Perm.refl _)) (yau hx3) ?_); rintro _ _ ⟨rfl, rfl⟩
 refine yah rfl rfl rfl (yak rfl (.p rfl) (.p rfl) rfl) ?_
 refine yad (yae ?_)
 refine yaf h ?_; clear h; intro q7 hq7 h
 refine ybe (Y := (Unit) × ((List Int) × Int × Int)) (fun (_, (l4, v5, v6)) => [(0, .v (.pointer (some ⟨b0, 0, none⟩))), (2, .v (.pointer (some ⟨b1, 0, none⟩))), (3, .v (.pointer (some ⟨b2, 0, none⟩)))]) (fun (_, (l4, v5, v6)) => [PRes.b b0 59 [.slc (List.map eI l4), .v (.int .i64 v5)], PRes.b b1 44 [.v (.int .i64 0), .v (.int .i64 0), .v (.int .i64 0), .v (.bool false), .v (.int .i64 0), .v (.bool false), .v (.int .i64 0)], PRes.b b2 44 [.v (.int .i64 v6), .v (.int .i64 0), .v (.int .i64 0), .v (.bool false), .v (.int .i64 0), .v (.bool false), .v (.int .i64 0)]]) (fun (_, (l4, v5, v6)) => q7 = (l4, v5, v6)) ?_ ?_
 ·skip
  refine yal rfl (fun hc8 => ?_) (fun hc8 => ?_)
  ·replace hq7 := yav hc8 hq7
   refine yaa ?_
   refine zmv (p := .v (.pointer (some ⟨b0, 0, none⟩))) rfl rfl rfl rfl rfl ?_
   refine yaf hq7 ?_; clear hq7; intro x9 hx9 hq7
   refine ybl rfl rfl rfl (pl_callR rfl rfl (ρ1 := [_]) (ybk (by exact zph) (List.Perm.refl _)) (made_Source_rate_ok hx9) ?_); rintro _ _ ⟨rfl, rfl⟩
   refine yah rfl rfl rfl (pq_quo rfl (.p rfl) (.p rfl) (fun _ => by decide)) ?_
   refine yah rfl rfl rfl (yac rfl rfl rfl rfl rfl (.p rfl)) ?_
   refine pwl_l0 rfl rfl (yax (vs := [.v (.int .i64 (IntKind.i64.wrap (Int.tdiv x9.1 4)))]) rfl rfl rfl rfl rfl (zut zuh) (zlc zln) ?_)
   refine yad ?_
   obtain rfl := Option.some.inj hq7
   exact ybb ((), (x9.2.L, x9.2.I, (IntKind.i64.wrap (Int.tdiv x9.1 4)))) (zhc rfl (zhc rfl (zhc rfl zhn))) (zsc zph (zsc (zpt zph) (zsc zph zsn))) rfl
  ·replace hq7 := yaw hc8 hq7
   refine yao ?_
   obtain rfl := Option.some.inj hq7
   exact ybb ((), (x3.2.L, x3.2.I, 0)) (zhc rfl (zhc rfl (zhc rfl zhn))) (zsc zph (zsc (zpt zph) (zsc zph zsn))) rfl
 ·rintro ⟨_, ⟨l4, v5, v6⟩⟩ τ hz; (try dsimp only at hz); subst q7; (try dsimp only at h); dsimp only [pupds]
  refine yab (yab (yaa ?_))
  refine zmv (p := .v (.pointer (some ⟨b0, 0, none⟩))) rfl rfl rfl rfl rfl ?_
  refine yaf h ?_; clear h; intro x10 hx10 h
  refine ybl rfl rfl rfl (pl_callR rfl rfl (ρ1 := [_]) (ybk (by exact zph) (List.Perm.refl _)) (yau hx10) ?_); rintro _ _ ⟨rfl, rfl⟩
  refine yah rfl rfl rfl (yak rfl (.p rfl) (.p rfl) rfl) ?_
  refine yad (yae ?_)
  refine yaf h ?_; clear h; intro q15 hq15 h
  refine ybe (Y := (Unit) × ((List Int) × Int × Int × Int)) (fun (_, (l11, v12, v13, v14)) => [(0, .v (.pointer (some ⟨b0, 0, none⟩))), (2, .v (.pointer (some ⟨b1, 0, none⟩))), (3, .v (.pointer (some ⟨b2, 0, none⟩)))]) (fun (_, (l11, v12, v13, v14)) => [PRes.b b0 59 [.slc (List.map eI l11), .v (.int .i64 v12)], PRes.b b1 44 [.v (.int .i64 0), .v (.int .i64 0), .v (.int .i64 0), .v (.bool false), .v (.int .i64 0), .v (.bool false), .v (.int .i64 0)], PRes.b b2 44 [.v (.int .i64 v6), .v (.int .i64 v13), .v (.int .i64 v14), .v (.bool false), .v (.int .i64 0), .v (.bool false), .v (.int .i64 0)]]) (fun (_, (l11, v12, v13, v14)) => q15 = (l11, v12, v13, v14)) ?_ ?_
  ·skip
   refine yal rfl (fun hc16 => ?_) (fun hc16 => ?_)
   ·replace hq15 := yav hc16 hq15
    refine yaf hq15 ?_; clear hq15; intro x17 hx17 hq15
    refine yaf hq15 ?_; clear hq15; intro x20 hx20 hq15
    refine yaf hq15 ?_; clear hq15; intro m21 hm21 hq15
    refine pwc_cutK (Y := Unit) (fun _ => [(0, .v (.pointer (some ⟨b0, 0, none⟩))), (2, .v (.pointer (some ⟨b1, 0, none⟩))), (3, .v (.pointer (some ⟨b2, 0, none⟩)))]) (fun _ => [PRes.b b0 59 [.slc (List.map eI x20.2.L), .v (.int .i64 x20.2.I)], PRes.b b1 44 [.v (.int .i64 0), .v (.int .i64 0), .v (.int .i64 0), .v (.bool false), .v (.int .i64 0), .v (.bool false), .v (.int .i64 0)], PRes.b b2 44 [.v (.int .i64 v6), .v (.int .i64 (IntKind.i64.wrap (1 + x17.1))), .v (.int .i64 m21), .v (.bool false), .v (.int .i64 0), .v (.bool false), .v (.int .i64 0)]]) (fun _ => True) ?_ ?_
    ·refine pws_start (ρd := [PRes.b b0 _ _, PRes.b b2 _ _]) _ (ybk zph (ybk (zpt zph) (List.Perm.refl _))) ?_
     refine pws_q 0 (by kernel_rfl) rfl rfl rfl rfl (yam (p := .v (.pointer (some ⟨b0, 0, none⟩))) rfl (.p rfl)) ?_
     refine pws_q 4 (by kernel_rfl) rfl rfl rfl rfl (yam (p := .v (.pointer (some ⟨b0, 0, none⟩))) rfl (.p rfl)) ?_
     refine pws_two 1 3 (by kernel_rfl) ?_ ?_
     ·skip
      refine pstep_l rfl rfl rfl rfl (pl_callR rfl rfl (ρ1 := [_]) (ybk (by exact zph) (List.Perm.refl _)) (yau hx17) ?_); rintro _ _ ⟨rfl, rfl⟩
      refine pws_q 2 (by kernel_rfl) rfl rfl rfl rfl (yas rfl (.p rfl) (.p rfl) rfl) ?_
      refine pws_q 8 (by kernel_rfl) rfl rfl rfl rfl (yac rfl rfl rfl rfl rfl (.p rfl)) ?_
      refine pws_two 3 5 (by kernel_rfl) ?_ ?_
      ·skip
       refine pstep_l rfl rfl rfl rfl (pl_lit rfl rfl rfl rfl rfl (zic rfl (zic rfl (zic rfl (zic rfl (zic rfl zin))))) rfl rfl rfl rfl (fun b18 => ?_))
       refine pws_one 5 (by kernel_rfl) ?_
       refine pstep_l rfl rfl rfl rfl (pl_callR rfl rfl (ρ1 := [_]) (ybk (by exact zpt zph) (List.Perm.refl _)) (yau hx20) ?_); rintro _ _ ⟨rfl, rfl⟩
       refine pws_two 6 9 (by kernel_rfl) ?_ ?_
       ·skip
        refine pstep_l rfl rfl rfl rfl (pl_q (pq_indexO (enc := eI) (xs := [1, 100, 1000, 1000000, 7]) rfl rfl rfl (.p rfl) zm1 (.p rfl) (fun _ => hm21)) ?_)
        refine pws_two 7 9 (by kernel_rfl) ?_ ?_
        ·skip
         refine pstep_l rfl rfl rfl rfl (pl_q (pq_load_o (p := .v (.int .i64 m21)) (enc := eI) (xs := [1, 100, 1000, 1000000, 7]) (a := (some ⟨b18, 0, none⟩)) x20.1 0 m21 rfl (.p rfl) rfl zm1 (fun _ => hm21) rfl) ?_)
         refine pws_one 9 (by kernel_rfl) ?_
         refine pstep_l0 rfl rfl rfl (yax (vs := [.v (.int .i64 (IntKind.i64.wrap (1 + x17.1)))]) rfl rfl rfl rfl rfl (zut (zut zuh)) (zlt (zlc zln)) ?_)
         refine pws_q 10 (by kernel_rfl) rfl rfl rfl rfl (yac rfl rfl rfl rfl rfl (.p rfl)) ?_
         refine pws_one 11 (by kernel_rfl) ?_
         refine pstep_l0 rfl rfl rfl (yax (vs := [.v (.int .i64 m21)]) rfl rfl rfl rfl rfl (zut (zut zuh)) (zlt (zlt (zlc zln))) ?_)
         refine pws_done (by kernel_rfl) ?_
         exact pk_cut () (zhc rfl (zhc rfl (zhc rfl zhn))) (zsc zph (zsc (zpt (zpt zph)) (zsc (zpt zph) zsn))) trivial
        ·skip
         refine pstep_l0 rfl rfl rfl (yax (vs := [.v (.int .i64 (IntKind.i64.wrap (1 + x17.1)))]) rfl rfl rfl rfl rfl (zut (zut zuh)) (zlt (zlc zln)) ?_)
         refine pws_one 7 (by kernel_rfl) ?_
         refine pstep_l rfl rfl rfl rfl (pl_q (pq_load_o (p := .v (.int .i64 m21)) (enc := eI) (xs := [1, 100, 1000, 1000000, 7]) (a := (some ⟨b18, 0, none⟩)) x20.1 0 m21 rfl (.p rfl) rfl zm1 (fun _ => hm21) rfl) ?_)
         refine pws_q 10 (by kernel_rfl) rfl rfl rfl rfl (yac rfl rfl rfl rfl rfl (.p rfl)) ?_
         refine pws_one 11 (by kernel_rfl) ?_
         refine pstep_l0 rfl rfl rfl (yax (vs := [.v (.int .i64 m21)]) rfl rfl rfl rfl rfl (zut (zut zuh)) (zlt (zlt (zlc zln))) ?_)
         refine pws_done (by kernel_rfl) ?_
         exact pk_cut () (zhc rfl (zhc rfl (zhc rfl zhn))) (zsc zph (zsc (zpt (zpt zph)) (zsc (zpt zph) zsn))) trivial
       ·skip
        refine pstep_l0 rfl rfl rfl (yax (vs := [.v (.int .i64 (IntKind.i64.wrap (1 + x17.1)))]) rfl rfl rfl rfl rfl (zut (zut zuh)) (zlt (zlc zln)) ?_)
        refine pws_one 6 (by kernel_rfl) ?_
        refine pstep_l rfl rfl rfl rfl (pl_q (pq_indexO (enc := eI) (xs := [1, 100, 1000, 1000000, 7]) rfl rfl rfl (.p rfl) zm1 (.p rfl) (fun _ => hm21)) ?_)
        refine pws_one 7 (by kernel_rfl) ?_
        refine pstep_l rfl rfl rfl rfl (pl_q (pq_load_o (p := .v (.int .i64 m21)) (enc := eI) (xs := [1, 100, 1000, 1000000, 7]) (a := (some ⟨b18, 0, none⟩)) x20.1 0 m21 rfl (.p rfl) rfl zm1 (fun _ => hm21) rfl) ?_)
        refine pws_q 10 (by kernel_rfl) rfl rfl rfl rfl (yac rfl rfl rfl rfl rfl (.p rfl)) ?_
        refine pws_one 11 (by kernel_rfl) ?_
        refine pstep_l0 rfl rfl rfl (yax (vs := [.v (.int .i64 m21)]) rfl rfl rfl rfl rfl (zut (zut zuh)) (zlt (zlt (zlc zln))) ?_)
        refine pws_done (by kernel_rfl) ?_
        exact pk_cut () (zhc rfl (zhc rfl (zhc rfl zhn))) (zsc zph (zsc (zpt (zpt zph)) (zsc (zpt zph) zsn))) trivial
      ·skip
       refine pstep_l rfl rfl rfl rfl (pl_callR rfl rfl (ρ1 := [_]) (ybk (by exact zph) (List.Perm.refl _)) (yau hx20) ?_); rintro _ _ ⟨rfl, rfl⟩
       refine pws_two 3 9 (by kernel_rfl) ?_ ?_
       ·skip
        refine pstep_l rfl rfl rfl rfl (pl_lit rfl rfl rfl rfl rfl (zic rfl (zic rfl (zic rfl (zic rfl (zic rfl zin))))) rfl rfl rfl rfl (fun b18 => ?_))
        refine pws_two 6 9 (by kernel_rfl) ?_ ?_
        ·skip
         refine pstep_l rfl rfl rfl rfl (pl_q (pq_indexO (enc := eI) (xs := [1, 100, 1000, 1000000, 7]) rfl rfl rfl (.p rfl) zm0 (.p rfl) (fun _ => hm21)) ?_)
         refine pws_two 7 9 (by kernel_rfl) ?_ ?_
         ·skip
          refine pstep_l rfl rfl rfl rfl (pl_q (pq_load_o (p := .v (.int .i64 m21)) (enc := eI) (xs := [1, 100, 1000, 1000000, 7]) (a := (some ⟨b18, 0, none⟩)) x20.1 0 m21 rfl (.p rfl) rfl zm0 (fun _ => hm21) rfl) ?_)
          refine pws_one 9 (by kernel_rfl) ?_
          refine pstep_l0 rfl rfl rfl (yax (vs := [.v (.int .i64 (IntKind.i64.wrap (1 + x17.1)))]) rfl rfl rfl rfl rfl (zut (zut zuh)) (zlt (zlc zln)) ?_)
          refine pws_q 10 (by kernel_rfl) rfl rfl rfl rfl (yac rfl rfl rfl rfl rfl (.p rfl)) ?_
          refine pws_one 11 (by kernel_rfl) ?_
          refine pstep_l0 rfl rfl rfl (yax (vs := [.v (.int .i64 m21)]) rfl rfl rfl rfl rfl (zut (zut zuh)) (zlt (zlt (zlc zln))) ?_)
          refine pws_done (by kernel_rfl) ?_
          exact pk_cut () (zhc rfl (zhc rfl (zhc rfl zhn))) (zsc (zpt zph) (zsc (zpt (zpt zph)) (zsc (zpt zph) zsn))) trivial
         ·skip
          refine pstep_l0 rfl rfl rfl (yax (vs := [.v (.int .i64 (IntKind.i64.wrap (1 + x17.1)))]) rfl rfl rfl rfl rfl (zut (zut zuh)) (zlt (zlc zln)) ?_)
          refine pws_one 7 (by kernel_rfl) ?_
          refine pstep_l rfl rfl rfl rfl (pl_q (pq_load_o (p := .v (.int .i64 m21)) (enc := eI) (xs := [1, 100, 1000, 1000000, 7]) (a := (some ⟨b18, 0, none⟩)) x20.1 0 m21 rfl (.p rfl) rfl zm0 (fun _ => hm21) rfl) ?_)
          refine pws_q 10 (by kernel_rfl) rfl rfl rfl rfl (yac rfl rfl rfl rfl rfl (.p rfl)) ?_
          refine pws_one 11 (by kernel_rfl) ?_
          refine pstep_l0 rfl rfl rfl (yax (vs := [.v (.int .i64 m21)]) rfl rfl rfl rfl rfl (zut (zut zuh)) (zlt (zlt (zlc zln))) ?_)
          refine pws_done (by kernel_rfl) ?_
          exact pk_cut () (zhc rfl (zhc rfl (zhc rfl zhn))) (zsc (zpt zph) (zsc (zpt (zpt zph)) (zsc (zpt zph) zsn))) trivial
        ·skip
         refine pstep_l0 rfl rfl rfl (yax (vs := [.v (.int .i64 (IntKind.i64.wrap (1 + x17.1)))]) rfl rfl rfl rfl rfl (zut (zut zuh)) (zlt (zlc zln)) ?_)
         refine pws_one 6 (by kernel_rfl) ?_
         refine pstep_l rfl rfl rfl rfl (pl_q (pq_indexO (enc := eI) (xs := [1, 100, 1000, 1000000, 7]) rfl rfl rfl (.p rfl) zm0 (.p rfl) (fun _ => hm21)) ?_)
         refine pws_one 7 (by kernel_rfl) ?_
         refine pstep_l rfl rfl rfl rfl (pl_q (pq_load_o (p := .v (.int .i64 m21)) (enc := eI) (xs := [1, 100, 1000, 1000000, 7]) (a := (some ⟨b18, 0, none⟩)) x20.1 0 m21 rfl (.p rfl) rfl zm0 (fun _ => hm21) rfl) ?_)
         refine pws_q 10 (by kernel_rfl) rfl rfl rfl rfl (yac rfl rfl rfl rfl rfl (.p rfl)) ?_
         refine pws_one 11 (by kernel_rfl) ?_
         refine pstep_l0 rfl rfl rfl (yax (vs := [.v (.int .i64 m21)]) rfl rfl rfl rfl rfl (zut (zut zuh)) (zlt (zlt (zlc zln))) ?_)
         refine pws_done (by kernel_rfl) ?_
         exact pk_cut () (zhc rfl (zhc rfl (zhc rfl zhn))) (zsc (zpt zph) (zsc (zpt (zpt zph)) (zsc (zpt zph) zsn))) trivial
       ·skip
        refine pstep_l0 rfl rfl rfl (yax (vs := [.v (.int .i64 (IntKind.i64.wrap (1 + x17.1)))]) rfl rfl rfl rfl rfl (zut zuh) (zlt (zlc zln)) ?_)
        refine pws_one 3 (by kernel_rfl) ?_
        refine pstep_l rfl rfl rfl rfl (pl_lit rfl rfl rfl rfl rfl (zic rfl (zic rfl (zic rfl (zic rfl (zic rfl zin))))) rfl rfl rfl rfl (fun b18 => ?_))
        refine pws_one 6 (by kernel_rfl) ?_
        refine pstep_l rfl rfl rfl rfl (pl_q (pq_indexO (enc := eI) (xs := [1, 100, 1000, 1000000, 7]) rfl rfl rfl (.p rfl) zm0 (.p rfl) (fun _ => hm21)) ?_)
        refine pws_one 7 (by kernel_rfl) ?_
        refine pstep_l rfl rfl rfl rfl (pl_q (pq_load_o (p := .v (.int .i64 m21)) (enc := eI) (xs := [1, 100, 1000, 1000000, 7]) (a := (some ⟨b18, 0, none⟩)) x20.1 0 m21 rfl (.p rfl) rfl zm0 (fun _ => hm21) rfl) ?_)
        refine pws_q 10 (by kernel_rfl) rfl rfl rfl rfl (yac rfl rfl rfl rfl rfl (.p rfl)) ?_
        refine pws_one 11 (by kernel_rfl) ?_
        refine pstep_l0 rfl rfl rfl (yax (vs := [.v (.int .i64 m21)]) rfl rfl rfl rfl rfl (zut (zut zuh)) (zlt (zlt (zlc zln))) ?_)
        refine pws_done (by kernel_rfl) ?_
        exact pk_cut () (zhc rfl (zhc rfl (zhc rfl zhn))) (zsc (zpt zph) (zsc (zpt (zpt zph)) (zsc (zpt zph) zsn))) trivial
     ·skip
      refine pstep_l rfl rfl rfl rfl (pl_lit rfl rfl rfl rfl rfl (zic rfl (zic rfl (zic rfl (zic rfl (zic rfl zin))))) rfl rfl rfl rfl (fun b18 => ?_))
      refine pws_one 1 (by kernel_rfl) ?_
      refine pstep_l rfl rfl rfl rfl (pl_callR rfl rfl (ρ1 := [_]) (ybk (by exact zpt zph) (List.Perm.refl _)) (yau hx17) ?_); rintro _ _ ⟨rfl, rfl⟩
      refine pws_q 2 (by kernel_rfl) rfl rfl rfl rfl (yas rfl (.p rfl) (.p rfl) rfl) ?_
      refine pws_q 8 (by kernel_rfl) rfl rfl rfl rfl (yac rfl rfl rfl rfl rfl (.p rfl)) ?_
      refine pws_one 5 (by kernel_rfl) ?_
      refine pstep_l rfl rfl rfl rfl (pl_callR rfl rfl (ρ1 := [_]) (ybk (by exact zph) (List.Perm.refl _)) (yau hx20) ?_); rintro _ _ ⟨rfl, rfl⟩
      refine pws_two 6 9 (by kernel_rfl) ?_ ?_
      ·skip
       refine pstep_l rfl rfl rfl rfl (pl_q (pq_indexO (enc := eI) (xs := [1, 100, 1000, 1000000, 7]) rfl rfl rfl (.p rfl) zm1 (.p rfl) (fun _ => hm21)) ?_)
       refine pws_two 7 9 (by kernel_rfl) ?_ ?_
       ·skip
        refine pstep_l rfl rfl rfl rfl (pl_q (pq_load_o (p := .v (.int .i64 m21)) (enc := eI) (xs := [1, 100, 1000, 1000000, 7]) (a := (some ⟨b18, 0, none⟩)) x20.1 0 m21 rfl (.p rfl) rfl zm1 (fun _ => hm21) rfl) ?_)
        refine pws_one 9 (by kernel_rfl) ?_
        refine pstep_l0 rfl rfl rfl (yax (vs := [.v (.int .i64 (IntKind.i64.wrap (1 + x17.1)))]) rfl rfl rfl rfl rfl (zut (zut zuh)) (zlt (zlc zln)) ?_)
        refine pws_q 10 (by kernel_rfl) rfl rfl rfl rfl (yac rfl rfl rfl rfl rfl (.p rfl)) ?_
        refine pws_one 11 (by kernel_rfl) ?_
        refine pstep_l0 rfl rfl rfl (yax (vs := [.v (.int .i64 m21)]) rfl rfl rfl rfl rfl (zut (zut zuh)) (zlt (zlt (zlc zln))) ?_)
        refine pws_done (by kernel_rfl) ?_
        exact pk_cut () (zhc rfl (zhc rfl (zhc rfl zhn))) (zsc zph (zsc (zpt (zpt zph)) (zsc (zpt zph) zsn))) trivial
       ·skip
        refine pstep_l0 rfl rfl rfl (yax (vs := [.v (.int .i64 (IntKind.i64.wrap (1 + x17.1)))]) rfl rfl rfl rfl rfl (zut (zut zuh)) (zlt (zlc zln)) ?_)
        refine pws_one 7 (by kernel_rfl) ?_
        refine pstep_l rfl rfl rfl rfl (pl_q (pq_load_o (p := .v (.int .i64 m21)) (enc := eI) (xs := [1, 100, 1000, 1000000, 7]) (a := (some ⟨b18, 0, none⟩)) x20.1 0 m21 rfl (.p rfl) rfl zm1 (fun _ => hm21) rfl) ?_)
        refine pws_q 10 (by kernel_rfl) rfl rfl rfl rfl (yac rfl rfl rfl rfl rfl (.p rfl)) ?_
        refine pws_one 11 (by kernel_rfl) ?_
        refine pstep_l0 rfl rfl rfl (yax (vs := [.v (.int .i64 m21)]) rfl rfl rfl rfl rfl (zut (zut zuh)) (zlt (zlt (zlc zln))) ?_)
        refine pws_done (by kernel_rfl) ?_
        exact pk_cut () (zhc rfl (zhc rfl (zhc rfl zhn))) (zsc zph (zsc (zpt (zpt zph)) (zsc (zpt zph) zsn))) trivial
      ·skip
       refine pstep_l0 rfl rfl rfl (yax (vs := [.v (.int .i64 (IntKind.i64.wrap (1 + x17.1)))]) rfl rfl rfl rfl rfl (zut (zut zuh)) (zlt (zlc zln)) ?_)
       refine pws_one 6 (by kernel_rfl) ?_
       refine pstep_l rfl rfl rfl rfl (pl_q (pq_indexO (enc := eI) (xs := [1, 100, 1000, 1000000, 7]) rfl rfl rfl (.p rfl) zm1 (.p rfl) (fun _ => hm21)) ?_)
       refine pws_one 7 (by kernel_rfl) ?_
       refine pstep_l rfl rfl rfl rfl (pl_q (pq_load_o (p := .v (.int .i64 m21)) (enc := eI) (xs := [1, 100, 1000, 1000000, 7]) (a := (some ⟨b18, 0, none⟩)) x20.1 0 m21 rfl (.p rfl) rfl zm1 (fun _ => hm21) rfl) ?_)
       refine pws_q 10 (by kernel_rfl) rfl rfl rfl rfl (yac rfl rfl rfl rfl rfl (.p rfl)) ?_
       refine pws_one 11 (by kernel_rfl) ?_
       refine pstep_l0 rfl rfl rfl (yax (vs := [.v (.int .i64 m21)]) rfl rfl rfl rfl rfl (zut (zut zuh)) (zlt (zlt (zlc zln))) ?_)
       refine pws_done (by kernel_rfl) ?_
       exact pk_cut () (zhc rfl (zhc rfl (zhc rfl zhn))) (zsc zph (zsc (zpt (zpt zph)) (zsc (zpt zph) zsn))) trivial
    ·rintro _ τ ρ1 hsub22 _; (try dsimp only at hsub22); dsimp only [pupds]
     obtain rfl := Option.some.inj hq15
     exact ybb ((), (x20.2.L, x20.2.I, (IntKind.i64.wrap (1 + x17.1)), m21)) (zhc rfl (zhc rfl (zhc rfl zhn))) (PSub.trans (zsc zph (zsc zph (zsc zph zsn))) hsub22) rfl
   ·replace hq15 := yaw hc16 hq15
    refine yao ?_
    obtain rfl := Option.some.inj hq15
    exact ybb ((), (x10.2.L, x10.2.I, 0, 0)) (zhc rfl (zhc rfl (zhc rfl zhn))) (zsc zph (zsc zph (zsc zph zsn))) rfl
  ·rintro ⟨_, ⟨l11, v12, v13, v14⟩⟩ τ hz; (try dsimp only at hz); subst q15; (try dsimp only at h); dsimp only [pupds]
   refine yab (yab (yaa ?_))
   refine zmv (p := .v (.pointer (some ⟨b0, 0, none⟩))) rfl rfl rfl rfl rfl ?_
   refine yaf h ?_; clear h; intro x23 hx23 h
   refine ybl rfl rfl rfl (pl_callR rfl rfl (ρ1 := [_]) (ybk (by exact zph) (List.Perm.refl _)) (yau hx23) ?_); rintro _ _ ⟨rfl, rfl⟩
   refine yah rfl rfl rfl (yak rfl (.p rfl) (.p rfl) rfl) ?_
   refine yad (yae ?_)
   refine yaf h ?_; clear h; intro q28 hq28 h
   refine ybe (Y := (Unit) × ((List Int) × Int × Bool × Int)) (fun (_, (l24, v25, v26, v27)) => [(0, .v (.pointer (some ⟨b0, 0, none⟩))), (2, .v (.pointer (some ⟨b1, 0, none⟩))), (3, .v (.pointer (some ⟨b2, 0, none⟩)))]) (fun (_, (l24, v25, v26, v27)) => [PRes.b b0 59 [.slc (List.map eI l24), .v (.int .i64 v25)], PRes.b b1 44 [.v (.int .i64 0), .v (.int .i64 0), .v (.int .i64 0), .v (.bool false), .v (.int .i64 0), .v (.bool false), .v (.int .i64 0)], PRes.b b2 44 [.v (.int .i64 v6), .v (.int .i64 v13), .v (.int .i64 v14), .v (.bool v26), .v (.int .i64 v27), .v (.bool false), .v (.int .i64 0)]]) (fun (_, (l24, v25, v26, v27)) => q28 = (l24, v25, v26, v27)) ?_ ?_
   ·skip
    refine yal rfl (fun hc29 => ?_) (fun hc29 => ?_)
    ·replace hq28 := yav hc29 hq28
     refine yaa ?_
     refine zmv (p := .v (.pointer (some ⟨b0, 0, none⟩))) rfl rfl rfl rfl rfl ?_
     refine yaf hq28 ?_; clear hq28; intro x30 hx30 hq28
     refine ybl rfl rfl rfl (pl_callR rfl rfl (ρ1 := [_]) (ybk (by exact zph) (List.Perm.refl _)) (made_Source_rate_ok hx30) ?_); rintro _ _ ⟨rfl, rfl⟩
     refine yah rfl rfl rfl (yac rfl rfl rfl rfl rfl (.p rfl)) ?_
     refine pwl_l0 rfl rfl (yax (vs := [.v (.bool true)]) rfl rfl rfl rfl rfl (zut (zut zuh)) (zlt (zlt (zlt (zlc zln)))) ?_)
     refine yah rfl rfl rfl (yac rfl rfl rfl rfl rfl (.p rfl)) ?_
     refine pwl_l0 rfl rfl (yax (vs := [.v (.int .i64 x30.1)]) rfl rfl rfl rfl rfl (zut (zut zuh)) (zlt (zlt (zlt (zlt (zlc zln))))) ?_)
     refine yad ?_
     obtain rfl := Option.some.inj hq28
     exact ybb ((), (x30.2.L, x30.2.I, true, x30.1)) (zhc rfl (zhc rfl (zhc rfl zhn))) (zsc zph (zsc zph (zsc zph zsn))) rfl
    ·replace hq28 := yaw hc29 hq28
     refine yao ?_
     obtain rfl := Option.some.inj hq28
     exact ybb ((), (x23.2.L, x23.2.I, false, 0)) (zhc rfl (zhc rfl (zhc rfl zhn))) (zsc zph (zsc zph (zsc zph zsn))) rfl
   ·rintro ⟨_, ⟨l24, v25, v26, v27⟩⟩ τ hz; (try dsimp only at hz); subst q28; (try dsimp only at h); dsimp only [pupds]
    refine yab (yab (yaa ?_))
    refine zmv (p := .v (.pointer (some ⟨b0, 0, none⟩))) rfl rfl rfl rfl rfl ?_
    refine yaf h ?_; clear h; intro x31 hx31 h
    refine ybl rfl rfl rfl (pl_callR rfl rfl (ρ1 := [_]) (ybk (by exact zph) (List.Perm.refl _)) (yau hx31) ?_); rintro _ _ ⟨rfl, rfl⟩
    refine yah rfl rfl rfl (yak rfl (.p rfl) (.p rfl) rfl) ?_
    refine yad (yae ?_)
    refine yaf h ?_; clear h; intro q36 hq36 h
    refine ybe (Y := (Unit) × ((List Int) × Int × Bool × Int)) (fun (_, (l32, v33, v34, v35)) => [(2, .v (.pointer (some ⟨b1, 0, none⟩))), (3, .v (.pointer (some ⟨b2, 0, none⟩)))]) (fun (_, (l32, v33, v34, v35)) => [PRes.b b0 59 [.slc (List.map eI l32), .v (.int .i64 v33)], PRes.b b1 44 [.v (.int .i64 0), .v (.int .i64 0), .v (.int .i64 0), .v (.bool false), .v (.int .i64 0), .v (.bool false), .v (.int .i64 0)], PRes.b b2 44 [.v (.int .i64 v6), .v (.int .i64 v13), .v (.int .i64 v14), .v (.bool v26), .v (.int .i64 v27), .v (.bool v34), .v (.int .i64 v35)]]) (fun (_, (l32, v33, v34, v35)) => q36 = (l32, v33, v34, v35)) ?_ ?_
    ·skip
     refine yal rfl (fun hc37 => ?_) (fun hc37 => ?_)
     ·replace hq36 := yav hc37 hq36
      refine yab (yaa ?_)
      refine zmv (p := .v (.pointer (some ⟨b0, 0, none⟩))) rfl rfl rfl rfl rfl ?_
      refine yaf hq36 ?_; clear hq36; intro x38 hx38 hq36
      refine ybl rfl rfl rfl (pl_callR rfl rfl (ρ1 := [_]) (ybk (by exact zph) (List.Perm.refl _)) (made_Source_rate_ok hx38) ?_); rintro _ _ ⟨rfl, rfl⟩
      refine yah rfl rfl rfl (pq_quo rfl (.p rfl) (.p rfl) (fun _ => by decide)) ?_
      refine yah rfl rfl rfl (yac rfl rfl rfl rfl rfl (.p rfl)) ?_
      refine pwl_l0 rfl rfl (yax (vs := [.v (.bool true)]) rfl rfl rfl rfl rfl (zut (zut zuh)) (zlt (zlt (zlt (zlt (zlt (zlc zln)))))) ?_)
      refine yah rfl rfl rfl (yac rfl rfl rfl rfl rfl (.p rfl)) ?_
      refine pwl_l0 rfl rfl (yax (vs := [.v (.int .i64 (IntKind.i64.wrap (Int.tdiv x38.1 8)))]) rfl rfl rfl rfl rfl (zut (zut zuh)) (zlt (zlt (zlt (zlt (zlt (zlt (zlc zln))))))) ?_)
      refine yad (yae (yab (yaa ?_)))
      refine yah rfl rfl rfl (yac rfl rfl rfl rfl rfl (.p rfl)) ?_
      refine yah rfl rfl rfl (yag (p := .v (.bool v26)) rfl (.p rfl) zm2 rfl) ?_
      refine yad (yae ?_)
      refine yal rfl (fun hc39 => ?_) (fun hc39 => ?_)
      ·replace hq36 := yav hc39 hq36
       refine yaa ?_
       refine yah rfl rfl rfl (yac rfl rfl rfl rfl rfl (.p rfl)) ?_
       refine yah rfl rfl rfl (yag (p := .v (.int .i64 (IntKind.i64.wrap (Int.tdiv x38.1 8)))) rfl (.p rfl) zm2 rfl) ?_
       refine yah rfl rfl rfl (yac rfl rfl rfl rfl rfl (.p rfl)) ?_
       refine yah rfl rfl rfl (yag (p := .v (.int .i64 v27)) rfl (.p rfl) zm2 rfl) ?_
       refine yah rfl rfl rfl (pq_min rfl (.p rfl) (.p rfl)) ?_
       refine yah rfl rfl rfl (yac rfl rfl rfl rfl rfl (.p rfl)) ?_
       refine pwl_l0 rfl rfl (yax (vs := [.v (.int .i64 (imin (IntKind.i64.wrap (Int.tdiv x38.1 8)) v27))]) rfl rfl rfl rfl rfl (zut (zut zuh)) (zlt (zlt (zlt (zlt (zlt (zlt (zlc zln))))))) ?_)
       refine yad ?_
       obtain rfl := Option.some.inj hq36
       exact ybb ((), (x38.2.L, x38.2.I, true, (imin (IntKind.i64.wrap (Int.tdiv x38.1 8)) v27))) (zhc rfl (zhc rfl zhn)) (zsc zph (zsc zph (zsc zph zsn))) rfl
      ·replace hq36 := yaw hc39 hq36
       refine yao ?_
       obtain rfl := Option.some.inj hq36
       exact ybb ((), (x38.2.L, x38.2.I, true, (IntKind.i64.wrap (Int.tdiv x38.1 8)))) (zhc rfl (zhc rfl zhn)) (zsc zph (zsc zph (zsc zph zsn))) rfl
     ·replace hq36 := yaw hc37 hq36
      refine yao ?_
      obtain rfl := Option.some.inj hq36
      exact ybb ((), (x31.2.L, x31.2.I, false, 0)) (zhc rfl (zhc rfl zhn)) (zsc zph (zsc zph (zsc zph zsn))) rfl
    ·rintro ⟨_, ⟨l32, v33, v34, v35⟩⟩ τ hz; (try dsimp only at hz); subst q36; (try dsimp only at h); dsimp only [pupds]
     refine yab (yaa ?_)
     refine yah rfl rfl rfl (yag (p := .agg [.v (.int .i64 v6), .v (.int .i64 v13), .v (.int .i64 v14), .v (.bool v26), .v (.int .i64 v27), .v (.bool v34), .v (.int .i64 v35)]) rfl (.p rfl) zm2 rfl) ?_
     refine pwl_l0 rfl rfl (yax (vs := [.v (.int .i64 v6), .v (.int .i64 v13), .v (.int .i64 v14), .v (.bool v26), .v (.int .i64 v27), .v (.bool v34), .v (.int .i64 v35)]) rfl rfl rfl rfl rfl (zut zuh) (zlc (zlc (zlc (zlc (zlc (zlc (zlc zln))))))) ?_)
     refine yad (yae (yaq ?_))
     obtain rfl := Option.some.inj h
     exact yar (prv_1 (prv1_c rfl zm1 rfl)) (zsc zph zsn) ⟨rfl, rfl⟩
def made_Measures (p0 : (List Int)) : Option (List TMeasure) := Option.bind (made_Cut p0 300) (fun x1 => Option.bind (made_Source_Next (⟨x1, 0⟩ : Tmade_Source) 8) (fun x3 => Option.bind (cond (decide (0 < x3.1)) (Option.bind (made_Source_duty x3.2) (fun x12 => Option.bind (made_Source_duty x12.2) (fun x13 => Option.bind (app 144 ([] : List TMeasure) [(⟨1, 1, (⟨#[57, 52]⟩ : ByteArray), [], 0, 0, 36525, (-1), x12.1⟩ : TMeasure), (⟨2, 1, (⟨#[57, 53]⟩ : ByteArray), [], 0, 0, 25, (-1), x13.1⟩ : TMeasure)]) (fun l17 => some (l17, x13.2.L, x13.2.I))))) (some (([] : (List TMeasure)), x3.2.L, x3.2.I))) (fun (l7, l8, v9) => Option.bind (made_Source_Next (⟨l8, v9⟩ : Tmade_Source) 13) (fun x21 => Option.bind (loopF (S := (List TMeasure) × Int × (List Int) × Int) (T := ((List TMeasure))) (fun (l23, v26, l27, v28) => cond (decide (v26 < x21.1)) (Option.bind (made_Source_Next (⟨l27, v28⟩ : Tmade_Source) 6) (fun x36 => Option.bind (made_Source_Next x36.2 4) (fun x37 => Option.bind (made_Source_Code x37.2 (IntKind.i64.wrap (2 + (IntKind.i64.wrap (2 * x37.1))))) (fun x38 => Option.bind (made_Source_Next x38.2 20) (fun x39 => Option.bind (made_Source_duty x39.2) (fun x40 => Option.bind (made_Source_Next x40.2 30) (fun x42 => Option.bind (made_Source_Next x42.2 3) (fun x43 => Option.bind (cond (x43.1 == 1) (Option.bind (made_Source_Next x43.2 (IntKind.i64.wrap (x39.1 + 1))) (fun x50 => some (x50.2.L, x50.2.I, x50.1))) (some (x43.2.L, x43.2.I, (-1)))) (fun (l45, v46, v47) => Option.bind (made_Source_Next (⟨l45, v46⟩ : Tmade_Source) 3) (fun x51 => Option.bind (cond (x51.1 == 1) (Option.bind (made_Source_Next x51.2 2) (fun x58 => some (x58.2.L, x58.2.I, (IntKind.i64.wrap (1 + x58.1))))) (some (x51.2.L, x51.2.I, 0))) (fun (l53, v54, v55) => Option.bind (made_Source_Next (⟨l53, v54⟩ : Tmade_Source) 16) (fun x59 => Option.bind (loopF (S := Int × (List ByteArray)) (T := ((List ByteArray))) (fun (v60, l62) => cond ((decide (v60 < 3)) && (decide (7 < x59.1))) (Option.bind (Option.bind (ge0 v60) (fun u80 => cond ((iand .i64 (ishr .i64 x59.1 v60) 1) == 1) (Option.bind (made_Countries) (fun x82 => Option.bind (idx x82 v60) (fun m83 => Option.bind (app 16 l62 [m83]) (fun l86 => some l86)))) (some l62))) (fun l78 => some (.inl ((IntKind.i64.wrap (v60 + 1)), l78)))) (some (.inr l62))) FUEL (0, ([] : List ByteArray))) (fun l69 => Option.bind (app 144 l23 [(⟨(IntKind.i64.wrap (3 + (IntKind.i64.wrap (2 * v26)))), (IntKind.i64.wrap (1 + x36.1)), x38.1, l69, v55, x39.1, (IntKind.i64.wrap ((IntKind.i64.wrap (x39.1 + 1)) + x42.1)), v47, x40.1⟩ : TMeasure)]) (fun l93 => some (.inl (l93, (IntKind.i64.wrap (v26 + 1)), x59.2.L, x59.2.I)))))))))))))))) (some (.inr l23))) FUEL (l7, 0, x21.2.L, x21.2.I)) (fun l32 => some l32)))))
set_option maxHeartbeats 4000000 in
theorem made_Measures_ok {p0 : (List Int)} {r : (List TMeasure)}  (h : made_Measures p0 = some r) : PF 16 [.slc (List.map eI p0)] (.slc (List.map TMeasure.enc r)) := by
 unfold made_Measures at h
 refine pf_of ?_
 refine penter Tryz.func16 fk16 rfl Tryz.ntmps16 Tryz.results16 rfl ?_
 refine yab (yaa ?_)
 refine zas (p := .v (.slice none 0 0)) rfl rfl rfl rfl rfl ?_
 refine yad (yae (yab (yaa ?_)))
 refine zmv (p := .slc (List.map eI p0)) rfl rfl rfl rfl rfl ?_
 refine yaf h ?_; clear h; intro x1 hx1 h
 refine ybd rfl rfl rfl rfl rfl (made_Cut_ok hx1) ?_
 refine yah rfl rfl rfl (pq_build (cs := [.slc (List.map eI x1), .v (.int .i64 0)]) rfl rfl rfl rfl rfl rfl rfl (zfc rfl rfl rfl rfl (zlc zln) zfn)) ?_
 refine ybl rfl rfl rfl (pl_box (cs := [.slc (List.map eI x1), .v (.int .i64 0)]) rfl rfl (fun b2 => ?_))
 refine zas (p := .v (.pointer (some ⟨b2, 0, none⟩))) rfl rfl rfl rfl rfl ?_
 refine yad (yae (yab (yaa ?_)))
 refine zas (p := .v (.slice none 0 0)) rfl rfl rfl rfl rfl ?_
 refine yad (yae (yab (yab (yaa ?_))))
 refine zmv (p := .v (.pointer (some ⟨b2, 0, none⟩))) rfl rfl rfl rfl rfl ?_
 refine yaf h ?_; clear h; intro x3 hx3 h
 refine ybl rfl rfl rfl (pl_callR rfl rfl (ρ1 := [_]) (ybk (by exact zph) (List.Perm.refl _)) (yau hx3) ?_); rintro _ _ ⟨rfl, rfl⟩
 refine yah rfl rfl rfl (yak rfl (.p rfl) (.p rfl) rfl) ?_
 refine yad (yae ?_)
 refine yaf h ?_; clear h; intro q10 hq10 h
 refine ybe (Y := (Option Addr × Nat) × ((List TMeasure) × (List Int) × Int)) (fun ((a5, c6), (l7, l8, v9)) => [(3, .v (.pointer (some ⟨b2, 0, none⟩))), (4, .v (.slice a5 l7.length c6))]) (fun ((a5, c6), (l7, l8, v9)) => [PRes.b b2 59 [.slc (List.map eI l8), .v (.int .i64 v9)], PRes.row a5 l7.length c6 46 15 (List.map TMeasure.enc l7)]) (fun ((a5, c6), (l7, l8, v9)) => q10 = (l7, l8, v9)) ?_ ?_
 ·skip
  refine yal rfl (fun hc11 => ?_) (fun hc11 => ?_)
  ·replace hq10 := yav hc11 hq10
   refine yaa ?_
   refine zmv (p := .v (.slice none 0 0)) rfl rfl rfl rfl rfl ?_
   refine zmv (p := .v (.pointer (some ⟨b2, 0, none⟩))) rfl rfl rfl rfl rfl ?_
   refine yaf hq10 ?_; clear hq10; intro x12 hx12 hq10
   refine ybl rfl rfl rfl (pl_callR rfl rfl (ρ1 := [_]) (ybk (by exact zph) (List.Perm.refl _)) (made_Source_duty_ok hx12) ?_); rintro _ _ ⟨rfl, rfl⟩
   refine yah rfl rfl rfl (pq_build (cs := [.v (.int .i64 1), .v (.int .i64 1), .v (.string (⟨#[57, 52]⟩ : ByteArray)), .v (.slice none 0 0), .v (.int .i64 0), .v (.int .i64 0), .v (.int .i64 36525), .v (.int .i64 (-1)), .v (.int .i64 x12.1.Rate), .v (.int .i64 x12.1.Amount), .v (.int .i64 x12.1.Per), .v (.bool x12.1.HasMost), .v (.int .i64 x12.1.Most), .v (.bool x12.1.HasLeast), .v (.int .i64 x12.1.Least)]) rfl rfl rfl rfl rfl rfl rfl (zfc rfl rfl rfl rfl (zlc zln) (zfc rfl rfl rfl rfl (zlt (zlc zln)) (zfc rfl rfl rfl rfl (zlt (zlt (zlc zln))) (zfc rfl rfl rfl rfl (zlt (zlt (zlt (zlt (zlt (zlt (zlc zln))))))) (zfc rfl rfl rfl rfl (zlt (zlt (zlt (zlt (zlt (zlt (zlt (zlc zln)))))))) (zfc rfl rfl rfl rfl (zlt (zlt (zlt (zlt (zlt (zlt (zlt (zlt (zlc (zlc (zlc (zlc (zlc (zlc (zlc zln))))))))))))))) zfn))))))) ?_
   refine zmv (p := .v (.pointer (some ⟨b2, 0, none⟩))) rfl rfl rfl rfl rfl ?_
   refine yaf hq10 ?_; clear hq10; intro x13 hx13 hq10
   refine ybl rfl rfl rfl (pl_callR rfl rfl (ρ1 := [_]) (ybk (by exact zph) (List.Perm.refl _)) (made_Source_duty_ok hx13) ?_); rintro _ _ ⟨rfl, rfl⟩
   refine yah rfl rfl rfl (pq_build (cs := [.v (.int .i64 2), .v (.int .i64 1), .v (.string (⟨#[57, 53]⟩ : ByteArray)), .v (.slice none 0 0), .v (.int .i64 0), .v (.int .i64 0), .v (.int .i64 25), .v (.int .i64 (-1)), .v (.int .i64 x13.1.Rate), .v (.int .i64 x13.1.Amount), .v (.int .i64 x13.1.Per), .v (.bool x13.1.HasMost), .v (.int .i64 x13.1.Most), .v (.bool x13.1.HasLeast), .v (.int .i64 x13.1.Least)]) rfl rfl rfl rfl rfl rfl rfl (zfc rfl rfl rfl rfl (zlc zln) (zfc rfl rfl rfl rfl (zlt (zlc zln)) (zfc rfl rfl rfl rfl (zlt (zlt (zlc zln))) (zfc rfl rfl rfl rfl (zlt (zlt (zlt (zlt (zlt (zlt (zlc zln))))))) (zfc rfl rfl rfl rfl (zlt (zlt (zlt (zlt (zlt (zlt (zlt (zlc zln)))))))) (zfc rfl rfl rfl rfl (zlt (zlt (zlt (zlt (zlt (zlt (zlt (zlt (zlc (zlc (zlc (zlc (zlc (zlc (zlc zln))))))))))))))) zfn))))))) ?_
   refine pwl_aggnil 20 3 rfl rfl ?_
   refine pwl_aggnil 23 3 rfl rfl ?_
   refine ybl rfl rfl rfl (pl_lit rfl rfl rfl rfl rfl (zic rfl (zic rfl zin)) rfl rfl rfl rfl (fun b14 => ?_))
   refine pwl_nilrow 46 15 ?_
   refine yaf hq10 ?_; clear hq10; intro l17 hl17 hq10
   refine ybl rfl rfl rfl (pl_app_o (enc := TMeasure.enc) rfl rfl rfl rfl rfl rfl rfl rfl rfl zm1 (by exact zph) hl17 (fun a18 c19 => ?_))
   refine zas (p := .v (.slice a18 l17.length c19)) rfl rfl rfl rfl rfl ?_
   refine yad ?_
   obtain rfl := Option.some.inj hq10
   exact ybb ((a18, c19), (l17, x13.2.L, x13.2.I)) (zhc rfl (zhc rfl zhn)) (zsc (zpt (zpt zph)) (zsc zph zsn)) rfl
  ·replace hq10 := yaw hc11 hq10
   refine yao ?_
   refine pk_mid_cov (cov_nilrow 46 15) ?_
   obtain rfl := Option.some.inj hq10
   exact ybb ((none, 0), (([] : (List TMeasure)), x3.2.L, x3.2.I)) (zhc rfl (zhc rfl zhn)) (zsc (zpt zph) (zsc zph zsn)) rfl
 ·rintro ⟨⟨a5, c6⟩, ⟨l7, l8, v9⟩⟩ τ hz; (try dsimp only at hz); subst q10; (try dsimp only at h); dsimp only [pupds]
  refine yab (yab (yaa ?_))
  refine zmv (p := .v (.pointer (some ⟨b2, 0, none⟩))) rfl rfl rfl rfl rfl ?_
  refine yaf h ?_; clear h; intro x21 hx21 h
  refine ybl rfl rfl rfl (pl_callR rfl rfl (ρ1 := [_]) (ybk (by exact zph) (List.Perm.refl _)) (yau hx21) ?_); rintro _ _ ⟨rfl, rfl⟩
  refine zas (p := .v (.int .i64 0)) rfl rfl rfl rfl rfl ?_
  refine zas (p := .v (.int .i64 x21.1)) rfl rfl rfl rfl rfl ?_
  refine yad (yae ?_)
  refine yaf h ?_; clear h; intro q34 hq34 h
  refine ybe (Y := (Option Addr × Nat) × ((List TMeasure))) (fun ((a30, c31), l32) => [(4, .v (.slice a30 l32.length c31))]) (fun ((a30, c31), l32) => [PRes.row a30 l32.length c31 46 15 (List.map TMeasure.enc l32)]) (fun ((a30, c31), l32) => q34 = l32) ?_ ?_
  ·refine yaz ?_
   refine pwc_loopF (Y := Option Addr × Nat) (S := (List TMeasure) × Int × (List Int) × Int) _ hq34 (fun (a24, c25) (l23, v26, l27, v28) => [(3, .v (.pointer (some ⟨b2, 0, none⟩))), (4, .v (.slice a24 l23.length c25)), (5, .v (.int .i64 v26)), (6, .v (.int .i64 x21.1))]) (fun (a24, c25) (l23, v26, l27, v28) => [PRes.b b2 59 [.slc (List.map eI l27), .v (.int .i64 v28)], PRes.row a24 l23.length c25 46 15 (List.map TMeasure.enc l23)]) (a5, c6) (zhc rfl (zhc rfl (zhc rfl (zhc rfl zhn)))) (zsc zph (zsc zph zsn)) ?_
   rintro ⟨a24, c25⟩ ⟨l23, v26, l27, v28⟩ o τ hb33; (try dsimp only at hb33); dsimp only [pupds]
   refine yab (yab (yaa ?_))
   refine zmv (p := .v (.int .i64 v26)) rfl rfl rfl rfl rfl ?_
   refine zmv (p := .v (.int .i64 x21.1)) rfl rfl rfl rfl rfl ?_
   refine yah rfl rfl rfl (yak rfl (.p rfl) (.p rfl) rfl) ?_
   refine yad (yae ?_)
   refine yal rfl (fun hc35 => ?_) (fun hc35 => ?_)
   ·replace hb33 := yav hc35 hb33
    refine yao (yae (yab (yaz (yab (yaa ?_)))))
    refine zmv (p := .v (.int .i64 v26)) rfl rfl rfl rfl rfl ?_
    refine yah rfl rfl rfl (yas rfl (.p rfl) (.p rfl) rfl) ?_
    refine yah rfl rfl rfl (yas rfl (.p rfl) (.p rfl) rfl) ?_
    refine zmv (p := .v (.pointer (some ⟨b2, 0, none⟩))) rfl rfl rfl rfl rfl ?_
    refine yaf hb33 ?_; clear hb33; intro x36 hx36 hb33
    refine ybl rfl rfl rfl (pl_callR rfl rfl (ρ1 := [_]) (ybk (by exact zph) (List.Perm.refl _)) (yau hx36) ?_); rintro _ _ ⟨rfl, rfl⟩
    refine yah rfl rfl rfl (yas rfl (.p rfl) (.p rfl) rfl) ?_
    refine zmv (p := .v (.pointer (some ⟨b2, 0, none⟩))) rfl rfl rfl rfl rfl ?_
    refine zmv (p := .v (.pointer (some ⟨b2, 0, none⟩))) rfl rfl rfl rfl rfl ?_
    refine yaf hb33 ?_; clear hb33; intro x37 hx37 hb33
    refine ybl rfl rfl rfl (pl_callR rfl rfl (ρ1 := [_]) (ybk (by exact zph) (List.Perm.refl _)) (yau hx37) ?_); rintro _ _ ⟨rfl, rfl⟩
    refine yah rfl rfl rfl (yas rfl (.p rfl) (.p rfl) rfl) ?_
    refine yah rfl rfl rfl (yas rfl (.p rfl) (.p rfl) rfl) ?_
    refine yaf hb33 ?_; clear hb33; intro x38 hx38 hb33
    refine ybl rfl rfl rfl (pl_callR rfl rfl (ρ1 := [_]) (ybk (by exact zph) (List.Perm.refl _)) (made_Source_Code_ok hx38) ?_); rintro _ _ ⟨rfl, rfl⟩
    refine zmv (p := .v (.pointer (some ⟨b2, 0, none⟩))) rfl rfl rfl rfl rfl ?_
    refine yaf hb33 ?_; clear hb33; intro x39 hx39 hb33
    refine ybl rfl rfl rfl (pl_callR rfl rfl (ρ1 := [_]) (ybk (by exact zph) (List.Perm.refl _)) (yau hx39) ?_); rintro _ _ ⟨rfl, rfl⟩
    refine zmv (p := .v (.pointer (some ⟨b2, 0, none⟩))) rfl rfl rfl rfl rfl ?_
    refine yaf hb33 ?_; clear hb33; intro x40 hx40 hb33
    refine ybl rfl rfl rfl (pl_callR rfl rfl (ρ1 := [_]) (ybk (by exact zph) (List.Perm.refl _)) (made_Source_duty_ok hx40) ?_); rintro _ _ ⟨rfl, rfl⟩
    refine yah rfl rfl rfl (pq_build (cs := [.v (.int .i64 (IntKind.i64.wrap (3 + (IntKind.i64.wrap (2 * v26))))), .v (.int .i64 (IntKind.i64.wrap (1 + x36.1))), .v (.string x38.1), .v (.slice none 0 0), .v (.int .i64 0), .v (.int .i64 x39.1), .v (.int .i64 0), .v (.int .i64 (-1)), .v (.int .i64 x40.1.Rate), .v (.int .i64 x40.1.Amount), .v (.int .i64 x40.1.Per), .v (.bool x40.1.HasMost), .v (.int .i64 x40.1.Most), .v (.bool x40.1.HasLeast), .v (.int .i64 x40.1.Least)]) rfl rfl rfl rfl rfl rfl rfl (zfc rfl rfl rfl rfl (zlc zln) (zfc rfl rfl rfl rfl (zlt (zlc zln)) (zfc rfl rfl rfl rfl (zlt (zlt (zlc zln))) (zfc rfl rfl rfl rfl (zlt (zlt (zlt (zlt (zlt (zlc zln)))))) (zfc rfl rfl rfl rfl (zlt (zlt (zlt (zlt (zlt (zlt (zlt (zlc zln)))))))) (zfc rfl rfl rfl rfl (zlt (zlt (zlt (zlt (zlt (zlt (zlt (zlt (zlc (zlc (zlc (zlc (zlc (zlc (zlc zln))))))))))))))) zfn))))))) ?_
    refine ybl rfl rfl rfl (pl_alloc (cs := [.v (.int .i64 0), .v (.int .i64 0), .v (.string ByteArray.empty), .v (.slice none 0 0), .v (.int .i64 0), .v (.int .i64 0), .v (.int .i64 0), .v (.int .i64 0), .v (.int .i64 0), .v (.int .i64 0), .v (.int .i64 0), .v (.bool false), .v (.int .i64 0), .v (.bool false), .v (.int .i64 0)]) rfl rfl rfl rfl (fun b41 => ?_))
    refine pwl_l0 rfl rfl (yax (vs := [.v (.int .i64 (IntKind.i64.wrap (3 + (IntKind.i64.wrap (2 * v26))))), .v (.int .i64 (IntKind.i64.wrap (1 + x36.1))), .v (.string x38.1), .v (.slice none 0 0), .v (.int .i64 0), .v (.int .i64 x39.1), .v (.int .i64 0), .v (.int .i64 (-1)), .v (.int .i64 x40.1.Rate), .v (.int .i64 x40.1.Amount), .v (.int .i64 x40.1.Per), .v (.bool x40.1.HasMost), .v (.int .i64 x40.1.Most), .v (.bool x40.1.HasLeast), .v (.int .i64 x40.1.Least)]) rfl rfl rfl rfl rfl zuh (zlc (zlc (zlc (zlc (zlc (zlc (zlc (zlc (zlc (zlc (zlc (zlc (zlc (zlc (zlc zln))))))))))))))) ?_)
    refine yad (yae (yab ?_))
    refine yaf hb33 ?_; clear hb33; intro x42 hx42 hb33
    refine ybe (Y := Unit) (fun _ => [(3, .v (.pointer (some ⟨b2, 0, none⟩))), (4, .v (.slice a24 l23.length c25)), (5, .v (.int .i64 v26)), (6, .v (.int .i64 x21.1)), (7, .v (.pointer (some ⟨b41, 0, none⟩)))]) (fun _ => [PRes.b b2 59 [.slc (List.map eI x42.2.L), .v (.int .i64 x42.2.I)], PRes.b b41 46 [.v (.int .i64 (IntKind.i64.wrap (3 + (IntKind.i64.wrap (2 * v26))))), .v (.int .i64 (IntKind.i64.wrap (1 + x36.1))), .v (.string x38.1), .v (.slice none 0 0), .v (.int .i64 0), .v (.int .i64 x39.1), .v (.int .i64 (IntKind.i64.wrap ((IntKind.i64.wrap (x39.1 + 1)) + x42.1))), .v (.int .i64 (-1)), .v (.int .i64 x40.1.Rate), .v (.int .i64 x40.1.Amount), .v (.int .i64 x40.1.Per), .v (.bool x40.1.HasMost), .v (.int .i64 x40.1.Most), .v (.bool x40.1.HasLeast), .v (.int .i64 x40.1.Least)], PRes.row a24 l23.length c25 46 15 (List.map TMeasure.enc l23)]) (fun _ => True) ?_ ?_
    ·refine pws_start (ρd := [PRes.b b2 _ _, PRes.b b41 _ _]) _ (ybk (zpt zph) (List.Perm.refl _)) ?_
     refine pws_q 0 (by kernel_rfl) rfl rfl rfl rfl (yac rfl rfl rfl rfl rfl (.p rfl)) ?_
     refine pws_q 3 (by kernel_rfl) rfl rfl rfl rfl (yam (p := .v (.pointer (some ⟨b2, 0, none⟩))) rfl (.p rfl)) ?_
     refine pws_two 1 4 (by kernel_rfl) ?_ ?_
     ·skip
      refine pstep_l rfl rfl rfl rfl (pl_q (yag (p := .v (.int .i64 x39.1)) rfl (.p rfl) zm1 rfl) ?_)
      refine pws_q 2 (by kernel_rfl) rfl rfl rfl rfl (yas rfl (.p rfl) (.p rfl) rfl) ?_
      refine pws_one 4 (by kernel_rfl) ?_
      refine pstep_l rfl rfl rfl rfl (pl_callR rfl rfl (ρ1 := [_]) (ybk (by exact zph) (List.Perm.refl _)) (yau hx42) ?_); rintro _ _ ⟨rfl, rfl⟩
      refine pws_q 5 (by kernel_rfl) rfl rfl rfl rfl (yas rfl (.p rfl) (.p rfl) rfl) ?_
      refine pws_q 6 (by kernel_rfl) rfl rfl rfl rfl (yac rfl rfl rfl rfl rfl (.p rfl)) ?_
      refine pws_one 7 (by kernel_rfl) ?_
      refine pstep_l0 rfl rfl rfl (yax (vs := [.v (.int .i64 (IntKind.i64.wrap ((IntKind.i64.wrap (x39.1 + 1)) + x42.1)))]) rfl rfl rfl rfl rfl (zut zuh) (zlt (zlt (zlt (zlt (zlt (zlt (zlc zln))))))) ?_)
      refine pws_done (by kernel_rfl) ?_
      exact ybb () (zhc rfl (zhc rfl (zhc rfl (zhc rfl (zhc rfl zhn))))) (zsc zph (zsc zph (zsc zph zsn))) trivial
     ·skip
      refine pstep_l rfl rfl rfl rfl (pl_callR rfl rfl (ρ1 := [_]) (ybk (by exact zph) (List.Perm.refl _)) (yau hx42) ?_); rintro _ _ ⟨rfl, rfl⟩
      refine pws_one 1 (by kernel_rfl) ?_
      refine pstep_l rfl rfl rfl rfl (pl_q (yag (p := .v (.int .i64 x39.1)) rfl (.p rfl) zm1 rfl) ?_)
      refine pws_q 2 (by kernel_rfl) rfl rfl rfl rfl (yas rfl (.p rfl) (.p rfl) rfl) ?_
      refine pws_q 5 (by kernel_rfl) rfl rfl rfl rfl (yas rfl (.p rfl) (.p rfl) rfl) ?_
      refine pws_q 6 (by kernel_rfl) rfl rfl rfl rfl (yac rfl rfl rfl rfl rfl (.p rfl)) ?_
      refine pws_one 7 (by kernel_rfl) ?_
      refine pstep_l0 rfl rfl rfl (yax (vs := [.v (.int .i64 (IntKind.i64.wrap ((IntKind.i64.wrap (x39.1 + 1)) + x42.1)))]) rfl rfl rfl rfl rfl (zut zuh) (zlt (zlt (zlt (zlt (zlt (zlt (zlc zln))))))) ?_)
      refine pws_done (by kernel_rfl) ?_
      exact ybb () (zhc rfl (zhc rfl (zhc rfl (zhc rfl (zhc rfl zhn))))) (zsc zph (zsc zph (zsc zph zsn))) trivial
    ·rintro _ τ _; dsimp only [pupds]
     refine yab (yab (yaa ?_))
     refine zmv (p := .v (.pointer (some ⟨b2, 0, none⟩))) rfl rfl rfl rfl rfl ?_
     refine yaf hb33 ?_; clear hb33; intro x43 hx43 hb33
     refine ybl rfl rfl rfl (pl_callR rfl rfl (ρ1 := [_]) (ybk (by exact zph) (List.Perm.refl _)) (yau hx43) ?_); rintro _ _ ⟨rfl, rfl⟩
     refine yah rfl rfl rfl (yak rfl (.p rfl) (.p rfl) rfl) ?_
     refine yad (yae ?_)
     refine yaf hb33 ?_; clear hb33; intro q48 hq48 hb33
     refine ybe (Y := (Unit) × ((List Int) × Int × Int)) (fun (_, (l45, v46, v47)) => [(3, .v (.pointer (some ⟨b2, 0, none⟩))), (4, .v (.slice a24 l23.length c25)), (5, .v (.int .i64 v26)), (6, .v (.int .i64 x21.1)), (7, .v (.pointer (some ⟨b41, 0, none⟩)))]) (fun (_, (l45, v46, v47)) => [PRes.b b2 59 [.slc (List.map eI l45), .v (.int .i64 v46)], PRes.b b41 46 [.v (.int .i64 (IntKind.i64.wrap (3 + (IntKind.i64.wrap (2 * v26))))), .v (.int .i64 (IntKind.i64.wrap (1 + x36.1))), .v (.string x38.1), .v (.slice none 0 0), .v (.int .i64 0), .v (.int .i64 x39.1), .v (.int .i64 (IntKind.i64.wrap ((IntKind.i64.wrap (x39.1 + 1)) + x42.1))), .v (.int .i64 v47), .v (.int .i64 x40.1.Rate), .v (.int .i64 x40.1.Amount), .v (.int .i64 x40.1.Per), .v (.bool x40.1.HasMost), .v (.int .i64 x40.1.Most), .v (.bool x40.1.HasLeast), .v (.int .i64 x40.1.Least)], PRes.row a24 l23.length c25 46 15 (List.map TMeasure.enc l23)]) (fun (_, (l45, v46, v47)) => q48 = (l45, v46, v47)) ?_ ?_
     ·skip
      refine yal rfl (fun hc49 => ?_) (fun hc49 => ?_)
      ·replace hq48 := yav hc49 hq48
       refine yaa ?_
       refine zmv (p := .v (.pointer (some ⟨b2, 0, none⟩))) rfl rfl rfl rfl rfl ?_
       refine yah rfl rfl rfl (yac rfl rfl rfl rfl rfl (.p rfl)) ?_
       refine yah rfl rfl rfl (yag (p := .v (.int .i64 x39.1)) rfl (.p rfl) zm1 rfl) ?_
       refine yah rfl rfl rfl (yas rfl (.p rfl) (.p rfl) rfl) ?_
       refine yaf hq48 ?_; clear hq48; intro x50 hx50 hq48
       refine ybl rfl rfl rfl (pl_callR rfl rfl (ρ1 := [_]) (ybk (by exact zph) (List.Perm.refl _)) (yau hx50) ?_); rintro _ _ ⟨rfl, rfl⟩
       refine yah rfl rfl rfl (yac rfl rfl rfl rfl rfl (.p rfl)) ?_
       refine pwl_l0 rfl rfl (yax (vs := [.v (.int .i64 x50.1)]) rfl rfl rfl rfl rfl (zut zuh) (zlt (zlt (zlt (zlt (zlt (zlt (zlt (zlc zln)))))))) ?_)
       refine yad ?_
       obtain rfl := Option.some.inj hq48
       exact ybb ((), (x50.2.L, x50.2.I, x50.1)) (zhc rfl (zhc rfl (zhc rfl (zhc rfl (zhc rfl zhn))))) (zsc zph (zsc zph (zsc zph zsn))) rfl
      ·replace hq48 := yaw hc49 hq48
       refine yao ?_
       obtain rfl := Option.some.inj hq48
       exact ybb ((), (x43.2.L, x43.2.I, (-1))) (zhc rfl (zhc rfl (zhc rfl (zhc rfl (zhc rfl zhn))))) (zsc zph (zsc zph (zsc zph zsn))) rfl
     ·rintro ⟨_, ⟨l45, v46, v47⟩⟩ τ hz; (try dsimp only at hz); subst q48; (try dsimp only at hb33); dsimp only [pupds]
      refine yab (yab (yaa ?_))
      refine zmv (p := .v (.pointer (some ⟨b2, 0, none⟩))) rfl rfl rfl rfl rfl ?_
      refine yaf hb33 ?_; clear hb33; intro x51 hx51 hb33
      refine ybl rfl rfl rfl (pl_callR rfl rfl (ρ1 := [_]) (ybk (by exact zph) (List.Perm.refl _)) (yau hx51) ?_); rintro _ _ ⟨rfl, rfl⟩
      refine yah rfl rfl rfl (yak rfl (.p rfl) (.p rfl) rfl) ?_
      refine yad (yae ?_)
      refine yaf hb33 ?_; clear hb33; intro q56 hq56 hb33
      refine ybe (Y := (Unit) × ((List Int) × Int × Int)) (fun (_, (l53, v54, v55)) => [(3, .v (.pointer (some ⟨b2, 0, none⟩))), (4, .v (.slice a24 l23.length c25)), (5, .v (.int .i64 v26)), (6, .v (.int .i64 x21.1)), (7, .v (.pointer (some ⟨b41, 0, none⟩)))]) (fun (_, (l53, v54, v55)) => [PRes.b b2 59 [.slc (List.map eI l53), .v (.int .i64 v54)], PRes.b b41 46 [.v (.int .i64 (IntKind.i64.wrap (3 + (IntKind.i64.wrap (2 * v26))))), .v (.int .i64 (IntKind.i64.wrap (1 + x36.1))), .v (.string x38.1), .v (.slice none 0 0), .v (.int .i64 v55), .v (.int .i64 x39.1), .v (.int .i64 (IntKind.i64.wrap ((IntKind.i64.wrap (x39.1 + 1)) + x42.1))), .v (.int .i64 v47), .v (.int .i64 x40.1.Rate), .v (.int .i64 x40.1.Amount), .v (.int .i64 x40.1.Per), .v (.bool x40.1.HasMost), .v (.int .i64 x40.1.Most), .v (.bool x40.1.HasLeast), .v (.int .i64 x40.1.Least)], PRes.row a24 l23.length c25 46 15 (List.map TMeasure.enc l23)]) (fun (_, (l53, v54, v55)) => q56 = (l53, v54, v55)) ?_ ?_
      ·skip
       refine yal rfl (fun hc57 => ?_) (fun hc57 => ?_)
       ·replace hq56 := yav hc57 hq56
        refine yaa ?_
        refine zmv (p := .v (.pointer (some ⟨b2, 0, none⟩))) rfl rfl rfl rfl rfl ?_
        refine yaf hq56 ?_; clear hq56; intro x58 hx58 hq56
        refine ybl rfl rfl rfl (pl_callR rfl rfl (ρ1 := [_]) (ybk (by exact zph) (List.Perm.refl _)) (yau hx58) ?_); rintro _ _ ⟨rfl, rfl⟩
        refine yah rfl rfl rfl (yas rfl (.p rfl) (.p rfl) rfl) ?_
        refine yah rfl rfl rfl (yac rfl rfl rfl rfl rfl (.p rfl)) ?_
        refine pwl_l0 rfl rfl (yax (vs := [.v (.int .i64 (IntKind.i64.wrap (1 + x58.1)))]) rfl rfl rfl rfl rfl (zut zuh) (zlt (zlt (zlt (zlt (zlc zln))))) ?_)
        refine yad ?_
        obtain rfl := Option.some.inj hq56
        exact ybb ((), (x58.2.L, x58.2.I, (IntKind.i64.wrap (1 + x58.1)))) (zhc rfl (zhc rfl (zhc rfl (zhc rfl (zhc rfl zhn))))) (zsc zph (zsc zph (zsc zph zsn))) rfl
       ·replace hq56 := yaw hc57 hq56
        refine yao ?_
        obtain rfl := Option.some.inj hq56
        exact ybb ((), (x51.2.L, x51.2.I, 0)) (zhc rfl (zhc rfl (zhc rfl (zhc rfl (zhc rfl zhn))))) (zsc zph (zsc zph (zsc zph zsn))) rfl
      ·rintro ⟨_, ⟨l53, v54, v55⟩⟩ τ hz; (try dsimp only at hz); subst q56; (try dsimp only at hb33); dsimp only [pupds]
       refine yab (yaa ?_)
       refine zmv (p := .v (.pointer (some ⟨b2, 0, none⟩))) rfl rfl rfl rfl rfl ?_
       refine yaf hb33 ?_; clear hb33; intro x59 hx59 hb33
       refine ybl rfl rfl rfl (pl_callR rfl rfl (ρ1 := [_]) (ybk (by exact zph) (List.Perm.refl _)) (yau hx59) ?_); rintro _ _ ⟨rfl, rfl⟩
       refine zas (p := .v (.int .i64 x59.1)) rfl rfl rfl rfl rfl ?_
       refine yad (yae (yab (yab (yaa ?_))))
       refine zas (p := .v (.int .i64 0)) rfl rfl rfl rfl rfl ?_
       refine yad (yae ?_)
       refine pwc_nilrow 9 1 ?_
       refine yaf hb33 ?_; clear hb33; intro q71 hq71 hb33
       refine ybe (Y := (Option Addr × Nat) × ((List ByteArray))) (fun ((a67, c68), l69) => [(3, .v (.pointer (some ⟨b2, 0, none⟩))), (4, .v (.slice a24 l23.length c25)), (5, .v (.int .i64 v26)), (6, .v (.int .i64 x21.1)), (7, .v (.pointer (some ⟨b41, 0, none⟩)))]) (fun ((a67, c68), l69) => [PRes.b b2 59 [.slc (List.map eI x59.2.L), .v (.int .i64 x59.2.I)], PRes.b b41 46 [.v (.int .i64 (IntKind.i64.wrap (3 + (IntKind.i64.wrap (2 * v26))))), .v (.int .i64 (IntKind.i64.wrap (1 + x36.1))), .v (.string x38.1), .v (.slice a67 l69.length c68), .v (.int .i64 v55), .v (.int .i64 x39.1), .v (.int .i64 (IntKind.i64.wrap ((IntKind.i64.wrap (x39.1 + 1)) + x42.1))), .v (.int .i64 v47), .v (.int .i64 x40.1.Rate), .v (.int .i64 x40.1.Amount), .v (.int .i64 x40.1.Per), .v (.bool x40.1.HasMost), .v (.int .i64 x40.1.Most), .v (.bool x40.1.HasLeast), .v (.int .i64 x40.1.Least)], PRes.row a24 l23.length c25 46 15 (List.map TMeasure.enc l23), PRes.row a67 l69.length c68 9 1 (List.map eS l69)]) (fun ((a67, c68), l69) => q71 = l69) ?_ ?_
       ·refine yaz ?_
        refine pwc_loopF (Y := Option Addr × Nat) (S := Int × (List ByteArray)) _ hq71 (fun (a63, c64) (v60, l62) => [(3, .v (.pointer (some ⟨b2, 0, none⟩))), (4, .v (.slice a24 l23.length c25)), (5, .v (.int .i64 v26)), (6, .v (.int .i64 x21.1)), (7, .v (.pointer (some ⟨b41, 0, none⟩))), (8, .v (.int .i64 x59.1)), (9, .v (.int .i64 v60))]) (fun (a63, c64) (v60, l62) => [PRes.b b2 59 [.slc (List.map eI x59.2.L), .v (.int .i64 x59.2.I)], PRes.b b41 46 [.v (.int .i64 (IntKind.i64.wrap (3 + (IntKind.i64.wrap (2 * v26))))), .v (.int .i64 (IntKind.i64.wrap (1 + x36.1))), .v (.string x38.1), .v (.slice a63 l62.length c64), .v (.int .i64 v55), .v (.int .i64 x39.1), .v (.int .i64 (IntKind.i64.wrap ((IntKind.i64.wrap (x39.1 + 1)) + x42.1))), .v (.int .i64 v47), .v (.int .i64 x40.1.Rate), .v (.int .i64 x40.1.Amount), .v (.int .i64 x40.1.Per), .v (.bool x40.1.HasMost), .v (.int .i64 x40.1.Most), .v (.bool x40.1.HasLeast), .v (.int .i64 x40.1.Least)], PRes.row a24 l23.length c25 46 15 (List.map TMeasure.enc l23), PRes.row a63 l62.length c64 9 1 (List.map eS l62)]) (none, 0) (zhc rfl (zhc rfl (zhc rfl (zhc rfl (zhc rfl (zhc rfl (zhc rfl zhn))))))) (zsc (zpt zph) (zsc (zpt zph) (zsc (zpt zph) (zsc zph zsn)))) ?_
        rintro ⟨a63, c64⟩ ⟨v60, l62⟩ o τ hb70; (try dsimp only at hb70); dsimp only [pupds]
        refine yab (yab (yaa ?_))
        refine zmv (p := .v (.int .i64 v60)) rfl rfl rfl rfl rfl ?_
        refine yah rfl rfl rfl (yak rfl (.p rfl) (.p rfl) rfl) ?_
        refine zmv (p := .v (.bool (decide (v60 < 3)))) rfl rfl rfl rfl rfl ?_
        refine yaj (yan rfl rfl rfl) rfl rfl (yam (p := .v (.int .i64 x59.1)) rfl (.p rfl)) ?_
        refine yaj (yan rfl rfl rfl) rfl rfl (yak rfl (.g rfl) (.p rfl) rfl) ?_
        refine yah rfl rfl rfl (pq_and rfl (.p rfl) (.p rfl) (.g rfl)) ?_
        refine yad (yae ?_)
        refine yal rfl (fun hc73 => ?_) (fun hc73 => ?_)
        ·replace hb70 := yav hc73 hb70
         refine yao (yae (yab ?_))
         refine yaf hb70 ?_; clear hb70; intro q79 hq79 hb70
         refine ybe (Y := (Option Addr × Nat) × ((List ByteArray))) (fun ((a76, c77), l78) => [(3, .v (.pointer (some ⟨b2, 0, none⟩))), (4, .v (.slice a24 l23.length c25)), (5, .v (.int .i64 v26)), (6, .v (.int .i64 x21.1)), (7, .v (.pointer (some ⟨b41, 0, none⟩))), (8, .v (.int .i64 x59.1)), (9, .v (.int .i64 v60))]) (fun ((a76, c77), l78) => [PRes.b b2 59 [.slc (List.map eI x59.2.L), .v (.int .i64 x59.2.I)], PRes.b b41 46 [.v (.int .i64 (IntKind.i64.wrap (3 + (IntKind.i64.wrap (2 * v26))))), .v (.int .i64 (IntKind.i64.wrap (1 + x36.1))), .v (.string x38.1), .v (.slice a76 l78.length c77), .v (.int .i64 v55), .v (.int .i64 x39.1), .v (.int .i64 (IntKind.i64.wrap ((IntKind.i64.wrap (x39.1 + 1)) + x42.1))), .v (.int .i64 v47), .v (.int .i64 x40.1.Rate), .v (.int .i64 x40.1.Amount), .v (.int .i64 x40.1.Per), .v (.bool x40.1.HasMost), .v (.int .i64 x40.1.Most), .v (.bool x40.1.HasLeast), .v (.int .i64 x40.1.Least)], PRes.row a24 l23.length c25 46 15 (List.map TMeasure.enc l23), PRes.row a76 l78.length c77 9 1 (List.map eS l78)]) (fun ((a76, c77), l78) => q79 = l78) ?_ ?_
         ·skip
          refine yaz (yab (yaa ?_))
          refine zmv (p := .v (.int .i64 x59.1)) rfl rfl rfl rfl rfl ?_
          refine zmv (p := .v (.int .i64 v60)) rfl rfl rfl rfl rfl ?_
          refine yaf hq79 ?_; clear hq79; intro u80 hu80 hq79
          refine yah rfl rfl rfl (pq_shift rfl (.p rfl) (.p rfl) (fun _ => ge0_some hu80) rfl) ?_
          refine yah rfl rfl rfl (pq_bits rfl (.p rfl) (.p rfl) rfl) ?_
          refine yah rfl rfl rfl (yak rfl (.p rfl) (.p rfl) rfl) ?_
          refine yad (yae ?_)
          refine yal rfl (fun hc81 => ?_) (fun hc81 => ?_)
          ·replace hq79 := yav hc81 hq79
           refine yaf hq79 ?_; clear hq79; intro x82 hx82 hq79
           refine yaf hq79 ?_; clear hq79; intro m83 hm83 hq79
           refine yaf hq79 ?_; clear hq79; intro l86 hl86 hq79
           refine pwc_cutK (Y := Option Addr × Nat) (fun (a87, c88) => [(3, .v (.pointer (some ⟨b2, 0, none⟩))), (4, .v (.slice a24 l23.length c25)), (5, .v (.int .i64 v26)), (6, .v (.int .i64 x21.1)), (7, .v (.pointer (some ⟨b41, 0, none⟩))), (8, .v (.int .i64 x59.1)), (9, .v (.int .i64 v60))]) (fun (a87, c88) => [PRes.b b2 59 [.slc (List.map eI x59.2.L), .v (.int .i64 x59.2.I)], PRes.b b41 46 [.v (.int .i64 (IntKind.i64.wrap (3 + (IntKind.i64.wrap (2 * v26))))), .v (.int .i64 (IntKind.i64.wrap (1 + x36.1))), .v (.string x38.1), .v (.slice a87 l86.length c88), .v (.int .i64 v55), .v (.int .i64 x39.1), .v (.int .i64 (IntKind.i64.wrap ((IntKind.i64.wrap (x39.1 + 1)) + x42.1))), .v (.int .i64 v47), .v (.int .i64 x40.1.Rate), .v (.int .i64 x40.1.Amount), .v (.int .i64 x40.1.Per), .v (.bool x40.1.HasMost), .v (.int .i64 x40.1.Most), .v (.bool x40.1.HasLeast), .v (.int .i64 x40.1.Least)], PRes.row a24 l23.length c25 46 15 (List.map TMeasure.enc l23), PRes.row a87 l86.length c88 9 1 (List.map eS l86)]) (fun _ => True) ?_ ?_
           ·refine pws_start (ρd := [PRes.row a63 _ _ _ _ _, PRes.b b41 _ _]) _ (ybk (zpt (zpt (zpt zph))) (ybk (zpt zph) (List.Perm.refl _))) ?_
            refine pws_q 0 (by kernel_rfl) rfl rfl rfl rfl (yac rfl rfl rfl rfl rfl (.p rfl)) ?_
            refine pws_q 3 (by kernel_rfl) rfl rfl rfl rfl (yam (p := .v (.int .i64 v60)) rfl (.p rfl)) ?_
            refine pws_two 1 2 (by kernel_rfl) ?_ ?_
            ·skip
             refine pstep_l rfl rfl rfl rfl (pl_q (yag (p := .v (.slice a63 l62.length c64)) rfl (.p rfl) zm1 rfl) ?_)
             refine pws_one 2 (by kernel_rfl) ?_
             refine pstep_call rfl rfl rfl rfl rfl rfl (made_Countries_ok hx82) ?_
             refine pws_q 4 (by kernel_rfl) rfl rfl rfl rfl (pq_index (enc := eS) rfl rfl rfl (fun _ => rfl) (.p rfl) (.p rfl) (fun _ => hm83)) ?_
             refine pws_q 5 (by kernel_rfl) rfl rfl rfl rfl (pq_load_r (p := .v (.string m83)) rfl (.p rfl) rfl) ?_
             refine pws_one 6 (by kernel_rfl) ?_
             refine pstep_l rfl rfl rfl rfl (pl_lit rfl rfl rfl rfl rfl (zic rfl zin) rfl rfl rfl rfl (fun b84 => ?_))
             refine pws_one 7 (by kernel_rfl) ?_
             refine pstep_l rfl rfl rfl rfl (pl_app_o (enc := eS) rfl rfl rfl rfl rfl rfl rfl rfl rfl zm0 (by exact zpt zph) hl86 (fun a87 c88 => ?_))
             refine pws_q 8 (by kernel_rfl) rfl rfl rfl rfl (yac rfl rfl rfl rfl rfl (.p rfl)) ?_
             refine pws_one 9 (by kernel_rfl) ?_
             refine pstep_l0 rfl rfl rfl (yax (vs := [.v (.slice a87 l86.length c88)]) rfl rfl rfl rfl rfl (zut (zut zuh)) (zlt (zlt (zlt (zlc zln)))) ?_)
             refine pws_done (by kernel_rfl) ?_
             exact pk_cut (a87, c88) (zhc rfl (zhc rfl (zhc rfl (zhc rfl (zhc rfl (zhc rfl (zhc rfl zhn))))))) (zsc (zpt (zpt (zpt zph))) (zsc (zpt (zpt zph)) (zsc (zpt (zpt zph)) (zsc zph zsn)))) trivial
            ·skip
             refine pstep_call rfl rfl rfl rfl rfl rfl (made_Countries_ok hx82) ?_
             refine pws_q 4 (by kernel_rfl) rfl rfl rfl rfl (pq_index (enc := eS) rfl rfl rfl (fun _ => rfl) (.p rfl) (.p rfl) (fun _ => hm83)) ?_
             refine pws_q 5 (by kernel_rfl) rfl rfl rfl rfl (pq_load_r (p := .v (.string m83)) rfl (.p rfl) rfl) ?_
             refine pws_two 1 6 (by kernel_rfl) ?_ ?_
             ·skip
              refine pstep_l rfl rfl rfl rfl (pl_q (yag (p := .v (.slice a63 l62.length c64)) rfl (.p rfl) zm1 rfl) ?_)
              refine pws_one 6 (by kernel_rfl) ?_
              refine pstep_l rfl rfl rfl rfl (pl_lit rfl rfl rfl rfl rfl (zic rfl zin) rfl rfl rfl rfl (fun b84 => ?_))
              refine pws_one 7 (by kernel_rfl) ?_
              refine pstep_l rfl rfl rfl rfl (pl_app_o (enc := eS) rfl rfl rfl rfl rfl rfl rfl rfl rfl zm0 (by exact zpt zph) hl86 (fun a87 c88 => ?_))
              refine pws_q 8 (by kernel_rfl) rfl rfl rfl rfl (yac rfl rfl rfl rfl rfl (.p rfl)) ?_
              refine pws_one 9 (by kernel_rfl) ?_
              refine pstep_l0 rfl rfl rfl (yax (vs := [.v (.slice a87 l86.length c88)]) rfl rfl rfl rfl rfl (zut (zut zuh)) (zlt (zlt (zlt (zlc zln)))) ?_)
              refine pws_done (by kernel_rfl) ?_
              exact pk_cut (a87, c88) (zhc rfl (zhc rfl (zhc rfl (zhc rfl (zhc rfl (zhc rfl (zhc rfl zhn))))))) (zsc (zpt (zpt (zpt zph))) (zsc (zpt (zpt zph)) (zsc (zpt (zpt zph)) (zsc zph zsn)))) trivial
             ·skip
              refine pstep_l rfl rfl rfl rfl (pl_lit rfl rfl rfl rfl rfl (zic rfl zin) rfl rfl rfl rfl (fun b84 => ?_))
              refine pws_one 1 (by kernel_rfl) ?_
              refine pstep_l rfl rfl rfl rfl (pl_q (yag (p := .v (.slice a63 l62.length c64)) rfl (.p rfl) zm2 rfl) ?_)
              refine pws_one 7 (by kernel_rfl) ?_
              refine pstep_l rfl rfl rfl rfl (pl_app_o (enc := eS) rfl rfl rfl rfl rfl rfl rfl rfl rfl zm0 (by exact zpt zph) hl86 (fun a87 c88 => ?_))
              refine pws_q 8 (by kernel_rfl) rfl rfl rfl rfl (yac rfl rfl rfl rfl rfl (.p rfl)) ?_
              refine pws_one 9 (by kernel_rfl) ?_
              refine pstep_l0 rfl rfl rfl (yax (vs := [.v (.slice a87 l86.length c88)]) rfl rfl rfl rfl rfl (zut (zut zuh)) (zlt (zlt (zlt (zlc zln)))) ?_)
              refine pws_done (by kernel_rfl) ?_
              exact pk_cut (a87, c88) (zhc rfl (zhc rfl (zhc rfl (zhc rfl (zhc rfl (zhc rfl (zhc rfl zhn))))))) (zsc (zpt (zpt (zpt zph))) (zsc (zpt (zpt zph)) (zsc (zpt (zpt zph)) (zsc zph zsn)))) trivial
           ·rintro ⟨a87, c88⟩ τ ρ1 hsub90 _; (try dsimp only at hsub90); dsimp only [pupds]
            refine ybc ?_
            obtain rfl := Option.some.inj hq79
            exact ybb ((a87, c88), l86) (zhc rfl (zhc rfl (zhc rfl (zhc rfl (zhc rfl (zhc rfl (zhc rfl zhn))))))) (PSub.trans (zsc zph (zsc zph (zsc zph (zsc zph zsn)))) hsub90) rfl
          ·replace hq79 := yaw hc81 hq79
           refine yao (ybc ?_)
           obtain rfl := Option.some.inj hq79
           exact ybb ((a63, c64), l62) (zhc rfl (zhc rfl (zhc rfl (zhc rfl (zhc rfl (zhc rfl (zhc rfl zhn))))))) (zsc zph (zsc zph (zsc zph (zsc zph zsn)))) rfl
         ·rintro ⟨⟨a76, c77⟩, l78⟩ τ hz; (try dsimp only at hz); subst q79; (try dsimp only at hb70); dsimp only [pupds]
          refine yaa ?_
          refine zmv (p := .v (.int .i64 v60)) rfl rfl rfl rfl rfl ?_
          refine yah rfl rfl rfl (yas rfl (.p rfl) (.p rfl) rfl) ?_
          refine zas (p := .v (.int .i64 (IntKind.i64.wrap (v60 + 1)))) rfl rfl rfl rfl rfl ?_
          refine yad ?_
          exact pk_loop hb70 (a76, c77) (zhc rfl (zhc rfl (zhc rfl (zhc rfl (zhc rfl (zhc rfl (zhc rfl zhn))))))) (zsc zph (zsc zph (zsc zph (zsc zph zsn))))
        ·replace hb70 := yaw hc73 hb70
         refine pwc_exit (ybm ?_)
         refine ybh hb70 (fun ht => ?_)
         refine ybj rfl ?_
         exact ybb ((a63, c64), l62) (zhc rfl (zhc rfl (zhc rfl (zhc rfl (zhc rfl zhn))))) (zsc zph (zsc zph (zsc zph (zsc zph zsn)))) ht.symm
       ·rintro ⟨⟨a67, c68⟩, l69⟩ τ hz; (try dsimp only at hz); subst q71; (try dsimp only at hb33); dsimp only [pupds]
        refine yaa ?_
        refine zmv (p := .v (.slice a24 l23.length c25)) rfl rfl rfl rfl rfl ?_
        refine pwl_frz (css := List.map eS l69) (a := a67) (by exact zpt (zpt (zpt zph))) ?_
        refine pwl_viewb (k := 3) (css := List.map eS l69) (b := b41) (a := a67) rfl zm0 (zut (zut zuh)) ?_
        refine yah rfl rfl rfl (yag (p := .agg [.v (.int .i64 (IntKind.i64.wrap (3 + (IntKind.i64.wrap (2 * v26))))), .v (.int .i64 (IntKind.i64.wrap (1 + x36.1))), .v (.string x38.1), .slc (List.map eS l69), .v (.int .i64 v55), .v (.int .i64 x39.1), .v (.int .i64 (IntKind.i64.wrap ((IntKind.i64.wrap (x39.1 + 1)) + x42.1))), .v (.int .i64 v47), .v (.int .i64 x40.1.Rate), .v (.int .i64 x40.1.Amount), .v (.int .i64 x40.1.Per), .v (.bool x40.1.HasMost), .v (.int .i64 x40.1.Most), .v (.bool x40.1.HasLeast), .v (.int .i64 x40.1.Least)]) rfl (.p rfl) zm2 rfl) ?_
        refine ybl rfl rfl rfl (pl_lit rfl rfl rfl rfl rfl (zic rfl zin) rfl rfl rfl rfl (fun b91 => ?_))
        refine yaf hb33 ?_; clear hb33; intro l93 hl93 hb33
        refine ybl rfl rfl rfl (pl_app_o (enc := TMeasure.enc) rfl rfl rfl rfl rfl rfl rfl rfl rfl zm0 (by exact zpt (zpt (zpt (zpt zph)))) hl93 (fun a94 c95 => ?_))
        refine zas (p := .v (.slice a94 l93.length c95)) rfl rfl rfl rfl rfl ?_
        refine yad (ybc (yae (yaa ?_)))
        refine zmv (p := .v (.int .i64 v26)) rfl rfl rfl rfl rfl ?_
        refine yah rfl rfl rfl (yas rfl (.p rfl) (.p rfl) rfl) ?_
        refine zas (p := .v (.int .i64 (IntKind.i64.wrap (v26 + 1)))) rfl rfl rfl rfl rfl ?_
        refine yad ?_
        exact pk_loop hb33 (a94, c95) (zhc rfl (zhc rfl (zhc rfl (zhc rfl zhn)))) (zsc (zpt (zpt (zpt zph))) (zsc zph zsn))
   ·replace hb33 := yaw hc35 hb33
    refine pwc_exit (ybm ?_)
    refine ybh hb33 (fun ht => ?_)
    refine ybj rfl ?_
    exact ybb ((a24, c25), l23) (zhc rfl zhn) (zsc (zpt zph) zsn) ht.symm
  ·rintro ⟨⟨a30, c31⟩, l32⟩ τ hz; (try dsimp only at hz); subst q34; (try dsimp only at h); dsimp only [pupds]
   refine yab (yaa ?_)
   refine zmv (p := .v (.slice a30 l32.length c31)) rfl rfl rfl rfl rfl ?_
   refine zas (p := .v (.slice a30 l32.length c31)) rfl rfl rfl rfl rfl ?_
   refine yad (yae ?_)
   refine pwc_frzt (css := List.map TMeasure.enc l32) 2 rfl (by exact zph) ?_
   refine yaq ?_
   obtain rfl := Option.some.inj h
   exact yar (prv_1 (yat rfl)) zsn ⟨rfl, rfl⟩
def ref02_Share (p0 : Int) (p1 : (List Int)) : Option ((List Int) × Int) := cond (decide (1000 < (p1.length : Int))) (some ([], 8)) (Option.bind (loopF (S := Bool × Int) (T := (Bool)) (fun (v2, v3) => cond (decide (v3 < (p1.length : Int))) (Option.bind (gd (!v2) (idx p1 v3)) (fun m8 => Option.bind (gd (!(v2 || (decide (m8 < 0)))) (idx p1 v3)) (fun m9 => some (.inl (((v2 || (decide (m8 < 0))) || (decide (1000000000000 < m9))), (IntKind.i64.wrap (v3 + 1))))))) (some (.inr v2))) FUEL (((decide (p0 < 0)) || (decide (1000000000000 < p0))), 0)) (fun v4 => cond v4 (some ([], 2)) (cond (((p1.length : Int) == 0) && (decide (0 < p0))) (some ([], 7)) (Option.bind (loopF (S := Int × Int) (T := (Int)) (fun (v12, v13) => cond (decide (v13 < (p1.length : Int))) (Option.bind (idx p1 v13) (fun m18 => some (.inl ((IntKind.i64.wrap (v12 + m18)), (IntKind.i64.wrap (v13 + 1)))))) (some (.inr v12))) FUEL (0, 0)) (fun v14 => Option.bind (mk 8 (0 : Int) (p1.length : Int)) (fun l19 => Option.bind (mk 8 (0 : Int) (p1.length : Int)) (fun l22 => Option.bind (loopF (S := (List Int) × (List Int) × Int × Int) (T := ((List Int) × (List Int) × Int)) (fun (l26, l28, v29, v30) => cond (decide (v30 < (p1.length : Int))) (Option.bind (idx p1 v30) (fun m39 => Option.bind (cond (v14 == 0) (some (1, (p1.length : Int))) (some (m39, v14))) (fun (v42, v43) => Option.bind (ref01_Mul (IntKind.u64.wrap p0) (IntKind.u64.wrap v42)) (fun x46 => Option.bind (ref01_DivMod x46 (IntKind.u64.wrap v43)) (fun x47 => Option.bind (idx l26 v30) (fun m49 => Option.bind (idx l28 v30) (fun m51 => Option.bind (idx (l26.set v30.toNat (IntKind.i64.wrap x47.1.Lo)) v30) (fun m53 => some (.inl ((l26.set v30.toNat (IntKind.i64.wrap x47.1.Lo)), (l28.set v30.toNat (IntKind.i64.wrap x47.2)), (IntKind.i64.wrap (v29 - m53)), (IntKind.i64.wrap (v30 + 1)))))))))))) (some (.inr (l26, l28, v29)))) FUEL (l19, l22, p0, 0)) (fun (l32, l34, v35) => Option.bind (loopF (S := (List Int) × (List Int) × Int) (T := ((List Int))) (fun (l55, l57, v58) => cond (decide (0 < v58)) (Option.bind (loopF (S := Int × Int) (T := (Int)) (fun (v64, v65) => cond (decide (v65 < ((l22.length : Nat) : Int))) (Option.bind (Option.bind (idx l57 v65) (fun m76 => Option.bind (idx l57 v64) (fun m77 => cond (decide (m77 < m76)) (some v65) (some v64)))) (fun v74 => some (.inl (v74, (IntKind.i64.wrap (v65 + 1)))))) (some (.inr v64))) FUEL (0, 1)) (fun v68 => Option.bind (idx l55 v68) (fun m79 => Option.bind (idx l55 v68) (fun m80 => Option.bind (idx l57 v68) (fun m82 => some (.inl ((l55.set v68.toNat (IntKind.i64.wrap (m79 + 1))), (l57.set v68.toNat (-1)), (IntKind.i64.wrap (v58 - 1))))))))) (some (.inr l55))) FUEL (l32, l34, v35)) (fun l60 => some (l60, 0))))))))))
set_option maxHeartbeats 4000000 in
theorem ref02_Share_ok {p0 : Int} {p1 : (List Int)} {r : ((List Int) × Int)}  (h : ref02_Share p0 p1 = some r) : PF 42 [.v (.int .i64 p0), .slc (List.map eI p1)] (.tup [.slc (List.map eI r.1), .v (.int .i64 r.2)]) := by
 unfold ref02_Share at h
 refine pf_of ?_
 refine penter Tryz.func42 fk42 rfl Tryz.ntmps42 Tryz.results42 rfl ?_
 refine yab (yaa ?_)
 refine zas (p := .v (.slice none 0 0)) rfl rfl rfl rfl rfl ?_
 refine zas (p := .v (.int .i64 0)) rfl rfl rfl rfl rfl ?_
 refine yad (yae (yab (yab (yaa ?_))))
 refine zmv (p := .slc (List.map eI p1)) rfl rfl rfl rfl rfl ?_
 refine yah rfl rfl rfl (pq_lenT (enc := eI) rfl rfl (.p rfl)) ?_
 refine yah rfl rfl rfl (yak rfl (.p rfl) (.p rfl) rfl) ?_
 refine yad (yae ?_)
 refine yal rfl (fun hc1 => ?_) (fun hc1 => ?_)
 ·replace h := yav hc1 h
  refine yab (yaa ?_)
  refine zas (p := .v (.slice none 0 0)) rfl rfl rfl rfl rfl ?_
  refine zas (p := .v (.int .i64 8)) rfl rfl rfl rfl rfl ?_
  refine yad (yae ?_)
  refine pwc_nil 4 rfl ?_
  refine yaq (yap ?_)
  obtain rfl := Option.some.inj h
  exact yar (prv_2 (yat rfl) (yat rfl)) zsn ⟨rfl, rfl⟩
 ·replace h := yaw hc1 h
  refine yao (yae (yab (yaa ?_)))
  refine zmv (p := .v (.int .i64 p0)) rfl rfl rfl rfl rfl ?_
  refine yah rfl rfl rfl (yak rfl (.p rfl) (.p rfl) rfl) ?_
  refine zmv (p := .v (.bool (decide (p0 < 0)))) rfl rfl rfl rfl rfl ?_
  refine yaj (yai rfl rfl rfl) rfl rfl (yam (p := .v (.int .i64 p0)) rfl (.p rfl)) ?_
  refine yaj (yai rfl rfl rfl) rfl rfl (yak rfl (.g rfl) (.p rfl) rfl) ?_
  refine yah rfl rfl rfl (pq_or rfl (.p rfl) (.p rfl) (.g rfl)) ?_
  refine zas (p := .v (.bool ((decide (p0 < 0)) || (decide (1000000000000 < p0))))) rfl rfl rfl rfl rfl ?_
  refine zas (p := .v (.int .i64 0)) rfl rfl rfl rfl rfl ?_
  refine yad (yae (yab (yab (yaa ?_))))
  refine zas (p := .v (.int .i64 0)) rfl rfl rfl rfl rfl ?_
  refine yad (yae ?_)
  refine yaf h ?_; clear h; intro q6 hq6 h
  refine ybe (Y := (Unit) × (Bool)) (fun (_, v4) => [(0, .v (.int .i64 p0)), (1, .slc (List.map eI p1)), (6, .v (.bool v4)), (7, .v (.int .i64 0))]) (fun (_, v4) => []) (fun (_, v4) => q6 = v4) ?_ ?_
  ·refine yaz ?_
   refine pwc_loopF (Y := Unit) (S := Bool × Int) _ hq6 (fun _ (v2, v3) => [(0, .v (.int .i64 p0)), (1, .slc (List.map eI p1)), (6, .v (.bool v2)), (7, .v (.int .i64 0)), (8, .v (.int .i64 v3))]) (fun _ (v2, v3) => []) () (zhc rfl (zhc rfl (zhc rfl (zhc rfl (zhc rfl zhn))))) zsn ?_
   rintro _ ⟨v2, v3⟩ o τ hb5; (try dsimp only at hb5); dsimp only [pupds]
   refine yab (yab (yaa ?_))
   refine zmv (p := .v (.int .i64 v3)) rfl rfl rfl rfl rfl ?_
   refine zmv (p := .slc (List.map eI p1)) rfl rfl rfl rfl rfl ?_
   refine yah rfl rfl rfl (pq_lenT (enc := eI) rfl rfl (.p rfl)) ?_
   refine yah rfl rfl rfl (yak rfl (.p rfl) (.p rfl) rfl) ?_
   refine yad (yae ?_)
   refine yal rfl (fun hc7 => ?_) (fun hc7 => ?_)
   ·replace hb5 := yav hc7 hb5
    refine yao (yae (yab (yaz (yaa ?_))))
    refine zmv (p := .v (.bool v2)) rfl rfl rfl rfl rfl ?_
    refine zmv (p := .v (.bool v2)) rfl rfl rfl rfl rfl ?_
    refine yaj (yai rfl rfl rfl) rfl rfl (yam (p := .slc (List.map eI p1)) rfl (.p rfl)) ?_
    refine yaj (yai rfl rfl rfl) rfl rfl (yam (p := .v (.int .i64 v3)) rfl (.p rfl)) ?_
    refine yaf hb5 ?_; clear hb5; intro m8 hm8 hb5
    refine yaj (yai rfl rfl rfl) rfl rfl (pq_index (enc := eI) rfl rfl rfl (fun _ => rfl) (.g rfl) (.g rfl) (gd_t hm8)) ?_
    refine yaj (yai rfl rfl rfl) rfl rfl (pq_load_r (p := .v (.int .i64 m8)) rfl (.g rfl) rfl) ?_
    refine yaj (yai rfl rfl rfl) rfl rfl (yak rfl (.g rfl) (.p rfl) rfl) ?_
    refine yah rfl rfl rfl (pq_or rfl (.p rfl) (.p rfl) (.g rfl)) ?_
    refine zmv (p := .v (.bool (v2 || (decide (m8 < 0))))) rfl rfl rfl rfl rfl ?_
    refine yaj (yai rfl rfl rfl) rfl rfl (yam (p := .slc (List.map eI p1)) rfl (.p rfl)) ?_
    refine yaj (yai rfl rfl rfl) rfl rfl (yam (p := .v (.int .i64 v3)) rfl (.p rfl)) ?_
    refine yaf hb5 ?_; clear hb5; intro m9 hm9 hb5
    refine yaj (yai rfl rfl rfl) rfl rfl (pq_index (enc := eI) rfl rfl rfl (fun _ => rfl) (.g rfl) (.g rfl) (gd_t hm9)) ?_
    refine yaj (yai rfl rfl rfl) rfl rfl (pq_load_r (p := .v (.int .i64 m9)) rfl (.g rfl) rfl) ?_
    refine yaj (yai rfl rfl rfl) rfl rfl (yak rfl (.g rfl) (.p rfl) rfl) ?_
    refine yah rfl rfl rfl (pq_or rfl (.p rfl) (.p rfl) (.g rfl)) ?_
    refine zas (p := .v (.bool ((v2 || (decide (m8 < 0))) || (decide (1000000000000 < m9))))) rfl rfl rfl rfl rfl ?_
    refine yad (ybc (yae (yaa ?_)))
    refine zmv (p := .v (.int .i64 v3)) rfl rfl rfl rfl rfl ?_
    refine yah rfl rfl rfl (yas rfl (.p rfl) (.p rfl) rfl) ?_
    refine zas (p := .v (.int .i64 (IntKind.i64.wrap (v3 + 1)))) rfl rfl rfl rfl rfl ?_
    refine yad ?_
    exact pk_loop hb5 () (zhc rfl (zhc rfl (zhc rfl (zhc rfl (zhc rfl zhn))))) zsn
   ·replace hb5 := yaw hc7 hb5
    refine pwc_exit (ybm ?_)
    refine ybh hb5 (fun ht => ?_)
    refine ybj rfl ?_
    exact ybb ((), v2) (zhc rfl (zhc rfl (zhc rfl (zhc rfl zhn)))) zsn ht.symm
  ·rintro ⟨_, v4⟩ τ hz; (try dsimp only at hz); subst q6; (try dsimp only at h); dsimp only [pupds]
   refine yab (yab (yaa ?_))
   refine zmv (p := .v (.bool v4)) rfl rfl rfl rfl rfl ?_
   refine yad (yae ?_)
   refine yal rfl (fun hc10 => ?_) (fun hc10 => ?_)
   ·replace h := yav hc10 h
    refine yab (yaa ?_)
    refine zas (p := .v (.slice none 0 0)) rfl rfl rfl rfl rfl ?_
    refine zas (p := .v (.int .i64 2)) rfl rfl rfl rfl rfl ?_
    refine yad (yae ?_)
    refine pwc_nil 4 rfl ?_
    refine yaq (yap ?_)
    obtain rfl := Option.some.inj h
    exact yar (prv_2 (yat rfl) (yat rfl)) zsn ⟨rfl, rfl⟩
   ·replace h := yaw hc10 h
    refine yao (yae (yab (yab (yaa ?_))))
    refine zmv (p := .slc (List.map eI p1)) rfl rfl rfl rfl rfl ?_
    refine yah rfl rfl rfl (pq_lenT (enc := eI) rfl rfl (.p rfl)) ?_
    refine yah rfl rfl rfl (yak rfl (.p rfl) (.p rfl) rfl) ?_
    refine zmv (p := .v (.bool ((p1.length : Int) == 0))) rfl rfl rfl rfl rfl ?_
    refine yaj (yan rfl rfl rfl) rfl rfl (yam (p := .v (.int .i64 p0)) rfl (.p rfl)) ?_
    refine yaj (yan rfl rfl rfl) rfl rfl (yak rfl (.g rfl) (.p rfl) rfl) ?_
    refine yah rfl rfl rfl (pq_and rfl (.p rfl) (.p rfl) (.g rfl)) ?_
    refine yad (yae ?_)
    refine yal rfl (fun hc11 => ?_) (fun hc11 => ?_)
    ·replace h := yav hc11 h
     refine yab (yaa ?_)
     refine zas (p := .v (.slice none 0 0)) rfl rfl rfl rfl rfl ?_
     refine zas (p := .v (.int .i64 7)) rfl rfl rfl rfl rfl ?_
     refine yad (yae ?_)
     refine pwc_nil 4 rfl ?_
     refine yaq (yap ?_)
     obtain rfl := Option.some.inj h
     exact yar (prv_2 (yat rfl) (yat rfl)) zsn ⟨rfl, rfl⟩
    ·replace h := yaw hc11 h
     refine yao (yae (yab (yab (yaa ?_))))
     refine zas (p := .v (.int .i64 0)) rfl rfl rfl rfl rfl ?_
     refine yad (yae ?_)
     refine yaf h ?_; clear h; intro q16 hq16 h
     refine ybe (Y := (Unit) × (Int)) (fun (_, v14) => [(0, .v (.int .i64 p0)), (1, .slc (List.map eI p1)), (7, .v (.int .i64 v14))]) (fun (_, v14) => []) (fun (_, v14) => q16 = v14) ?_ ?_
     ·refine yaz ?_
      refine pwc_loopF (Y := Unit) (S := Int × Int) _ hq16 (fun _ (v12, v13) => [(0, .v (.int .i64 p0)), (1, .slc (List.map eI p1)), (7, .v (.int .i64 v12)), (9, .v (.int .i64 v13))]) (fun _ (v12, v13) => []) () (zhc rfl (zhc rfl (zhc rfl (zhc rfl zhn)))) zsn ?_
      rintro _ ⟨v12, v13⟩ o τ hb15; (try dsimp only at hb15); dsimp only [pupds]
      refine yab (yab (yaa ?_))
      refine zmv (p := .v (.int .i64 v13)) rfl rfl rfl rfl rfl ?_
      refine zmv (p := .slc (List.map eI p1)) rfl rfl rfl rfl rfl ?_
      refine yah rfl rfl rfl (pq_lenT (enc := eI) rfl rfl (.p rfl)) ?_
      refine yah rfl rfl rfl (yak rfl (.p rfl) (.p rfl) rfl) ?_
      refine yad (yae ?_)
      refine yal rfl (fun hc17 => ?_) (fun hc17 => ?_)
      ·replace hb15 := yav hc17 hb15
       refine yao (yae (yab (yaz (yaa ?_))))
       refine zmv (p := .v (.int .i64 v12)) rfl rfl rfl rfl rfl ?_
       refine zmv (p := .slc (List.map eI p1)) rfl rfl rfl rfl rfl ?_
       refine zmv (p := .v (.int .i64 v13)) rfl rfl rfl rfl rfl ?_
       refine yaf hb15 ?_; clear hb15; intro m18 hm18 hb15
       refine yah rfl rfl rfl (pq_index (enc := eI) rfl rfl rfl (fun _ => rfl) (.p rfl) (.p rfl) (fun _ => hm18)) ?_
       refine yah rfl rfl rfl (pq_load_r (p := .v (.int .i64 m18)) rfl (.p rfl) rfl) ?_
       refine yah rfl rfl rfl (yas rfl (.p rfl) (.p rfl) rfl) ?_
       refine zas (p := .v (.int .i64 (IntKind.i64.wrap (v12 + m18)))) rfl rfl rfl rfl rfl ?_
       refine yad (ybc (yae (yaa ?_)))
       refine zmv (p := .v (.int .i64 v13)) rfl rfl rfl rfl rfl ?_
       refine yah rfl rfl rfl (yas rfl (.p rfl) (.p rfl) rfl) ?_
       refine zas (p := .v (.int .i64 (IntKind.i64.wrap (v13 + 1)))) rfl rfl rfl rfl rfl ?_
       refine yad ?_
       exact pk_loop hb15 () (zhc rfl (zhc rfl (zhc rfl (zhc rfl zhn)))) zsn
      ·replace hb15 := yaw hc17 hb15
       refine pwc_exit (ybm ?_)
       refine ybh hb15 (fun ht => ?_)
       refine ybj rfl ?_
       exact ybb ((), v12) (zhc rfl (zhc rfl (zhc rfl zhn))) zsn ht.symm
     ·rintro ⟨_, v14⟩ τ hz; (try dsimp only at hz); subst q16; (try dsimp only at h); dsimp only [pupds]
      refine yab ?_
      refine yaf h ?_; clear h; intro l19 hl19 h
      refine yaf h ?_; clear h; intro l22 hl22 h
      refine ybe (Y := Nat × Nat) (fun (b20, b23) => [(0, .v (.int .i64 p0)), (1, .slc (List.map eI p1)), (7, .v (.int .i64 v14)), (10, .v (.slice (some ⟨b20, 0, none⟩) l19.length l19.length)), (11, .v (.slice (some ⟨b23, 0, none⟩) l22.length l22.length)), (12, .v (.int .i64 p0))]) (fun (b20, b23) => [PRes.row (some ⟨b20, 0, none⟩) l19.length l19.length 3 1 (List.map eI l19), PRes.row (some ⟨b23, 0, none⟩) l22.length l22.length 3 1 (List.map eI l22)]) (fun _ => True) ?_ ?_
      ·refine pws_start (ρd := []) _ (List.Perm.refl _) ?_
       refine pws_q 0 (by kernel_rfl) rfl rfl rfl rfl (yam (p := .slc (List.map eI p1)) rfl (.p rfl)) ?_
       refine pws_q 1 (by kernel_rfl) rfl rfl rfl rfl (pq_lenT (enc := eI) rfl rfl (.p rfl)) ?_
       refine pws_q 3 (by kernel_rfl) rfl rfl rfl rfl (yam (p := .slc (List.map eI p1)) rfl (.p rfl)) ?_
       refine pws_q 4 (by kernel_rfl) rfl rfl rfl rfl (pq_lenT (enc := eI) rfl rfl (.p rfl)) ?_
       refine pws_q 6 (by kernel_rfl) rfl rfl rfl rfl (yam (p := .v (.int .i64 p0)) rfl (.p rfl)) ?_
       refine pws_two 2 5 (by kernel_rfl) ?_ ?_
       ·skip
        refine pstep_l rfl rfl rfl rfl (pl_make (enc := eI) rfl rfl rfl rfl rfl rfl rfl rfl rfl hl19 (fun b20 => ?_))
        refine pws_q 7 (by kernel_rfl) rfl rfl rfl rfl (pq_assign (p := .v (.slice (some ⟨b20, 0, none⟩) l19.length l19.length)) rfl (.p rfl)) ?_
        refine pws_one 5 (by kernel_rfl) ?_
        refine pstep_l rfl rfl rfl rfl (pl_make (enc := eI) rfl rfl rfl rfl rfl rfl rfl rfl rfl hl22 (fun b23 => ?_))
        refine pws_q 8 (by kernel_rfl) rfl rfl rfl rfl (pq_assign (p := .v (.slice (some ⟨b23, 0, none⟩) l22.length l22.length)) rfl (.p rfl)) ?_
        refine pws_q 9 (by kernel_rfl) rfl rfl rfl rfl (pq_assign (p := .v (.int .i64 p0)) rfl (.p rfl)) ?_
        refine pws_done (by kernel_rfl) ?_
        exact ybb (b20, b23) (zhc rfl (zhc rfl (zhc rfl (zhc rfl (zhc rfl (zhc rfl zhn)))))) (zsc (zpt zph) (zsc zph zsn)) trivial
       ·skip
        refine pstep_l rfl rfl rfl rfl (pl_make (enc := eI) rfl rfl rfl rfl rfl rfl rfl rfl rfl hl22 (fun b23 => ?_))
        refine pws_one 2 (by kernel_rfl) ?_
        refine pstep_l rfl rfl rfl rfl (pl_make (enc := eI) rfl rfl rfl rfl rfl rfl rfl rfl rfl hl19 (fun b20 => ?_))
        refine pws_q 7 (by kernel_rfl) rfl rfl rfl rfl (pq_assign (p := .v (.slice (some ⟨b20, 0, none⟩) l19.length l19.length)) rfl (.p rfl)) ?_
        refine pws_q 8 (by kernel_rfl) rfl rfl rfl rfl (pq_assign (p := .v (.slice (some ⟨b23, 0, none⟩) l22.length l22.length)) rfl (.p rfl)) ?_
        refine pws_q 9 (by kernel_rfl) rfl rfl rfl rfl (pq_assign (p := .v (.int .i64 p0)) rfl (.p rfl)) ?_
        refine pws_done (by kernel_rfl) ?_
        exact ybb (b20, b23) (zhc rfl (zhc rfl (zhc rfl (zhc rfl (zhc rfl (zhc rfl zhn)))))) (zsc zph (zsc zph zsn)) trivial
      ·rintro ⟨b20, b23⟩ τ _; dsimp only [pupds]
       refine yab (yab (yaa ?_))
       refine zas (p := .v (.int .i64 0)) rfl rfl rfl rfl rfl ?_
       refine yad (yae ?_)
       refine yaf h ?_; clear h; intro q37 hq37 h
       refine ybe (Y := (Unit) × ((List Int) × (List Int) × Int)) (fun (_, (l32, l34, v35)) => [(10, .v (.slice (some ⟨b20, 0, none⟩) l19.length l19.length)), (11, .v (.slice (some ⟨b23, 0, none⟩) l22.length l22.length)), (12, .v (.int .i64 v35))]) (fun (_, (l32, l34, v35)) => [PRes.row (some ⟨b20, 0, none⟩) l19.length l19.length 3 1 (List.map eI l32), PRes.row (some ⟨b23, 0, none⟩) l22.length l22.length 3 1 (List.map eI l34)]) (fun (_, (l32, l34, v35)) => q37 = (l32, l34, v35)) ?_ ?_
       ·refine yaz ?_
        refine pwc_loopF (Y := Unit) (S := (List Int) × (List Int) × Int × Int) _ hq37 (fun _ (l26, l28, v29, v30) => [(0, .v (.int .i64 p0)), (1, .slc (List.map eI p1)), (7, .v (.int .i64 v14)), (10, .v (.slice (some ⟨b20, 0, none⟩) l19.length l19.length)), (11, .v (.slice (some ⟨b23, 0, none⟩) l22.length l22.length)), (12, .v (.int .i64 v29)), (13, .v (.int .i64 v30))]) (fun _ (l26, l28, v29, v30) => [PRes.row (some ⟨b20, 0, none⟩) l19.length l19.length 3 1 (List.map eI l26), PRes.row (some ⟨b23, 0, none⟩) l22.length l22.length 3 1 (List.map eI l28)]) () (zhc rfl (zhc rfl (zhc rfl (zhc rfl (zhc rfl (zhc rfl (zhc rfl zhn))))))) (zsc zph (zsc zph zsn)) ?_
        rintro _ ⟨l26, l28, v29, v30⟩ o τ hb36; (try dsimp only at hb36); dsimp only [pupds]
        refine yab (yab (yaa ?_))
        refine zmv (p := .v (.int .i64 v30)) rfl rfl rfl rfl rfl ?_
        refine zmv (p := .slc (List.map eI p1)) rfl rfl rfl rfl rfl ?_
        refine yah rfl rfl rfl (pq_lenT (enc := eI) rfl rfl (.p rfl)) ?_
        refine yah rfl rfl rfl (yak rfl (.p rfl) (.p rfl) rfl) ?_
        refine yad (yae ?_)
        refine yal rfl (fun hc38 => ?_) (fun hc38 => ?_)
        ·replace hb36 := yav hc38 hb36
         refine yao (yae (yab (yaz (yab (yaa ?_)))))
         refine zmv (p := .slc (List.map eI p1)) rfl rfl rfl rfl rfl ?_
         refine zmv (p := .v (.int .i64 v30)) rfl rfl rfl rfl rfl ?_
         refine yaf hb36 ?_; clear hb36; intro m39 hm39 hb36
         refine yah rfl rfl rfl (pq_index (enc := eI) rfl rfl rfl (fun _ => rfl) (.p rfl) (.p rfl) (fun _ => hm39)) ?_
         refine yah rfl rfl rfl (pq_load_r (p := .v (.int .i64 m39)) rfl (.p rfl) rfl) ?_
         refine zmv (p := .v (.int .i64 v14)) rfl rfl rfl rfl rfl ?_
         refine zas (p := .v (.int .i64 m39)) rfl rfl rfl rfl rfl ?_
         refine zas (p := .v (.int .i64 v14)) rfl rfl rfl rfl rfl ?_
         refine yad (yae (yab (yab (yaa ?_))))
         refine zmv (p := .v (.int .i64 v14)) rfl rfl rfl rfl rfl ?_
         refine yah rfl rfl rfl (yak rfl (.p rfl) (.p rfl) rfl) ?_
         refine yad (yae ?_)
         refine yaf hb36 ?_; clear hb36; intro q44 hq44 hb36
         refine ybe (Y := (Unit) × (Int × Int)) (fun (_, (v42, v43)) => [(0, .v (.int .i64 p0)), (1, .slc (List.map eI p1)), (7, .v (.int .i64 v14)), (10, .v (.slice (some ⟨b20, 0, none⟩) l19.length l19.length)), (11, .v (.slice (some ⟨b23, 0, none⟩) l22.length l22.length)), (12, .v (.int .i64 v29)), (13, .v (.int .i64 v30)), (14, .v (.int .i64 v42)), (15, .v (.int .i64 v43))]) (fun (_, (v42, v43)) => [PRes.row (some ⟨b20, 0, none⟩) l19.length l19.length 3 1 (List.map eI l26), PRes.row (some ⟨b23, 0, none⟩) l22.length l22.length 3 1 (List.map eI l28)]) (fun (_, (v42, v43)) => q44 = (v42, v43)) ?_ ?_
         ·skip
          refine yal rfl (fun hc45 => ?_) (fun hc45 => ?_)
          ·replace hq44 := yav hc45 hq44
           refine yaa ?_
           refine zmv (p := .slc (List.map eI p1)) rfl rfl rfl rfl rfl ?_
           refine yah rfl rfl rfl (pq_lenT (enc := eI) rfl rfl (.p rfl)) ?_
           refine zas (p := .v (.int .i64 1)) rfl rfl rfl rfl rfl ?_
           refine zas (p := .v (.int .i64 (p1.length : Int))) rfl rfl rfl rfl rfl ?_
           refine yad ?_
           obtain rfl := Option.some.inj hq44
           exact ybb ((), (1, (p1.length : Int))) (zhc rfl (zhc rfl (zhc rfl (zhc rfl (zhc rfl (zhc rfl (zhc rfl (zhc rfl (zhc rfl zhn))))))))) (zsc zph (zsc zph zsn)) rfl
          ·replace hq44 := yaw hc45 hq44
           refine yao ?_
           obtain rfl := Option.some.inj hq44
           exact ybb ((), (m39, v14)) (zhc rfl (zhc rfl (zhc rfl (zhc rfl (zhc rfl (zhc rfl (zhc rfl (zhc rfl (zhc rfl zhn))))))))) (zsc zph (zsc zph zsn)) rfl
         ·rintro ⟨_, ⟨v42, v43⟩⟩ τ hz; (try dsimp only at hz); subst q44; (try dsimp only at hb36); dsimp only [pupds]
          refine yab (yaa ?_)
          refine zmv (p := .v (.int .i64 p0)) rfl rfl rfl rfl rfl ?_
          refine yah rfl rfl rfl (pq_conv rfl rfl rfl (.p rfl)) ?_
          refine zmv (p := .v (.int .i64 v42)) rfl rfl rfl rfl rfl ?_
          refine yah rfl rfl rfl (pq_conv rfl rfl rfl (.p rfl)) ?_
          refine yaf hb36 ?_; clear hb36; intro x46 hx46 hb36
          refine ybd rfl rfl rfl rfl rfl (ref01_Mul_ok hx46) ?_
          refine zmv (p := .v (.int .i64 v43)) rfl rfl rfl rfl rfl ?_
          refine yah rfl rfl rfl (pq_conv rfl rfl rfl (.p rfl)) ?_
          refine yaf hb36 ?_; clear hb36; intro x47 hx47 hb36
          refine ybd rfl rfl rfl rfl rfl (ref01_DivMod_ok hx47) ?_
          refine zmv (p := .tup [.agg [.v (.int .u64 x47.1.Hi), .v (.int .u64 x47.1.Lo)], .v (.int .u64 x47.2)]) rfl rfl rfl rfl rfl ?_
          refine zex (p := .agg [.v (.int .u64 x47.1.Hi), .v (.int .u64 x47.1.Lo)]) rfl rfl rfl rfl rfl rfl ?_
          refine zex (p := .v (.int .u64 x47.2)) rfl rfl rfl rfl rfl rfl ?_
          refine ybl rfl rfl rfl (pl_alloc (cs := [.v (.int .u64 0), .v (.int .u64 0)]) rfl rfl rfl rfl (fun b48 => ?_))
          refine pwl_l0 rfl rfl (yax (vs := [.v (.int .u64 x47.1.Hi), .v (.int .u64 x47.1.Lo)]) rfl rfl rfl rfl rfl zuh (zlc (zlc zln)) ?_)
          refine zas (p := .v (.int .u64 x47.2)) rfl rfl rfl rfl rfl ?_
          refine yad (yae (yab (yaa ?_)))
          refine zmv (p := .v (.slice (some ⟨b20, 0, none⟩) l19.length l19.length)) rfl rfl rfl rfl rfl ?_
          refine zmv (p := .v (.int .i64 v30)) rfl rfl rfl rfl rfl ?_
          refine zmv (p := .v (.slice (some ⟨b23, 0, none⟩) l22.length l22.length)) rfl rfl rfl rfl rfl ?_
          refine zmv (p := .v (.int .i64 v30)) rfl rfl rfl rfl rfl ?_
          refine yah rfl rfl rfl (yac rfl rfl rfl rfl rfl (.p rfl)) ?_
          refine yah rfl rfl rfl (yag (p := .v (.int .u64 x47.1.Lo)) rfl (.p rfl) zm0 rfl) ?_
          refine yah rfl rfl rfl (pq_conv rfl rfl rfl (.p rfl)) ?_
          refine zmv (p := .v (.int .u64 x47.2)) rfl rfl rfl rfl rfl ?_
          refine yah rfl rfl rfl (pq_conv rfl rfl rfl (.p rfl)) ?_
          refine yaf hb36 ?_; clear hb36; intro m49 hm49 hb36
          refine yah rfl rfl rfl (pq_indexO (enc := eI) (xs := l26) rfl rfl rfl (.p rfl) zm1 (.p rfl) (fun _ => hm49)) ?_
          refine pwl_l0 rfl rfl (pl_store_o (enc := eI) (xs := l26) (a := (some ⟨b20, 0, none⟩)) v30 0 m49 (IntKind.i64.wrap x47.1.Lo) rfl rfl rfl rfl (fun _ => rfl) rfl rfl hm49 (zlc zln) (zut zuh) ?_)
          refine yaf hb36 ?_; clear hb36; intro m51 hm51 hb36
          refine yah rfl rfl rfl (pq_indexO (enc := eI) (xs := l28) rfl rfl rfl (.p rfl) zm2 (.p rfl) (fun _ => hm51)) ?_
          refine pwl_l0 rfl rfl (pl_store_o (enc := eI) (xs := l28) (a := (some ⟨b23, 0, none⟩)) v30 0 m51 (IntKind.i64.wrap x47.2) rfl rfl rfl rfl (fun _ => rfl) rfl rfl hm51 (zlc zln) (zut (zut zuh)) ?_)
          refine yad (yae (yaa ?_))
          refine zmv (p := .v (.int .i64 v29)) rfl rfl rfl rfl rfl ?_
          refine zmv (p := .v (.slice (some ⟨b20, 0, none⟩) l19.length l19.length)) rfl rfl rfl rfl rfl ?_
          refine zmv (p := .v (.int .i64 v30)) rfl rfl rfl rfl rfl ?_
          refine yaf hb36 ?_; clear hb36; intro m53 hm53 hb36
          refine yah rfl rfl rfl (pq_indexO (enc := eI) (xs := (l26.set v30.toNat (IntKind.i64.wrap x47.1.Lo))) rfl rfl rfl (.p rfl) zm1 (.p rfl) (fun _ => hm53)) ?_
          refine yah rfl rfl rfl (pq_load_o (p := .v (.int .i64 m53)) (enc := eI) (xs := (l26.set v30.toNat (IntKind.i64.wrap x47.1.Lo))) (a := (some ⟨b20, 0, none⟩)) v30 0 m53 rfl (.p rfl) rfl zm1 (fun _ => hm53) rfl) ?_
          refine yah rfl rfl rfl (yas rfl (.p rfl) (.p rfl) rfl) ?_
          refine zas (p := .v (.int .i64 (IntKind.i64.wrap (v29 - m53)))) rfl rfl rfl rfl rfl ?_
          refine yad (ybc (yae (yaa ?_)))
          refine zmv (p := .v (.int .i64 v30)) rfl rfl rfl rfl rfl ?_
          refine yah rfl rfl rfl (yas rfl (.p rfl) (.p rfl) rfl) ?_
          refine zas (p := .v (.int .i64 (IntKind.i64.wrap (v30 + 1)))) rfl rfl rfl rfl rfl ?_
          refine yad ?_
          exact pk_loop hb36 () (zhc rfl (zhc rfl (zhc rfl (zhc rfl (zhc rfl (zhc rfl (zhc rfl zhn))))))) (zsc (zpt zph) (zsc (zpt zph) zsn))
        ·replace hb36 := yaw hc38 hb36
         refine pwc_exit (ybm ?_)
         refine ybh hb36 (fun ht => ?_)
         refine ybj rfl ?_
         exact ybb ((), (l26, l28, v29)) (zhc rfl (zhc rfl (zhc rfl zhn))) (zsc zph (zsc zph zsn)) ht.symm
       ·rintro ⟨_, ⟨l32, l34, v35⟩⟩ τ hz; (try dsimp only at hz); subst q37; (try dsimp only at h); dsimp only [pupds]
        refine yab ?_
        refine yaf h ?_; clear h; intro q62 hq62 h
        refine ybe (Y := (Unit) × ((List Int))) (fun (_, l60) => [(10, .v (.slice (some ⟨b20, 0, none⟩) l19.length l19.length))]) (fun (_, l60) => [PRes.row (some ⟨b20, 0, none⟩) l19.length l19.length 3 1 (List.map eI l60)]) (fun (_, l60) => q62 = l60) ?_ ?_
        ·refine yaz ?_
         refine pwc_loopF (Y := Unit) (S := (List Int) × (List Int) × Int) _ hq62 (fun _ (l55, l57, v58) => [(10, .v (.slice (some ⟨b20, 0, none⟩) l19.length l19.length)), (11, .v (.slice (some ⟨b23, 0, none⟩) l22.length l22.length)), (12, .v (.int .i64 v58))]) (fun _ (l55, l57, v58) => [PRes.row (some ⟨b20, 0, none⟩) l19.length l19.length 3 1 (List.map eI l55), PRes.row (some ⟨b23, 0, none⟩) l22.length l22.length 3 1 (List.map eI l57)]) () (zhc rfl (zhc rfl (zhc rfl zhn))) (zsc zph (zsc zph zsn)) ?_
         rintro _ ⟨l55, l57, v58⟩ o τ hb61; (try dsimp only at hb61); dsimp only [pupds]
         refine yab (yab (yaa ?_))
         refine zmv (p := .v (.int .i64 v58)) rfl rfl rfl rfl rfl ?_
         refine yah rfl rfl rfl (yak rfl (.p rfl) (.p rfl) rfl) ?_
         refine yad (yae ?_)
         refine yal rfl (fun hc63 => ?_) (fun hc63 => ?_)
         ·replace hb61 := yav hc63 hb61
          refine yao (yae (yab (yaz (yab (yaa ?_)))))
          refine zas (p := .v (.int .i64 0)) rfl rfl rfl rfl rfl ?_
          refine yad (yae (yab (yab (yaa ?_))))
          refine zas (p := .v (.int .i64 1)) rfl rfl rfl rfl rfl ?_
          refine yad (yae ?_)
          refine yaf hb61 ?_; clear hb61; intro q70 hq70 hb61
          refine ybe (Y := (Unit) × (Int)) (fun (_, v68) => [(10, .v (.slice (some ⟨b20, 0, none⟩) l19.length l19.length)), (11, .v (.slice (some ⟨b23, 0, none⟩) l22.length l22.length)), (12, .v (.int .i64 v58)), (18, .v (.int .i64 v68))]) (fun (_, v68) => [PRes.row (some ⟨b20, 0, none⟩) l19.length l19.length 3 1 (List.map eI l55), PRes.row (some ⟨b23, 0, none⟩) l22.length l22.length 3 1 (List.map eI l57)]) (fun (_, v68) => q70 = v68) ?_ ?_
          ·refine yaz ?_
           refine pwc_loopF (Y := Unit) (S := Int × Int) _ hq70 (fun _ (v64, v65) => [(10, .v (.slice (some ⟨b20, 0, none⟩) l19.length l19.length)), (11, .v (.slice (some ⟨b23, 0, none⟩) l22.length l22.length)), (12, .v (.int .i64 v58)), (18, .v (.int .i64 v64)), (19, .v (.int .i64 v65))]) (fun _ (v64, v65) => [PRes.row (some ⟨b20, 0, none⟩) l19.length l19.length 3 1 (List.map eI l55), PRes.row (some ⟨b23, 0, none⟩) l22.length l22.length 3 1 (List.map eI l57)]) () (zhc rfl (zhc rfl (zhc rfl (zhc rfl (zhc rfl zhn))))) (zsc zph (zsc zph zsn)) ?_
           rintro _ ⟨v64, v65⟩ o τ hb69; (try dsimp only at hb69); dsimp only [pupds]
           refine yab (yab (yaa ?_))
           refine zmv (p := .v (.int .i64 v65)) rfl rfl rfl rfl rfl ?_
           refine zmv (p := .v (.slice (some ⟨b23, 0, none⟩) l22.length l22.length)) rfl rfl rfl rfl rfl ?_
           refine yah rfl rfl rfl (pq_lenO rfl rfl (.p rfl)) ?_
           refine yah rfl rfl rfl (yak rfl (.p rfl) (.p rfl) rfl) ?_
           refine yad (yae ?_)
           refine yal rfl (fun hc71 => ?_) (fun hc71 => ?_)
           ·replace hb69 := yav hc71 hb69
            refine yao (yae (yab ?_))
            refine yaf hb69 ?_; clear hb69; intro q75 hq75 hb69
            refine ybe (Y := (Unit) × (Int)) (fun (_, v74) => [(10, .v (.slice (some ⟨b20, 0, none⟩) l19.length l19.length)), (11, .v (.slice (some ⟨b23, 0, none⟩) l22.length l22.length)), (12, .v (.int .i64 v58)), (18, .v (.int .i64 v74)), (19, .v (.int .i64 v65))]) (fun (_, v74) => [PRes.row (some ⟨b20, 0, none⟩) l19.length l19.length 3 1 (List.map eI l55), PRes.row (some ⟨b23, 0, none⟩) l22.length l22.length 3 1 (List.map eI l57)]) (fun (_, v74) => q75 = v74) ?_ ?_
            ·skip
             refine yaz (yab ?_)
             refine pwc_draw (ρd := []) [(0, 0), (1, 0), (2, 0), (3, 0), (4, 0), (5, 0), (6, 0), (7, 0), (8, 0)] _ (List.Perm.refl _) (by kernel_rfl) rfl ?_
             refine ybf rfl rfl rfl (yam (p := .v (.slice (some ⟨b23, 0, none⟩) l22.length l22.length)) rfl (.p rfl)) ?_
             refine ybf rfl rfl rfl (yam (p := .v (.int .i64 v65)) rfl (.p rfl)) ?_
             refine yaf hq75 ?_; clear hq75; intro m76 hm76 hq75
             refine ybf rfl rfl rfl (pq_indexO (enc := eI) (xs := l57) rfl rfl rfl (.p rfl) zm1 (.p rfl) (fun _ => hm76)) ?_
             refine ybf rfl rfl rfl (pq_load_o (p := .v (.int .i64 m76)) (enc := eI) (xs := l57) (a := (some ⟨b23, 0, none⟩)) v65 0 m76 rfl (.p rfl) rfl zm1 (fun _ => hm76) rfl) ?_
             refine ybf rfl rfl rfl (yam (p := .v (.slice (some ⟨b23, 0, none⟩) l22.length l22.length)) rfl (.p rfl)) ?_
             refine ybf rfl rfl rfl (yam (p := .v (.int .i64 v64)) rfl (.p rfl)) ?_
             refine yaf hq75 ?_; clear hq75; intro m77 hm77 hq75
             refine ybf rfl rfl rfl (pq_indexO (enc := eI) (xs := l57) rfl rfl rfl (.p rfl) zm1 (.p rfl) (fun _ => hm77)) ?_
             refine ybf rfl rfl rfl (pq_load_o (p := .v (.int .i64 m77)) (enc := eI) (xs := l57) (a := (some ⟨b23, 0, none⟩)) v64 0 m77 rfl (.p rfl) rfl zm1 (fun _ => hm77) rfl) ?_
             refine ybf rfl rfl rfl (yak rfl (.p rfl) (.p rfl) rfl) ?_
             refine pwd_nil (yae ?_)
             refine yal rfl (fun hc78 => ?_) (fun hc78 => ?_)
             ·replace hq75 := yav hc78 hq75
              refine yaa ?_
              refine zmv (p := .v (.int .i64 v65)) rfl rfl rfl rfl rfl ?_
              refine zas (p := .v (.int .i64 v65)) rfl rfl rfl rfl rfl ?_
              refine yad (ybc ?_)
              obtain rfl := Option.some.inj hq75
              exact ybb ((), v65) (zhc rfl (zhc rfl (zhc rfl (zhc rfl (zhc rfl zhn))))) (zsc zph (zsc zph zsn)) rfl
             ·replace hq75 := yaw hc78 hq75
              refine yao (ybc ?_)
              obtain rfl := Option.some.inj hq75
              exact ybb ((), v64) (zhc rfl (zhc rfl (zhc rfl (zhc rfl (zhc rfl zhn))))) (zsc zph (zsc zph zsn)) rfl
            ·rintro ⟨_, v74⟩ τ hz; (try dsimp only at hz); subst q75; (try dsimp only at hb69); dsimp only [pupds]
             refine yaa ?_
             refine zmv (p := .v (.int .i64 v65)) rfl rfl rfl rfl rfl ?_
             refine yah rfl rfl rfl (yas rfl (.p rfl) (.p rfl) rfl) ?_
             refine zas (p := .v (.int .i64 (IntKind.i64.wrap (v65 + 1)))) rfl rfl rfl rfl rfl ?_
             refine yad ?_
             exact pk_loop hb69 () (zhc rfl (zhc rfl (zhc rfl (zhc rfl (zhc rfl zhn))))) (zsc zph (zsc zph zsn))
           ·replace hb69 := yaw hc71 hb69
            refine pwc_exit (ybm ?_)
            refine ybh hb69 (fun ht => ?_)
            refine ybj rfl ?_
            exact ybb ((), v64) (zhc rfl (zhc rfl (zhc rfl (zhc rfl zhn)))) (zsc zph (zsc zph zsn)) ht.symm
          ·rintro ⟨_, v68⟩ τ hz; (try dsimp only at hz); subst q70; (try dsimp only at hb61); dsimp only [pupds]
           refine yab (yaa ?_)
           refine zmv (p := .v (.slice (some ⟨b20, 0, none⟩) l19.length l19.length)) rfl rfl rfl rfl rfl ?_
           refine zmv (p := .v (.int .i64 v68)) rfl rfl rfl rfl rfl ?_
           refine yaf hb61 ?_; clear hb61; intro m79 hm79 hb61
           refine yah rfl rfl rfl (pq_indexO (enc := eI) (xs := l55) rfl rfl rfl (.p rfl) zm0 (.p rfl) (fun _ => hm79)) ?_
           refine yah rfl rfl rfl (pq_load_o (p := .v (.int .i64 m79)) (enc := eI) (xs := l55) (a := (some ⟨b20, 0, none⟩)) v68 0 m79 rfl (.p rfl) rfl zm0 (fun _ => hm79) rfl) ?_
           refine yah rfl rfl rfl (yas rfl (.p rfl) (.p rfl) rfl) ?_
           refine yaf hb61 ?_; clear hb61; intro m80 hm80 hb61
           refine yah rfl rfl rfl (pq_indexO (enc := eI) (xs := l55) rfl rfl rfl (.p rfl) zm0 (.p rfl) (fun _ => hm80)) ?_
           refine pwl_l0 rfl rfl (pl_store_o (enc := eI) (xs := l55) (a := (some ⟨b20, 0, none⟩)) v68 0 m80 (IntKind.i64.wrap (m79 + 1)) rfl rfl rfl rfl (fun _ => rfl) rfl rfl hm80 (zlc zln) zuh ?_)
           refine yad (yae (yaa ?_))
           refine zmv (p := .v (.slice (some ⟨b23, 0, none⟩) l22.length l22.length)) rfl rfl rfl rfl rfl ?_
           refine zmv (p := .v (.int .i64 v68)) rfl rfl rfl rfl rfl ?_
           refine yaf hb61 ?_; clear hb61; intro m82 hm82 hb61
           refine yah rfl rfl rfl (pq_indexO (enc := eI) (xs := l57) rfl rfl rfl (.p rfl) zm1 (.p rfl) (fun _ => hm82)) ?_
           refine pwl_l0 rfl rfl (pl_store_o (enc := eI) (xs := l57) (a := (some ⟨b23, 0, none⟩)) v68 0 m82 (-1) rfl rfl rfl rfl (fun _ => rfl) rfl rfl hm82 (zlc zln) (zut zuh) ?_)
           refine yad (ybc (yae (yaa ?_)))
           refine zmv (p := .v (.int .i64 v58)) rfl rfl rfl rfl rfl ?_
           refine yah rfl rfl rfl (yas rfl (.p rfl) (.p rfl) rfl) ?_
           refine zas (p := .v (.int .i64 (IntKind.i64.wrap (v58 - 1)))) rfl rfl rfl rfl rfl ?_
           refine yad ?_
           exact pk_loop hb61 () (zhc rfl (zhc rfl (zhc rfl zhn))) (zsc zph (zsc zph zsn))
         ·replace hb61 := yaw hc63 hb61
          refine pwc_exit (ybm ?_)
          refine ybh hb61 (fun ht => ?_)
          refine ybj rfl ?_
          exact ybb ((), l55) (zhc rfl zhn) (zsc zph zsn) ht.symm
        ·rintro ⟨_, l60⟩ τ hz; (try dsimp only at hz); subst q62; (try dsimp only at h); dsimp only [pupds]
         refine yab (yaa ?_)
         refine zmv (p := .v (.slice (some ⟨b20, 0, none⟩) l19.length l19.length)) rfl rfl rfl rfl rfl ?_
         refine zas (p := .v (.slice (some ⟨b20, 0, none⟩) l19.length l19.length)) rfl rfl rfl rfl rfl ?_
         refine zas (p := .v (.int .i64 0)) rfl rfl rfl rfl rfl ?_
         refine yad (yae ?_)
         refine pwc_frzt (css := List.map eI l60) 4 rfl (by exact zph) ?_
         refine yaq ?_
         obtain rfl := Option.some.inj h
         exact yar (prv_2 (yat rfl) (yat rfl)) zsn ⟨rfl, rfl⟩
def ref19_Assess (p0 : (List TMeasure)) (p1 : TItem) : Option (TDebt × Int) := Option.bind (ref19_Measures p0) (fun x3 => cond (x3 != 0) (some ((⟨[], 0⟩ : TDebt), x3)) (Option.bind (ref19_Item p1) (fun x5 => cond (x5 != 0) (some ((⟨[], 0⟩ : TDebt), x5)) (Option.bind (cond (decide (0 < p1.Quantity)) (Option.bind (ref02_Share p1.Value [p1.Granted, (IntKind.i64.wrap (p1.Quantity - p1.Granted))]) (fun x14 => some x14.1)) (some [0, p1.Value])) (fun l11 => Option.bind (ref19_Of p0 1 p1.Code p1.Origin p1.Company p1.Day) (fun x15 => cond (!x15.2) (some ((⟨[], 0⟩ : TDebt), 7)) (Option.bind (loopF (S := Bool × Int × (List TDebtLine)) (T := (Bool × (List TDebtLine))) (fun (v19, v20, l22) => cond (decide (v20 < 2)) (Option.bind (Option.bind (idx [p1.Granted, (IntKind.i64.wrap (p1.Quantity - p1.Granted))] v20) (fun m40 => cond ((m40 == 0) && ((v20 == 0) || (decide (0 < p1.Quantity)))) (some (v19, l22)) (Option.bind (loopF (S := Bool × Int × Int × Int × Int × Int × Int) (T := (Bool × Int × Int × Int × Int × Int)) (fun (v43, v44, v45, v46, v47, v48, v49) => cond (decide (v44 ≤ 4)) (Option.bind (Option.bind (ref19_Of p0 v44 p1.Code p1.Origin p1.Company p1.Day) (fun x68 => cond (((!x68.2) || ((v44 == 3) && (!p1.Proof))) || ((v44 == 4) && (v20 == 1))) (some (v43, v45, v46, v47, v48, v49)) (Option.bind (idx l11 v20) (fun m71 => Option.bind (idx [p1.Granted, (IntKind.i64.wrap (p1.Quantity - p1.Granted))] v20) (fun m72 => Option.bind (ref17_Evaluate x68.1.Duty m71 m72) (fun x73 => cond ((v44 == 1) || (decide (x73.1 < v49))) (Option.bind (idx [p1.Granted, (IntKind.i64.wrap (p1.Quantity - p1.Granted))] v20) (fun m75 => Option.bind (idx l11 v20) (fun m76 => some ((v43 || (x73.2 != 0)), v44, x68.1.ID, m75, m76, x73.1)))) (some ((v43 || (x73.2 != 0)), v45, v46, v47, v48, v49)))))))) (fun (v60, v62, v63, v64, v65, v66) => some (.inl (v60, (IntKind.i64.wrap (v44 + 1)), v62, v63, v64, v65, v66)))) (some (.inr (v43, v45, v46, v47, v48, v49)))) FUEL (v19, 1, 0, 0, 0, 0, 0)) (fun (v50, v52, v53, v54, v55, v56) => Option.bind (app 40 l22 [(⟨v52, v53, v54, v55, v56⟩ : TDebtLine)]) (fun l79 => some (v50, l79)))))) (fun (v34, l38) => some (.inl (v34, (IntKind.i64.wrap (v20 + 1)), l38)))) (some (.inr (v19, l22)))) FUEL (false, 0, ([] : List TDebtLine))) (fun (v25, l29) => Option.bind (loopF (S := Bool × Int × (List TDebtLine)) (T := (Bool × (List TDebtLine))) (fun (v83, v84, l86) => cond (decide (v84 ≤ 6)) (Option.bind (Option.bind (ref19_Of p0 v84 p1.Code p1.Origin p1.Company p1.Day) (fun x103 => cond x103.2 (Option.bind (ref17_Evaluate x103.1.Duty p1.Value p1.Quantity) (fun x106 => Option.bind (app 40 l86 [(⟨v84, x103.1.ID, p1.Quantity, p1.Value, x106.1⟩ : TDebtLine)]) (fun l109 => some ((v83 || (x106.2 != 0)), l109)))) (some (v83, l86)))) (fun (v97, l101) => some (.inl (v97, (IntKind.i64.wrap (v84 + 1)), l101)))) (some (.inr (v83, l86)))) FUEL (v25, 5, l29)) (fun (v89, l93) => Option.bind (loopF (S := Int × Int) (T := (Int)) (fun (v113, v114) => cond (decide (v113 < ((l93.length : Nat) : Int))) (Option.bind (idx l93 v113) (fun m120 => some (.inl ((IntKind.i64.wrap (v113 + 1)), (IntKind.i64.wrap (v114 + m120.Amount)))))) (some (.inr v114))) FUEL (0, 0)) (fun v116 => cond (v89 || (decide (1000000000000 < v116))) (some ((⟨[], 0⟩ : TDebt), 3)) (some ((⟨l93, v116⟩ : TDebt), 0))))))))))))
set_option maxHeartbeats 4000000 in
theorem ref19_Assess_ok {p0 : (List TMeasure)} {p1 : TItem} {r : (TDebt × Int)}  (h : ref19_Assess p0 p1 = some r) : PF 18 [.slc (List.map TMeasure.enc p0), .agg [.v (.string p1.Code), .v (.string p1.Origin), .v (.bool p1.Proof), .v (.int .i64 p1.Company), .v (.int .i64 p1.Day), .v (.int .i64 p1.Quantity), .v (.int .i64 p1.Value), .v (.int .i64 p1.Granted)]] (.tup [.agg [.slc (List.map TDebtLine.enc r.1.Lines), .v (.int .i64 r.1.Total)], .v (.int .i64 r.2)]) := by
 unfold ref19_Assess at h
 refine pf_of ?_
 refine penter Tryz.func18 fk18 rfl Tryz.ntmps18 Tryz.results18 rfl ?_
 refine yab (yaa ?_)
 refine ybl rfl rfl rfl (pl_box (cs := [.v (.string p1.Code), .v (.string p1.Origin), .v (.bool p1.Proof), .v (.int .i64 p1.Company), .v (.int .i64 p1.Day), .v (.int .i64 p1.Quantity), .v (.int .i64 p1.Value), .v (.int .i64 p1.Granted)]) rfl rfl (fun b1 => ?_))
 refine ybl rfl rfl rfl (pl_alloc (cs := [.v (.slice none 0 0), .v (.int .i64 0)]) rfl rfl rfl rfl (fun b2 => ?_))
 refine zas (p := .v (.int .i64 0)) rfl rfl rfl rfl rfl ?_
 refine yad (yae (yab (yab (yaa ?_))))
 refine zmv (p := .slc (List.map TMeasure.enc p0)) rfl rfl rfl rfl rfl ?_
 refine yaf h ?_; clear h; intro x3 hx3 h
 refine ybd rfl rfl rfl rfl rfl (ref19_Measures_ok hx3) ?_
 refine zas (p := .v (.int .i64 x3)) rfl rfl rfl rfl rfl ?_
 refine yad (yae (yab (yaa ?_)))
 refine zmv (p := .v (.int .i64 x3)) rfl rfl rfl rfl rfl ?_
 refine yah rfl rfl rfl (yak rfl (.p rfl) (.p rfl) rfl) ?_
 refine yad (yae ?_)
 refine yal rfl (fun hc4 => ?_) (fun hc4 => ?_)
 ·replace h := yav hc4 h
  refine yab (yaa ?_)
  refine yah rfl rfl rfl (pq_build (cs := [.v (.slice none 0 0), .v (.int .i64 0)]) rfl rfl rfl rfl rfl rfl rfl zfn) ?_
  refine zmv (p := .v (.int .i64 x3)) rfl rfl rfl rfl rfl ?_
  refine pwl_l0 rfl rfl (yax (vs := [.v (.slice none 0 0), .v (.int .i64 0)]) rfl rfl rfl rfl rfl zuh (zlc (zlc zln)) ?_)
  refine zas (p := .v (.int .i64 x3)) rfl rfl rfl rfl rfl ?_
  refine yad (yae ?_)
  refine pwc_nilb (k := 0) (b := b2) rfl zuh ?_
  refine yaq (yap ?_)
  obtain rfl := Option.some.inj h
  exact yar (prv_2 (prv1_c rfl zm0 rfl) (yat rfl)) zsn ⟨rfl, rfl⟩
 ·replace h := yaw hc4 h
  refine yao (yae (yab (yab (yaa ?_))))
  refine yah rfl rfl rfl (yag (p := .agg [.v (.string p1.Code), .v (.string p1.Origin), .v (.bool p1.Proof), .v (.int .i64 p1.Company), .v (.int .i64 p1.Day), .v (.int .i64 p1.Quantity), .v (.int .i64 p1.Value), .v (.int .i64 p1.Granted)]) rfl (.p rfl) zm1 rfl) ?_
  refine yaf h ?_; clear h; intro x5 hx5 h
  refine ybd rfl rfl rfl rfl rfl (ref19_Item_ok hx5) ?_
  refine zas (p := .v (.int .i64 x5)) rfl rfl rfl rfl rfl ?_
  refine yad (yae (yab (yaa ?_)))
  refine zmv (p := .v (.int .i64 x5)) rfl rfl rfl rfl rfl ?_
  refine yah rfl rfl rfl (yak rfl (.p rfl) (.p rfl) rfl) ?_
  refine yad (yae ?_)
  refine yal rfl (fun hc6 => ?_) (fun hc6 => ?_)
  ·replace h := yav hc6 h
   refine yab (yaa ?_)
   refine yah rfl rfl rfl (pq_build (cs := [.v (.slice none 0 0), .v (.int .i64 0)]) rfl rfl rfl rfl rfl rfl rfl zfn) ?_
   refine zmv (p := .v (.int .i64 x5)) rfl rfl rfl rfl rfl ?_
   refine pwl_l0 rfl rfl (yax (vs := [.v (.slice none 0 0), .v (.int .i64 0)]) rfl rfl rfl rfl rfl zuh (zlc (zlc zln)) ?_)
   refine zas (p := .v (.int .i64 x5)) rfl rfl rfl rfl rfl ?_
   refine yad (yae ?_)
   refine pwc_nilb (k := 0) (b := b2) rfl zuh ?_
   refine yaq (yap ?_)
   obtain rfl := Option.some.inj h
   exact yar (prv_2 (prv1_c rfl zm0 rfl) (yat rfl)) zsn ⟨rfl, rfl⟩
  ·replace h := yaw hc6 h
   refine yao (yae (yab ?_))
   refine ybe (Y := Nat × Nat) (fun (b7, b9) => [(0, .slc (List.map TMeasure.enc p0)), (3, .v (.pointer (some ⟨b1, 0, none⟩))), (4, .v (.pointer (some ⟨b2, 0, none⟩))), (8, .v (.slice (some ⟨b7, 0, none⟩) 2 2)), (9, .v (.slice (some ⟨b9, 0, none⟩) 2 2))]) (fun (b7, b9) => [PRes.b b1 23 [.v (.string p1.Code), .v (.string p1.Origin), .v (.bool p1.Proof), .v (.int .i64 p1.Company), .v (.int .i64 p1.Day), .v (.int .i64 p1.Quantity), .v (.int .i64 p1.Value), .v (.int .i64 p1.Granted)], PRes.b b2 35 [.v (.slice none 0 0), .v (.int .i64 0)], PRes.row (some ⟨b9, 0, none⟩) 2 2 3 1 (List.map eI [0, p1.Value]), PRes.row (some ⟨b7, 0, none⟩) 2 2 3 1 (List.map eI [p1.Granted, (IntKind.i64.wrap (p1.Quantity - p1.Granted))])]) (fun _ => True) ?_ ?_
   ·refine pws_start (ρd := []) _ (List.Perm.refl _) ?_
    refine pws_q 0 (by kernel_rfl) rfl rfl rfl rfl (yac rfl rfl rfl rfl rfl (.p rfl)) ?_
    refine pws_q 1 (by kernel_rfl) rfl rfl rfl rfl (yag (p := .v (.int .i64 p1.Granted)) rfl (.p rfl) zm1 rfl) ?_
    refine pws_q 2 (by kernel_rfl) rfl rfl rfl rfl (yac rfl rfl rfl rfl rfl (.p rfl)) ?_
    refine pws_q 3 (by kernel_rfl) rfl rfl rfl rfl (yag (p := .v (.int .i64 p1.Quantity)) rfl (.p rfl) zm1 rfl) ?_
    refine pws_q 4 (by kernel_rfl) rfl rfl rfl rfl (yac rfl rfl rfl rfl rfl (.p rfl)) ?_
    refine pws_q 5 (by kernel_rfl) rfl rfl rfl rfl (yag (p := .v (.int .i64 p1.Granted)) rfl (.p rfl) zm1 rfl) ?_
    refine pws_q 6 (by kernel_rfl) rfl rfl rfl rfl (yas rfl (.p rfl) (.p rfl) rfl) ?_
    refine pws_q 8 (by kernel_rfl) rfl rfl rfl rfl (yac rfl rfl rfl rfl rfl (.p rfl)) ?_
    refine pws_q 9 (by kernel_rfl) rfl rfl rfl rfl (yag (p := .v (.int .i64 p1.Value)) rfl (.p rfl) zm1 rfl) ?_
    refine pws_two 7 10 (by kernel_rfl) ?_ ?_
    ·skip
     refine pstep_l rfl rfl rfl rfl (pl_lit rfl rfl rfl rfl rfl (zic rfl (zic rfl zin)) rfl rfl rfl rfl (fun b7 => ?_))
     refine pws_q 11 (by kernel_rfl) rfl rfl rfl rfl (pq_assign (p := .v (.slice (some ⟨b7, 0, none⟩) 2 2)) rfl (.p rfl)) ?_
     refine pws_one 10 (by kernel_rfl) ?_
     refine pstep_l rfl rfl rfl rfl (pl_lit rfl rfl rfl rfl rfl (zic rfl (zic rfl zin)) rfl rfl rfl rfl (fun b9 => ?_))
     refine pws_q 12 (by kernel_rfl) rfl rfl rfl rfl (pq_assign (p := .v (.slice (some ⟨b9, 0, none⟩) 2 2)) rfl (.p rfl)) ?_
     refine pws_done (by kernel_rfl) ?_
     exact ybb (b7, b9) (zhc rfl (zhc rfl (zhc rfl (zhc rfl (zhc rfl zhn))))) (zsc (zpt (zpt (zpt zph))) (zsc (zpt (zpt zph)) (zsc zph (zsc zph zsn)))) trivial
    ·skip
     refine pstep_l rfl rfl rfl rfl (pl_lit rfl rfl rfl rfl rfl (zic rfl (zic rfl zin)) rfl rfl rfl rfl (fun b9 => ?_))
     refine pws_one 7 (by kernel_rfl) ?_
     refine pstep_l rfl rfl rfl rfl (pl_lit rfl rfl rfl rfl rfl (zic rfl (zic rfl zin)) rfl rfl rfl rfl (fun b7 => ?_))
     refine pws_q 11 (by kernel_rfl) rfl rfl rfl rfl (pq_assign (p := .v (.slice (some ⟨b7, 0, none⟩) 2 2)) rfl (.p rfl)) ?_
     refine pws_q 12 (by kernel_rfl) rfl rfl rfl rfl (pq_assign (p := .v (.slice (some ⟨b9, 0, none⟩) 2 2)) rfl (.p rfl)) ?_
     refine pws_done (by kernel_rfl) ?_
     exact ybb (b7, b9) (zhc rfl (zhc rfl (zhc rfl (zhc rfl (zhc rfl zhn))))) (zsc (zpt (zpt (zpt zph))) (zsc (zpt (zpt zph)) (zsc (zpt zph) (zsc zph zsn)))) trivial
   ·rintro ⟨b7, b9⟩ τ _; dsimp only [pupds]
    refine yab (yab (yaa ?_))
    refine yah rfl rfl rfl (yac rfl rfl rfl rfl rfl (.p rfl)) ?_
    refine yah rfl rfl rfl (yag (p := .v (.int .i64 p1.Quantity)) rfl (.p rfl) zm0 rfl) ?_
    refine yah rfl rfl rfl (yak rfl (.p rfl) (.p rfl) rfl) ?_
    refine yad (yae ?_)
    refine yaf h ?_; clear h; intro q12 hq12 h
    refine ybe (Y := (Unit) × ((List Int))) (fun (_, l11) => [(0, .slc (List.map TMeasure.enc p0)), (3, .v (.pointer (some ⟨b1, 0, none⟩))), (4, .v (.pointer (some ⟨b2, 0, none⟩))), (8, .slc (List.map eI [p1.Granted, (IntKind.i64.wrap (p1.Quantity - p1.Granted))])), (9, .slc (List.map eI l11))]) (fun (_, l11) => [PRes.b b1 23 [.v (.string p1.Code), .v (.string p1.Origin), .v (.bool p1.Proof), .v (.int .i64 p1.Company), .v (.int .i64 p1.Day), .v (.int .i64 p1.Quantity), .v (.int .i64 p1.Value), .v (.int .i64 p1.Granted)], PRes.b b2 35 [.v (.slice none 0 0), .v (.int .i64 0)]]) (fun (_, l11) => q12 = l11) ?_ ?_
    ·skip
     refine yal rfl (fun hc13 => ?_) (fun hc13 => ?_)
     ·replace hq12 := yav hc13 hq12
      refine yaa ?_
      refine yah rfl rfl rfl (yac rfl rfl rfl rfl rfl (.p rfl)) ?_
      refine yah rfl rfl rfl (yag (p := .v (.int .i64 p1.Value)) rfl (.p rfl) zm0 rfl) ?_
      refine zmv (p := .v (.slice (some ⟨b7, 0, none⟩) 2 2)) rfl rfl rfl rfl rfl ?_
      refine pwl_frzt (css := List.map eI [p1.Granted, (IntKind.i64.wrap (p1.Quantity - p1.Granted))]) 56 rfl (by exact zpt (zpt (zpt zph))) ?_
      refine yaf hq12 ?_; clear hq12; intro x14 hx14 hq12
      refine ybd rfl rfl rfl rfl rfl (ref02_Share_ok hx14) ?_
      refine zmv (p := .tup [.slc (List.map eI x14.1), .v (.int .i64 x14.2)]) rfl rfl rfl rfl rfl ?_
      refine zex (p := .slc (List.map eI x14.1)) rfl rfl rfl rfl rfl rfl ?_
      refine zex (p := .v (.int .i64 x14.2)) rfl rfl rfl rfl rfl rfl ?_
      refine zas (p := .slc (List.map eI x14.1)) rfl rfl rfl rfl rfl ?_
      refine yad ?_
      refine pk_mid_cov (cov_view (css := List.map eI [p1.Granted, (IntKind.i64.wrap (p1.Quantity - p1.Granted))]) 8 rfl zm0) ?_
      obtain rfl := Option.some.inj hq12
      exact ybb ((), x14.1) (zhc rfl (zhc rfl (zhc rfl (zhc rfl (zhc rfl zhn))))) (zsc (zpt zph) (zsc (zpt zph) zsn)) rfl
     ·replace hq12 := yaw hc13 hq12
      refine yao ?_
      refine pk_mid_cov (cov_frzt (css := List.map eI [p1.Granted, (IntKind.i64.wrap (p1.Quantity - p1.Granted))]) 8 rfl (by exact zpt (zpt (zpt zph)))) ?_
      refine pk_mid_cov (cov_frzt (css := List.map eI [0, p1.Value]) 9 rfl (by exact zpt (zpt (zpt zph)))) ?_
      obtain rfl := Option.some.inj hq12
      exact ybb ((), [0, p1.Value]) (zhc rfl (zhc rfl (zhc rfl (zhc rfl (zhc rfl zhn))))) (zsc (zpt (zpt zph)) (zsc (zpt (zpt zph)) zsn)) rfl
    ·rintro ⟨_, l11⟩ τ hz; (try dsimp only at hz); subst q12; (try dsimp only at h); dsimp only [pupds]
     refine yab (yab (yaa ?_))
     refine zmv (p := .slc (List.map TMeasure.enc p0)) rfl rfl rfl rfl rfl ?_
     refine yah rfl rfl rfl (yac rfl rfl rfl rfl rfl (.p rfl)) ?_
     refine yah rfl rfl rfl (yag (p := .v (.string p1.Code)) rfl (.p rfl) zm0 rfl) ?_
     refine yah rfl rfl rfl (yac rfl rfl rfl rfl rfl (.p rfl)) ?_
     refine yah rfl rfl rfl (yag (p := .v (.string p1.Origin)) rfl (.p rfl) zm0 rfl) ?_
     refine yah rfl rfl rfl (yac rfl rfl rfl rfl rfl (.p rfl)) ?_
     refine yah rfl rfl rfl (yag (p := .v (.int .i64 p1.Company)) rfl (.p rfl) zm0 rfl) ?_
     refine yah rfl rfl rfl (yac rfl rfl rfl rfl rfl (.p rfl)) ?_
     refine yah rfl rfl rfl (yag (p := .v (.int .i64 p1.Day)) rfl (.p rfl) zm0 rfl) ?_
     refine yaf h ?_; clear h; intro x15 hx15 h
     refine ybd rfl rfl rfl rfl rfl (ref19_Of_ok hx15) ?_
     refine zmv (p := .tup [.agg [.v (.int .i64 x15.1.ID), .v (.int .i64 x15.1.Kind), .v (.string x15.1.Prefix), .slc (List.map eS x15.1.Origins), .v (.int .i64 x15.1.Company), .v (.int .i64 x15.1.From), .v (.int .i64 x15.1.To), .v (.int .i64 x15.1.Registered), .v (.int .i64 x15.1.Duty.Rate), .v (.int .i64 x15.1.Duty.Amount), .v (.int .i64 x15.1.Duty.Per), .v (.bool x15.1.Duty.HasMost), .v (.int .i64 x15.1.Duty.Most), .v (.bool x15.1.Duty.HasLeast), .v (.int .i64 x15.1.Duty.Least)], .v (.bool x15.2)]) rfl rfl rfl rfl rfl ?_
     refine zex (p := .agg [.v (.int .i64 x15.1.ID), .v (.int .i64 x15.1.Kind), .v (.string x15.1.Prefix), .slc (List.map eS x15.1.Origins), .v (.int .i64 x15.1.Company), .v (.int .i64 x15.1.From), .v (.int .i64 x15.1.To), .v (.int .i64 x15.1.Registered), .v (.int .i64 x15.1.Duty.Rate), .v (.int .i64 x15.1.Duty.Amount), .v (.int .i64 x15.1.Duty.Per), .v (.bool x15.1.Duty.HasMost), .v (.int .i64 x15.1.Duty.Most), .v (.bool x15.1.Duty.HasLeast), .v (.int .i64 x15.1.Duty.Least)]) rfl rfl rfl rfl rfl rfl ?_
     refine zex (p := .v (.bool x15.2)) rfl rfl rfl rfl rfl rfl ?_
     refine ybl rfl rfl rfl (pl_alloc (cs := [.v (.int .i64 0), .v (.int .i64 0), .v (.string ByteArray.empty), .v (.slice none 0 0), .v (.int .i64 0), .v (.int .i64 0), .v (.int .i64 0), .v (.int .i64 0), .v (.int .i64 0), .v (.int .i64 0), .v (.int .i64 0), .v (.bool false), .v (.int .i64 0), .v (.bool false), .v (.int .i64 0)]) rfl rfl rfl rfl (fun b16 => ?_))
     refine pwl_l0 rfl rfl (yax (vs := [.v (.int .i64 x15.1.ID), .v (.int .i64 x15.1.Kind), .v (.string x15.1.Prefix), .slc (List.map eS x15.1.Origins), .v (.int .i64 x15.1.Company), .v (.int .i64 x15.1.From), .v (.int .i64 x15.1.To), .v (.int .i64 x15.1.Registered), .v (.int .i64 x15.1.Duty.Rate), .v (.int .i64 x15.1.Duty.Amount), .v (.int .i64 x15.1.Duty.Per), .v (.bool x15.1.Duty.HasMost), .v (.int .i64 x15.1.Duty.Most), .v (.bool x15.1.Duty.HasLeast), .v (.int .i64 x15.1.Duty.Least)]) rfl rfl rfl rfl rfl zuh (zlc (zlc (zlc (zlc (zlc (zlc (zlc (zlc (zlc (zlc (zlc (zlc (zlc (zlc (zlc zln))))))))))))))) ?_)
     refine zas (p := .v (.bool x15.2)) rfl rfl rfl rfl rfl ?_
     refine yad (yae (yab (yaa ?_)))
     refine zmv (p := .v (.bool x15.2)) rfl rfl rfl rfl rfl ?_
     refine yah rfl rfl rfl (pq_not rfl (.p rfl)) ?_
     refine yad (yae ?_)
     refine yal rfl (fun hc17 => ?_) (fun hc17 => ?_)
     ·replace h := yav hc17 h
      refine yab (yaa ?_)
      refine yah rfl rfl rfl (pq_build (cs := [.v (.slice none 0 0), .v (.int .i64 0)]) rfl rfl rfl rfl rfl rfl rfl zfn) ?_
      refine pwl_l0 rfl rfl (yax (vs := [.v (.slice none 0 0), .v (.int .i64 0)]) rfl rfl rfl rfl rfl (zut (zut zuh)) (zlc (zlc zln)) ?_)
      refine zas (p := .v (.int .i64 7)) rfl rfl rfl rfl rfl ?_
      refine yad (yae ?_)
      refine pwc_nilb (k := 0) (b := b2) rfl (zut (zut zuh)) ?_
      refine yaq (yap ?_)
      obtain rfl := Option.some.inj h
      exact yar (prv_2 (prv1_c rfl zm2 rfl) (yat rfl)) zsn ⟨rfl, rfl⟩
     ·replace h := yaw hc17 h
      refine yao (yae (yab (yaa ?_)))
      refine yah rfl rfl rfl (pq_build (cs := [.v (.slice none 0 0), .v (.int .i64 0)]) rfl rfl rfl rfl rfl rfl rfl zfn) ?_
      refine ybl rfl rfl rfl (pl_alloc (cs := [.v (.slice none 0 0), .v (.int .i64 0)]) rfl rfl rfl rfl (fun b18 => ?_))
      refine pwl_l0 rfl rfl (yax (vs := [.v (.slice none 0 0), .v (.int .i64 0)]) rfl rfl rfl rfl rfl zuh (zlc (zlc zln)) ?_)
      refine zas (p := .v (.bool false)) rfl rfl rfl rfl rfl ?_
      refine yad (yae (yab (yab (yaa ?_))))
      refine zas (p := .v (.int .i64 0)) rfl rfl rfl rfl rfl ?_
      refine yad (yae ?_)
      refine pwc_nilrow 49 5 ?_
      refine yaf h ?_; clear h; intro q31 hq31 h
      refine ybe (Y := (Option Addr × Nat) × (Bool × (List TDebtLine))) (fun ((a27, c28), (v25, l29)) => [(0, .slc (List.map TMeasure.enc p0)), (3, .v (.pointer (some ⟨b1, 0, none⟩))), (4, .v (.pointer (some ⟨b2, 0, none⟩))), (12, .v (.pointer (some ⟨b18, 0, none⟩))), (13, .v (.bool v25))]) (fun ((a27, c28), (v25, l29)) => [PRes.b b1 23 [.v (.string p1.Code), .v (.string p1.Origin), .v (.bool p1.Proof), .v (.int .i64 p1.Company), .v (.int .i64 p1.Day), .v (.int .i64 p1.Quantity), .v (.int .i64 p1.Value), .v (.int .i64 p1.Granted)], PRes.b b18 35 [.v (.slice a27 l29.length c28), .v (.int .i64 0)], PRes.b b2 35 [.v (.slice none 0 0), .v (.int .i64 0)], PRes.row a27 l29.length c28 49 5 (List.map TDebtLine.enc l29)]) (fun ((a27, c28), (v25, l29)) => q31 = (v25, l29)) ?_ ?_
      ·refine yaz ?_
       refine pwc_loopF (Y := Option Addr × Nat) (S := Bool × Int × (List TDebtLine)) _ hq31 (fun (a23, c24) (v19, v20, l22) => [(0, .slc (List.map TMeasure.enc p0)), (3, .v (.pointer (some ⟨b1, 0, none⟩))), (4, .v (.pointer (some ⟨b2, 0, none⟩))), (8, .slc (List.map eI [p1.Granted, (IntKind.i64.wrap (p1.Quantity - p1.Granted))])), (9, .slc (List.map eI l11)), (12, .v (.pointer (some ⟨b18, 0, none⟩))), (13, .v (.bool v19)), (14, .v (.int .i64 v20))]) (fun (a23, c24) (v19, v20, l22) => [PRes.b b1 23 [.v (.string p1.Code), .v (.string p1.Origin), .v (.bool p1.Proof), .v (.int .i64 p1.Company), .v (.int .i64 p1.Day), .v (.int .i64 p1.Quantity), .v (.int .i64 p1.Value), .v (.int .i64 p1.Granted)], PRes.b b18 35 [.v (.slice a23 l22.length c24), .v (.int .i64 0)], PRes.b b2 35 [.v (.slice none 0 0), .v (.int .i64 0)], PRes.row a23 l22.length c24 49 5 (List.map TDebtLine.enc l22)]) (none, 0) (zhc rfl (zhc rfl (zhc rfl (zhc rfl (zhc rfl (zhc rfl (zhc rfl (zhc rfl zhn)))))))) (zsc (zpt (zpt (zpt zph))) (zsc (zpt zph) (zsc (zpt (zpt zph)) (zsc zph zsn)))) ?_
       rintro ⟨a23, c24⟩ ⟨v19, v20, l22⟩ o τ hb30; (try dsimp only at hb30); dsimp only [pupds]
       refine yab (yab (yaa ?_))
       refine zmv (p := .v (.int .i64 v20)) rfl rfl rfl rfl rfl ?_
       refine yah rfl rfl rfl (yak rfl (.p rfl) (.p rfl) rfl) ?_
       refine yad (yae ?_)
       refine yal rfl (fun hc33 => ?_) (fun hc33 => ?_)
       ·replace hb30 := yav hc33 hb30
        refine yao (yae (yab ?_))
        refine yaf hb30 ?_; clear hb30; intro q39 hq39 hb30
        refine ybe (Y := (Option Addr × Nat) × (Bool × (List TDebtLine))) (fun ((a36, c37), (v34, l38)) => [(0, .slc (List.map TMeasure.enc p0)), (3, .v (.pointer (some ⟨b1, 0, none⟩))), (4, .v (.pointer (some ⟨b2, 0, none⟩))), (8, .slc (List.map eI [p1.Granted, (IntKind.i64.wrap (p1.Quantity - p1.Granted))])), (9, .slc (List.map eI l11)), (12, .v (.pointer (some ⟨b18, 0, none⟩))), (13, .v (.bool v34)), (14, .v (.int .i64 v20))]) (fun ((a36, c37), (v34, l38)) => [PRes.b b1 23 [.v (.string p1.Code), .v (.string p1.Origin), .v (.bool p1.Proof), .v (.int .i64 p1.Company), .v (.int .i64 p1.Day), .v (.int .i64 p1.Quantity), .v (.int .i64 p1.Value), .v (.int .i64 p1.Granted)], PRes.b b18 35 [.v (.slice a36 l38.length c37), .v (.int .i64 0)], PRes.b b2 35 [.v (.slice none 0 0), .v (.int .i64 0)], PRes.row a36 l38.length c37 49 5 (List.map TDebtLine.enc l38)]) (fun ((a36, c37), (v34, l38)) => q39 = (v34, l38)) ?_ ?_
        ·skip
         refine yaz (yab (yab (yaa ?_)))
         refine zmv (p := .slc (List.map eI [p1.Granted, (IntKind.i64.wrap (p1.Quantity - p1.Granted))])) rfl rfl rfl rfl rfl ?_
         refine zmv (p := .v (.int .i64 v20)) rfl rfl rfl rfl rfl ?_
         refine yaf hq39 ?_; clear hq39; intro m40 hm40 hq39
         refine yah rfl rfl rfl (pq_index (enc := eI) rfl rfl rfl (fun _ => rfl) (.p rfl) (.p rfl) (fun _ => hm40)) ?_
         refine yah rfl rfl rfl (pq_load_r (p := .v (.int .i64 m40)) rfl (.p rfl) rfl) ?_
         refine yah rfl rfl rfl (yak rfl (.p rfl) (.p rfl) rfl) ?_
         refine zmv (p := .v (.bool (m40 == 0))) rfl rfl rfl rfl rfl ?_
         refine yaj (yan rfl rfl rfl) rfl rfl (yam (p := .v (.int .i64 v20)) rfl (.p rfl)) ?_
         refine yaj (yan rfl rfl rfl) rfl rfl (yak rfl (.g rfl) (.p rfl) rfl) ?_
         refine yaj (yan rfl rfl rfl) rfl rfl (yam (p := .v (.bool (v20 == 0))) rfl (.g rfl)) ?_
         refine yaj (pguard_gf rfl rfl rfl) rfl rfl (yac rfl rfl rfl rfl rfl (.p rfl)) ?_
         refine yaj (pguard_gf rfl rfl rfl) rfl rfl (yag (p := .v (.int .i64 p1.Quantity)) rfl (.g rfl) zm0 rfl) ?_
         refine yaj (pguard_gf rfl rfl rfl) rfl rfl (yak rfl (.g rfl) (.p rfl) rfl) ?_
         refine yaj (yan rfl rfl rfl) rfl rfl (pq_or rfl (.g rfl) (.p rfl) (.g rfl)) ?_
         refine yah rfl rfl rfl (pq_and rfl (.p rfl) (.p rfl) (.g rfl)) ?_
         refine yad (yae ?_)
         refine yal rfl (fun hc41 => ?_) (fun hc41 => ?_)
         ·replace hq39 := yav hc41 hq39
          refine pwc_exit (ybm ?_)
          refine ybj rfl ?_
          obtain rfl := Option.some.inj hq39
          exact ybb ((a23, c24), (v19, l22)) (zhc rfl (zhc rfl (zhc rfl (zhc rfl (zhc rfl (zhc rfl (zhc rfl (zhc rfl zhn)))))))) (zsc zph (zsc zph (zsc zph (zsc zph zsn)))) rfl
         ·replace hq39 := yaw hc41 hq39
          refine yao (yae (yab (yaa ?_)))
          refine yah rfl rfl rfl (pq_build (cs := [.v (.int .i64 0), .v (.int .i64 0), .v (.int .i64 0), .v (.int .i64 0), .v (.int .i64 0)]) rfl rfl rfl rfl rfl rfl rfl zfn) ?_
          refine ybl rfl rfl rfl (pl_alloc (cs := [.v (.int .i64 0), .v (.int .i64 0), .v (.int .i64 0), .v (.int .i64 0), .v (.int .i64 0)]) rfl rfl rfl rfl (fun b42 => ?_))
          refine pwl_l0 rfl rfl (yax (vs := [.v (.int .i64 0), .v (.int .i64 0), .v (.int .i64 0), .v (.int .i64 0), .v (.int .i64 0)]) rfl rfl rfl rfl rfl zuh (zlc (zlc (zlc (zlc (zlc zln))))) ?_)
          refine yad (yae (yab (yab (yaa ?_))))
          refine zas (p := .v (.int .i64 1)) rfl rfl rfl rfl rfl ?_
          refine yad (yae ?_)
          refine yaf hq39 ?_; clear hq39; intro q58 hq58 hq39
          refine ybe (Y := (Unit) × (Bool × Int × Int × Int × Int × Int)) (fun (_, (v50, v52, v53, v54, v55, v56)) => [(0, .slc (List.map TMeasure.enc p0)), (3, .v (.pointer (some ⟨b1, 0, none⟩))), (4, .v (.pointer (some ⟨b2, 0, none⟩))), (8, .slc (List.map eI [p1.Granted, (IntKind.i64.wrap (p1.Quantity - p1.Granted))])), (9, .slc (List.map eI l11)), (12, .v (.pointer (some ⟨b18, 0, none⟩))), (13, .v (.bool v50)), (14, .v (.int .i64 v20)), (15, .v (.pointer (some ⟨b42, 0, none⟩)))]) (fun (_, (v50, v52, v53, v54, v55, v56)) => [PRes.b b1 23 [.v (.string p1.Code), .v (.string p1.Origin), .v (.bool p1.Proof), .v (.int .i64 p1.Company), .v (.int .i64 p1.Day), .v (.int .i64 p1.Quantity), .v (.int .i64 p1.Value), .v (.int .i64 p1.Granted)], PRes.b b18 35 [.v (.slice a23 l22.length c24), .v (.int .i64 0)], PRes.b b2 35 [.v (.slice none 0 0), .v (.int .i64 0)], PRes.b b42 49 [.v (.int .i64 v52), .v (.int .i64 v53), .v (.int .i64 v54), .v (.int .i64 v55), .v (.int .i64 v56)], PRes.row a23 l22.length c24 49 5 (List.map TDebtLine.enc l22)]) (fun (_, (v50, v52, v53, v54, v55, v56)) => q58 = (v50, v52, v53, v54, v55, v56)) ?_ ?_
          ·refine yaz ?_
           refine pwc_loopF (Y := Unit) (S := Bool × Int × Int × Int × Int × Int × Int) _ hq58 (fun _ (v43, v44, v45, v46, v47, v48, v49) => [(0, .slc (List.map TMeasure.enc p0)), (3, .v (.pointer (some ⟨b1, 0, none⟩))), (4, .v (.pointer (some ⟨b2, 0, none⟩))), (8, .slc (List.map eI [p1.Granted, (IntKind.i64.wrap (p1.Quantity - p1.Granted))])), (9, .slc (List.map eI l11)), (12, .v (.pointer (some ⟨b18, 0, none⟩))), (13, .v (.bool v43)), (14, .v (.int .i64 v20)), (15, .v (.pointer (some ⟨b42, 0, none⟩))), (16, .v (.int .i64 v44))]) (fun _ (v43, v44, v45, v46, v47, v48, v49) => [PRes.b b1 23 [.v (.string p1.Code), .v (.string p1.Origin), .v (.bool p1.Proof), .v (.int .i64 p1.Company), .v (.int .i64 p1.Day), .v (.int .i64 p1.Quantity), .v (.int .i64 p1.Value), .v (.int .i64 p1.Granted)], PRes.b b18 35 [.v (.slice a23 l22.length c24), .v (.int .i64 0)], PRes.b b2 35 [.v (.slice none 0 0), .v (.int .i64 0)], PRes.b b42 49 [.v (.int .i64 v45), .v (.int .i64 v46), .v (.int .i64 v47), .v (.int .i64 v48), .v (.int .i64 v49)], PRes.row a23 l22.length c24 49 5 (List.map TDebtLine.enc l22)]) () (zhc rfl (zhc rfl (zhc rfl (zhc rfl (zhc rfl (zhc rfl (zhc rfl (zhc rfl (zhc rfl (zhc rfl zhn)))))))))) (zsc (zpt zph) (zsc (zpt zph) (zsc (zpt zph) (zsc zph (zsc zph zsn))))) ?_
           rintro _ ⟨v43, v44, v45, v46, v47, v48, v49⟩ o τ hb57; (try dsimp only at hb57); dsimp only [pupds]
           refine yab (yab (yaa ?_))
           refine zmv (p := .v (.int .i64 v44)) rfl rfl rfl rfl rfl ?_
           refine yah rfl rfl rfl (yak rfl (.p rfl) (.p rfl) rfl) ?_
           refine yad (yae ?_)
           refine yal rfl (fun hc59 => ?_) (fun hc59 => ?_)
           ·replace hb57 := yav hc59 hb57
            refine yao (yae (yab ?_))
            refine yaf hb57 ?_; clear hb57; intro q67 hq67 hb57
            refine ybe (Y := (Unit) × (Bool × Int × Int × Int × Int × Int)) (fun (_, (v60, v62, v63, v64, v65, v66)) => [(0, .slc (List.map TMeasure.enc p0)), (3, .v (.pointer (some ⟨b1, 0, none⟩))), (4, .v (.pointer (some ⟨b2, 0, none⟩))), (8, .slc (List.map eI [p1.Granted, (IntKind.i64.wrap (p1.Quantity - p1.Granted))])), (9, .slc (List.map eI l11)), (12, .v (.pointer (some ⟨b18, 0, none⟩))), (13, .v (.bool v60)), (14, .v (.int .i64 v20)), (15, .v (.pointer (some ⟨b42, 0, none⟩))), (16, .v (.int .i64 v44))]) (fun (_, (v60, v62, v63, v64, v65, v66)) => [PRes.b b1 23 [.v (.string p1.Code), .v (.string p1.Origin), .v (.bool p1.Proof), .v (.int .i64 p1.Company), .v (.int .i64 p1.Day), .v (.int .i64 p1.Quantity), .v (.int .i64 p1.Value), .v (.int .i64 p1.Granted)], PRes.b b18 35 [.v (.slice a23 l22.length c24), .v (.int .i64 0)], PRes.b b2 35 [.v (.slice none 0 0), .v (.int .i64 0)], PRes.b b42 49 [.v (.int .i64 v62), .v (.int .i64 v63), .v (.int .i64 v64), .v (.int .i64 v65), .v (.int .i64 v66)], PRes.row a23 l22.length c24 49 5 (List.map TDebtLine.enc l22)]) (fun (_, (v60, v62, v63, v64, v65, v66)) => q67 = (v60, v62, v63, v64, v65, v66)) ?_ ?_
            ·skip
             refine yaz (yab (yaa ?_))
             refine zmv (p := .slc (List.map TMeasure.enc p0)) rfl rfl rfl rfl rfl ?_
             refine zmv (p := .v (.int .i64 v44)) rfl rfl rfl rfl rfl ?_
             refine yah rfl rfl rfl (yac rfl rfl rfl rfl rfl (.p rfl)) ?_
             refine yah rfl rfl rfl (yag (p := .v (.string p1.Code)) rfl (.p rfl) zm0 rfl) ?_
             refine yah rfl rfl rfl (yac rfl rfl rfl rfl rfl (.p rfl)) ?_
             refine yah rfl rfl rfl (yag (p := .v (.string p1.Origin)) rfl (.p rfl) zm0 rfl) ?_
             refine yah rfl rfl rfl (yac rfl rfl rfl rfl rfl (.p rfl)) ?_
             refine yah rfl rfl rfl (yag (p := .v (.int .i64 p1.Company)) rfl (.p rfl) zm0 rfl) ?_
             refine yah rfl rfl rfl (yac rfl rfl rfl rfl rfl (.p rfl)) ?_
             refine yah rfl rfl rfl (yag (p := .v (.int .i64 p1.Day)) rfl (.p rfl) zm0 rfl) ?_
             refine yaf hq67 ?_; clear hq67; intro x68 hx68 hq67
             refine ybd rfl rfl rfl rfl rfl (ref19_Of_ok hx68) ?_
             refine zmv (p := .tup [.agg [.v (.int .i64 x68.1.ID), .v (.int .i64 x68.1.Kind), .v (.string x68.1.Prefix), .slc (List.map eS x68.1.Origins), .v (.int .i64 x68.1.Company), .v (.int .i64 x68.1.From), .v (.int .i64 x68.1.To), .v (.int .i64 x68.1.Registered), .v (.int .i64 x68.1.Duty.Rate), .v (.int .i64 x68.1.Duty.Amount), .v (.int .i64 x68.1.Duty.Per), .v (.bool x68.1.Duty.HasMost), .v (.int .i64 x68.1.Duty.Most), .v (.bool x68.1.Duty.HasLeast), .v (.int .i64 x68.1.Duty.Least)], .v (.bool x68.2)]) rfl rfl rfl rfl rfl ?_
             refine zex (p := .agg [.v (.int .i64 x68.1.ID), .v (.int .i64 x68.1.Kind), .v (.string x68.1.Prefix), .slc (List.map eS x68.1.Origins), .v (.int .i64 x68.1.Company), .v (.int .i64 x68.1.From), .v (.int .i64 x68.1.To), .v (.int .i64 x68.1.Registered), .v (.int .i64 x68.1.Duty.Rate), .v (.int .i64 x68.1.Duty.Amount), .v (.int .i64 x68.1.Duty.Per), .v (.bool x68.1.Duty.HasMost), .v (.int .i64 x68.1.Duty.Most), .v (.bool x68.1.Duty.HasLeast), .v (.int .i64 x68.1.Duty.Least)]) rfl rfl rfl rfl rfl rfl ?_
             refine zex (p := .v (.bool x68.2)) rfl rfl rfl rfl rfl rfl ?_
             refine ybl rfl rfl rfl (pl_alloc (cs := [.v (.int .i64 0), .v (.int .i64 0), .v (.string ByteArray.empty), .v (.slice none 0 0), .v (.int .i64 0), .v (.int .i64 0), .v (.int .i64 0), .v (.int .i64 0), .v (.int .i64 0), .v (.int .i64 0), .v (.int .i64 0), .v (.bool false), .v (.int .i64 0), .v (.bool false), .v (.int .i64 0)]) rfl rfl rfl rfl (fun b69 => ?_))
             refine pwl_l0 rfl rfl (yax (vs := [.v (.int .i64 x68.1.ID), .v (.int .i64 x68.1.Kind), .v (.string x68.1.Prefix), .slc (List.map eS x68.1.Origins), .v (.int .i64 x68.1.Company), .v (.int .i64 x68.1.From), .v (.int .i64 x68.1.To), .v (.int .i64 x68.1.Registered), .v (.int .i64 x68.1.Duty.Rate), .v (.int .i64 x68.1.Duty.Amount), .v (.int .i64 x68.1.Duty.Per), .v (.bool x68.1.Duty.HasMost), .v (.int .i64 x68.1.Duty.Most), .v (.bool x68.1.Duty.HasLeast), .v (.int .i64 x68.1.Duty.Least)]) rfl rfl rfl rfl rfl zuh (zlc (zlc (zlc (zlc (zlc (zlc (zlc (zlc (zlc (zlc (zlc (zlc (zlc (zlc (zlc zln))))))))))))))) ?_)
             refine zas (p := .v (.bool x68.2)) rfl rfl rfl rfl rfl ?_
             refine yad (yae (yab (yab (yaa ?_))))
             refine zmv (p := .v (.bool x68.2)) rfl rfl rfl rfl rfl ?_
             refine yah rfl rfl rfl (pq_not rfl (.p rfl)) ?_
             refine zmv (p := .v (.bool (!x68.2))) rfl rfl rfl rfl rfl ?_
             refine yaj (yai rfl rfl rfl) rfl rfl (yam (p := .v (.int .i64 v44)) rfl (.p rfl)) ?_
             refine yaj (yai rfl rfl rfl) rfl rfl (yak rfl (.g rfl) (.p rfl) rfl) ?_
             refine yaj (yai rfl rfl rfl) rfl rfl (yam (p := .v (.bool (v44 == 3))) rfl (.g rfl)) ?_
             refine yaj (yay rfl rfl rfl) rfl rfl (yac rfl rfl rfl rfl rfl (.p rfl)) ?_
             refine yaj (yay rfl rfl rfl) rfl rfl (yag (p := .v (.bool p1.Proof)) rfl (.g rfl) zm1 rfl) ?_
             refine yaj (yay rfl rfl rfl) rfl rfl (pq_not rfl (.g rfl)) ?_
             refine yaj (yai rfl rfl rfl) rfl rfl (pq_and rfl (.g rfl) (.p rfl) (.g rfl)) ?_
             refine yah rfl rfl rfl (pq_or rfl (.p rfl) (.p rfl) (.g rfl)) ?_
             refine zmv (p := .v (.bool ((!x68.2) || ((v44 == 3) && (!p1.Proof))))) rfl rfl rfl rfl rfl ?_
             refine yaj (yai rfl rfl rfl) rfl rfl (yam (p := .v (.int .i64 v44)) rfl (.p rfl)) ?_
             refine yaj (yai rfl rfl rfl) rfl rfl (yak rfl (.g rfl) (.p rfl) rfl) ?_
             refine yaj (yai rfl rfl rfl) rfl rfl (yam (p := .v (.bool (v44 == 4))) rfl (.g rfl)) ?_
             refine yaj (yay rfl rfl rfl) rfl rfl (yam (p := .v (.int .i64 v20)) rfl (.p rfl)) ?_
             refine yaj (yay rfl rfl rfl) rfl rfl (yak rfl (.g rfl) (.p rfl) rfl) ?_
             refine yaj (yai rfl rfl rfl) rfl rfl (pq_and rfl (.g rfl) (.p rfl) (.g rfl)) ?_
             refine yah rfl rfl rfl (pq_or rfl (.p rfl) (.p rfl) (.g rfl)) ?_
             refine yad (yae ?_)
             refine yal rfl (fun hc70 => ?_) (fun hc70 => ?_)
             ·replace hq67 := yav hc70 hq67
              refine pwc_exit (ybm ?_)
              refine ybj rfl ?_
              obtain rfl := Option.some.inj hq67
              exact ybb ((), (v43, v45, v46, v47, v48, v49)) (zhc rfl (zhc rfl (zhc rfl (zhc rfl (zhc rfl (zhc rfl (zhc rfl (zhc rfl (zhc rfl (zhc rfl zhn)))))))))) (zsc (zpt zph) (zsc (zpt zph) (zsc (zpt zph) (zsc (zpt zph) (zsc (zpt zph) zsn))))) rfl
             ·replace hq67 := yaw hc70 hq67
              refine yao (yae (yab ?_))
              refine pwc_draw (ρd := []) [(0, 0), (1, 0), (2, 0), (3, 0), (4, 0), (5, 0), (6, 0), (7, 0), (8, 0), (9, 0), (10, 1), (11, 0), (12, 0), (13, 0), (14, 0), (15, 0)] _ (List.Perm.refl _) (by kernel_rfl) rfl ?_
              refine ybf rfl rfl rfl (yac rfl rfl rfl rfl rfl (.p rfl)) ?_
              refine ybf rfl rfl rfl (yag (p := .agg [.v (.int .i64 x68.1.Duty.Rate), .v (.int .i64 x68.1.Duty.Amount), .v (.int .i64 x68.1.Duty.Per), .v (.bool x68.1.Duty.HasMost), .v (.int .i64 x68.1.Duty.Most), .v (.bool x68.1.Duty.HasLeast), .v (.int .i64 x68.1.Duty.Least)]) rfl (.p rfl) zm0 rfl) ?_
              refine ybf rfl rfl rfl (yam (p := .slc (List.map eI l11)) rfl (.p rfl)) ?_
              refine ybf rfl rfl rfl (yam (p := .v (.int .i64 v20)) rfl (.p rfl)) ?_
              refine yaf hq67 ?_; clear hq67; intro m71 hm71 hq67
              refine ybf rfl rfl rfl (pq_index (enc := eI) rfl rfl rfl (fun _ => rfl) (.p rfl) (.p rfl) (fun _ => hm71)) ?_
              refine ybf rfl rfl rfl (pq_load_r (p := .v (.int .i64 m71)) rfl (.p rfl) rfl) ?_
              refine ybf rfl rfl rfl (yam (p := .slc (List.map eI [p1.Granted, (IntKind.i64.wrap (p1.Quantity - p1.Granted))])) rfl (.p rfl)) ?_
              refine ybf rfl rfl rfl (yam (p := .v (.int .i64 v20)) rfl (.p rfl)) ?_
              refine yaf hq67 ?_; clear hq67; intro m72 hm72 hq67
              refine ybf rfl rfl rfl (pq_index (enc := eI) rfl rfl rfl (fun _ => rfl) (.p rfl) (.p rfl) (fun _ => hm72)) ?_
              refine ybf rfl rfl rfl (pq_load_r (p := .v (.int .i64 m72)) rfl (.p rfl) rfl) ?_
              refine yaf hq67 ?_; clear hq67; intro x73 hx73 hq67
              refine pwd_call rfl rfl rfl rfl rfl (ref17_Evaluate_ok hx73) ?_
              refine ybf rfl rfl rfl (yam (p := .tup [.v (.int .i64 x73.1), .v (.int .i64 x73.2)]) rfl (.p rfl)) ?_
              refine ybf rfl rfl rfl (pq_extract (p := .v (.int .i64 x73.1)) rfl (.p rfl) rfl) ?_
              refine ybf rfl rfl rfl (pq_extract (p := .v (.int .i64 x73.2)) rfl (.p rfl) rfl) ?_
              refine ybf rfl rfl rfl (pq_assign (p := .v (.int .i64 x73.1)) rfl (.p rfl)) ?_
              refine ybf rfl rfl rfl (pq_assign (p := .v (.int .i64 x73.2)) rfl (.p rfl)) ?_
              refine pwd_nil (yae (yab (yaa ?_)))
              refine zmv (p := .v (.bool v43)) rfl rfl rfl rfl rfl ?_
              refine zmv (p := .v (.bool v43)) rfl rfl rfl rfl rfl ?_
              refine yaj (yai rfl rfl rfl) rfl rfl (yam (p := .v (.int .i64 x73.2)) rfl (.p rfl)) ?_
              refine yaj (yai rfl rfl rfl) rfl rfl (yak rfl (.g rfl) (.p rfl) rfl) ?_
              refine yah rfl rfl rfl (pq_or rfl (.p rfl) (.p rfl) (.g rfl)) ?_
              refine zas (p := .v (.bool (v43 || (x73.2 != 0)))) rfl rfl rfl rfl rfl ?_
              refine yad (yae (yab (yaa ?_)))
              refine zmv (p := .v (.int .i64 v44)) rfl rfl rfl rfl rfl ?_
              refine yah rfl rfl rfl (yak rfl (.p rfl) (.p rfl) rfl) ?_
              refine zmv (p := .v (.bool (v44 == 1))) rfl rfl rfl rfl rfl ?_
              refine yaj (yai rfl rfl rfl) rfl rfl (yam (p := .v (.int .i64 x73.1)) rfl (.p rfl)) ?_
              refine yaj (yai rfl rfl rfl) rfl rfl (yac rfl rfl rfl rfl rfl (.p rfl)) ?_
              refine yaj (yai rfl rfl rfl) rfl rfl (yag (p := .v (.int .i64 v49)) rfl (.g rfl) zm4 rfl) ?_
              refine yaj (yai rfl rfl rfl) rfl rfl (yak rfl (.g rfl) (.g rfl) rfl) ?_
              refine yah rfl rfl rfl (pq_or rfl (.p rfl) (.p rfl) (.g rfl)) ?_
              refine yad (yae ?_)
              refine yal rfl (fun hc74 => ?_) (fun hc74 => ?_)
              ·replace hq67 := yav hc74 hq67
               refine pwc_draw (ρd := [PRes.b b42 _ _]) [(0, 0), (1, 0), (2, 0), (3, 0), (4, 0), (5, 0), (6, 0), (7, 0), (8, 0), (9, 0), (10, 0), (11, 0), (12, 0), (13, 1)] _ (ybk (zpt (zpt (zpt (zpt zph)))) (List.Perm.refl _)) (by kernel_rfl) rfl ?_
               refine ybf rfl rfl rfl (yam (p := .v (.int .i64 v44)) rfl (.p rfl)) ?_
               refine ybf rfl rfl rfl (yac rfl rfl rfl rfl rfl (.p rfl)) ?_
               refine ybf rfl rfl rfl (yag (p := .v (.int .i64 x68.1.ID)) rfl (.p rfl) zm0 rfl) ?_
               refine ybf rfl rfl rfl (yam (p := .slc (List.map eI [p1.Granted, (IntKind.i64.wrap (p1.Quantity - p1.Granted))])) rfl (.p rfl)) ?_
               refine ybf rfl rfl rfl (yam (p := .v (.int .i64 v20)) rfl (.p rfl)) ?_
               refine yaf hq67 ?_; clear hq67; intro m75 hm75 hq67
               refine ybf rfl rfl rfl (pq_index (enc := eI) rfl rfl rfl (fun _ => rfl) (.p rfl) (.p rfl) (fun _ => hm75)) ?_
               refine ybf rfl rfl rfl (pq_load_r (p := .v (.int .i64 m75)) rfl (.p rfl) rfl) ?_
               refine ybf rfl rfl rfl (yam (p := .slc (List.map eI l11)) rfl (.p rfl)) ?_
               refine ybf rfl rfl rfl (yam (p := .v (.int .i64 v20)) rfl (.p rfl)) ?_
               refine yaf hq67 ?_; clear hq67; intro m76 hm76 hq67
               refine ybf rfl rfl rfl (pq_index (enc := eI) rfl rfl rfl (fun _ => rfl) (.p rfl) (.p rfl) (fun _ => hm76)) ?_
               refine ybf rfl rfl rfl (pq_load_r (p := .v (.int .i64 m76)) rfl (.p rfl) rfl) ?_
               refine ybf rfl rfl rfl (yam (p := .v (.int .i64 x73.1)) rfl (.p rfl)) ?_
               refine ybf rfl rfl rfl (pq_buildZ (cs := [.v (.int .i64 v44), .v (.int .i64 x68.1.ID), .v (.int .i64 m75), .v (.int .i64 m76), .v (.int .i64 x73.1)]) rfl rfl rfl rfl rfl rfl rfl (zfc rfl rfl rfl rfl (zlc zln) (zfc rfl rfl rfl rfl (zlt (zlc zln)) (zfc rfl rfl rfl rfl (zlt (zlt (zlc zln))) (zfc rfl rfl rfl rfl (zlt (zlt (zlt (zlc zln)))) (zfc rfl rfl rfl rfl (zlt (zlt (zlt (zlt (zlc zln))))) zfn)))))) ?_
               refine pwd_l0 rfl rfl (yax (vs := [.v (.int .i64 v44), .v (.int .i64 x68.1.ID), .v (.int .i64 m75), .v (.int .i64 m76), .v (.int .i64 x73.1)]) rfl rfl rfl rfl rfl zuh (zlc (zlc (zlc (zlc (zlc zln))))) ?_)
               refine pwd_nil (ybc ?_)
               obtain rfl := Option.some.inj hq67
               exact ybb ((), ((v43 || (x73.2 != 0)), v44, x68.1.ID, m75, m76, x73.1)) (zhc rfl (zhc rfl (zhc rfl (zhc rfl (zhc rfl (zhc rfl (zhc rfl (zhc rfl (zhc rfl (zhc rfl zhn)))))))))) (zsc (zpt (zpt zph)) (zsc (zpt (zpt zph)) (zsc (zpt (zpt zph)) (zsc zph (zsc (zpt zph) zsn))))) rfl
              ·replace hq67 := yaw hc74 hq67
               refine yao (ybc ?_)
               obtain rfl := Option.some.inj hq67
               exact ybb ((), ((v43 || (x73.2 != 0)), v45, v46, v47, v48, v49)) (zhc rfl (zhc rfl (zhc rfl (zhc rfl (zhc rfl (zhc rfl (zhc rfl (zhc rfl (zhc rfl (zhc rfl zhn)))))))))) (zsc (zpt zph) (zsc (zpt zph) (zsc (zpt zph) (zsc (zpt zph) (zsc (zpt zph) zsn))))) rfl
            ·rintro ⟨_, ⟨v60, v62, v63, v64, v65, v66⟩⟩ τ hz; (try dsimp only at hz); subst q67; (try dsimp only at hb57); dsimp only [pupds]
             refine yaa ?_
             refine zmv (p := .v (.int .i64 v44)) rfl rfl rfl rfl rfl ?_
             refine yah rfl rfl rfl (yas rfl (.p rfl) (.p rfl) rfl) ?_
             refine zas (p := .v (.int .i64 (IntKind.i64.wrap (v44 + 1)))) rfl rfl rfl rfl rfl ?_
             refine yad ?_
             exact pk_loop hb57 () (zhc rfl (zhc rfl (zhc rfl (zhc rfl (zhc rfl (zhc rfl (zhc rfl (zhc rfl (zhc rfl (zhc rfl zhn)))))))))) (zsc zph (zsc zph (zsc zph (zsc zph (zsc zph zsn)))))
           ·replace hb57 := yaw hc59 hb57
            refine pwc_exit (ybm ?_)
            refine ybh hb57 (fun ht => ?_)
            refine ybj rfl ?_
            exact ybb ((), (v43, v45, v46, v47, v48, v49)) (zhc rfl (zhc rfl (zhc rfl (zhc rfl (zhc rfl (zhc rfl (zhc rfl (zhc rfl (zhc rfl zhn))))))))) (zsc zph (zsc zph (zsc zph (zsc zph (zsc zph zsn))))) ht.symm
          ·rintro ⟨_, ⟨v50, v52, v53, v54, v55, v56⟩⟩ τ hz; (try dsimp only at hz); subst q58; (try dsimp only at hq39); dsimp only [pupds]
           refine yaa ?_
           refine yah rfl rfl rfl (yac rfl rfl rfl rfl rfl (.p rfl)) ?_
           refine yah rfl rfl rfl (yag (p := .v (.slice a23 l22.length c24)) rfl (.p rfl) zm1 rfl) ?_
           refine yah rfl rfl rfl (yag (p := .agg [.v (.int .i64 v52), .v (.int .i64 v53), .v (.int .i64 v54), .v (.int .i64 v55), .v (.int .i64 v56)]) rfl (.p rfl) zm3 rfl) ?_
           refine ybl rfl rfl rfl (pl_lit rfl rfl rfl rfl rfl (zic rfl zin) rfl rfl rfl rfl (fun b77 => ?_))
           refine yaf hq39 ?_; clear hq39; intro l79 hl79 hq39
           refine ybl rfl rfl rfl (pl_app_o (enc := TDebtLine.enc) rfl rfl rfl rfl rfl rfl rfl rfl rfl zm0 (by exact zpt (zpt (zpt (zpt (zpt zph))))) hl79 (fun a80 c81 => ?_))
           refine yah rfl rfl rfl (yac rfl rfl rfl rfl rfl (.p rfl)) ?_
           refine pwl_l0 rfl rfl (yax (vs := [.v (.slice a80 l79.length c81)]) rfl rfl rfl rfl rfl (zut (zut (zut zuh))) (zlc zln) ?_)
           refine yad (ybc ?_)
           obtain rfl := Option.some.inj hq39
           exact ybb ((a80, c81), (v50, l79)) (zhc rfl (zhc rfl (zhc rfl (zhc rfl (zhc rfl (zhc rfl (zhc rfl (zhc rfl zhn)))))))) (zsc (zpt (zpt zph)) (zsc (zpt (zpt zph)) (zsc (zpt (zpt zph)) (zsc zph zsn)))) rfl
        ·rintro ⟨⟨a36, c37⟩, ⟨v34, l38⟩⟩ τ hz; (try dsimp only at hz); subst q39; (try dsimp only at hb30); dsimp only [pupds]
         refine yaa ?_
         refine zmv (p := .v (.int .i64 v20)) rfl rfl rfl rfl rfl ?_
         refine yah rfl rfl rfl (yas rfl (.p rfl) (.p rfl) rfl) ?_
         refine zas (p := .v (.int .i64 (IntKind.i64.wrap (v20 + 1)))) rfl rfl rfl rfl rfl ?_
         refine yad ?_
         exact pk_loop hb30 (a36, c37) (zhc rfl (zhc rfl (zhc rfl (zhc rfl (zhc rfl (zhc rfl (zhc rfl (zhc rfl zhn)))))))) (zsc zph (zsc zph (zsc zph (zsc zph zsn))))
       ·replace hb30 := yaw hc33 hb30
        refine pwc_exit (ybm ?_)
        refine ybh hb30 (fun ht => ?_)
        refine ybj rfl ?_
        exact ybb ((a23, c24), (v19, l22)) (zhc rfl (zhc rfl (zhc rfl (zhc rfl (zhc rfl zhn))))) (zsc zph (zsc zph (zsc zph (zsc zph zsn)))) ht.symm
      ·rintro ⟨⟨a27, c28⟩, ⟨v25, l29⟩⟩ τ hz; (try dsimp only at hz); subst q31; (try dsimp only at h); dsimp only [pupds]
       refine yab (yab (yaa ?_))
       refine zas (p := .v (.int .i64 5)) rfl rfl rfl rfl rfl ?_
       refine yad (yae ?_)
       refine yaf h ?_; clear h; intro q95 hq95 h
       refine ybe (Y := (Option Addr × Nat) × (Bool × (List TDebtLine))) (fun ((a91, c92), (v89, l93)) => [(4, .v (.pointer (some ⟨b2, 0, none⟩))), (12, .v (.pointer (some ⟨b18, 0, none⟩))), (13, .v (.bool v89))]) (fun ((a91, c92), (v89, l93)) => [PRes.b b18 35 [.v (.slice a91 l93.length c92), .v (.int .i64 0)], PRes.b b2 35 [.v (.slice none 0 0), .v (.int .i64 0)], PRes.row a91 l93.length c92 49 5 (List.map TDebtLine.enc l93)]) (fun ((a91, c92), (v89, l93)) => q95 = (v89, l93)) ?_ ?_
       ·refine yaz ?_
        refine pwc_loopF (Y := Option Addr × Nat) (S := Bool × Int × (List TDebtLine)) _ hq95 (fun (a87, c88) (v83, v84, l86) => [(0, .slc (List.map TMeasure.enc p0)), (3, .v (.pointer (some ⟨b1, 0, none⟩))), (4, .v (.pointer (some ⟨b2, 0, none⟩))), (12, .v (.pointer (some ⟨b18, 0, none⟩))), (13, .v (.bool v83)), (21, .v (.int .i64 v84))]) (fun (a87, c88) (v83, v84, l86) => [PRes.b b1 23 [.v (.string p1.Code), .v (.string p1.Origin), .v (.bool p1.Proof), .v (.int .i64 p1.Company), .v (.int .i64 p1.Day), .v (.int .i64 p1.Quantity), .v (.int .i64 p1.Value), .v (.int .i64 p1.Granted)], PRes.b b18 35 [.v (.slice a87 l86.length c88), .v (.int .i64 0)], PRes.b b2 35 [.v (.slice none 0 0), .v (.int .i64 0)], PRes.row a87 l86.length c88 49 5 (List.map TDebtLine.enc l86)]) (a27, c28) (zhc rfl (zhc rfl (zhc rfl (zhc rfl (zhc rfl (zhc rfl zhn)))))) (zsc zph (zsc zph (zsc zph (zsc zph zsn)))) ?_
        rintro ⟨a87, c88⟩ ⟨v83, v84, l86⟩ o τ hb94; (try dsimp only at hb94); dsimp only [pupds]
        refine yab (yab (yaa ?_))
        refine zmv (p := .v (.int .i64 v84)) rfl rfl rfl rfl rfl ?_
        refine yah rfl rfl rfl (yak rfl (.p rfl) (.p rfl) rfl) ?_
        refine yad (yae ?_)
        refine yal rfl (fun hc96 => ?_) (fun hc96 => ?_)
        ·replace hb94 := yav hc96 hb94
         refine yao (yae (yab ?_))
         refine yaf hb94 ?_; clear hb94; intro q102 hq102 hb94
         refine ybe (Y := (Option Addr × Nat) × (Bool × (List TDebtLine))) (fun ((a99, c100), (v97, l101)) => [(0, .slc (List.map TMeasure.enc p0)), (3, .v (.pointer (some ⟨b1, 0, none⟩))), (4, .v (.pointer (some ⟨b2, 0, none⟩))), (12, .v (.pointer (some ⟨b18, 0, none⟩))), (13, .v (.bool v97)), (21, .v (.int .i64 v84))]) (fun ((a99, c100), (v97, l101)) => [PRes.b b1 23 [.v (.string p1.Code), .v (.string p1.Origin), .v (.bool p1.Proof), .v (.int .i64 p1.Company), .v (.int .i64 p1.Day), .v (.int .i64 p1.Quantity), .v (.int .i64 p1.Value), .v (.int .i64 p1.Granted)], PRes.b b18 35 [.v (.slice a99 l101.length c100), .v (.int .i64 0)], PRes.b b2 35 [.v (.slice none 0 0), .v (.int .i64 0)], PRes.row a99 l101.length c100 49 5 (List.map TDebtLine.enc l101)]) (fun ((a99, c100), (v97, l101)) => q102 = (v97, l101)) ?_ ?_
         ·skip
          refine yaz (yab (yaa ?_))
          refine zmv (p := .slc (List.map TMeasure.enc p0)) rfl rfl rfl rfl rfl ?_
          refine zmv (p := .v (.int .i64 v84)) rfl rfl rfl rfl rfl ?_
          refine yah rfl rfl rfl (yac rfl rfl rfl rfl rfl (.p rfl)) ?_
          refine yah rfl rfl rfl (yag (p := .v (.string p1.Code)) rfl (.p rfl) zm0 rfl) ?_
          refine yah rfl rfl rfl (yac rfl rfl rfl rfl rfl (.p rfl)) ?_
          refine yah rfl rfl rfl (yag (p := .v (.string p1.Origin)) rfl (.p rfl) zm0 rfl) ?_
          refine yah rfl rfl rfl (yac rfl rfl rfl rfl rfl (.p rfl)) ?_
          refine yah rfl rfl rfl (yag (p := .v (.int .i64 p1.Company)) rfl (.p rfl) zm0 rfl) ?_
          refine yah rfl rfl rfl (yac rfl rfl rfl rfl rfl (.p rfl)) ?_
          refine yah rfl rfl rfl (yag (p := .v (.int .i64 p1.Day)) rfl (.p rfl) zm0 rfl) ?_
          refine yaf hq102 ?_; clear hq102; intro x103 hx103 hq102
          refine ybd rfl rfl rfl rfl rfl (ref19_Of_ok hx103) ?_
          refine zmv (p := .tup [.agg [.v (.int .i64 x103.1.ID), .v (.int .i64 x103.1.Kind), .v (.string x103.1.Prefix), .slc (List.map eS x103.1.Origins), .v (.int .i64 x103.1.Company), .v (.int .i64 x103.1.From), .v (.int .i64 x103.1.To), .v (.int .i64 x103.1.Registered), .v (.int .i64 x103.1.Duty.Rate), .v (.int .i64 x103.1.Duty.Amount), .v (.int .i64 x103.1.Duty.Per), .v (.bool x103.1.Duty.HasMost), .v (.int .i64 x103.1.Duty.Most), .v (.bool x103.1.Duty.HasLeast), .v (.int .i64 x103.1.Duty.Least)], .v (.bool x103.2)]) rfl rfl rfl rfl rfl ?_
          refine zex (p := .agg [.v (.int .i64 x103.1.ID), .v (.int .i64 x103.1.Kind), .v (.string x103.1.Prefix), .slc (List.map eS x103.1.Origins), .v (.int .i64 x103.1.Company), .v (.int .i64 x103.1.From), .v (.int .i64 x103.1.To), .v (.int .i64 x103.1.Registered), .v (.int .i64 x103.1.Duty.Rate), .v (.int .i64 x103.1.Duty.Amount), .v (.int .i64 x103.1.Duty.Per), .v (.bool x103.1.Duty.HasMost), .v (.int .i64 x103.1.Duty.Most), .v (.bool x103.1.Duty.HasLeast), .v (.int .i64 x103.1.Duty.Least)]) rfl rfl rfl rfl rfl rfl ?_
          refine zex (p := .v (.bool x103.2)) rfl rfl rfl rfl rfl rfl ?_
          refine ybl rfl rfl rfl (pl_alloc (cs := [.v (.int .i64 0), .v (.int .i64 0), .v (.string ByteArray.empty), .v (.slice none 0 0), .v (.int .i64 0), .v (.int .i64 0), .v (.int .i64 0), .v (.int .i64 0), .v (.int .i64 0), .v (.int .i64 0), .v (.int .i64 0), .v (.bool false), .v (.int .i64 0), .v (.bool false), .v (.int .i64 0)]) rfl rfl rfl rfl (fun b104 => ?_))
          refine pwl_l0 rfl rfl (yax (vs := [.v (.int .i64 x103.1.ID), .v (.int .i64 x103.1.Kind), .v (.string x103.1.Prefix), .slc (List.map eS x103.1.Origins), .v (.int .i64 x103.1.Company), .v (.int .i64 x103.1.From), .v (.int .i64 x103.1.To), .v (.int .i64 x103.1.Registered), .v (.int .i64 x103.1.Duty.Rate), .v (.int .i64 x103.1.Duty.Amount), .v (.int .i64 x103.1.Duty.Per), .v (.bool x103.1.Duty.HasMost), .v (.int .i64 x103.1.Duty.Most), .v (.bool x103.1.Duty.HasLeast), .v (.int .i64 x103.1.Duty.Least)]) rfl rfl rfl rfl rfl zuh (zlc (zlc (zlc (zlc (zlc (zlc (zlc (zlc (zlc (zlc (zlc (zlc (zlc (zlc (zlc zln))))))))))))))) ?_)
          refine zas (p := .v (.bool x103.2)) rfl rfl rfl rfl rfl ?_
          refine yad (yae (yab (yaa ?_)))
          refine zmv (p := .v (.bool x103.2)) rfl rfl rfl rfl rfl ?_
          refine yad (yae ?_)
          refine yal rfl (fun hc105 => ?_) (fun hc105 => ?_)
          ·replace hq102 := yav hc105 hq102
           refine yab (yaa ?_)
           refine yah rfl rfl rfl (yac rfl rfl rfl rfl rfl (.p rfl)) ?_
           refine yah rfl rfl rfl (yag (p := .agg [.v (.int .i64 x103.1.Duty.Rate), .v (.int .i64 x103.1.Duty.Amount), .v (.int .i64 x103.1.Duty.Per), .v (.bool x103.1.Duty.HasMost), .v (.int .i64 x103.1.Duty.Most), .v (.bool x103.1.Duty.HasLeast), .v (.int .i64 x103.1.Duty.Least)]) rfl (.p rfl) zm0 rfl) ?_
           refine yah rfl rfl rfl (yac rfl rfl rfl rfl rfl (.p rfl)) ?_
           refine yah rfl rfl rfl (yag (p := .v (.int .i64 p1.Value)) rfl (.p rfl) zm1 rfl) ?_
           refine yah rfl rfl rfl (yac rfl rfl rfl rfl rfl (.p rfl)) ?_
           refine yah rfl rfl rfl (yag (p := .v (.int .i64 p1.Quantity)) rfl (.p rfl) zm1 rfl) ?_
           refine yaf hq102 ?_; clear hq102; intro x106 hx106 hq102
           refine ybd rfl rfl rfl rfl rfl (ref17_Evaluate_ok hx106) ?_
           refine zmv (p := .tup [.v (.int .i64 x106.1), .v (.int .i64 x106.2)]) rfl rfl rfl rfl rfl ?_
           refine zex (p := .v (.int .i64 x106.1)) rfl rfl rfl rfl rfl rfl ?_
           refine zex (p := .v (.int .i64 x106.2)) rfl rfl rfl rfl rfl rfl ?_
           refine zas (p := .v (.int .i64 x106.1)) rfl rfl rfl rfl rfl ?_
           refine zas (p := .v (.int .i64 x106.2)) rfl rfl rfl rfl rfl ?_
           refine yad (yae (yab (yaa ?_)))
           refine zmv (p := .v (.bool v83)) rfl rfl rfl rfl rfl ?_
           refine zmv (p := .v (.bool v83)) rfl rfl rfl rfl rfl ?_
           refine yaj (yai rfl rfl rfl) rfl rfl (yam (p := .v (.int .i64 x106.2)) rfl (.p rfl)) ?_
           refine yaj (yai rfl rfl rfl) rfl rfl (yak rfl (.g rfl) (.p rfl) rfl) ?_
           refine yah rfl rfl rfl (pq_or rfl (.p rfl) (.p rfl) (.g rfl)) ?_
           refine zas (p := .v (.bool (v83 || (x106.2 != 0)))) rfl rfl rfl rfl rfl ?_
           refine yad (yae (yaa ?_))
           refine yah rfl rfl rfl (yac rfl rfl rfl rfl rfl (.p rfl)) ?_
           refine yah rfl rfl rfl (yag (p := .v (.slice a87 l86.length c88)) rfl (.p rfl) zm2 rfl) ?_
           refine zmv (p := .v (.int .i64 v84)) rfl rfl rfl rfl rfl ?_
           refine yah rfl rfl rfl (yac rfl rfl rfl rfl rfl (.p rfl)) ?_
           refine yah rfl rfl rfl (yag (p := .v (.int .i64 x103.1.ID)) rfl (.p rfl) zm0 rfl) ?_
           refine yah rfl rfl rfl (yac rfl rfl rfl rfl rfl (.p rfl)) ?_
           refine yah rfl rfl rfl (yag (p := .v (.int .i64 p1.Quantity)) rfl (.p rfl) zm1 rfl) ?_
           refine yah rfl rfl rfl (yac rfl rfl rfl rfl rfl (.p rfl)) ?_
           refine yah rfl rfl rfl (yag (p := .v (.int .i64 p1.Value)) rfl (.p rfl) zm1 rfl) ?_
           refine zmv (p := .v (.int .i64 x106.1)) rfl rfl rfl rfl rfl ?_
           refine yah rfl rfl rfl (pq_build (cs := [.v (.int .i64 v84), .v (.int .i64 x103.1.ID), .v (.int .i64 p1.Quantity), .v (.int .i64 p1.Value), .v (.int .i64 x106.1)]) rfl rfl rfl rfl rfl rfl rfl (zfc rfl rfl rfl rfl (zlc zln) (zfc rfl rfl rfl rfl (zlt (zlc zln)) (zfc rfl rfl rfl rfl (zlt (zlt (zlc zln))) (zfc rfl rfl rfl rfl (zlt (zlt (zlt (zlc zln)))) (zfc rfl rfl rfl rfl (zlt (zlt (zlt (zlt (zlc zln))))) zfn)))))) ?_
           refine ybl rfl rfl rfl (pl_lit rfl rfl rfl rfl rfl (zic rfl zin) rfl rfl rfl rfl (fun b107 => ?_))
           refine yaf hq102 ?_; clear hq102; intro l109 hl109 hq102
           refine ybl rfl rfl rfl (pl_app_o (enc := TDebtLine.enc) rfl rfl rfl rfl rfl rfl rfl rfl rfl zm0 (by exact zpt (zpt (zpt (zpt (zpt zph))))) hl109 (fun a110 c111 => ?_))
           refine yah rfl rfl rfl (yac rfl rfl rfl rfl rfl (.p rfl)) ?_
           refine pwl_l0 rfl rfl (yax (vs := [.v (.slice a110 l109.length c111)]) rfl rfl rfl rfl rfl (zut (zut (zut (zut zuh)))) (zlc zln) ?_)
           refine yad (ybc ?_)
           obtain rfl := Option.some.inj hq102
           exact ybb ((a110, c111), ((v83 || (x106.2 != 0)), l109)) (zhc rfl (zhc rfl (zhc rfl (zhc rfl (zhc rfl (zhc rfl zhn)))))) (zsc (zpt (zpt (zpt zph))) (zsc (zpt (zpt (zpt zph))) (zsc (zpt (zpt (zpt zph))) (zsc zph zsn)))) rfl
          ·replace hq102 := yaw hc105 hq102
           refine yao (ybc ?_)
           obtain rfl := Option.some.inj hq102
           exact ybb ((a87, c88), (v83, l86)) (zhc rfl (zhc rfl (zhc rfl (zhc rfl (zhc rfl (zhc rfl zhn)))))) (zsc (zpt zph) (zsc (zpt zph) (zsc (zpt zph) (zsc (zpt zph) zsn)))) rfl
         ·rintro ⟨⟨a99, c100⟩, ⟨v97, l101⟩⟩ τ hz; (try dsimp only at hz); subst q102; (try dsimp only at hb94); dsimp only [pupds]
          refine yaa ?_
          refine zmv (p := .v (.int .i64 v84)) rfl rfl rfl rfl rfl ?_
          refine yah rfl rfl rfl (yas rfl (.p rfl) (.p rfl) rfl) ?_
          refine zas (p := .v (.int .i64 (IntKind.i64.wrap (v84 + 1)))) rfl rfl rfl rfl rfl ?_
          refine yad ?_
          exact pk_loop hb94 (a99, c100) (zhc rfl (zhc rfl (zhc rfl (zhc rfl (zhc rfl (zhc rfl zhn)))))) (zsc zph (zsc zph (zsc zph (zsc zph zsn))))
        ·replace hb94 := yaw hc96 hb94
         refine pwc_exit (ybm ?_)
         refine ybh hb94 (fun ht => ?_)
         refine ybj rfl ?_
         exact ybb ((a87, c88), (v83, l86)) (zhc rfl (zhc rfl (zhc rfl zhn))) (zsc (zpt zph) (zsc (zpt zph) (zsc (zpt zph) zsn))) ht.symm
       ·rintro ⟨⟨a91, c92⟩, ⟨v89, l93⟩⟩ τ hz; (try dsimp only at hz); subst q95; (try dsimp only at h); dsimp only [pupds]
        refine yab (yab (yaa ?_))
        refine zas (p := .v (.int .i64 0)) rfl rfl rfl rfl rfl ?_
        refine yad (yae ?_)
        refine yaf h ?_; clear h; intro q118 hq118 h
        refine ybe (Y := (Unit) × (Int)) (fun (_, v116) => [(4, .v (.pointer (some ⟨b2, 0, none⟩))), (12, .v (.pointer (some ⟨b18, 0, none⟩))), (13, .v (.bool v89))]) (fun (_, v116) => [PRes.b b18 35 [.v (.slice a91 l93.length c92), .v (.int .i64 v116)], PRes.b b2 35 [.v (.slice none 0 0), .v (.int .i64 0)], PRes.row a91 l93.length c92 49 5 (List.map TDebtLine.enc l93)]) (fun (_, v116) => q118 = v116) ?_ ?_
        ·refine yaz ?_
         refine pwc_loopF (Y := Unit) (S := Int × Int) _ hq118 (fun _ (v113, v114) => [(4, .v (.pointer (some ⟨b2, 0, none⟩))), (12, .v (.pointer (some ⟨b18, 0, none⟩))), (13, .v (.bool v89)), (26, .v (.int .i64 v113))]) (fun _ (v113, v114) => [PRes.b b18 35 [.v (.slice a91 l93.length c92), .v (.int .i64 v114)], PRes.b b2 35 [.v (.slice none 0 0), .v (.int .i64 0)], PRes.row a91 l93.length c92 49 5 (List.map TDebtLine.enc l93)]) () (zhc rfl (zhc rfl (zhc rfl (zhc rfl zhn)))) (zsc zph (zsc zph (zsc zph zsn))) ?_
         rintro _ ⟨v113, v114⟩ o τ hb117; (try dsimp only at hb117); dsimp only [pupds]
         refine yab (yab (yaa ?_))
         refine zmv (p := .v (.int .i64 v113)) rfl rfl rfl rfl rfl ?_
         refine yah rfl rfl rfl (yac rfl rfl rfl rfl rfl (.p rfl)) ?_
         refine yah rfl rfl rfl (yag (p := .v (.slice a91 l93.length c92)) rfl (.p rfl) zm0 rfl) ?_
         refine yah rfl rfl rfl (pq_lenO rfl rfl (.p rfl)) ?_
         refine yah rfl rfl rfl (yak rfl (.p rfl) (.p rfl) rfl) ?_
         refine yad (yae ?_)
         refine yal rfl (fun hc119 => ?_) (fun hc119 => ?_)
         ·replace hb117 := yav hc119 hb117
          refine yao (yae (yab (yaz ?_)))
          refine yaf hb117 ?_; clear hb117; intro m120 hm120 hb117
          refine pwc_cutK (Y := Unit) (fun _ => [(4, .v (.pointer (some ⟨b2, 0, none⟩))), (12, .v (.pointer (some ⟨b18, 0, none⟩))), (13, .v (.bool v89)), (26, .v (.int .i64 v113))]) (fun _ => [PRes.b b18 35 [.v (.slice a91 l93.length c92), .v (.int .i64 (IntKind.i64.wrap (v114 + m120.Amount)))], PRes.b b2 35 [.v (.slice none 0 0), .v (.int .i64 0)], PRes.row a91 l93.length c92 49 5 (List.map TDebtLine.enc l93)]) (fun _ => True) ?_ ?_
          ·refine pws_start (ρd := [PRes.b b18 _ _]) _ (List.Perm.refl _) ?_
           refine pws_q 0 (by kernel_rfl) rfl rfl rfl rfl (yac rfl rfl rfl rfl rfl (.p rfl)) ?_
           refine pws_q 2 (by kernel_rfl) rfl rfl rfl rfl (yac rfl rfl rfl rfl rfl (.p rfl)) ?_
           refine pws_q 4 (by kernel_rfl) rfl rfl rfl rfl (yam (p := .v (.int .i64 v113)) rfl (.p rfl)) ?_
           refine pws_two 1 3 (by kernel_rfl) ?_ ?_
           ·skip
            refine pstep_l rfl rfl rfl rfl (pl_q (yag (p := .v (.int .i64 v114)) rfl (.p rfl) zm0 rfl) ?_)
            refine pws_one 3 (by kernel_rfl) ?_
            refine pstep_l rfl rfl rfl rfl (pl_q (yag (p := .v (.slice a91 l93.length c92)) rfl (.p rfl) zm0 rfl) ?_)
            refine pws_q 5 (by kernel_rfl) rfl rfl rfl rfl (pq_indexO (enc := TDebtLine.enc) (xs := l93) rfl rfl rfl (.p rfl) zm1 (.p rfl) (fun _ => hm120)) ?_
            refine pws_q 6 (by kernel_rfl) rfl rfl rfl rfl (yac rfl rfl rfl rfl rfl (.p rfl)) ?_
            refine pws_q 7 (by kernel_rfl) rfl rfl rfl rfl (pq_load_o (p := .v (.int .i64 m120.Amount)) (enc := TDebtLine.enc) (xs := l93) (a := a91) v113 4 m120 rfl (.p rfl) rfl zm1 (fun _ => hm120) rfl) ?_
            refine pws_q 8 (by kernel_rfl) rfl rfl rfl rfl (yas rfl (.p rfl) (.p rfl) rfl) ?_
            refine pws_q 9 (by kernel_rfl) rfl rfl rfl rfl (yac rfl rfl rfl rfl rfl (.p rfl)) ?_
            refine pws_one 10 (by kernel_rfl) ?_
            refine pstep_l0 rfl rfl rfl (yax (vs := [.v (.int .i64 (IntKind.i64.wrap (v114 + m120.Amount)))]) rfl rfl rfl rfl rfl zuh (zlt (zlc zln)) ?_)
            refine pws_done (by kernel_rfl) ?_
            exact pk_cut () (zhc rfl (zhc rfl (zhc rfl (zhc rfl zhn)))) (zsc zph (zsc zph (zsc zph zsn))) trivial
           ·skip
            refine pstep_l rfl rfl rfl rfl (pl_q (yag (p := .v (.slice a91 l93.length c92)) rfl (.p rfl) zm0 rfl) ?_)
            refine pws_q 5 (by kernel_rfl) rfl rfl rfl rfl (pq_indexO (enc := TDebtLine.enc) (xs := l93) rfl rfl rfl (.p rfl) zm1 (.p rfl) (fun _ => hm120)) ?_
            refine pws_q 6 (by kernel_rfl) rfl rfl rfl rfl (yac rfl rfl rfl rfl rfl (.p rfl)) ?_
            refine pws_q 7 (by kernel_rfl) rfl rfl rfl rfl (pq_load_o (p := .v (.int .i64 m120.Amount)) (enc := TDebtLine.enc) (xs := l93) (a := a91) v113 4 m120 rfl (.p rfl) rfl zm1 (fun _ => hm120) rfl) ?_
            refine pws_one 1 (by kernel_rfl) ?_
            refine pstep_l rfl rfl rfl rfl (pl_q (yag (p := .v (.int .i64 v114)) rfl (.p rfl) zm0 rfl) ?_)
            refine pws_q 8 (by kernel_rfl) rfl rfl rfl rfl (yas rfl (.p rfl) (.p rfl) rfl) ?_
            refine pws_q 9 (by kernel_rfl) rfl rfl rfl rfl (yac rfl rfl rfl rfl rfl (.p rfl)) ?_
            refine pws_one 10 (by kernel_rfl) ?_
            refine pstep_l0 rfl rfl rfl (yax (vs := [.v (.int .i64 (IntKind.i64.wrap (v114 + m120.Amount)))]) rfl rfl rfl rfl rfl zuh (zlt (zlc zln)) ?_)
            refine pws_done (by kernel_rfl) ?_
            exact pk_cut () (zhc rfl (zhc rfl (zhc rfl (zhc rfl zhn)))) (zsc zph (zsc zph (zsc zph zsn))) trivial
          ·rintro _ τ ρ1 hsub121 _; (try dsimp only at hsub121); dsimp only [pupds]
           refine ybc (yae ?_)
           refine pwc_sub hsub121 ?_
           refine yaa ?_
           refine zmv (p := .v (.int .i64 v113)) rfl rfl rfl rfl rfl ?_
           refine yah rfl rfl rfl (yas rfl (.p rfl) (.p rfl) rfl) ?_
           refine zas (p := .v (.int .i64 (IntKind.i64.wrap (v113 + 1)))) rfl rfl rfl rfl rfl ?_
           refine yad ?_
           exact pk_loop hb117 () (zhc rfl (zhc rfl (zhc rfl (zhc rfl zhn)))) (zsc zph (zsc zph (zsc zph zsn)))
         ·replace hb117 := yaw hc119 hb117
          refine pwc_exit (ybm ?_)
          refine ybh hb117 (fun ht => ?_)
          refine ybj rfl ?_
          exact ybb ((), v114) (zhc rfl (zhc rfl (zhc rfl zhn))) (zsc zph (zsc zph (zsc zph zsn))) ht.symm
        ·rintro ⟨_, v116⟩ τ hz; (try dsimp only at hz); subst q118; (try dsimp only at h); dsimp only [pupds]
         refine yab (yab (yaa ?_))
         refine zmv (p := .v (.bool v89)) rfl rfl rfl rfl rfl ?_
         refine zmv (p := .v (.bool v89)) rfl rfl rfl rfl rfl ?_
         refine yaj (yai rfl rfl rfl) rfl rfl (yac rfl rfl rfl rfl rfl (.p rfl)) ?_
         refine yaj (yai rfl rfl rfl) rfl rfl (yag (p := .v (.int .i64 v116)) rfl (.g rfl) zm0 rfl) ?_
         refine yaj (yai rfl rfl rfl) rfl rfl (yak rfl (.g rfl) (.p rfl) rfl) ?_
         refine yah rfl rfl rfl (pq_or rfl (.p rfl) (.p rfl) (.g rfl)) ?_
         refine yad (yae ?_)
         refine yal rfl (fun hc122 => ?_) (fun hc122 => ?_)
         ·replace h := yav hc122 h
          refine yab (yaa ?_)
          refine yah rfl rfl rfl (pq_build (cs := [.v (.slice none 0 0), .v (.int .i64 0)]) rfl rfl rfl rfl rfl rfl rfl zfn) ?_
          refine pwl_l0 rfl rfl (yax (vs := [.v (.slice none 0 0), .v (.int .i64 0)]) rfl rfl rfl rfl rfl (zut zuh) (zlc (zlc zln)) ?_)
          refine zas (p := .v (.int .i64 3)) rfl rfl rfl rfl rfl ?_
          refine yad (yae ?_)
          refine pwc_nilb (k := 0) (b := b2) rfl (zut zuh) ?_
          refine yaq (yap ?_)
          obtain rfl := Option.some.inj h
          exact yar (prv_2 (prv1_c rfl zm1 rfl) (yat rfl)) zsn ⟨rfl, rfl⟩
         ·replace h := yaw hc122 h
          refine yao (yae (yab (yaa ?_)))
          refine pwl_frz (css := List.map TDebtLine.enc l93) (a := a91) (by exact zpt (zpt zph)) ?_
          refine pwl_viewb (k := 0) (css := List.map TDebtLine.enc l93) (b := b18) (a := a91) rfl zm0 (zut zuh) ?_
          refine yah rfl rfl rfl (yag (p := .agg [.slc (List.map TDebtLine.enc l93), .v (.int .i64 v116)]) rfl (.p rfl) zm1 rfl) ?_
          refine pwl_l0 rfl rfl (yax (vs := [.slc (List.map TDebtLine.enc l93), .v (.int .i64 v116)]) rfl rfl rfl rfl rfl (zut (zut zuh)) (zlc (zlc zln)) ?_)
          refine zas (p := .v (.int .i64 0)) rfl rfl rfl rfl rfl ?_
          refine yad (yae (yaq ?_))
          obtain rfl := Option.some.inj h
          exact yar (prv_2 (prv1_c rfl zm2 rfl) (yat rfl)) zsn ⟨rfl, rfl⟩
def assess_Check (p0 : (List TMeasure)) (p1 : TItem) (p2 : TDebt) : Option (Int × Int) := Option.bind (assess_Assess p0 p1) (fun x3 => cond (x3.2 != 0) (some (0, x3.2)) (Option.bind (loopF (S := Int) (T := (Unit) ⊕ (_)) (fun v6 => cond (decide (v6 < (p2.Lines.length : Int))) (Option.bind (idx p2.Lines v6) (fun m10 => Option.bind (gd (!(decide ((x3.1.Lines.length : Int) ≤ v6))) (idx x3.1.Lines v6)) (fun m12 => cond ((decide ((x3.1.Lines.length : Int) ≤ v6)) || (!(TDebtLine.eqb m10 m12))) (some (.inr (.inr (v6, 10)))) (some (.inl (IntKind.i64.wrap (v6 + 1))))))) (some (.inr (.inl ())))) FUEL 0) (fun q => match q with | .inl _ => cond ((decide ((p2.Lines.length : Int) < (x3.1.Lines.length : Int))) || (p2.Total != x3.1.Total)) (some ((p2.Lines.length : Int), 10)) (some ((p2.Lines.length : Int), 0)) | .inr e => some e)))
set_option maxHeartbeats 4000000 in
theorem assess_Check_ok {p0 : (List TMeasure)} {p1 : TItem} {p2 : TDebt} {r : (Int × Int)}  (h : assess_Check p0 p1 p2 = some r) : PF 21 [.slc (List.map TMeasure.enc p0), .agg [.v (.string p1.Code), .v (.string p1.Origin), .v (.bool p1.Proof), .v (.int .i64 p1.Company), .v (.int .i64 p1.Day), .v (.int .i64 p1.Quantity), .v (.int .i64 p1.Value), .v (.int .i64 p1.Granted)], .agg [.slc (List.map TDebtLine.enc p2.Lines), .v (.int .i64 p2.Total)]] (.tup [.v (.int .i64 r.1), .v (.int .i64 r.2)]) := by
 unfold assess_Check at h
 refine pf_of ?_
 refine penter Tryz.func21 fk21 rfl Tryz.ntmps21 Tryz.results21 rfl ?_
 refine yab (yaa ?_)
 refine ybl rfl rfl rfl (pl_box (cs := [.v (.string p1.Code), .v (.string p1.Origin), .v (.bool p1.Proof), .v (.int .i64 p1.Company), .v (.int .i64 p1.Day), .v (.int .i64 p1.Quantity), .v (.int .i64 p1.Value), .v (.int .i64 p1.Granted)]) rfl rfl (fun b1 => ?_))
 refine ybl rfl rfl rfl (pl_box (cs := [.slc (List.map TDebtLine.enc p2.Lines), .v (.int .i64 p2.Total)]) rfl rfl (fun b2 => ?_))
 refine zas (p := .v (.int .i64 0)) rfl rfl rfl rfl rfl ?_
 refine zas (p := .v (.int .i64 0)) rfl rfl rfl rfl rfl ?_
 refine yad (yae (yab (yaa ?_)))
 refine zmv (p := .slc (List.map TMeasure.enc p0)) rfl rfl rfl rfl rfl ?_
 refine yah rfl rfl rfl (yag (p := .agg [.v (.string p1.Code), .v (.string p1.Origin), .v (.bool p1.Proof), .v (.int .i64 p1.Company), .v (.int .i64 p1.Day), .v (.int .i64 p1.Quantity), .v (.int .i64 p1.Value), .v (.int .i64 p1.Granted)]) rfl (.p rfl) zm1 rfl) ?_
 refine yaf h ?_; clear h; intro x3 hx3 h
 refine ybd rfl rfl rfl rfl rfl (assess_Assess_ok hx3) ?_
 refine zmv (p := .tup [.agg [.slc (List.map TDebtLine.enc x3.1.Lines), .v (.int .i64 x3.1.Total)], .v (.int .i64 x3.2)]) rfl rfl rfl rfl rfl ?_
 refine zex (p := .agg [.slc (List.map TDebtLine.enc x3.1.Lines), .v (.int .i64 x3.1.Total)]) rfl rfl rfl rfl rfl rfl ?_
 refine zex (p := .v (.int .i64 x3.2)) rfl rfl rfl rfl rfl rfl ?_
 refine ybl rfl rfl rfl (pl_alloc (cs := [.v (.slice none 0 0), .v (.int .i64 0)]) rfl rfl rfl rfl (fun b4 => ?_))
 refine pwl_l0 rfl rfl (yax (vs := [.slc (List.map TDebtLine.enc x3.1.Lines), .v (.int .i64 x3.1.Total)]) rfl rfl rfl rfl rfl zuh (zlc (zlc zln)) ?_)
 refine zas (p := .v (.int .i64 x3.2)) rfl rfl rfl rfl rfl ?_
 refine yad (yae (yab (yab (yaa ?_))))
 refine zmv (p := .v (.int .i64 x3.2)) rfl rfl rfl rfl rfl ?_
 refine yah rfl rfl rfl (yak rfl (.p rfl) (.p rfl) rfl) ?_
 refine yad (yae ?_)
 refine yal rfl (fun hc5 => ?_) (fun hc5 => ?_)
 ·replace h := yav hc5 h
  refine yab (yaa ?_)
  refine zmv (p := .v (.int .i64 x3.2)) rfl rfl rfl rfl rfl ?_
  refine zas (p := .v (.int .i64 0)) rfl rfl rfl rfl rfl ?_
  refine zas (p := .v (.int .i64 x3.2)) rfl rfl rfl rfl rfl ?_
  refine yad (yae (yaq (yap ?_)))
  obtain rfl := Option.some.inj h
  exact yar (prv_2 (yat rfl) (yat rfl)) zsn ⟨rfl, rfl⟩
 ·replace h := yaw hc5 h
  refine yao (yae (yab (yab (yaa ?_))))
  refine yah rfl rfl rfl (yac rfl rfl rfl rfl rfl (.p rfl)) ?_
  refine yah rfl rfl rfl (yag (p := .slc (List.map TDebtLine.enc p2.Lines)) rfl (.p rfl) zm1 rfl) ?_
  refine yah rfl rfl rfl (pq_lenT (enc := TDebtLine.enc) rfl rfl (.p rfl)) ?_
  refine zmv (p := .v (.int .i64 0)) rfl rfl rfl rfl rfl ?_
  refine yad (yae ?_)
  refine yaf h ?_; clear h; intro q8 hq8 h
  refine ybe (Y := (Unit) × (Unit)) (fun (_, _) => [(5, .v (.pointer (some ⟨b2, 0, none⟩))), (8, .v (.pointer (some ⟨b4, 0, none⟩)))]) (fun (_, _) => [PRes.b b2 35 [.slc (List.map TDebtLine.enc p2.Lines), .v (.int .i64 p2.Total)], PRes.b b4 35 [.slc (List.map TDebtLine.enc x3.1.Lines), .v (.int .i64 x3.1.Total)]]) (fun (_, _) => q8 = Sum.inl ()) ?_ ?_
  ·refine yaz ?_
   refine pwc_loopF (Y := Unit) (S := Int) _ hq8 (fun _ v6 => [(5, .v (.pointer (some ⟨b2, 0, none⟩))), (8, .v (.pointer (some ⟨b4, 0, none⟩))), (22, .slc (List.map TDebtLine.enc p2.Lines)), (23, .v (.int .i64 (p2.Lines.length : Int))), (24, .v (.int .i64 v6))]) (fun _ v6 => [PRes.b b2 35 [.slc (List.map TDebtLine.enc p2.Lines), .v (.int .i64 p2.Total)], PRes.b b4 35 [.slc (List.map TDebtLine.enc x3.1.Lines), .v (.int .i64 x3.1.Total)]]) () (zhc rfl (zhc rfl (zhc rfl (zhc rfl (zhc rfl zhn))))) (zsc (zpt zph) (zsc zph zsn)) ?_
   rintro _ v6 o τ hb7; (try dsimp only at hb7); dsimp only [pupds]
   refine yab (yaa ?_)
   refine yah rfl rfl rfl (yak rfl (.p rfl) (.p rfl) rfl) ?_
   refine yad (yae (yab ?_))
   refine yal rfl (fun hc9 => ?_) (fun hc9 => ?_)
   ·replace hb7 := yav hc9 hb7
    refine yao (yae (yab (yaz (yab (yaa ?_)))))
    refine zmv (p := .v (.int .i64 v6)) rfl rfl rfl rfl rfl ?_
    refine yaf hb7 ?_; clear hb7; intro m10 hm10 hb7
    refine yah rfl rfl rfl (pq_index (enc := TDebtLine.enc) rfl rfl rfl (fun _ => rfl) (.p rfl) (.p rfl) (fun _ => hm10)) ?_
    refine yah rfl rfl rfl (pq_load_r (p := .agg [.v (.int .i64 m10.Kind), .v (.int .i64 m10.Measure), .v (.int .i64 m10.Quantity), .v (.int .i64 m10.Value), .v (.int .i64 m10.Amount)]) rfl (.p rfl) rfl) ?_
    refine ybl rfl rfl rfl (pl_alloc (cs := [.v (.int .i64 0), .v (.int .i64 0), .v (.int .i64 0), .v (.int .i64 0), .v (.int .i64 0)]) rfl rfl rfl rfl (fun b11 => ?_))
    refine zas (p := .v (.int .i64 v6)) rfl rfl rfl rfl rfl ?_
    refine pwl_l0 rfl rfl (yax (vs := [.v (.int .i64 m10.Kind), .v (.int .i64 m10.Measure), .v (.int .i64 m10.Quantity), .v (.int .i64 m10.Value), .v (.int .i64 m10.Amount)]) rfl rfl rfl rfl rfl zuh (zlc (zlc (zlc (zlc (zlc zln))))) ?_)
    refine yad (yae (yab ?_))
    refine pwc_draw (ρd := []) [(0, 0), (1, 0), (2, 0), (3, 0), (4, 0), (5, 0), (6, 0), (7, 0), (8, 0), (9, 0), (10, 0), (11, 0), (12, 0), (13, 0)] _ (List.Perm.refl _) (by kernel_rfl) rfl ?_
    refine ybf rfl rfl rfl (yam (p := .v (.int .i64 v6)) rfl (.p rfl)) ?_
    refine ybf rfl rfl rfl (yac rfl rfl rfl rfl rfl (.p rfl)) ?_
    refine ybf rfl rfl rfl (yag (p := .slc (List.map TDebtLine.enc x3.1.Lines)) rfl (.p rfl) zm2 rfl) ?_
    refine ybf rfl rfl rfl (pq_lenT (enc := TDebtLine.enc) rfl rfl (.p rfl)) ?_
    refine ybf rfl rfl rfl (yak rfl (.p rfl) (.p rfl) rfl) ?_
    refine ybf rfl rfl rfl (yam (p := .v (.bool (decide ((x3.1.Lines.length : Int) ≤ v6)))) rfl (.p rfl)) ?_
    refine ybi (yai rfl rfl rfl) rfl rfl (yag (p := .agg [.v (.int .i64 m10.Kind), .v (.int .i64 m10.Measure), .v (.int .i64 m10.Quantity), .v (.int .i64 m10.Value), .v (.int .i64 m10.Amount)]) rfl (.p rfl) zm0 rfl) ?_
    refine ybi (yai rfl rfl rfl) rfl rfl (yac rfl rfl rfl rfl rfl (.p rfl)) ?_
    refine ybi (yai rfl rfl rfl) rfl rfl (yag (p := .slc (List.map TDebtLine.enc x3.1.Lines)) rfl (.g rfl) zm2 rfl) ?_
    refine ybi (yai rfl rfl rfl) rfl rfl (yam (p := .v (.int .i64 v6)) rfl (.p rfl)) ?_
    refine yaf hb7 ?_; clear hb7; intro m12 hm12 hb7
    refine ybi (yai rfl rfl rfl) rfl rfl (pq_index (enc := TDebtLine.enc) rfl rfl rfl (fun _ => rfl) (.g rfl) (.g rfl) (gd_t hm12)) ?_
    refine ybi (yai rfl rfl rfl) rfl rfl (pq_load_r (p := .agg [.v (.int .i64 m12.Kind), .v (.int .i64 m12.Measure), .v (.int .i64 m12.Quantity), .v (.int .i64 m12.Value), .v (.int .i64 m12.Amount)]) rfl (.g rfl) rfl) ?_
    refine ybi (yai rfl rfl rfl) rfl rfl (pq_eqst [0, 0, 0, 0, 0] rfl (by kernel_rfl) (by kernel_rfl) (by kernel_rfl) (by kernel_rfl) (.g rfl) (.g rfl) rfl rfl rfl rfl) ?_
    refine ybf rfl rfl rfl (pq_or rfl (.p rfl) (.p rfl) (.g rfl)) ?_
    refine pwd_nil (yae ?_)
    refine yal rfl (fun hc13 => ?_) (fun hc13 => ?_)
    ·replace hb7 := yav hc13 hb7
     refine yab (yaa ?_)
     refine zmv (p := .v (.int .i64 v6)) rfl rfl rfl rfl rfl ?_
     refine zas (p := .v (.int .i64 v6)) rfl rfl rfl rfl rfl ?_
     refine zas (p := .v (.int .i64 10)) rfl rfl rfl rfl rfl ?_
     refine yad (yae (yaq (yba (yap ?_))))
     refine pk_loop_ret hb7 (fun ht => ?_); subst ht
     have h := (show some _ = some _ from h)
     refine yba (pk_mid_ret ?_)
     obtain rfl := Option.some.inj h
     exact yar (prv_2 (yat rfl) (yat rfl)) zsn ⟨rfl, rfl⟩
    ·replace hb7 := yaw hc13 hb7
     refine yao (ybc (yae (yaa ?_)))
     refine yah rfl rfl rfl (yas rfl (.p rfl) (.p rfl) rfl) ?_
     refine zmv (p := .v (.int .i64 (IntKind.i64.wrap (v6 + 1)))) rfl rfl rfl rfl rfl ?_
     refine yad ?_
     exact pk_loop hb7 () (zhc rfl (zhc rfl (zhc rfl (zhc rfl (zhc rfl zhn))))) (zsc (zpt zph) (zsc (zpt zph) zsn))
   ·replace hb7 := yaw hc9 hb7
    refine pwc_exit (ybm ?_)
    refine ybh hb7 (fun ht => ?_)
    refine ybj rfl ?_
    exact ybb ((), ()) (zhc rfl (zhc rfl zhn)) (zsc zph (zsc zph zsn)) ht.symm
  ·rintro ⟨_, _⟩ τ hz; (try dsimp only at hz); subst q8; (try dsimp only at h); dsimp only [pupds]
   refine yab (yab (yaa ?_))
   refine yah rfl rfl rfl (yac rfl rfl rfl rfl rfl (.p rfl)) ?_
   refine yah rfl rfl rfl (yag (p := .slc (List.map TDebtLine.enc p2.Lines)) rfl (.p rfl) zm0 rfl) ?_
   refine yah rfl rfl rfl (pq_lenT (enc := TDebtLine.enc) rfl rfl (.p rfl)) ?_
   refine yah rfl rfl rfl (yac rfl rfl rfl rfl rfl (.p rfl)) ?_
   refine yah rfl rfl rfl (yag (p := .slc (List.map TDebtLine.enc x3.1.Lines)) rfl (.p rfl) zm1 rfl) ?_
   refine yah rfl rfl rfl (pq_lenT (enc := TDebtLine.enc) rfl rfl (.p rfl)) ?_
   refine yah rfl rfl rfl (yak rfl (.p rfl) (.p rfl) rfl) ?_
   refine zmv (p := .v (.bool (decide ((p2.Lines.length : Int) < (x3.1.Lines.length : Int))))) rfl rfl rfl rfl rfl ?_
   refine yaj (yai rfl rfl rfl) rfl rfl (yac rfl rfl rfl rfl rfl (.p rfl)) ?_
   refine yaj (yai rfl rfl rfl) rfl rfl (yag (p := .v (.int .i64 p2.Total)) rfl (.g rfl) zm0 rfl) ?_
   refine yaj (yai rfl rfl rfl) rfl rfl (yac rfl rfl rfl rfl rfl (.p rfl)) ?_
   refine yaj (yai rfl rfl rfl) rfl rfl (yag (p := .v (.int .i64 x3.1.Total)) rfl (.g rfl) zm1 rfl) ?_
   refine yaj (yai rfl rfl rfl) rfl rfl (yak rfl (.g rfl) (.g rfl) rfl) ?_
   refine yah rfl rfl rfl (pq_or rfl (.p rfl) (.p rfl) (.g rfl)) ?_
   refine yad (yae ?_)
   refine yal rfl (fun hc14 => ?_) (fun hc14 => ?_)
   ·replace h := yav hc14 h
    refine yab (yaa ?_)
    refine yah rfl rfl rfl (yac rfl rfl rfl rfl rfl (.p rfl)) ?_
    refine yah rfl rfl rfl (yag (p := .slc (List.map TDebtLine.enc p2.Lines)) rfl (.p rfl) zm0 rfl) ?_
    refine yah rfl rfl rfl (pq_lenT (enc := TDebtLine.enc) rfl rfl (.p rfl)) ?_
    refine zas (p := .v (.int .i64 (p2.Lines.length : Int))) rfl rfl rfl rfl rfl ?_
    refine zas (p := .v (.int .i64 10)) rfl rfl rfl rfl rfl ?_
    refine yad (yae (yaq (yap ?_)))
    obtain rfl := Option.some.inj h
    exact yar (prv_2 (yat rfl) (yat rfl)) zsn ⟨rfl, rfl⟩
   ·replace h := yaw hc14 h
    refine yao (yae (yab (yaa ?_)))
    refine yah rfl rfl rfl (yac rfl rfl rfl rfl rfl (.p rfl)) ?_
    refine yah rfl rfl rfl (yag (p := .slc (List.map TDebtLine.enc p2.Lines)) rfl (.p rfl) zm0 rfl) ?_
    refine yah rfl rfl rfl (pq_lenT (enc := TDebtLine.enc) rfl rfl (.p rfl)) ?_
    refine zas (p := .v (.int .i64 (p2.Lines.length : Int))) rfl rfl rfl rfl rfl ?_
    refine zas (p := .v (.int .i64 0)) rfl rfl rfl rfl rfl ?_
    refine yad (yae (yaq ?_))
    obtain rfl := Option.some.inj h
    exact yar (prv_2 (yat rfl) (yat rfl)) zsn ⟨rfl, rfl⟩
def ref19_Check (p0 : (List TMeasure)) (p1 : TItem) (p2 : TDebt) : Option (Int × Int) := Option.bind (ref19_Assess p0 p1) (fun x3 => cond (x3.2 != 0) (some (0, x3.2)) (Option.bind (loopF (S := Int) (T := (Unit) ⊕ (_)) (fun v6 => cond (decide (v6 < (p2.Lines.length : Int))) (Option.bind (gd (!(decide ((x3.1.Lines.length : Int) ≤ v6))) (idx p2.Lines v6)) (fun m10 => Option.bind (gd (!(decide ((x3.1.Lines.length : Int) ≤ v6))) (idx x3.1.Lines v6)) (fun m11 => cond ((decide ((x3.1.Lines.length : Int) ≤ v6)) || (!(TDebtLine.eqb m10 m11))) (some (.inr (.inr (v6, 10)))) (some (.inl (IntKind.i64.wrap (v6 + 1))))))) (some (.inr (.inl ())))) FUEL 0) (fun q => match q with | .inl _ => cond ((decide ((p2.Lines.length : Int) < (x3.1.Lines.length : Int))) || (p2.Total != x3.1.Total)) (some ((p2.Lines.length : Int), 10)) (some ((p2.Lines.length : Int), 0)) | .inr e => some e)))
set_option maxHeartbeats 4000000 in
theorem ref19_Check_ok {p0 : (List TMeasure)} {p1 : TItem} {p2 : TDebt} {r : (Int × Int)}  (h : ref19_Check p0 p1 p2 = some r) : PF 22 [.slc (List.map TMeasure.enc p0), .agg [.v (.string p1.Code), .v (.string p1.Origin), .v (.bool p1.Proof), .v (.int .i64 p1.Company), .v (.int .i64 p1.Day), .v (.int .i64 p1.Quantity), .v (.int .i64 p1.Value), .v (.int .i64 p1.Granted)], .agg [.slc (List.map TDebtLine.enc p2.Lines), .v (.int .i64 p2.Total)]] (.tup [.v (.int .i64 r.1), .v (.int .i64 r.2)]) := by
 unfold ref19_Check at h
 refine pf_of ?_
 refine penter Tryz.func22 fk22 rfl Tryz.ntmps22 Tryz.results22 rfl ?_
 refine yab (yaa ?_)
 refine ybl rfl rfl rfl (pl_box (cs := [.v (.string p1.Code), .v (.string p1.Origin), .v (.bool p1.Proof), .v (.int .i64 p1.Company), .v (.int .i64 p1.Day), .v (.int .i64 p1.Quantity), .v (.int .i64 p1.Value), .v (.int .i64 p1.Granted)]) rfl rfl (fun b1 => ?_))
 refine ybl rfl rfl rfl (pl_box (cs := [.slc (List.map TDebtLine.enc p2.Lines), .v (.int .i64 p2.Total)]) rfl rfl (fun b2 => ?_))
 refine zas (p := .v (.int .i64 0)) rfl rfl rfl rfl rfl ?_
 refine zas (p := .v (.int .i64 0)) rfl rfl rfl rfl rfl ?_
 refine yad (yae (yab (yaa ?_)))
 refine zmv (p := .slc (List.map TMeasure.enc p0)) rfl rfl rfl rfl rfl ?_
 refine yah rfl rfl rfl (yag (p := .agg [.v (.string p1.Code), .v (.string p1.Origin), .v (.bool p1.Proof), .v (.int .i64 p1.Company), .v (.int .i64 p1.Day), .v (.int .i64 p1.Quantity), .v (.int .i64 p1.Value), .v (.int .i64 p1.Granted)]) rfl (.p rfl) zm1 rfl) ?_
 refine yaf h ?_; clear h; intro x3 hx3 h
 refine ybd rfl rfl rfl rfl rfl (ref19_Assess_ok hx3) ?_
 refine zmv (p := .tup [.agg [.slc (List.map TDebtLine.enc x3.1.Lines), .v (.int .i64 x3.1.Total)], .v (.int .i64 x3.2)]) rfl rfl rfl rfl rfl ?_
 refine zex (p := .agg [.slc (List.map TDebtLine.enc x3.1.Lines), .v (.int .i64 x3.1.Total)]) rfl rfl rfl rfl rfl rfl ?_
 refine zex (p := .v (.int .i64 x3.2)) rfl rfl rfl rfl rfl rfl ?_
 refine ybl rfl rfl rfl (pl_alloc (cs := [.v (.slice none 0 0), .v (.int .i64 0)]) rfl rfl rfl rfl (fun b4 => ?_))
 refine pwl_l0 rfl rfl (yax (vs := [.slc (List.map TDebtLine.enc x3.1.Lines), .v (.int .i64 x3.1.Total)]) rfl rfl rfl rfl rfl zuh (zlc (zlc zln)) ?_)
 refine zas (p := .v (.int .i64 x3.2)) rfl rfl rfl rfl rfl ?_
 refine yad (yae (yab (yab (yaa ?_))))
 refine zmv (p := .v (.int .i64 x3.2)) rfl rfl rfl rfl rfl ?_
 refine yah rfl rfl rfl (yak rfl (.p rfl) (.p rfl) rfl) ?_
 refine yad (yae ?_)
 refine yal rfl (fun hc5 => ?_) (fun hc5 => ?_)
 ·replace h := yav hc5 h
  refine yab (yaa ?_)
  refine zmv (p := .v (.int .i64 x3.2)) rfl rfl rfl rfl rfl ?_
  refine zas (p := .v (.int .i64 0)) rfl rfl rfl rfl rfl ?_
  refine zas (p := .v (.int .i64 x3.2)) rfl rfl rfl rfl rfl ?_
  refine yad (yae (yaq (yap ?_)))
  obtain rfl := Option.some.inj h
  exact yar (prv_2 (yat rfl) (yat rfl)) zsn ⟨rfl, rfl⟩
 ·replace h := yaw hc5 h
  refine yao (yae (yab (yab (yaa ?_))))
  refine zas (p := .v (.int .i64 0)) rfl rfl rfl rfl rfl ?_
  refine yad (yae ?_)
  refine yaf h ?_; clear h; intro q8 hq8 h
  refine ybe (Y := (Unit) × (Unit)) (fun (_, _) => [(5, .v (.pointer (some ⟨b2, 0, none⟩))), (8, .v (.pointer (some ⟨b4, 0, none⟩)))]) (fun (_, _) => [PRes.b b2 35 [.slc (List.map TDebtLine.enc p2.Lines), .v (.int .i64 p2.Total)], PRes.b b4 35 [.slc (List.map TDebtLine.enc x3.1.Lines), .v (.int .i64 x3.1.Total)]]) (fun (_, _) => q8 = Sum.inl ()) ?_ ?_
  ·refine yaz ?_
   refine pwc_loopF (Y := Unit) (S := Int) _ hq8 (fun _ v6 => [(5, .v (.pointer (some ⟨b2, 0, none⟩))), (8, .v (.pointer (some ⟨b4, 0, none⟩))), (10, .v (.int .i64 v6))]) (fun _ v6 => [PRes.b b2 35 [.slc (List.map TDebtLine.enc p2.Lines), .v (.int .i64 p2.Total)], PRes.b b4 35 [.slc (List.map TDebtLine.enc x3.1.Lines), .v (.int .i64 x3.1.Total)]]) () (zhc rfl (zhc rfl (zhc rfl zhn))) (zsc (zpt zph) (zsc zph zsn)) ?_
   rintro _ v6 o τ hb7; (try dsimp only at hb7); dsimp only [pupds]
   refine yab (yab (yaa ?_))
   refine zmv (p := .v (.int .i64 v6)) rfl rfl rfl rfl rfl ?_
   refine yah rfl rfl rfl (yac rfl rfl rfl rfl rfl (.p rfl)) ?_
   refine yah rfl rfl rfl (yag (p := .slc (List.map TDebtLine.enc p2.Lines)) rfl (.p rfl) zm0 rfl) ?_
   refine yah rfl rfl rfl (pq_lenT (enc := TDebtLine.enc) rfl rfl (.p rfl)) ?_
   refine yah rfl rfl rfl (yak rfl (.p rfl) (.p rfl) rfl) ?_
   refine yad (yae ?_)
   refine yal rfl (fun hc9 => ?_) (fun hc9 => ?_)
   ·replace hb7 := yav hc9 hb7
    refine yao (yae (yab (yaz (yab ?_))))
    refine pwc_draw (ρd := []) [(0, 0), (1, 0), (2, 0), (3, 0), (4, 0), (5, 0), (6, 0), (7, 0), (8, 0), (9, 0), (10, 0), (11, 0), (12, 0), (13, 0), (14, 0), (15, 0), (16, 0), (17, 0)] _ (List.Perm.refl _) (by kernel_rfl) rfl ?_
    refine ybf rfl rfl rfl (yam (p := .v (.int .i64 v6)) rfl (.p rfl)) ?_
    refine ybf rfl rfl rfl (yac rfl rfl rfl rfl rfl (.p rfl)) ?_
    refine ybf rfl rfl rfl (yag (p := .slc (List.map TDebtLine.enc x3.1.Lines)) rfl (.p rfl) zm1 rfl) ?_
    refine ybf rfl rfl rfl (pq_lenT (enc := TDebtLine.enc) rfl rfl (.p rfl)) ?_
    refine ybf rfl rfl rfl (yak rfl (.p rfl) (.p rfl) rfl) ?_
    refine ybf rfl rfl rfl (yam (p := .v (.bool (decide ((x3.1.Lines.length : Int) ≤ v6)))) rfl (.p rfl)) ?_
    refine ybi (yai rfl rfl rfl) rfl rfl (yac rfl rfl rfl rfl rfl (.p rfl)) ?_
    refine ybi (yai rfl rfl rfl) rfl rfl (yag (p := .slc (List.map TDebtLine.enc p2.Lines)) rfl (.g rfl) zm0 rfl) ?_
    refine ybi (yai rfl rfl rfl) rfl rfl (yam (p := .v (.int .i64 v6)) rfl (.p rfl)) ?_
    refine yaf hb7 ?_; clear hb7; intro m10 hm10 hb7
    refine ybi (yai rfl rfl rfl) rfl rfl (pq_index (enc := TDebtLine.enc) rfl rfl rfl (fun _ => rfl) (.g rfl) (.g rfl) (gd_t hm10)) ?_
    refine ybi (yai rfl rfl rfl) rfl rfl (pq_load_r (p := .agg [.v (.int .i64 m10.Kind), .v (.int .i64 m10.Measure), .v (.int .i64 m10.Quantity), .v (.int .i64 m10.Value), .v (.int .i64 m10.Amount)]) rfl (.g rfl) rfl) ?_
    refine ybi (yai rfl rfl rfl) rfl rfl (yac rfl rfl rfl rfl rfl (.p rfl)) ?_
    refine ybi (yai rfl rfl rfl) rfl rfl (yag (p := .slc (List.map TDebtLine.enc x3.1.Lines)) rfl (.g rfl) zm1 rfl) ?_
    refine ybi (yai rfl rfl rfl) rfl rfl (yam (p := .v (.int .i64 v6)) rfl (.p rfl)) ?_
    refine yaf hb7 ?_; clear hb7; intro m11 hm11 hb7
    refine ybi (yai rfl rfl rfl) rfl rfl (pq_index (enc := TDebtLine.enc) rfl rfl rfl (fun _ => rfl) (.g rfl) (.g rfl) (gd_t hm11)) ?_
    refine ybi (yai rfl rfl rfl) rfl rfl (pq_load_r (p := .agg [.v (.int .i64 m11.Kind), .v (.int .i64 m11.Measure), .v (.int .i64 m11.Quantity), .v (.int .i64 m11.Value), .v (.int .i64 m11.Amount)]) rfl (.g rfl) rfl) ?_
    refine ybi (yai rfl rfl rfl) rfl rfl (pq_eqst [0, 0, 0, 0, 0] rfl (by kernel_rfl) (by kernel_rfl) (by kernel_rfl) (by kernel_rfl) (.g rfl) (.g rfl) rfl rfl rfl rfl) ?_
    refine ybf rfl rfl rfl (pq_or rfl (.p rfl) (.p rfl) (.g rfl)) ?_
    refine pwd_nil (yae ?_)
    refine yal rfl (fun hc12 => ?_) (fun hc12 => ?_)
    ·replace hb7 := yav hc12 hb7
     refine yab (yaa ?_)
     refine zmv (p := .v (.int .i64 v6)) rfl rfl rfl rfl rfl ?_
     refine zas (p := .v (.int .i64 v6)) rfl rfl rfl rfl rfl ?_
     refine zas (p := .v (.int .i64 10)) rfl rfl rfl rfl rfl ?_
     refine yad (yae (yaq (yba (yap ?_))))
     refine pk_loop_ret hb7 (fun ht => ?_); subst ht
     have h := (show some _ = some _ from h)
     refine yba (pk_mid_ret ?_)
     obtain rfl := Option.some.inj h
     exact yar (prv_2 (yat rfl) (yat rfl)) zsn ⟨rfl, rfl⟩
    ·replace hb7 := yaw hc12 hb7
     refine yao (ybc (yae (yaa ?_)))
     refine zmv (p := .v (.int .i64 v6)) rfl rfl rfl rfl rfl ?_
     refine yah rfl rfl rfl (yas rfl (.p rfl) (.p rfl) rfl) ?_
     refine zas (p := .v (.int .i64 (IntKind.i64.wrap (v6 + 1)))) rfl rfl rfl rfl rfl ?_
     refine yad ?_
     exact pk_loop hb7 () (zhc rfl (zhc rfl (zhc rfl zhn))) (zsc zph (zsc zph zsn))
   ·replace hb7 := yaw hc9 hb7
    refine pwc_exit (ybm ?_)
    refine ybh hb7 (fun ht => ?_)
    refine ybj rfl ?_
    exact ybb ((), ()) (zhc rfl (zhc rfl zhn)) (zsc zph (zsc zph zsn)) ht.symm
  ·rintro ⟨_, _⟩ τ hz; (try dsimp only at hz); subst q8; (try dsimp only at h); dsimp only [pupds]
   refine yab (yab (yaa ?_))
   refine yah rfl rfl rfl (yac rfl rfl rfl rfl rfl (.p rfl)) ?_
   refine yah rfl rfl rfl (yag (p := .slc (List.map TDebtLine.enc p2.Lines)) rfl (.p rfl) zm0 rfl) ?_
   refine yah rfl rfl rfl (pq_lenT (enc := TDebtLine.enc) rfl rfl (.p rfl)) ?_
   refine yah rfl rfl rfl (yac rfl rfl rfl rfl rfl (.p rfl)) ?_
   refine yah rfl rfl rfl (yag (p := .slc (List.map TDebtLine.enc x3.1.Lines)) rfl (.p rfl) zm1 rfl) ?_
   refine yah rfl rfl rfl (pq_lenT (enc := TDebtLine.enc) rfl rfl (.p rfl)) ?_
   refine yah rfl rfl rfl (yak rfl (.p rfl) (.p rfl) rfl) ?_
   refine zmv (p := .v (.bool (decide ((p2.Lines.length : Int) < (x3.1.Lines.length : Int))))) rfl rfl rfl rfl rfl ?_
   refine yaj (yai rfl rfl rfl) rfl rfl (yac rfl rfl rfl rfl rfl (.p rfl)) ?_
   refine yaj (yai rfl rfl rfl) rfl rfl (yag (p := .v (.int .i64 p2.Total)) rfl (.g rfl) zm0 rfl) ?_
   refine yaj (yai rfl rfl rfl) rfl rfl (yac rfl rfl rfl rfl rfl (.p rfl)) ?_
   refine yaj (yai rfl rfl rfl) rfl rfl (yag (p := .v (.int .i64 x3.1.Total)) rfl (.g rfl) zm1 rfl) ?_
   refine yaj (yai rfl rfl rfl) rfl rfl (yak rfl (.g rfl) (.g rfl) rfl) ?_
   refine yah rfl rfl rfl (pq_or rfl (.p rfl) (.p rfl) (.g rfl)) ?_
   refine yad (yae ?_)
   refine yal rfl (fun hc13 => ?_) (fun hc13 => ?_)
   ·replace h := yav hc13 h
    refine yab (yaa ?_)
    refine yah rfl rfl rfl (yac rfl rfl rfl rfl rfl (.p rfl)) ?_
    refine yah rfl rfl rfl (yag (p := .slc (List.map TDebtLine.enc p2.Lines)) rfl (.p rfl) zm0 rfl) ?_
    refine yah rfl rfl rfl (pq_lenT (enc := TDebtLine.enc) rfl rfl (.p rfl)) ?_
    refine zas (p := .v (.int .i64 (p2.Lines.length : Int))) rfl rfl rfl rfl rfl ?_
    refine zas (p := .v (.int .i64 10)) rfl rfl rfl rfl rfl ?_
    refine yad (yae (yaq (yap ?_)))
    obtain rfl := Option.some.inj h
    exact yar (prv_2 (yat rfl) (yat rfl)) zsn ⟨rfl, rfl⟩
   ·replace h := yaw hc13 h
    refine yao (yae (yab (yaa ?_)))
    refine yah rfl rfl rfl (yac rfl rfl rfl rfl rfl (.p rfl)) ?_
    refine yah rfl rfl rfl (yag (p := .slc (List.map TDebtLine.enc p2.Lines)) rfl (.p rfl) zm0 rfl) ?_
    refine yah rfl rfl rfl (pq_lenT (enc := TDebtLine.enc) rfl rfl (.p rfl)) ?_
    refine zas (p := .v (.int .i64 (p2.Lines.length : Int))) rfl rfl rfl rfl rfl ?_
    refine zas (p := .v (.int .i64 0)) rfl rfl rfl rfl rfl ?_
    refine yad (yae (yaq ?_))
    obtain rfl := Option.some.inj h
    exact yar (prv_2 (yat rfl) (yat rfl)) zsn ⟨rfl, rfl⟩
end SX
end Go.Proofs.YtfcecieppoljlaaGreatDoor
set_option maxRecDepth 100000
namespace Go.Proofs.YtfcecieppoljlaaGreatDoor
namespace SX
open Go
theorem lfb_step {S T β : Type} {body : S → Option (S ⊕ T)} {N : Nat} {s : S} (s' : S) {k : T → Option β} (h : body s = some (.inl s')) : (loopF body (N + 1) s).bind k = (loopF body N s').bind k := by rw [loopF_succ, h]
theorem lfb_done {S T β : Type} {body : S → Option (S ⊕ T)} {N : Nat} {s : S} (t : T) {k : T → Option β} (h : body s = some (.inr t)) : (loopF body (N + 1) s).bind k = k t := by rw [loopF_succ, h]; rfl
theorem fuel9 : FUEL = 1267650600228229401496703205367 + 9 := rfl
structure ShareOK (t g r : Int) : Prop where
 t0 : 0 ≤ t
 t1 : t ≤ 1000000000000
 g0 : 0 ≤ g
 g1 : g ≤ 1000000000000
 r0 : 0 ≤ r
 r1 : r ≤ 1000000000000
 s1 : 1 ≤ g + r
def shLeft (t g r : Int) : Int := t - t * g / (g + r) - t * r / (g + r)
def share2 (t g r : Int) : Int × Int := if shLeft t g r = 1 then (if t * g % (g + r) < t * r % (g + r) then (t * g / (g + r), t * r / (g + r) + 1) else (t * g / (g + r) + 1, t * r / (g + r))) else (t * g / (g + r), t * r / (g + r))
structure ShareFacts (t g r : Int) : Prop where
 a0 : 0 ≤ t * g / (g + r)
 a1 : t * g / (g + r) ≤ t
 b0 : 0 ≤ t * r / (g + r)
 b1 : t * r / (g + r) ≤ t
 c0 : 0 ≤ t * g % (g + r)
 c1 : t * g % (g + r) < g + r
 d0 : 0 ≤ t * r % (g + r)
 d1 : t * r % (g + r) < g + r
 l01 : shLeft t g r = 0 ∨ shLeft t g r = 1
section
variable {t g r : Int} (h : ShareOK t g r)
include h
theorem shareFacts : ShareFacts t g r := by
 obtain ⟨t0, t1, g0, g1, r0, r1, s1⟩ := h
 have p1 := Int.mul_nonneg t0 g0
 have p2 := Int.mul_nonneg t0 r0
 have e1 := Int.emod_add_mul_ediv (t * g) (g + r)
 have e2 := Int.emod_add_mul_ediv (t * r) (g + r)
 have a0 := Int.ediv_nonneg p1 (show 0 ≤ g + r by omega)
 have b0 := Int.ediv_nonneg p2 (show 0 ≤ g + r by omega)
 have c0 := Int.emod_nonneg (t * g) (show g + r ≠ 0 by omega)
 have d0 := Int.emod_nonneg (t * r) (show g + r ≠ 0 by omega)
 have c1 := Int.emod_lt_of_pos (t * g) (show 0 < g + r by omega)
 have d1 := Int.emod_lt_of_pos (t * r) (show 0 < g + r by omega)
 have hs : t * (g + r) = t * g + t * r := Int.mul_add _ _ _
 have key : (g + r) * shLeft t g r = t * g % (g + r) + t * r % (g + r) := by
  unfold shLeft
  rw [Int.mul_sub, Int.mul_sub, Int.mul_comm (g + r) t]
  generalize t * g / (g + r) = x at *
  generalize t * r / (g + r) = y at *
  generalize (g + r) * x = X at *
  generalize (g + r) * y = Y at *
  omega
 have l0 : 0 ≤ shLeft t g r := by
  by_cases hc : 0 ≤ shLeft t g r
  ·exact hc
  ·have := Int.mul_le_mul_of_nonneg_left (show shLeft t g r ≤ -1 by omega) (show 0 ≤ g + r by omega); omega
 have l1 : shLeft t g r ≤ 1 := by
  by_cases hc : shLeft t g r ≤ 1
  ·exact hc
  ·have := Int.mul_le_mul_of_nonneg_left (show 2 ≤ shLeft t g r by omega) (show 0 ≤ g + r by omega); omega
 refine ⟨a0, ?_, b0, ?_, c0, c1, d0, d1, by omega⟩
 ·unfold shLeft at l0; omega
 ·unfold shLeft at l0; omega
theorem share2_ok : (share2 t g r).1 + (share2 t g r).2 = t ∧ 0 ≤ (share2 t g r).1 ∧ (share2 t g r).1 ≤ 1000000000000 ∧ 0 ≤ (share2 t g r).2 ∧ (share2 t g r).2 ≤ 1000000000000 := by
 obtain ⟨a0, a1, b0, b1, c0, c1, d0, d1, l01⟩ := shareFacts h
 have := h.t1
 have hl : shLeft t g r = t - t * g / (g + r) - t * r / (g + r) := rfl
 unfold share2
 split
 ·split <;> (dsimp only; omega)
 ·dsimp only; omega
theorem muldiv2 {w : Int} (hw : 0 ≤ w) (hw1 : w ≤ 1000000000000) (hle : t * w / (g + r) ≤ t) : exact_MulDiv t w (g + r) 0 = some (t * w / (g + r), 0) := by
 obtain ⟨t0, t1, g0, g1, r0, r1, s1⟩ := h
 unfold exact_MulDiv
 obtain ⟨z, e1, e2, e3⟩ := exact_mul (a := t) (b := w) ⟨by omega, by omega⟩ ⟨by omega, by omega⟩
 rw [bnd e1, exact_div e2 (c := g + r) ⟨by omega, by omega⟩ s1 (.inl rfl), e3]
 have : rnd (t * w) (g + r) 0 = t * w / (g + r) := by unfold rnd; rw [if_neg (by omega)]
 rw [this, if_pos (by omega)]
 rfl
theorem refmd2 {w : Int} (hw : 0 ≤ w) (hw1 : w ≤ 1000000000000) (hle : t * w / (g + r) ≤ t) : ∃ z q, ref01_Mul t w = some z ∧ ref01_DivMod z (g + r) = some (q, t * w % (g + r)) ∧ q.Lo = t * w / (g + r) := by
 obtain ⟨t0, t1, g0, g1, r0, r1, s1⟩ := h
 obtain ⟨z, e1, e2, e3⟩ := ref_mul (a := t) (b := w) ⟨by omega, by omega⟩ ⟨by omega, by omega⟩
 obtain ⟨q, m, f1, f2, f3, f4⟩ := ref_divmod e2 (d := g + r) ⟨by omega, by omega⟩ s1
 rw [e3] at f3 f4
 refine ⟨z, q, e1, by rw [f1, f4], ?_⟩
 obtain ⟨⟨x1, x2⟩, ⟨x3, x4⟩⟩ := f2
 unfold rv at f3; omega
theorem check2 : apportion_check t [g, r] = some 0 := by
 obtain ⟨t0, t1, g0, g1, r0, r1, s1⟩ := h
 unfold apportion_check
 rw [show decide ((1000 : Int) < (([g, r] : List Int).length : Int)) = false from rfl, show ((decide (t < 0)) || (decide (1000000000000 < t))) = false by simp; omega, fuel9]
 simp only [cond_false]
 refine (lfb_step 1 ?_).trans ((lfb_step 2 ?_).trans ((lfb_done (.inl ()) ?_).trans ?_))
 ·rw [show decide ((0 : Int) < (([g, r] : List Int).length : Int)) = true from rfl, bnd (show idx [g, r] 0 = some g from rfl), show ((decide (g < 0)) || (decide (1000000000000 < g))) = false by simp; omega]; rfl
 ·rw [show decide ((1 : Int) < (([g, r] : List Int).length : Int)) = true from rfl, bnd (show idx [g, r] 1 = some r from rfl), show ((decide (r < 0)) || (decide (1000000000000 < r))) = false by simp; omega]; rfl
 ·rfl
 ·rfl
theorem sum2 : apportion_sumOf [g, r] = some (g + r) := by
 obtain ⟨t0, t1, g0, g1, r0, r1, s1⟩ := h
 unfold apportion_sumOf
 rw [fuel9]
 refine (lfb_step (g, 1) ?_).trans ((lfb_step (g + r, 2) ?_).trans ((lfb_done (g + r) ?_).trans ?_))
 ·dsimp only
  rw [show decide ((0 : Int) < (([g, r] : List Int).length : Int)) = true from rfl, bnd (show idx [g, r] 0 = some g from rfl), i64s (by omega) (by omega), Int.zero_add]; rfl
 ·dsimp only
  rw [show decide ((1 : Int) < (([g, r] : List Int).length : Int)) = true from rfl, bnd (show idx [g, r] 1 = some r from rfl), i64s (by omega) (by omega)]; rfl
 ·rfl
 ·rfl
end
theorem cmpI (a b : Int) : cmp_Compare_int a b = some (if a < b then -1 else if b < a then 1 else 0) := by
 unfold cmp_Compare_int cmp_isNaN_int
 simp only [bne_self_eq_false, Option.bind_some, cond_false]
 by_cases h : a < b
 ·rw [decide_eq_true h, if_pos h]; rfl
 ·rw [decide_eq_false h, if_neg h]
  by_cases h2 : b < a
  ·rw [decide_eq_true h2, if_pos h2]; rfl
  ·rw [decide_eq_false h2, if_neg h2]; rfl
theorem cmpU (a b : Int) : cmp_Compare_uint64 a b = some (if a < b then -1 else if b < a then 1 else 0) := by
 unfold cmp_Compare_uint64 cmp_isNaN_uint64
 simp only [bne_self_eq_false, Option.bind_some, cond_false]
 by_cases h : a < b
 ·rw [decide_eq_true h, if_pos h]; rfl
 ·rw [decide_eq_false h, if_neg h]
  by_cases h2 : b < a
  ·rw [decide_eq_true h2, if_pos h2]; rfl
  ·rw [decide_eq_false h2, if_neg h2]; rfl
theorem len2 : math_bits_Len 2 = some 2 := by kernel_rfl
theorem sort2 (s0 m0 s1 m1 : Int) : apportion_ranking_sort (⟨()⟩ : Tapportion_ranking) [⟨0, s0, m0⟩, ⟨1, s1, m1⟩] = some (if m0 < m1 then [⟨1, s1, m1⟩, ⟨0, s0, m0⟩] else [⟨0, s0, m0⟩, ⟨1, s1, m1⟩]) := by
 have hby : apportion_ranking_sort_1 ⟨1, s1, m1⟩ ⟨0, s0, m0⟩ (⟨()⟩ : Tapportion_ranking) = some (if m0 < m1 then -1 else 1) := by
  unfold apportion_ranking_sort_1 apportion_byRest
  rw [cmpU, cmpI]
  dsimp only
  by_cases h : m0 < m1
  ·rw [if_pos h, if_pos h]; rfl
  ·rw [if_neg h, if_neg h]
   by_cases h2 : m1 < m0
   ·rw [if_pos h2]; rfl
   ·rw [if_neg h2]; rfl
 unfold apportion_ranking_sort slices_SortFunc_apportion_portion_apportion_portion
 rw [show IntKind.u64.wrap ((([(⟨0, s0, m0⟩ : Tapportion_portion), ⟨1, s1, m1⟩] : List Tapportion_portion).length : Nat) : Int) = 2 from rfl, bnd len2]
 have hins : slices_insertionSortCmpFunc_apportion_portion [⟨0, s0, m0⟩, ⟨1, s1, m1⟩] 0 2 (fun y2 y3 => apportion_ranking_sort_1 y2 y3 (⟨()⟩ : Tapportion_ranking)) = some (if m0 < m1 then [⟨1, s1, m1⟩, ⟨0, s0, m0⟩] else [⟨0, s0, m0⟩, ⟨1, s1, m1⟩]) := by
  unfold slices_insertionSortCmpFunc_apportion_portion
  rw [fuel9]
  refine (lfb_step (if m0 < m1 then [⟨1, s1, m1⟩, ⟨0, s0, m0⟩] else [⟨0, s0, m0⟩, ⟨1, s1, m1⟩], 2) ?_).trans ((lfb_done _ ?_).trans rfl)
  ·show Option.bind (loopF _ _ (([⟨0, s0, m0⟩, ⟨1, s1, m1⟩] : List Tapportion_portion), (1 : Int))) _ = _
   by_cases h : m0 < m1
   ·rw [if_pos h] at hby ⊢
    refine (lfb_step ([⟨1, s1, m1⟩, ⟨0, s0, m0⟩], 0) ?_).trans ((lfb_done [⟨1, s1, m1⟩, ⟨0, s0, m0⟩] ?_).trans rfl)
    ·show Option.bind (gd true (apportion_ranking_sort_1 ⟨1, s1, m1⟩ ⟨0, s0, m0⟩ (⟨()⟩ : Tapportion_ranking))) _ = _
     rw [hby]; rfl
    ·rfl
   ·rw [if_neg h] at hby ⊢
    refine (lfb_done [⟨0, s0, m0⟩, ⟨1, s1, m1⟩] ?_).trans rfl
    show Option.bind (gd true (apportion_ranking_sort_1 ⟨1, s1, m1⟩ ⟨0, s0, m0⟩ (⟨()⟩ : Tapportion_ranking))) _ = _
    rw [hby]; rfl
  ·rfl
 have hpdq : slices_pdqsortCmpFunc_apportion_portion [⟨0, s0, m0⟩, ⟨1, s1, m1⟩] 0 2 2 (fun y2 y3 => apportion_ranking_sort_1 y2 y3 (⟨()⟩ : Tapportion_ranking)) = some (if m0 < m1 then [⟨1, s1, m1⟩, ⟨0, s0, m0⟩] else [⟨0, s0, m0⟩, ⟨1, s1, m1⟩]) := by
  unfold slices_pdqsortCmpFunc_apportion_portion
  rw [fuel9]
  refine (lfb_done (.inr (if m0 < m1 then [⟨1, s1, m1⟩, ⟨0, s0, m0⟩] else [⟨0, s0, m0⟩, ⟨1, s1, m1⟩])) ?_).trans rfl
  rw [show decide (IntKind.i64.wrap ((2 : Int) - 0) ≤ 12) = true from rfl, hins]; rfl
 show Option.bind (Option.bind (slices_pdqsortCmpFunc_apportion_portion [⟨0, s0, m0⟩, ⟨1, s1, m1⟩] 0 2 2 _) _) _ = _
 rw [hpdq]; rfl
section
variable {t g r : Int} (h : ShareOK t g r)
include h
theorem share_prog : apportion_Share t [g, r] = some ([(share2 t g r).1, (share2 t g r).2], 0) := by
 obtain ⟨a0, a1, b0, b1, c0, c1, d0, d1, l01⟩ := shareFacts h
 have md1 := muldiv2 h h.g0 h.g1 a1
 have md2 := muldiv2 h h.r0 h.r1 b1
 have hc := check2 h
 have hsum := sum2 h
 obtain ⟨t0, t1, g0, g1, r0, r1, s1⟩ := h
 have mm1 := exact_mulmod (a := t) (b := g) (c := g + r) ⟨by omega, by omega⟩ ⟨by omega, by omega⟩ ⟨by omega, by omega⟩ s1
 have mm2 := exact_mulmod (a := t) (b := r) (c := g + r) ⟨by omega, by omega⟩ ⟨by omega, by omega⟩ ⟨by omega, by omega⟩ s1
 unfold apportion_Share
 rw [bnd hc]
 simp only [bne_self_eq_false, cond_false]
 rw [bnd hsum]
 have hz : (g + r == 0) = false := by simp; omega
 rw [hz]
 simp only [cond_false, Option.bind_some]
 rw [bnd (show mk 24 (⟨(0 : Int), (0 : Int), (0 : Int)⟩ : Tapportion_portion) (([g, r] : List Int).length : Int) = some [⟨0, 0, 0⟩, ⟨0, 0, 0⟩] from rfl), fuel9]
 have ws : IntKind.u64.wrap (g + r) = g + r := wu_id ⟨by omega, by omega⟩
 have wt : IntKind.u64.wrap t = t := wu_id ⟨by omega, by omega⟩
 have wg : IntKind.u64.wrap g = g := wu_id ⟨by omega, by omega⟩
 have wr : IntKind.u64.wrap r = r := wu_id ⟨by omega, by omega⟩
 have i1 : IntKind.i64.wrap (t * g / (g + r)) = t * g / (g + r) := i64s (by omega) (by omega)
 have i2 : IntKind.i64.wrap (t * r / (g + r)) = t * r / (g + r) := i64s (by omega) (by omega)
 have i3 : IntKind.i64.wrap (t - t * g / (g + r)) = t - t * g / (g + r) := i64s (by omega) (by omega)
 have i4 : IntKind.i64.wrap (t - t * g / (g + r) - t * r / (g + r)) = shLeft t g r := i64s (by omega) (by omega)
 refine (lfb_step (t - t * g / (g + r), [⟨0, t * g / (g + r), t * g % (g + r)⟩, ⟨0, 0, 0⟩], 1) ?_).trans ((lfb_step (shLeft t g r, [⟨0, t * g / (g + r), t * g % (g + r)⟩, ⟨1, t * r / (g + r), t * r % (g + r)⟩], 2) ?_).trans ((lfb_done (shLeft t g r, [⟨0, t * g / (g + r), t * g % (g + r)⟩, ⟨1, t * r / (g + r), t * r % (g + r)⟩]) ?_).trans ?_))
 ·dsimp only
  rw [show decide ((0 : Int) < (([g, r] : List Int).length : Int)) = true from rfl, ws, wt]
  simp only [cond_true]
  rw [bnd (show idx [g, r] 0 = some g from rfl), wg, bnd md1, bnd mm1]
  dsimp only [lb]
  rw [i1, i3]; rfl
 ·dsimp only
  rw [show decide ((1 : Int) < (([g, r] : List Int).length : Int)) = true from rfl, ws, wt]
  simp only [cond_true]
  rw [bnd (show idx [g, r] 1 = some r from rfl), wr, bnd md2, bnd mm2]
  dsimp only [lb]
  rw [i2, i4]; rfl
 ·rfl
 dsimp only
 rw [bnd (sort2 _ _ _ _), bnd (show mk 8 (0 : Int) (([g, r] : List Int).length : Int) = some [0, 0] from rfl)]
 have w1 : IntKind.i64.wrap (t * g / (g + r) + 1) = t * g / (g + r) + 1 := i64s (by omega) (by omega)
 have w2 : IntKind.i64.wrap (t * r / (g + r) + 1) = t * r / (g + r) + 1 := i64s (by omega) (by omega)
 unfold share2
 generalize t * g / (g + r) = x0 at *
 generalize t * r / (g + r) = x1 at *
 generalize t * g % (g + r) = m0 at *
 generalize t * r % (g + r) = m1 at *
 rcases l01 with l | l <;> rw [l] <;> by_cases hm : m0 < m1
 ·simp only [if_pos hm]
  refine (lfb_step ([0, x1], 1) ?_).trans ((lfb_step ([x0, x1], 2) ?_).trans ((lfb_done [x0, x1] ?_).trans rfl))
  ·show some (Sum.inl ([0, IntKind.i64.wrap x1], 1)) = _; rw [i2]
  ·show some (Sum.inl ([IntKind.i64.wrap x0, x1], 2)) = _; rw [i1]
  ·rfl
 ·simp only [if_neg hm]
  refine (lfb_step ([x0, 0], 1) ?_).trans ((lfb_step ([x0, x1], 2) ?_).trans ((lfb_done [x0, x1] ?_).trans rfl))
  ·show some (Sum.inl ([IntKind.i64.wrap x0, 0], 1)) = _; rw [i1]
  ·show some (Sum.inl ([x0, IntKind.i64.wrap x1], 2)) = _; rw [i2]
  ·rfl
 ·simp only [if_pos hm]
  refine (lfb_step ([0, x1 + 1], 1) ?_).trans ((lfb_step ([x0, x1 + 1], 2) ?_).trans ((lfb_done [x0, x1 + 1] ?_).trans rfl))
  ·show some (Sum.inl ([0, IntKind.i64.wrap (IntKind.i64.wrap x1 + 1)], 1)) = _; rw [i2, w2]
  ·show some (Sum.inl ([IntKind.i64.wrap x0, x1 + 1], 2)) = _; rw [i1]
  ·rfl
 ·simp only [if_neg hm]
  refine (lfb_step ([x0 + 1, 0], 1) ?_).trans ((lfb_step ([x0 + 1, x1], 2) ?_).trans ((lfb_done [x0 + 1, x1] ?_).trans rfl))
  ·show some (Sum.inl ([IntKind.i64.wrap (IntKind.i64.wrap x0 + 1), 0], 1)) = _; rw [i1, w1]
  ·show some (Sum.inl ([x0 + 1, IntKind.i64.wrap x1], 2)) = _; rw [i2]
  ·rfl
end
end SX
end Go.Proofs.YtfcecieppoljlaaGreatDoor
set_option maxRecDepth 100000
namespace Go.Proofs.YtfcecieppoljlaaGreatDoor
namespace SX
open Go
section
variable {t g r : Int} (h : ShareOK t g r)
include h
theorem share_ref : ref02_Share t [g, r] = some ([(share2 t g r).1, (share2 t g r).2], 0) := by
 obtain ⟨a0, a1, b0, b1, c0, c1, d0, d1, l01⟩ := shareFacts h
 obtain ⟨z1, q1, u1, u2, u3⟩ := refmd2 h h.g0 h.g1 a1
 obtain ⟨z2, q2, v1, v2, v3⟩ := refmd2 h h.r0 h.r1 b1
 obtain ⟨t0, t1, g0, g1, r0, r1, s1⟩ := h
 unfold ref02_Share
 rw [show decide ((1000 : Int) < (([g, r] : List Int).length : Int)) = false from rfl, show ((decide (t < 0)) || (decide (1000000000000 < t))) = false by simp; omega, fuel9]
 simp only [cond_false]
 refine (lfb_step (false, 1) ?_).trans ((lfb_step (false, 2) ?_).trans ((lfb_done false ?_).trans ?_))
 ·dsimp only
  rw [show decide ((0 : Int) < (([g, r] : List Int).length : Int)) = true from rfl]
  simp only [cond_true]
  rw [bnd (show gd (!false) (idx [g, r] 0) = some g from rfl), decide_eq_false (show ¬ g < 0 by omega), bnd (show gd (!(false || false)) (idx [g, r] 0) = some g from rfl), decide_eq_false (show ¬ 1000000000000 < g by omega)]; rfl
 ·dsimp only
  rw [show decide ((1 : Int) < (([g, r] : List Int).length : Int)) = true from rfl]
  simp only [cond_true]
  rw [bnd (show gd (!false) (idx [g, r] 1) = some r from rfl), decide_eq_false (show ¬ r < 0 by omega), bnd (show gd (!(false || false)) (idx [g, r] 1) = some r from rfl), decide_eq_false (show ¬ 1000000000000 < r by omega)]; rfl
 ·rfl
 rw [show ((([g, r] : List Int).length : Int) == 0) = false from rfl, Bool.false_and, cond_false, cond_false]
 refine (lfb_step (g, 1) ?_).trans ((lfb_step (g + r, 2) ?_).trans ((lfb_done (g + r) ?_).trans ?_))
 ·dsimp only
  rw [show decide ((0 : Int) < (([g, r] : List Int).length : Int)) = true from rfl, bnd (show idx [g, r] 0 = some g from rfl), i64s (by omega) (by omega), Int.zero_add]; rfl
 ·dsimp only
  rw [show decide ((1 : Int) < (([g, r] : List Int).length : Int)) = true from rfl, bnd (show idx [g, r] 1 = some r from rfl), i64s (by omega) (by omega)]; rfl
 ·rfl
 rw [bnd (show mk 8 (0 : Int) (([g, r] : List Int).length : Int) = some [0, 0] from rfl), bnd (show mk 8 (0 : Int) (([g, r] : List Int).length : Int) = some [0, 0] from rfl)]
 have hz : (g + r == 0) = false := by simp; omega
 have hcg : (cond (g + r == 0) (some ((1 : Int), (([g, r] : List Int).length : Int))) (some (g, g + r))) = some (g, g + r) := by rw [hz]; rfl
 have hcr : (cond (g + r == 0) (some ((1 : Int), (([g, r] : List Int).length : Int))) (some (r, g + r))) = some (r, g + r) := by rw [hz]; rfl
 have ws : IntKind.u64.wrap (g + r) = g + r := wu_id ⟨by omega, by omega⟩
 have wt : IntKind.u64.wrap t = t := wu_id ⟨by omega, by omega⟩
 have wg : IntKind.u64.wrap g = g := wu_id ⟨by omega, by omega⟩
 have wr : IntKind.u64.wrap r = r := wu_id ⟨by omega, by omega⟩
 have i1 : IntKind.i64.wrap (t * g / (g + r)) = t * g / (g + r) := i64s (by omega) (by omega)
 have i2 : IntKind.i64.wrap (t * r / (g + r)) = t * r / (g + r) := i64s (by omega) (by omega)
 have i3 : IntKind.i64.wrap (t - t * g / (g + r)) = t - t * g / (g + r) := i64s (by omega) (by omega)
 have i4 : IntKind.i64.wrap (t - t * g / (g + r) - t * r / (g + r)) = shLeft t g r := i64s (by omega) (by omega)
 have i5 : IntKind.i64.wrap (t * g % (g + r)) = t * g % (g + r) := i64s (by omega) (by omega)
 have i6 : IntKind.i64.wrap (t * r % (g + r)) = t * r % (g + r) := i64s (by omega) (by omega)
 refine (lfb_step ([t * g / (g + r), 0], [t * g % (g + r), 0], t - t * g / (g + r), 1) ?_).trans ((lfb_step ([t * g / (g + r), t * r / (g + r)], [t * g % (g + r), t * r % (g + r)], shLeft t g r, 2) ?_).trans ((lfb_done ([t * g / (g + r), t * r / (g + r)], [t * g % (g + r), t * r % (g + r)], shLeft t g r) ?_).trans ?_))
 ·dsimp only
  rw [show decide ((0 : Int) < (([g, r] : List Int).length : Int)) = true from rfl, wt, cond_true]
  rw [bnd (show idx [g, r] 0 = some g from rfl), bnd hcg]
  dsimp only
  rw [ws, wg, bnd u1, bnd u2, u3]
  dsimp only
  rw [i1, i5]
  show some (Sum.inl ([t * g / (g + r), 0], [t * g % (g + r), 0], IntKind.i64.wrap (t - t * g / (g + r)), 1)) = _
  rw [i3]
 ·dsimp only
  rw [show decide ((1 : Int) < (([g, r] : List Int).length : Int)) = true from rfl, wt, cond_true]
  rw [bnd (show idx [g, r] 1 = some r from rfl), bnd hcr]
  dsimp only
  rw [ws, wr, bnd v1, bnd v2, v3]
  dsimp only
  rw [i2, i6]
  show some (Sum.inl ([t * g / (g + r), t * r / (g + r)], [t * g % (g + r), t * r % (g + r)], IntKind.i64.wrap (t - t * g / (g + r) - t * r / (g + r)), 2)) = _
  rw [i4]
 ·rfl
 dsimp only
 have w1 : IntKind.i64.wrap (t * g / (g + r) + 1) = t * g / (g + r) + 1 := i64s (by omega) (by omega)
 have w2 : IntKind.i64.wrap (t * r / (g + r) + 1) = t * r / (g + r) + 1 := i64s (by omega) (by omega)
 unfold share2
 generalize t * g / (g + r) = x0 at *
 generalize t * r / (g + r) = x1 at *
 generalize t * g % (g + r) = m0 at *
 generalize t * r % (g + r) = m1 at *
 rcases l01 with l | l <;> rw [l]
 ·exact (lfb_done [x0, x1] rfl).trans rfl
 ·by_cases hm : m0 < m1
  ·simp only [if_pos hm]
   refine (lfb_step ([x0, x1 + 1], [m0, -1], 0) ?_).trans ((lfb_done [x0, x1 + 1] ?_).trans rfl)
   ·refine (lfb_step (1, 2) ?_).trans ((lfb_done 1 ?_).trans ?_)
    ·show Option.bind (Option.bind (some m1) (fun m76 => Option.bind (some m0) (fun m77 => cond (decide (m77 < m76)) (some 1) (some 0)))) _ = _
     simp only [Option.bind_some]
     rw [decide_eq_true hm]; rfl
    ·rfl
    ·show some (Sum.inl ([x0, IntKind.i64.wrap (x1 + 1)], [m0, -1], 0)) = _
     rw [w2]
   ·rfl
  ·simp only [if_neg hm]
   refine (lfb_step ([x0 + 1, x1], [-1, m1], 0) ?_).trans ((lfb_done [x0 + 1, x1] ?_).trans rfl)
   ·refine (lfb_step (0, 2) ?_).trans ((lfb_done 0 ?_).trans ?_)
    ·show Option.bind (Option.bind (some m1) (fun m76 => Option.bind (some m0) (fun m77 => cond (decide (m77 < m76)) (some 1) (some 0)))) _ = _
     simp only [Option.bind_some]
     rw [decide_eq_false hm]; rfl
    ·rfl
    ·show some (Sum.inl ([IntKind.i64.wrap (x0 + 1), x1], [-1, m1], 0)) = _
     rw [w1]
   ·rfl
end
end SX
end Go.Proofs.YtfcecieppoljlaaGreatDoor
set_option maxRecDepth 100000
namespace Go.Proofs.YtfcecieppoljlaaGreatDoor
namespace SX
open Go
theorem idx_nat {α : Type} {xs : List α} {k : Nat} (h : k < xs.length) : idx xs (k : Int) = some xs[k] := by
 unfold idx; rw [if_pos (by omega)]; simp [h]
theorem gd_tt {α : Type} [Inhabited α] {x : Option α} : gd true x = x := rfl
theorem gd_ff {α : Type} [Inhabited α] {x : Option α} : gd false x = some default := rfl
theorem ix0 {α : Type} {a b : α} : idx [a, b] 0 = some a := rfl
theorem ix1 {α : Type} {a b : α} : idx [a, b] 1 = some b := rfl
theorem cond_ex {α : Type} (c : Bool) (x y : α) : ∃ r, cond c (some x) (some y) = some r ∧ cond c (some x) (some y) = some r := by cases c <;> exact ⟨_, rfl, rfl⟩
theorem cap_eq (c : Int) : production_isCapital c = some (decide (65 ≤ c) && decide (c ≤ 90)) := rfl
def ctry (s : ByteArray) : Bool := match s.data.toList with | [a, b] => decide (65 ≤ (a.toNat : Int)) && decide ((a.toNat : Int) ≤ 90) && decide (65 ≤ (b.toNat : Int)) && decide ((b.toNat : Int) ≤ 90) | _ => false
theorem size_two {s : ByteArray} (h : ((s.size : Int) == 2) = true) : ∃ a b, s.data.toList = [a, b] := by
 have h2 : s.data.toList.length = 2 := by
  have := eq_of_beq h
  rw [Array.length_toList]; have e : s.size = s.data.size := rfl; omega
 match hd : s.data.toList, h2 with
 | [a, b], _ => exact ⟨a, b, rfl⟩
theorem not_two {s : ByteArray} (h : ((s.size : Int) == 2) = false) : ctry s = false := by
 unfold ctry
 split
 ·rename_i a b hd
  have e : s.size = s.data.toList.length := by rw [Array.length_toList]; rfl
  rw [hd] at e
  have e2 : (s.size : Int) = 2 := by rw [e]; rfl
  rw [e2] at h; cases h
 ·rfl
theorem valid_country (s : ByteArray) : production_ValidCountry s = some (ctry s) := by
 unfold production_ValidCountry
 cases h : ((s.size : Int) == 2)
 ·rw [not_two h]; rfl
 ·obtain ⟨a, b, hd⟩ := size_two h
  simp only [Bool.true_and, gd_tt, cap_eq]
  rw [hd]
  simp only [ctry, hd]
  rw [bnd ix0]
  simp only [Option.bind_some]
  cases h1 : (decide (65 ≤ (a.toNat : Int)) && decide ((a.toNat : Int) ≤ 90))
  ·rfl
  ·simp only [gd_tt, Bool.true_and]; rw [bnd ix1]; rfl
theorem ref_country (s : ByteArray) : ref06_Country s = some (ctry s) := by
 unfold ref06_Country
 cases h : ((s.size : Int) == 2)
 ·rw [not_two h]; rfl
 ·obtain ⟨a, b, hd⟩ := size_two h
  simp only [Bool.true_and, gd_tt]
  rw [hd]
  simp only [ctry, hd]
  rw [bnd ix0]
  cases h1 : decide (65 ≤ (a.toNat : Int))
  ·rfl
  ·simp only [gd_tt, Bool.true_and]; rw [bnd ix0]
   cases h2 : decide ((a.toNat : Int) ≤ 90)
   ·rfl
   ·simp only [gd_tt, Bool.true_and]; rw [bnd ix1]
    cases h3 : decide (65 ≤ (b.toNat : Int))
    ·rfl
    ·simp only [gd_tt, Bool.true_and]; rw [bnd ix1]
theorem ref_level (s : ByteArray) (hs : s.size ≤ 140737488355328) : ref08_Level s = some (level s) := by
 have hz : s.size = s.data.toList.length := by rw [Array.length_toList]; rfl
 unfold ref08_Level
 obtain ⟨t, h5, h6⟩ := loopF_run (body := fun v1 => cond (decide (v1 < (s.size : Int))) (Option.bind (idx s.data.toList v1) (fun c5 => Option.bind (gd (!(decide ((c5.toNat : Int) < 48))) (idx s.data.toList v1)) (fun c6 => cond ((decide ((c5.toNat : Int) < 48)) || (decide (57 < (c6.toNat : Int)))) (some (.inr (.inr 0))) (some (.inl (IntKind.i64.wrap (v1 + 1))))))) (some (.inr (.inl ()))))
  (fun v : Int => 0 ≤ v ∧ v ≤ s.size ∧ ∀ j, (h : j < s.data.toList.length) → (j : Int) < v → isDig (s.data.toList[j]).toNat = true) (fun v => (s.size : Int).toNat - v.toNat) (fun t : Unit ⊕ Int => (t = .inl () ∧ allDig s = true) ∨ (t = .inr 0 ∧ allDig s = false))
  (fun v hv => by
   obtain ⟨a1, a2, a3⟩ := hv
   by_cases hl : v < (s.size : Int)
   ·rw [decide_eq_true hl]; simp only [cond_true]
    obtain ⟨k, rfl⟩ : ∃ k : Nat, v = (k : Int) := ⟨v.toNat, by omega⟩
    have hk : k < s.data.toList.length := by omega
    rw [bnd (idx_nat hk)]
    by_cases hd : isDig (s.data.toList[k]).toNat = true
    ·left
     have hd2 := hd
     simp only [isDig, decide_eq_true_eq] at hd2
     rw [decide_eq_false (show ¬ ((s.data.toList[k].toNat : Nat) : Int) < 48 by omega)]
     simp only [Bool.not_false, gd_tt, Bool.false_or]
     rw [bnd (idx_nat hk), decide_eq_false (show ¬ 57 < ((s.data.toList[k].toNat : Nat) : Int) by omega)]
     simp only [cond_false]
     rw [i64s (by omega) (by omega)]
     refine ⟨_, rfl, ⟨by omega, by omega, fun j h1 h2 => ?_⟩, by omega⟩
     by_cases hj : j = k
     ·subst hj; exact hd
     ·exact a3 j h1 (by omega)
    ·right
     refine ⟨.inr 0, ?_, .inr ⟨rfl, ?_⟩⟩
     ·have hd2 := hd
      simp only [isDig, decide_eq_true_eq] at hd2
      by_cases h48 : ((s.data.toList[k].toNat : Nat) : Int) < 48
      ·rw [decide_eq_true h48]; rfl
      ·rw [decide_eq_false h48]
       simp only [Bool.not_false, gd_tt, Bool.false_or]
       rw [bnd (idx_nat hk), decide_eq_true (show 57 < ((s.data.toList[k].toNat : Nat) : Int) by omega)]; rfl
     ·cases ha : allDig s
      ·rfl
      ·exfalso; apply hd
       unfold allDig bl at ha
       exact List.all_eq_true.1 ha _ (List.getElem_mem hk)
   ·right
    rw [decide_eq_false hl]
    refine ⟨.inl (), rfl, .inl ⟨rfl, ?_⟩⟩
    unfold allDig bl
    rw [List.all_eq_true]
    intro c hc
    obtain ⟨j, hj, rfl⟩ := List.getElem_of_mem hc
    exact a3 j hj (by omega))
  FUEL 0 ⟨by omega, by omega, fun j _ h => by omega⟩ (fuel_big (by omega))
 rw [bnd h5]
 unfold level
 rcases h6 with ⟨rfl, h⟩ | ⟨rfl, h⟩
 ·simp only [h, and_true]
  by_cases h8 : (8 : Int) < (s.size : Int)
  ·rw [decide_eq_true h8, if_neg (by omega)]; rfl
  ·rw [decide_eq_false h8]
   simp only [Bool.false_or]
   have e : Int.tmod (s.size : Int) 2 = (s.size : Int) % 2 := Int.tmod_eq_emod_of_nonneg (by omega)
   rw [e]
   by_cases hp : (s.size : Int) % 2 = 1
   ·rw [hp, if_neg (by omega)]; rfl
   ·have : ((s.size : Int) % 2 == 1) = false := by simpa using hp
    rw [this]
    by_cases h0 : s.size = 0
    ·rw [if_neg (by omega), h0]; rfl
    ·rw [if_pos (by omega)]; rfl
 ·simp [h]
theorem valid_eq (m : TItem) (h : m.Code.size ≤ 140737488355328) : ∃ r, assess_Validate m = some r ∧ ref19_Item m = some r := by
 have e1 : nomenclature_Level m.Code = some (level m.Code) := rfl
 have e : assess_Validate m = ref19_Item m := by
  unfold assess_Validate ref19_Item
  rw [e1, ref_level _ h, valid_country, ref_country]
 rw [e]
 unfold ref19_Item
 rw [bnd (ref_level _ h)]
 have : ∃ b, gd (!(level m.Code != 8)) (ref06_Country m.Origin) = some b := by rw [ref_country]; cases (!(level m.Code != 8)) <;> exact ⟨_, rfl⟩
 obtain ⟨b, hb⟩ := this
 rw [bnd hb]
 cases ((level m.Code != 8) || (!b))
 ·simp only [cond_false]
  exact cond_ex _ _ _
 ·exact ⟨_, rfl, rfl⟩
structure Good (m : TItem) : Prop where
 code : ∃ l, m.Code = strOfNums l ∧ l.length = 8 ∧ Digs l
 orig : ctry m.Origin = true
 comp : 0 ≤ m.Company ∧ m.Company ≤ 999
 day : 0 ≤ m.Day ∧ m.Day ≤ 36524
 quant : 0 ≤ m.Quantity ∧ m.Quantity ≤ 1000000000
 value : 0 ≤ m.Value ∧ m.Value ≤ 1000000000000
 grant : 0 ≤ m.Granted ∧ m.Granted ≤ m.Quantity
theorem Good.size {m : TItem} (h : Good m) : m.Code.size = 8 := by
 obtain ⟨l, e, h1, _⟩ := h.code
 rw [e]; simp [strOfNums, ByteArray.size, h1]
theorem Good.valid {m : TItem} (h : Good m) : assess_Validate m = some 0 := by
 have e1 : nomenclature_Level m.Code = some 8 := by
  obtain ⟨l, e, h1, h2⟩ := h.code
  rw [e]; show some (level _) = _; rw [lvl_eight h1 h2]
 have := h.comp; have := h.day; have := h.quant; have := h.value; have := h.grant
 unfold assess_Validate
 rw [bnd e1, valid_country, h.orig]
 simp only [bne_self_eq_false, Bool.not_false, gd_tt, Option.bind_some, Bool.not_true, Bool.or_self, cond_false]
 rw [decide_eq_false (by omega), decide_eq_false (by omega), decide_eq_false (by omega), decide_eq_false (by omega), decide_eq_false (by omega), decide_eq_false (by omega), decide_eq_false (by omega), decide_eq_false (by omega), decide_eq_false (by omega), decide_eq_false (by omega)]
 rfl
theorem country_ok {k : Int} (h1 : 0 ≤ k) (h2 : k < 6) {l : List ByteArray} (hl : made_Countries = some l) : ∃ s, idx l k = some s ∧ ctry s = true := by
 have hl := Option.some.inj hl; subst hl
 obtain ⟨n, rfl⟩ : ∃ n : Nat, k = (n : Int) := ⟨k.toNat, by omega⟩
 match n, (show n < 6 by omega) with
 | 0, _ => exact ⟨_, rfl, rfl⟩
 | 1, _ => exact ⟨_, rfl, rfl⟩
 | 2, _ => exact ⟨_, rfl, rfl⟩
 | 3, _ => exact ⟨_, rfl, rfl⟩
 | 4, _ => exact ⟨_, rfl, rfl⟩
 | 5, _ => exact ⟨_, rfl, rfl⟩
theorem item_ok (l : List Int) : ∃ m, made_Item l = some m ∧ Good m := by
 unfold made_Item
 obtain ⟨c, hc, hc2⟩ := cut_ok l 20 (by omega) (by omega)
 rw [bnd hc]
 obtain ⟨cd, q, h1, h2, h3, hq⟩ := code_ok (p := ⟨c, 0⟩) ⟨by simp, by simp, by simp only; omega⟩
 obtain ⟨cl, hcl⟩ : ∃ cl, made_Countries = some cl := ⟨_, rfl⟩
 rw [bnd h1, bnd hcl]
 simp only
 obtain ⟨x6, q6, g6, a6, b6, s6⟩ := next_ok hq 4 (by omega) (by omega)
 rw [bnd g6]; simp only
 obtain ⟨s, hs, hs2⟩ := country_ok a6 (by omega) hcl
 rw [bnd hs]
 obtain ⟨x8, q8, g8, a8, b8, s8⟩ := next_ok s6 2 (by omega) (by omega)
 rw [bnd g8]; simp only
 obtain ⟨x9, q9, g9, a9, b9, s9⟩ := next_ok s8 3 (by omega) (by omega)
 rw [bnd g9]; simp only
 obtain ⟨x10, q10, g10, a10, b10, s10⟩ := next_ok s9 41 (by omega) (by omega)
 rw [bnd g10]; simp only
 obtain ⟨x11, q11, g11, a11, b11, s11⟩ := next_ok s10 1000 (by omega) (by omega)
 rw [bnd g11]; simp only
 obtain ⟨x12, q12, g12, a12, b12, s12⟩ := next_ok s11 1000000 (by omega) (by omega)
 rw [bnd g12]; simp only
 obtain ⟨x14, q14, g14, a14, b14, s14⟩ := next_ok s12 6 (by omega) (by omega)
 rw [bnd g14]; simp only
 have hb : ∃ u v l' i, cond (x14 == 1) (Option.bind (made_Source_Next q14 1000000001) (fun x21 => Option.bind (made_Source_Next x21.2 1000000000001) (fun x22 => some (x21.1, x22.1, x22.2.L, x22.2.I)))) (some (x11, x12, q14.L, q14.I)) = some (u, v, l', i) ∧ SOK ⟨l', i⟩ ∧ 0 ≤ u ∧ u ≤ 1000000000 ∧ 0 ≤ v ∧ v ≤ 1000000000000 := by
  cases (x14 == 1)
  ·exact ⟨_, _, _, _, rfl, s14, by omega, by omega, by omega, by omega⟩
  ·obtain ⟨y1, r1, e1, c1, d1, t1⟩ := next_ok s14 1000000001 (by omega) (by omega)
   obtain ⟨y2, r2, e2, c2, d2, t2⟩ := next_ok t1 1000000000001 (by omega) (by omega)
   simp only [cond_true]
   rw [bnd e1]; simp only
   rw [bnd e2]
   exact ⟨_, _, _, _, rfl, t2, by omega, by omega, by omega, by omega⟩
 obtain ⟨u, v, l', i, hb1, hb2, hb3, hb4, hb5, hb6⟩ := hb
 rw [bnd hb1]; simp only
 obtain ⟨x23, q23, g23, a23, b23, s23⟩ := next_ok hb2 6 (by omega) (by omega)
 rw [bnd g23]; simp only
 have hw : ∃ w, cond (x23 == 1) (some 0) (some u) = some w ∧ 0 ≤ w ∧ w ≤ 1000000000 := by
  cases (x23 == 1)
  ·exact ⟨_, rfl, hb3, hb4⟩
  ·exact ⟨_, rfl, by omega, by omega⟩
 obtain ⟨w, hw1, hw2, hw3⟩ := hw
 rw [bnd hw1]
 obtain ⟨x27, q27, g27, a27, b27, s27⟩ := next_ok s23 2 (by omega) (by omega)
 rw [bnd g27]; simp only
 have hz : ∃ z, cond (x27 == 1) (Option.bind (made_Source_Next q27 (IntKind.i64.wrap (w + 1))) (fun x31 => some x31.1)) (some 0) = some z ∧ 0 ≤ z ∧ z ≤ w := by
  cases (x27 == 1)
  ·exact ⟨_, rfl, by omega, by omega⟩
  ·rw [i64s (by omega) (by omega)]
   obtain ⟨y1, r1, e1, c1, d1, t1⟩ := next_ok s27 (w + 1) (by omega) (by omega)
   simp only [cond_true]
   rw [bnd e1]
   exact ⟨_, rfl, by simp only; omega, by simp only; omega⟩
 obtain ⟨z, hz1, hz2, hz3⟩ := hz
 rw [bnd hz1]
 exact ⟨_, rfl, ⟨⟨cd, rfl, h2, h3⟩, hs2, ⟨a9, by simp only; omega⟩, ⟨a10, by simp only; omega⟩, ⟨hw2, hw3⟩, ⟨hb5, hb6⟩, ⟨hz2, hz3⟩⟩⟩
theorem awake_ok : law20_awake = some true := by kernel_rfl
end SX
end Go.Proofs.YtfcecieppoljlaaGreatDoor
set_option maxRecDepth 100000
namespace Go.Proofs.YtfcecieppoljlaaGreatDoor
namespace SX
open Go
def bindR {A B R : Type} (p : A ⊕ R) (g : A → B ⊕ R) : B ⊕ R := match p with | .inl a => g a | .inr r => .inr r
def run {α A R : Type} (f : Nat → α → A → A ⊕ R) : List α → Nat → A → A ⊕ R
 | [], _, a => .inl a
 | x :: xs, k, a => bindR (f k x a) (fun a' => run f xs (k + 1) a')
theorem run_cons {α A R : Type} (f : Nat → α → A → A ⊕ R) (x : α) (xs : List α) (k : Nat) (a : A) : run f (x :: xs) k a = bindR (f k x a) (run f xs (k + 1)) := rfl
def outc {S T A R : Type} (g : A → S) (e : R → T) : A ⊕ R → S ⊕ T
 | .inl a => .inl (g a)
 | .inr r => .inr (e r)
def outf {T A R : Type} (g : A → T) (e : R → T) : A ⊕ R → T
 | .inl a => g a
 | .inr r => e r
theorem loop_run {S T α A R : Type} {l : List α} (hl : l.length ≤ 4611686018427387904) {body : S → Option (S ⊕ T)} (pack : Int → A → S) (f : Nat → α → A → A ⊕ R) (fin : A → T) (exit : R → T) (P : Nat → A → Prop)
    (hstep : ∀ (k : Nat) (hk : k < l.length) (a : A), P k a → body (pack (k : Int) a) = some (outc (pack ((k + 1 : Nat) : Int)) exit (f k l[k] a)) ∧ ∀ a', f k l[k] a = .inl a' → P (k + 1) a')
    (hend : ∀ a, P l.length a → body (pack (l.length : Int) a) = some (.inr (fin a))) (a : A) (h0 : P 0 a) : loopF body FUEL (pack 0 a) = some (outf fin exit (run f l 0 a)) ∧ ∀ a', run f l 0 a = .inl a' → P l.length a' := by
  have main : ∀ (xs : List α) (k N : Nat) (a : A), l.drop k = xs → k ≤ l.length → P k a → xs.length < N → loopF body N (pack (k : Int) a) = some (outf fin exit (run f xs k a)) ∧ ∀ a', run f xs k a = .inl a' → P l.length a' := by
    intro xs
    induction xs with
    | nil =>
      intro k N a hd hk hp hN
      have : k = l.length := by
        have := congrArg List.length hd; simp at this; omega
      subst this
      obtain ⟨N, rfl⟩ : ∃ M, N = M + 1 := ⟨N - 1, by omega⟩
      rw [loopF_succ, hend a hp]
      exact ⟨rfl, fun a' h => by injection h with h; exact h ▸ hp⟩
    | cons x xs ih =>
      intro k N a hd hk hp hN
      have hk' : k < l.length := by
        have := congrArg List.length hd; simp at this; omega
      have hx : l[k] = x ∧ l.drop (k + 1) = xs := by
        rw [List.drop_eq_getElem_cons hk'] at hd; injection hd with h1 h2; exact ⟨h1, h2⟩
      obtain ⟨N, rfl⟩ : ∃ M, N = M + 1 := ⟨N - 1, by omega⟩
      obtain ⟨e1, e2⟩ := hstep k hk' a hp
      rw [hx.1] at e1 e2
      rw [loopF_succ, e1]
      rw [run_cons]
      cases hf : f k x a with
      | inl a' => exact ih (k + 1) N a' hx.2 (by omega) (e2 a' hf) (by simp at hN; omega)
      | inr r => exact ⟨rfl, fun a' h => by change Sum.inr r = _ at h; cases h⟩
  exact main l 0 FUEL a rfl (by omega) h0 (fuel_big (by omega))
theorem run_inl {α A R : Type} {f : Nat → α → A → A ⊕ R} (Q : α → Prop) (hf : ∀ k x a a', f k x a = .inl a' → Q x) : ∀ (l : List α) (k : Nat) (a a' : A), run f l k a = .inl a' → ∀ x ∈ l, Q x := by
 intro l
 induction l with
 | nil => intro k a a' _ x hx; cases hx
 | cons y ys ih =>
  intro k a a' h x hx
  rw [run_cons] at h
  cases hfy : f k y a with
  | inl b => rw [hfy] at h; cases hx with
   | head => exact hf _ _ _ _ hfy
   | tail _ hx => exact ih _ _ _ h x hx
  | inr r => rw [hfy] at h; change Sum.inr r = _ at h; cases h
theorem u8tri (a b : UInt8) : a < b ∨ a = b ∨ b < a := by
 rcases Nat.lt_trichotomy a.toNat b.toNat with h | h | h
 ·exact .inl h
 ·exact .inr (.inl (UInt8.toNat_inj.1 h))
 ·exact .inr (.inr h)
theorem bytes_tot : ∀ (x y : List UInt8), (Op.bytesLess x y || (x == y)) = !Op.bytesLess y x
 | [], [] => by simp [Op.bytesLess]
 | _ :: _, [] => by simp [Op.bytesLess]
 | [], _ :: _ => by simp [Op.bytesLess]
 | a :: x, b :: y => by
  rw [Op.bytesLess, Op.bytesLess]
  have ih := bytes_tot x y
  rcases u8tri a b with h | h | h
  ·have h1 : ¬ b < a := fun h' => by have : a.toNat < b.toNat := h; have : b.toNat < a.toNat := h'; omega
   have h2 : ¬ b = a := fun h' => by subst h'; have : b.toNat < b.toNat := h; omega
   have h3 : ¬ a = b := fun h' => h2 h'.symm
   simp [h, h1, h2]
  ·subst h
   have h1 : ¬ a < a := fun h' => by have : a.toNat < a.toNat := h'; omega
   simp [h1] at ih ⊢
   rw [← ih]
  ·have h1 : ¬ a < b := fun h' => by have : a.toNat < b.toNat := h'; have : b.toNat < a.toNat := h; omega
   have h3 : ¬ a = b := fun h' => by subst h'; have : a.toNat < a.toNat := h; omega
   simp [h, h1, h3]
theorem str_tot (x y : ByteArray) : (Op.bytesLess x.toList y.toList || decide (x = y)) = !Op.bytesLess y.toList x.toList := by
 rw [← beq_str]; exact bytes_tot _ _
theorem idx_prev {α : Type} {l : List α} {k : Nat} (h : 0 < k) (hk : k < l.length) (hl : l.length ≤ 4611686018427387904) : idx l (IntKind.i64.wrap ((k : Int) - 1)) = some (l[k - 1]'(by omega)) := by
 rw [i64s (by omega) (by omega), show (k : Int) - 1 = ((k - 1 : Nat) : Int) by omega]
 exact idx_nat (by omega)
theorem wnext {k : Nat} {n : Nat} (hk : k < n) (hn : n ≤ 4611686018427387904) : IntKind.i64.wrap ((k : Int) + 1) = ((k + 1 : Nat) : Int) := by rw [i64s (by omega) (by omega)]; omega
theorem dlt {k n : Nat} (h : k < n) : decide ((k : Int) < (n : Int)) = true := by simp; omega
theorem dnlt (n : Nat) : decide ((n : Int) < (n : Int)) = false := by simp
def oBad (l : List ByteArray) (k : Nat) (x : ByteArray) : Bool := !ctry x || (decide (0 < k) && !Op.bytesLess (l.getD (k - 1) x).toList x.toList)
def origs (l : List ByteArray) : Unit ⊕ Unit := run (fun k x _ => if oBad l k x then .inr () else .inl ()) l 0 ()
theorem getD_in {α : Type} {l : List α} {k : Nat} (h : k < l.length) (d : α) : l.getD k d = l[k] := by simp [List.getD, h]
theorem validOrigins (l : List ByteArray) (hl : l.length ≤ 4611686018427387904) : measure_validOrigins l = some (match origs l with | .inl _ => true | .inr _ => false) := by
 unfold measure_validOrigins
 obtain ⟨e, _⟩ := loop_run (T := Unit ⊕ Bool) hl (body := fun v1 => cond (decide (v1 < (l.length : Int))) (Option.bind (idx l v1) (fun m5 => Option.bind (production_ValidCountry m5) (fun x6 => Option.bind (gd ((!(!x6)) && (decide (0 < v1))) (idx l (IntKind.i64.wrap (v1 - 1)))) (fun m7 => cond ((!x6) || ((decide (0 < v1)) && (Op.bytesLess m5.toList m7.toList || decide (m5 = m7)))) (some (.inr (.inr false))) (some (.inl (IntKind.i64.wrap (v1 + 1)))))))) (some (.inr (.inl ()))))
  (fun i (_ : Unit) => i) (fun k x _ => if oBad l k x then .inr () else .inl ()) (fun _ => .inl ()) (fun (_ : Unit) => .inr false) (fun _ _ => True) (by
   intro k hk a _
   refine ⟨?_, fun _ _ => trivial⟩
   try dsimp only
   rw [dlt hk, cond_true, bnd (idx_nat hk), valid_country, wnext hk hl, Option.bind_some]
   unfold oBad
   cases hc : ctry l[k]
   ·rfl
   ·by_cases h0 : 0 < k
    ·rw [decide_eq_true (show (0 : Int) < (k : Int) by omega), decide_eq_true h0]
     simp only [Bool.not_true, Bool.not_false, Bool.true_and, Bool.false_or]
     rw [gd_tt, bnd (idx_prev h0 hk hl), getD_in (by omega), str_tot]
     cases Op.bytesLess (l[k-1]'(by omega)).toList l[k].toList <;> rfl
    ·rw [decide_eq_false (show ¬ (0 : Int) < (k : Int) by omega), decide_eq_false h0]; rfl)
  (by intro a _; (try dsimp only); rw [dnlt]; rfl) () trivial
 rw [bnd e]
 unfold origs
 cases run (fun k x _ => if oBad l k x then Sum.inr () else Sum.inl ()) l 0 () <;> rfl
def hasS (l : List ByteArray) (s : ByteArray) : Bool := l.any fun x => decide (s = x)
theorem hasS_iff (l : List ByteArray) (s : ByteArray) : hasS l s = true ↔ s ∈ l := by
 unfold hasS; simp
theorem index_ok (l : List ByteArray) (s : ByteArray) (hl : l.length ≤ 4611686018427387904) : slices_Contains_string_string l s = some (hasS l s) ∧ ref08_Has l s = some (hasS l s) := by
 have hrun : ∀ (g : Nat → Int) (xs : List ByteArray) (k : Nat), (∃ j, run (fun k x (_ : Unit) => if s = x then Sum.inr (g k) else Sum.inl ()) xs k () = .inr (g j) ∧ s ∈ xs) ∨ (run (fun k x (_ : Unit) => if s = x then Sum.inr (g k) else Sum.inl ()) xs k () = .inl () ∧ s ∉ xs) := by
  intro g xs
  induction xs with
  | nil => intro k; right; exact ⟨rfl, by simp⟩
  | cons y ys ih =>
   intro k
   rw [run_cons]
   by_cases h : s = y
   ·simp only [if_pos h]; left; exact ⟨k, rfl, by simp [h]⟩
   ·simp only [if_neg h]
    rcases ih (k + 1) with ⟨j, h1, h2⟩ | ⟨h1, h2⟩
    ·left; exact ⟨j, h1, by simp [h2]⟩
    ·right; exact ⟨h1, by simp [h, h2]⟩
 constructor
 ·unfold slices_Contains_string_string slices_Index_string_string
  obtain ⟨e, _⟩ := loop_run (T := Unit ⊕ Int) hl (body := fun v1 => cond (decide (v1 < (l.length : Int))) (Option.bind (idx l v1) (fun m5 => cond (decide (s = m5)) (some (.inr (.inr v1))) (some (.inl (IntKind.i64.wrap (v1 + 1)))))) (some (.inr (.inl ()))))
   (fun i (_ : Unit) => i) (fun k x _ => if s = x then .inr (k : Int) else .inl ()) (fun _ => .inl ()) (fun (r : Int) => .inr r) (fun _ _ => True) (by
    intro k hk a _
    refine ⟨?_, fun _ _ => trivial⟩
    try dsimp only
    rw [dlt hk, cond_true, bnd (idx_nat hk), wnext hk hl]
    by_cases h : s = l[k]
    ·rw [decide_eq_true h, if_pos h]; rfl
    ·rw [decide_eq_false h, if_neg h]; rfl)
   (by intro a _; (try dsimp only); rw [dnlt]; rfl) () trivial
  rw [bnd e]
  rcases hrun (fun k => (k : Int)) l 0 with ⟨j, h1, h2⟩ | ⟨h1, h2⟩
  ·rw [h1, (hasS_iff l s).2 h2]
   show some (decide ((0 : Int) ≤ (j : Int))) = _
   rw [decide_eq_true (by omega)]
  ·rw [h1, show hasS l s = false from Bool.eq_false_iff.2 (fun h => h2 ((hasS_iff l s).1 h))]; rfl
 ·unfold ref08_Has
  obtain ⟨e, _⟩ := loop_run (T := Unit ⊕ Bool) hl (body := fun v1 => cond (decide (v1 < (l.length : Int))) (Option.bind (idx l v1) (fun m5 => cond (decide (m5 = s)) (some (.inr (.inr true))) (some (.inl (IntKind.i64.wrap (v1 + 1)))))) (some (.inr (.inl ()))))
   (fun i (_ : Unit) => i) (fun k x _ => if s = x then .inr (k : Int) else .inl ()) (fun _ => .inl ()) (fun (r : Int) => .inr true) (fun _ _ => True) (by
    intro k hk a _
    refine ⟨?_, fun _ _ => trivial⟩
    try dsimp only
    rw [dlt hk, cond_true, bnd (idx_nat hk), wnext hk hl]
    by_cases h : s = l[k]
    ·rw [decide_eq_true h.symm, if_pos h]; rfl
    ·rw [decide_eq_false (fun h' => h h'.symm), if_neg h]; rfl)
   (by intro a _; (try dsimp only); rw [dnlt]; rfl) () trivial
  rw [bnd e]
  rcases hrun (fun k => (k : Int)) l 0 with ⟨j, h1, h2⟩ | ⟨h1, h2⟩
  ·rw [h1, (hasS_iff l s).2 h2]; try rfl
  ·rw [h1, show hasS l s = false from Bool.eq_false_iff.2 (fun h => h2 ((hasS_iff l s).1 h))]; rfl
structure MOK (m : TMeasure) : Prop where
 id0 : 1 ≤ m.ID
 id1 : m.ID ≤ 1000000
 k0 : 1 ≤ m.Kind
 k1 : m.Kind ≤ 6
 c0 : 0 ≤ m.Company
 pre : m.Prefix.size ≤ 8
 orig : m.Origins.length ≤ 20
 reg : -1 ≤ m.Registered
 duty : duty_Validate m.Duty = some 0
def pfx (s p : ByteArray) : Bool := decide ((p.size : Int) ≤ (s.size : Int)) && decide (s.extract 0 p.size = p)
theorem pfx_ok (s p : ByteArray) : ref08_Prefix s p = some (pfx s p) := by
 unfold ref08_Prefix pfx
 by_cases h : (p.size : Int) ≤ (s.size : Int)
 ·rw [decide_eq_true h, gd_tt]
  have e : ssub s 0 (p.size : Int) = some (s.extract 0 p.size) := by unfold ssub; rw [if_pos (by omega)]; rfl
  rw [bnd e]
 ·rw [decide_eq_false h]; rfl
theorem hasPrefix_ok (s p : ByteArray) : strings_HasPrefix s p = some (pfx s p) := by
 unfold strings_HasPrefix
 rw [show stringslite_HasPrefix s p = ref08_Prefix s p from rfl, pfx_ok]; rfl
def cov (m : TMeasure) (code origin : ByteArray) (company day : Int) : Bool := (((((decide (m.From ≤ day)) && (decide (day < m.To))) || (((decide (0 ≤ m.Registered)) && (decide (m.Registered ≤ day))) && (decide (day < m.From)))) && pfx code m.Prefix) && (((m.Origins.length : Int) == 0) || hasS m.Origins origin)) && ((m.Company == 0) || (m.Company == company))
theorem covers_ref (m : TMeasure) (hm : m.Origins.length ≤ 4611686018427387904) (code origin : ByteArray) (company day : Int) : ref19_Covers m code origin company day = some (cov m code origin company day) := by
 unfold ref19_Covers ref19_InForce cov
 rw [Option.bind_some, pfx_ok, (index_ok m.Origins origin hm).2]
 generalize (((decide (m.From ≤ day)) && (decide (day < m.To))) || (((decide (0 ≤ m.Registered)) && (decide (m.Registered ≤ day))) && (decide (day < m.From)))) = a
 generalize pfx code m.Prefix = b
 generalize ((m.Origins.length : Int) == 0) = c
 generalize hasS m.Origins origin = d
 generalize ((m.Company == 0) || (m.Company == company)) = e
 cases a <;> cases b <;> cases c <;> cases d <;> cases e <;> rfl
theorem covers_prog (m : TMeasure) (hm : m.Origins.length ≤ 4611686018427387904) (hr : -1 ≤ m.Registered) (code origin : ByteArray) (company day : Int) : measure_Covers m code origin company day = some (cov m code origin company day) := by
 unfold measure_Covers measure_InForce cov
 have : (m.Registered != (-1)) = decide (0 ≤ m.Registered) := by
  by_cases h : m.Registered = -1
  ·rw [h]; rfl
  ·rw [decide_eq_true (by omega)]; simp [h]
 rw [Option.bind_some, hasPrefix_ok, (index_ok m.Origins origin hm).1, this]
 generalize (((decide (m.From ≤ day)) && (decide (day < m.To))) || (((decide (0 ≤ m.Registered)) && (decide (m.Registered ≤ day))) && (decide (day < m.From)))) = a
 generalize pfx code m.Prefix = b
 generalize ((m.Origins.length : Int) == 0) = c
 generalize hasS m.Origins origin = d
 generalize ((m.Company == 0) || (m.Company == company)) = e
 cases a <;> cases b <;> cases c <;> cases d <;> cases e <;> rfl
def rankN (m : TMeasure) : Int := (((m.Prefix.size : Int) * 2 + (if m.Company = 0 then 0 else 1)) * 100 + 50 - (if m.Origins.length = 0 then 21 else (m.Origins.length : Int))) * 10000000 + m.ID
theorem rank_ok {m : TMeasure} (h : MOK m) : ref19_rank m = some (rankN m) := by
 obtain ⟨a1, a2, a3, a4, a5, a6, a7, a8, a9⟩ := h
 unfold ref19_rank rankN
 have e1 : (cond (decide (0 < (m.Origins.length : Int))) (some (m.Origins.length : Int)) (some 21)) = some (if m.Origins.length = 0 then 21 else (m.Origins.length : Int)) := by
  by_cases h : m.Origins.length = 0
  ·rw [h]; rfl
  ·rw [decide_eq_true (by omega), if_neg h]; rfl
 have e2 : (cond (m.Company != 0) (some (1 : Int)) (some 0)) = some (if m.Company = 0 then 0 else 1) := by
  by_cases h : m.Company = 0
  ·rw [h]; rfl
  ·rw [if_neg h, show (m.Company != 0) = true by simp [h]]; rfl
 rw [bnd e1, bnd e2]
 have b1 : (0 : Int) ≤ (if m.Origins.length = 0 then 21 else (m.Origins.length : Int)) ∧ (if m.Origins.length = 0 then 21 else (m.Origins.length : Int)) ≤ 21 := by split <;> omega
 have b2 : (0 : Int) ≤ (if m.Company = 0 then 0 else 1) ∧ (if m.Company = 0 then (0 : Int) else 1) ≤ 1 := by split <;> omega
 generalize (if m.Origins.length = 0 then 21 else (m.Origins.length : Int)) = n at *
 generalize (if m.Company = 0 then (0 : Int) else 1) = c at *
 unfold lb
 have hz : (m.Prefix.size : Int) ≤ 8 := by omega
 have hz0 : 0 ≤ (m.Prefix.size : Int) := by omega
 generalize (m.Prefix.size : Int) = z at *
 rw [i64s (r := z * 2) (by omega) (by omega), i64s (r := z * 2 + c) (by omega) (by omega), i64s (r := (z * 2 + c) * 100) (by omega) (by omega), i64s (r := (z * 2 + c) * 100 + 50) (by omega) (by omega), i64s (r := (z * 2 + c) * 100 + 50 - n) (by omega) (by omega), i64s (r := ((z * 2 + c) * 100 + 50 - n) * 10000000) (by omega) (by omega), i64s (by omega) (by omega)]
theorem precedes_ok {x y : TMeasure} (hx : MOK x) (hy : MOK y) : measure_precedes x y = some (decide (rankN y < rankN x)) := by
 obtain ⟨a1, a2, a3, a4, a5, a6, a7, a8, a9⟩ := hx
 obtain ⟨b1, b2, b3, b4, b5, b6, b7, b8, b9⟩ := hy
 unfold measure_precedes rankN
 have nx : (x.Origins.length = 0 ∧ (if x.Origins.length = 0 then 21 else (x.Origins.length : Int)) = 21) ∨ (x.Origins.length ≠ 0 ∧ (if x.Origins.length = 0 then 21 else (x.Origins.length : Int)) = (x.Origins.length : Int)) := by split <;> omega
 have ny : (y.Origins.length = 0 ∧ (if y.Origins.length = 0 then 21 else (y.Origins.length : Int)) = 21) ∨ (y.Origins.length ≠ 0 ∧ (if y.Origins.length = 0 then 21 else (y.Origins.length : Int)) = (y.Origins.length : Int)) := by split <;> omega
 have cx : (x.Company = 0 ∧ (if x.Company = 0 then (0 : Int) else 1) = 0) ∨ (x.Company ≠ 0 ∧ (if x.Company = 0 then (0 : Int) else 1) = 1) := by split <;> omega
 have cy : (y.Company = 0 ∧ (if y.Company = 0 then (0 : Int) else 1) = 0) ∨ (y.Company ≠ 0 ∧ (if y.Company = 0 then (0 : Int) else 1) = 1) := by split <;> omega
 generalize (if x.Origins.length = 0 then 21 else (x.Origins.length : Int)) = ox at *
 generalize (if y.Origins.length = 0 then 21 else (y.Origins.length : Int)) = oy at *
 generalize (if x.Company = 0 then (0 : Int) else 1) = px at *
 generalize (if y.Company = 0 then (0 : Int) else 1) = py at *
 have dx : (x.Company != 0) = decide (px = 1) := by
  rw [Bool.eq_iff_iff]; simp only [bne_iff_ne, decide_eq_true_eq]; omega
 have dy : (y.Company != 0) = decide (py = 1) := by
  rw [Bool.eq_iff_iff]; simp only [bne_iff_ne, decide_eq_true_eq]; omega
 rw [dx, dy]
 by_cases h1 : (x.Prefix.size : Int) = (y.Prefix.size : Int)
 ·rw [show ((x.Prefix.size : Int) != (y.Prefix.size : Int)) = false by rw [h1]; simp, cond_false]
  by_cases h2 : px = py
  ·rw [h2, bne_self_eq_false, cond_false]
   by_cases h3 : (x.Origins.length : Int) = (y.Origins.length : Int)
   ·rw [show ((x.Origins.length : Int) != (y.Origins.length : Int)) = false by rw [h3]; simp, cond_false]
    congr 1
    apply decide_eq_decide.2
    omega
   ·rw [show ((x.Origins.length : Int) != (y.Origins.length : Int)) = true from bne_iff_ne.2 h3, cond_true]
    congr 1
    rw [Bool.eq_iff_iff]; simp only [Bool.or_eq_true, Bool.and_eq_true, beq_iff_eq, bne_iff_ne, decide_eq_true_eq]; omega
  ·have : (decide (px = 1) != decide (py = 1)) = true := by
    rw [bne_iff_ne]; intro h
    have := decide_eq_decide.1 h; omega
   rw [this, cond_true]
   congr 1
   apply decide_eq_decide.2
   omega
 ·rw [show ((x.Prefix.size : Int) != (y.Prefix.size : Int)) = true from bne_iff_ne.2 h1, cond_true]
  congr 1
  apply decide_eq_decide.2
  omega
end SX
end Go.Proofs.YtfcecieppoljlaaGreatDoor
set_option maxRecDepth 100000
namespace Go.Proofs.YtfcecieppoljlaaGreatDoor
namespace SX
open Go
theorem origins_ref {R : Type} (l : List ByteArray) (hl : l.length ≤ 4611686018427387904) (k : Unit ⊕ (Int × Bool) → Option R) : Option.bind (loopF (S := Int) (T := (Unit) ⊕ (_)) (fun v6 => cond (decide (v6 < (l.length : Int))) (Option.bind (idx l v6) (fun m10 => Option.bind (ref06_Country m10) (fun x11 => Option.bind (gd ((!(!x11)) && (decide (0 < v6))) (idx l (IntKind.i64.wrap (v6 - 1)))) (fun m12 => Option.bind (gd ((!(!x11)) && (decide (0 < v6))) (idx l v6)) (fun m13 => cond ((!x11) || ((decide (0 < v6)) && (!Op.bytesLess m12.toList m13.toList))) (some (.inr (.inr (1, false)))) (some (.inl (IntKind.i64.wrap (v6 + 1))))))))) (some (.inr (.inl ())))) FUEL 0) k = k (match origs l with | .inl _ => .inl () | .inr _ => .inr (1, false)) := by
 obtain ⟨e, _⟩ := loop_run (T := Unit ⊕ (Int × Bool)) hl (body := fun v6 => cond (decide (v6 < (l.length : Int))) (Option.bind (idx l v6) (fun m10 => Option.bind (ref06_Country m10) (fun x11 => Option.bind (gd ((!(!x11)) && (decide (0 < v6))) (idx l (IntKind.i64.wrap (v6 - 1)))) (fun m12 => Option.bind (gd ((!(!x11)) && (decide (0 < v6))) (idx l v6)) (fun m13 => cond ((!x11) || ((decide (0 < v6)) && (!Op.bytesLess m12.toList m13.toList))) (some (.inr (.inr (1, false)))) (some (.inl (IntKind.i64.wrap (v6 + 1))))))))) (some (.inr (.inl ()))))
  (fun i (_ : Unit) => i) (fun k x _ => if oBad l k x then .inr () else .inl ()) (fun _ => .inl ()) (fun (_ : Unit) => .inr (1, false)) (fun _ _ => True) (by
   intro k hk a _
   refine ⟨?_, fun _ _ => trivial⟩
   rw [dlt hk, cond_true, bnd (idx_nat hk), ref_country, wnext hk hl, Option.bind_some]
   unfold oBad
   cases hc : ctry l[k]
   ·rfl
   ·by_cases h0 : 0 < k
    ·rw [decide_eq_true (show (0 : Int) < (k : Int) by omega), decide_eq_true h0]
     simp only [Bool.not_true, Bool.not_false, Bool.true_and, Bool.false_or]
     rw [gd_tt, bnd (idx_prev h0 hk hl), gd_tt, bnd (idx_nat hk), getD_in (by omega)]
     cases Op.bytesLess (l[k-1]'(by omega)).toList l[k].toList <;> rfl
    ·rw [decide_eq_false (show ¬ (0 : Int) < (k : Int) by omega), decide_eq_false h0]; rfl)
  (by intro a _; rw [dnlt]; rfl) () trivial
 rw [bnd e]
 unfold origs
 cases run (fun k x _ => if oBad l k x then Sum.inr () else Sum.inl ()) l 0 () <;> rfl
def farB (m : TMeasure) : Bool := ((((((decide (m.ID < 1)) || (decide (1000000 < m.ID))) || (decide (m.Kind < 1))) || (decide (6 < m.Kind))) || (decide (m.Company < 0))) || (decide (999 < m.Company)))
def dayB (m : TMeasure) : Bool := (((((decide (m.From < 0)) || (decide (m.To ≤ m.From))) || (decide (36525 < m.To))) || (decide (m.Registered < (-1)))) || (decide (m.From < m.Registered)))
def oneE (m : TMeasure) : Int := if level m.Prefix = 0 then 1 else if 20 < m.Origins.length then 8 else match origs m.Origins with | .inr _ => 1 | .inl _ => if dayB m then 2 else (duty_Validate m.Duty).getD 0
def mErr (l : List TMeasure) (k : Nat) (m : TMeasure) : Int := if farB m then 2 else if 0 < k ∧ m.ID ≤ (l.getD (k - 1) m).ID then 9 else oneE m
theorem level_size {s : ByteArray} (h : level s ≠ 0) : s.size ≤ 8 := by
 unfold level at h; split at h
 ·rename_i h; omega
 ·exact absurd rfl h
theorem mErr_ok {l : List TMeasure} {k : Nat} {m : TMeasure} (h : mErr l k m = 0) : MOK m := by
 unfold mErr at h
 split at h
 ·cases h
 rename_i hf
 split at h
 ·cases h
 unfold oneE at h
 split at h
 ·cases h
 rename_i hl
 split at h
 ·cases h
 rename_i ho
 split at h
 ·cases h
 split at h
 ·cases h
 rename_i hd
 simp [farB] at hf
 simp [dayB] at hd
 obtain ⟨e, e1, e2, _⟩ := dutyVal m.Duty
 rw [e1] at h
 have : e = 0 := h
 subst this
 exact ⟨by omega, by omega, by omega, by omega, by omega, level_size hl, by omega, by omega, e1⟩
theorem one_ok (m : TMeasure) (hp : m.Prefix.size ≤ 140737488355328) (hf : farB m = false) : ref19_one m = some (oneE m, (oneE m == 0)) := by
 unfold ref19_one oneE
 rw [show (((((((decide (m.ID < 1)) || (decide (1000000 < m.ID))) || (decide (m.Kind < 1))) || (decide (6 < m.Kind))) || (decide (m.Company < 0))) || (decide (999 < m.Company))) : Bool) = false from hf, cond_false, bnd (ref_level _ hp)]
 by_cases h1 : level m.Prefix = 0
 ·rw [if_pos h1, h1]; rfl
 rw [if_neg h1, show (level m.Prefix == 0) = false by simp [h1], cond_false]
 by_cases h2 : 20 < m.Origins.length
 ·rw [if_pos h2, decide_eq_true (by omega)]; rfl
 rw [if_neg h2, decide_eq_false (by omega), cond_false, origins_ref _ (by omega)]
 cases origs m.Origins with
 | inr u => rfl
 | inl u =>
  show cond (((((decide (m.From < 0)) || (decide (m.To ≤ m.From))) || (decide (36525 < m.To))) || (decide (m.Registered < (-1)))) || (decide (m.From < m.Registered))) _ _ = _
  rw [show (((((decide (m.From < 0)) || (decide (m.To ≤ m.From))) || (decide (36525 < m.To))) || (decide (m.Registered < (-1)))) || (decide (m.From < m.Registered))) = dayB m from rfl]
  dsimp only
  cases dayB m
  ·obtain ⟨e, e1, _⟩ := dutyVal m.Duty
   rw [cond_false, dutyRef, e1]; rfl
  ·rfl
theorem run_inr {α A R : Type} {f : Nat → α → A → A ⊕ R} (Q : R → Prop) (hf : ∀ k x a r, f k x a = .inr r → Q r) : ∀ (l : List α) (k : Nat) (a : A) (r : R), run f l k a = .inr r → Q r := by
 intro l
 induction l with
 | nil => intro k a r h; cases h
 | cons y ys ih =>
  intro k a r h
  rw [run_cons] at h
  cases hfy : f k y a with
  | inl b => rw [hfy] at h; exact ih _ _ _ h
  | inr r' => rw [hfy] at h; change Sum.inr r' = Sum.inr r at h; injection h with h; exact h ▸ hf _ _ _ _ hfy
def mF (l : List TMeasure) (k : Nat) (m : TMeasure) (_ : Unit) : Unit ⊕ Int := if mErr l k m = 0 then .inl () else .inr (mErr l k m)
def msErr (l : List TMeasure) : Int := if 300 < l.length then 8 else match run (mF l) l 0 () with | .inl _ => 0 | .inr r => r
theorem msErr_ok {l : List TMeasure} (h : msErr l = 0) : l.length ≤ 300 ∧ ∀ m ∈ l, MOK m := by
 unfold msErr at h
 split at h
 ·cases h
 refine ⟨by omega, ?_⟩
 cases hr : run (mF l) l 0 () with
 | inl a =>
  refine run_inl MOK ?_ l 0 () a hr
  intro k x a a' hx
  unfold mF at hx; split at hx
  ·exact mErr_ok (by assumption)
  ·cases hx
 | inr r =>
  rw [hr] at h
  have : r ≠ 0 := run_inr (fun r => r ≠ 0) (by
   intro k x a r hx
   unfold mF at hx; split at hx
   ·cases hx
   ·injection hx with hx; rw [← hx]; assumption) l 0 () r hr
  exact absurd h this
theorem validate_prog (l : List TMeasure) : measure_Validate l = some (msErr l) := by
 unfold measure_Validate msErr
 by_cases h : 300 < l.length
 ·rw [decide_eq_true (by omega), if_pos h]; rfl
 rw [decide_eq_false (by omega), if_neg h, cond_false]
 have hl : l.length ≤ 4611686018427387904 := by omega
 obtain ⟨e, _⟩ := loop_run (T := Unit ⊕ Int) hl (body := fun v2 => cond (decide (v2 < (l.length : Int))) (Option.bind (idx l v2) (fun m6 => cond ((((((decide (m6.ID < 1)) || (decide (1000000 < m6.ID))) || (decide (m6.Kind < 1))) || (decide (6 < m6.Kind))) || (decide (m6.Company < 0))) || (decide (999 < m6.Company))) (some (.inr (.inr 2))) (Option.bind (gd (decide (0 < v2)) (idx l (IntKind.i64.wrap (v2 - 1)))) (fun m9 => cond ((decide (0 < v2)) && (decide (m6.ID ≤ m9.ID))) (some (.inr (.inr 9))) (Option.bind (nomenclature_Level m6.Prefix) (fun x11 => cond (x11 == 0) (some (.inr (.inr 1))) (cond (decide (20 < (m6.Origins.length : Int))) (some (.inr (.inr 8))) (Option.bind (measure_validOrigins m6.Origins) (fun x14 => cond (!x14) (some (.inr (.inr 1))) (cond (((((decide (m6.From < 0)) || (decide (m6.To ≤ m6.From))) || (decide (36525 < m6.To))) || (decide (m6.Registered < (-1)))) || (decide (m6.From < m6.Registered))) (some (.inr (.inr 2))) (Option.bind (duty_Validate m6.Duty) (fun x17 => cond (x17 != 0) (some (.inr (.inr x17))) (some (.inl (IntKind.i64.wrap (v2 + 1)))))))))))))))) (some (.inr (.inl ()))))
  (fun i (_ : Unit) => i) (mF l) (fun _ => .inl ()) (fun r => .inr r) (fun _ _ => True) (by
   intro k hk a _
   refine ⟨?_, fun _ _ => trivial⟩
   rw [dlt hk, cond_true, bnd (idx_nat hk), wnext hk hl]
   have fin : ∀ z : Option (Int ⊕ (Unit ⊕ Int)), z = some (if mErr l k l[k] = 0 then Sum.inl ((k + 1 : Nat) : Int) else Sum.inr (Sum.inr (mErr l k l[k]))) → z = some (outc (fun _ => ((k + 1 : Nat) : Int)) (fun r => Sum.inr r) (mF l k l[k] a)) := by
    intro z hz
    rw [hz]; unfold mF
    by_cases h : mErr l k l[k] = 0
    ·rw [if_pos h, if_pos h]; rfl
    ·rw [if_neg h, if_neg h]; rfl
   refine fin _ ?_
   unfold mErr
   rw [show (((((((decide (l[k].ID < 1)) || (decide (1000000 < l[k].ID))) || (decide (l[k].Kind < 1))) || (decide (6 < l[k].Kind))) || (decide (l[k].Company < 0))) || (decide (999 < l[k].Company))) : Bool) = farB l[k] from rfl]
   cases hf : farB l[k]
   case true => rfl
   rw [cond_false]
   have hrest : ∀ c : Bool, (c = true ↔ 0 < k ∧ l[k].ID ≤ (l.getD (k - 1) l[k]).ID) → cond c (some (Sum.inr (Sum.inr 9)) : Option (Int ⊕ (Unit ⊕ Int))) (Option.bind (nomenclature_Level l[k].Prefix) (fun x11 => cond (x11 == 0) (some (.inr (.inr 1))) (cond (decide (20 < (l[k].Origins.length : Int))) (some (.inr (.inr 8))) (Option.bind (measure_validOrigins l[k].Origins) (fun x14 => cond (!x14) (some (.inr (.inr 1))) (cond (((((decide (l[k].From < 0)) || (decide (l[k].To ≤ l[k].From))) || (decide (36525 < l[k].To))) || (decide (l[k].Registered < (-1)))) || (decide (l[k].From < l[k].Registered))) (some (.inr (.inr 2))) (Option.bind (duty_Validate l[k].Duty) (fun x17 => cond (x17 != 0) (some (.inr (.inr x17))) (some (.inl ((k + 1 : Nat) : Int))))))))))) = some (if (if false = true then 2 else if 0 < k ∧ l[k].ID ≤ (l.getD (k - 1) l[k]).ID then 9 else oneE l[k]) = 0 then Sum.inl ((k + 1 : Nat) : Int) else Sum.inr (Sum.inr (if false = true then 2 else if 0 < k ∧ l[k].ID ≤ (l.getD (k - 1) l[k]).ID then 9 else oneE l[k]))) := by
    intro c hc
    rw [if_neg (show ¬ false = true by decide)]
    cases c
    case true => rw [if_pos (hc.1 rfl)]; rfl
    have hn : ¬ (0 < k ∧ l[k].ID ≤ (l.getD (k - 1) l[k]).ID) := fun h => by have := hc.2 h; cases this
    rw [if_neg hn, cond_false]
    show cond (level l[k].Prefix == 0) _ _ = _
    unfold oneE
    by_cases h1 : level l[k].Prefix = 0
    ·rw [if_pos h1, h1]; rfl
    rw [if_neg h1, show (level l[k].Prefix == 0) = false by simp [h1], cond_false]
    by_cases h2 : 20 < l[k].Origins.length
    ·rw [if_pos h2, decide_eq_true (by omega)]; rfl
    rw [if_neg h2, decide_eq_false (by omega), cond_false, validOrigins _ (by omega)]
    cases origs l[k].Origins with
    | inr u => rfl
    | inl u =>
     show cond (((((decide (l[k].From < 0)) || (decide (l[k].To ≤ l[k].From))) || (decide (36525 < l[k].To))) || (decide (l[k].Registered < (-1)))) || (decide (l[k].From < l[k].Registered))) _ _ = _
     rw [show (((((decide (l[k].From < 0)) || (decide (l[k].To ≤ l[k].From))) || (decide (36525 < l[k].To))) || (decide (l[k].Registered < (-1)))) || (decide (l[k].From < l[k].Registered))) = dayB l[k] from rfl]
     dsimp only
     cases dayB l[k]
     ·obtain ⟨e, e1, _⟩ := dutyVal l[k].Duty
      rw [cond_false, e1, Option.bind_some]
      by_cases h3 : e = 0
      ·subst h3; rfl
      ·rw [show (e != 0) = true by simp [h3]]
       show _ = some (if e = 0 then Sum.inl ((k + 1 : Nat) : Int) else Sum.inr (Sum.inr e))
       rw [if_neg h3]; rfl
     ·rfl
   by_cases h0 : 0 < k
   ·rw [decide_eq_true (show (0 : Int) < (k : Int) by omega), gd_tt, bnd (idx_prev h0 hk hl), Bool.true_and]
    refine hrest _ ?_
    rw [getD_in (by omega)]; simp [h0]
   ·rw [decide_eq_false (show ¬ (0 : Int) < (k : Int) by omega), gd_ff, Option.bind_some, Bool.false_and]
    exact hrest false (by simp [h0]))
  (by intro a _; rw [dnlt]; rfl) () trivial
 rw [bnd e]
 cases run (mF l) l 0 () <;> rfl
theorem validate_ref (l : List TMeasure) (hp : ∀ m ∈ l, m.Prefix.size ≤ 140737488355328) : ref19_Measures l = some (msErr l) := by
 unfold ref19_Measures msErr
 by_cases h : 300 < l.length
 ·rw [decide_eq_true (by omega), if_pos h]; rfl
 rw [decide_eq_false (by omega), if_neg h, cond_false]
 have hl : l.length ≤ 4611686018427387904 := by omega
 obtain ⟨e, _⟩ := loop_run (T := Unit ⊕ Int) hl (body := fun v2 => cond (decide (v2 < (l.length : Int))) (Option.bind (idx l v2) (fun m6 => cond ((((((decide (m6.ID < 1)) || (decide (1000000 < m6.ID))) || (decide (m6.Kind < 1))) || (decide (6 < m6.Kind))) || (decide (m6.Company < 0))) || (decide (999 < m6.Company))) (some (.inr (.inr 2))) (Option.bind (gd (decide (0 < v2)) (idx l (IntKind.i64.wrap (v2 - 1)))) (fun m9 => cond ((decide (0 < v2)) && (decide (m6.ID ≤ m9.ID))) (some (.inr (.inr 9))) (Option.bind (ref19_one m6) (fun x11 => cond (x11.1 != 0) (some (.inr (.inr x11.1))) (some (.inl (IntKind.i64.wrap (v2 + 1)))))))))) (some (.inr (.inl ()))))
  (fun i (_ : Unit) => i) (mF l) (fun _ => .inl ()) (fun r => .inr r) (fun _ _ => True) (by
   intro k hk a _
   refine ⟨?_, fun _ _ => trivial⟩
   rw [dlt hk, cond_true, bnd (idx_nat hk), wnext hk hl]
   have fin : ∀ z : Option (Int ⊕ (Unit ⊕ Int)), z = some (if mErr l k l[k] = 0 then Sum.inl ((k + 1 : Nat) : Int) else Sum.inr (Sum.inr (mErr l k l[k]))) → z = some (outc (fun _ => ((k + 1 : Nat) : Int)) (fun r => Sum.inr r) (mF l k l[k] a)) := by
    intro z hz
    rw [hz]; unfold mF
    by_cases h : mErr l k l[k] = 0
    ·rw [if_pos h, if_pos h]; rfl
    ·rw [if_neg h, if_neg h]; rfl
   refine fin _ ?_
   unfold mErr
   rw [show (((((((decide (l[k].ID < 1)) || (decide (1000000 < l[k].ID))) || (decide (l[k].Kind < 1))) || (decide (6 < l[k].Kind))) || (decide (l[k].Company < 0))) || (decide (999 < l[k].Company))) : Bool) = farB l[k] from rfl]
   cases hf : farB l[k]
   case true => rfl
   rw [cond_false, if_neg (show ¬ false = true by decide)]
   have hrest : ∀ c : Bool, (c = true ↔ 0 < k ∧ l[k].ID ≤ (l.getD (k - 1) l[k]).ID) → cond c (some (Sum.inr (Sum.inr 9)) : Option (Int ⊕ (Unit ⊕ Int))) (Option.bind (ref19_one l[k]) (fun x11 => cond (x11.1 != 0) (some (.inr (.inr x11.1))) (some (.inl ((k + 1 : Nat) : Int))))) = some (if (if 0 < k ∧ l[k].ID ≤ (l.getD (k - 1) l[k]).ID then 9 else oneE l[k]) = 0 then Sum.inl ((k + 1 : Nat) : Int) else Sum.inr (Sum.inr (if 0 < k ∧ l[k].ID ≤ (l.getD (k - 1) l[k]).ID then 9 else oneE l[k]))) := by
    intro c hc
    cases c
    case true => rw [if_pos (hc.1 rfl)]; rfl
    have hn : ¬ (0 < k ∧ l[k].ID ≤ (l.getD (k - 1) l[k]).ID) := fun h => by have := hc.2 h; cases this
    rw [if_neg hn, cond_false, bnd (one_ok _ (hp _ (List.getElem_mem hk)) hf)]
    by_cases h3 : oneE l[k] = 0
    ·rw [if_pos h3, h3]; rfl
    ·rw [if_neg h3, show (oneE l[k] != 0) = true by simp [h3]]; rfl
   by_cases h0 : 0 < k
   ·rw [decide_eq_true (show (0 : Int) < (k : Int) by omega), gd_tt, bnd (idx_prev h0 hk hl), Bool.true_and]
    refine hrest _ ?_
    rw [getD_in (by omega)]; simp [h0]
   ·rw [decide_eq_false (show ¬ (0 : Int) < (k : Int) by omega), gd_ff, Option.bind_some, Bool.false_and]
    exact hrest false (by simp [h0]))
  (by intro a _; rw [dnlt]; rfl) () trivial
 rw [bnd e]
 cases run (mF l) l 0 () <;> rfl
end SX
end Go.Proofs.YtfcecieppoljlaaGreatDoor
