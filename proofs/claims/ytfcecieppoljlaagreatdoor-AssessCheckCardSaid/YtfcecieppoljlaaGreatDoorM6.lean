/- AssessCheck: for every input the law returns true, and each argument reads afterwards as it read before. Conditions: the package variables are as the program's text lays them (the card ties them). -/
import Derived.Test.YtfcecieppoljlaaGreatDoorM5
import Derived.Test.YtfcecieppoljlaaGreatDoorChecked
import Derived.KernelRfl
import Derived.WalkKit
import Derived.OrdersHeld
import Derived.Laws.CopyRow
import Derived.Laws.StructEq
import Derived.Maps.AppendAt
import Derived.Laws.MakeOwn
import Derived.Laws.BytesArg
import Derived.Laws.Externs
import Derived.Laws.Cover3
import Derived.ChangeArms
import Derived.DataReads
import GoSem.ClaimJoined
import Derived.Test.YtfcecieppoljlaaGreatDoorRows
import Derived.ChangeSame
import Derived.ChangeVars
import Derived.JoinedOf
import Derived.RowKit
import Derived.RowKitTokens
import Derived.LaidLaws
import Derived.LaidHandle
import Derived.Carry
import Derived.Handed
import Derived.ChangeOld
import Derived.SevenTiedAt
import Derived.Test.YtfcecieppoljlaaGreatDoorCards
import Derived.Test.YtfcecieppoljlaaGreatDoorTie
set_option linter.unusedVariables false
set_option linter.unusedSimpArgs false
set_option maxRecDepth 100000
namespace Go.Proofs.YtfcecieppoljlaaGreatDoor
namespace SX
open Go
theorem idx_int {α : Type} {l : List α} {b : Int} (h0 : 0 ≤ b) (h1 : b < l.length) : idx l b = some (l[b.toNat]'(by omega)) := by
 obtain ⟨k, rfl⟩ : ∃ k : Nat, b = (k : Int) := ⟨b.toNat, by omega⟩
 exact idx_nat (by omega)
def wants (kind : Int) (code origin : ByteArray) (company day : Int) (m : TMeasure) : Bool := (m.Kind == kind) && cov m code origin company day
def pickB (l : List TMeasure) (c : TMeasure → Bool) (k : Nat) (m : TMeasure) (b : Int) : Int := if c m = true ∧ (b < 0 ∨ rankN (l.getD b.toNat m) < rankN m) then (k : Int) else b
def pickF (l : List TMeasure) (c : TMeasure → Bool) (k : Nat) (m : TMeasure) (b : Int) : Int ⊕ Unit := .inl (pickB l c k m b)
def bestI (l : List TMeasure) (c : TMeasure → Bool) : Int := outf id (fun _ => -1) (run (pickF l c) l 0 (-1))
def ofM (l : List TMeasure) (c : TMeasure → Bool) : Option TMeasure := if bestI l c < 0 then none else l[(bestI l c).toNat]?
def BP (l : List TMeasure) (c : TMeasure → Bool) (k : Nat) (b : Int) : Prop := -1 ≤ b ∧ b < (k : Int) ∧ (0 ≤ b → ∃ m, l[b.toNat]? = some m ∧ c m = true)
def zeroM : TMeasure := ⟨0, 0, ByteArray.empty, [], 0, 0, 0, 0, (⟨0, 0, 0, false, 0, false, 0⟩ : TDuty)⟩
theorem pick_bp {l : List TMeasure} {c : TMeasure → Bool} {k : Nat} (hk : k < l.length) {b : Int} (h : BP l c k b) : BP l c (k + 1) (pickB l c k l[k] b) := by
 obtain ⟨a1, a2, a3⟩ := h
 unfold pickB
 split
 ·rename_i h
  exact ⟨by omega, by omega, fun _ => ⟨l[k], by simp, h.1⟩⟩
 ·exact ⟨a1, by omega, a3⟩
theorem run_pick (l : List TMeasure) (c : TMeasure → Bool) : ∀ (xs : List TMeasure) (k : Nat) (b : Int), ∃ b', run (pickF l c) xs k b = .inl b' := by
 intro xs
 induction xs with
 | nil => intro k b; exact ⟨b, rfl⟩
 | cons x xs ih => intro k b; exact ih (k + 1) _
def addM (acc : List TMeasure) (o : Option TMeasure) : List TMeasure := acc ++ o.toList
theorem addM_len (acc : List TMeasure) (o : Option TMeasure) : (addM acc o).length ≤ acc.length + 1 := by
 unfold addM; cases o <;> simp
section
variable {l : List TMeasure} (hl : l.length ≤ 300) (hm : ∀ m ∈ l, MOK m) (kind : Int) (code origin : ByteArray) (company day : Int)
include hl hm
theorem of_loop : loopF (S := ByteArray × Int × Int × Int × Int) (T := (Int)) (fun (v2, v3, v4, v5, v6) => cond (decide (v6 < (l.length : Int))) (Option.bind (Option.bind (idx l v6) (fun m13 => Option.bind (gd (m13.Kind == kind) (idx l v6)) (fun m14 => Option.bind (gd (m13.Kind == kind) (ref19_Covers m14 code v2 v3 v4)) (fun x15 => Option.bind (gd (((m13.Kind == kind) && x15) && (!(decide (v5 < 0)))) (idx l v6)) (fun m16 => Option.bind (gd (((m13.Kind == kind) && x15) && (!(decide (v5 < 0)))) (idx l v5)) (fun m17 => Option.bind (gd (((m13.Kind == kind) && x15) && (!(decide (v5 < 0)))) (ref19_rank m16)) (fun x18 => Option.bind (gd (((m13.Kind == kind) && x15) && (!(decide (v5 < 0)))) (ref19_rank m17)) (fun x19 => cond (((m13.Kind == kind) && x15) && ((decide (v5 < 0)) || (decide (x19 < x18)))) (some v6) (some v5))))))))) (fun v11 => some (.inl (v2, v3, v4, v11, (IntKind.i64.wrap (v6 + 1)))))) (some (.inr v5))) FUEL (origin, company, day, (-1), 0) = some (bestI l (wants kind code origin company day)) ∧ BP l (wants kind code origin company day) l.length (bestI l (wants kind code origin company day)) := by
 have hl' : l.length ≤ 4611686018427387904 := by omega
 obtain ⟨e, e2⟩ := loop_run (S := ByteArray × Int × Int × Int × Int) (T := Int) hl' (body := fun (v2, v3, v4, v5, v6) => cond (decide (v6 < (l.length : Int))) (Option.bind (Option.bind (idx l v6) (fun m13 => Option.bind (gd (m13.Kind == kind) (idx l v6)) (fun m14 => Option.bind (gd (m13.Kind == kind) (ref19_Covers m14 code v2 v3 v4)) (fun x15 => Option.bind (gd (((m13.Kind == kind) && x15) && (!(decide (v5 < 0)))) (idx l v6)) (fun m16 => Option.bind (gd (((m13.Kind == kind) && x15) && (!(decide (v5 < 0)))) (idx l v5)) (fun m17 => Option.bind (gd (((m13.Kind == kind) && x15) && (!(decide (v5 < 0)))) (ref19_rank m16)) (fun x18 => Option.bind (gd (((m13.Kind == kind) && x15) && (!(decide (v5 < 0)))) (ref19_rank m17)) (fun x19 => cond (((m13.Kind == kind) && x15) && ((decide (v5 < 0)) || (decide (x19 < x18)))) (some v6) (some v5))))))))) (fun v11 => some (.inl (v2, v3, v4, v11, (IntKind.i64.wrap (v6 + 1)))))) (some (.inr v5)))
  (fun i b => (origin, company, day, b, i)) (pickF l (wants kind code origin company day)) id (fun _ => -1) (BP l (wants kind code origin company day)) (by
   intro k hk b hb
   refine ⟨?_, fun a' h => by injection h with h; rw [← h]; exact pick_bp hk hb⟩
   have mk := hm _ (List.getElem_mem hk)
   dsimp only
   rw [dlt hk, cond_true, bnd (idx_nat hk), wnext hk hl']
   show Option.bind _ _ = some (Sum.inl (origin, company, day, pickB l (wants kind code origin company day) k l[k] b, ((k + 1 : Nat) : Int)))
   unfold pickB wants
   cases hkd : (l[k].Kind == kind)
   ·rfl
   rw [gd_tt, bnd (idx_nat hk), gd_tt, covers_ref _ (by have := mk.orig; omega)]
   rw [Option.bind_some]
   cases hc : cov l[k] code origin company day
   ·rfl
   by_cases hb0 : b < 0
   ·rw [decide_eq_true hb0, if_pos ⟨rfl, .inl hb0⟩]; rfl
   ·obtain ⟨b1, b2, b3⟩ := hb
    have hbl : b < l.length := by omega
    have mb := hm _ (List.getElem_mem (show b.toNat < l.length by omega))
    rw [decide_eq_false hb0]
    simp only [Bool.not_false, Bool.and_self, Bool.true_and, Bool.false_or]
    rw [gd_tt, bnd (idx_nat hk), gd_tt, bnd (idx_int (by omega) hbl), gd_tt, bnd (rank_ok mk), gd_tt, bnd (rank_ok mb), getD_in (by omega)]
    by_cases hr : rankN (l[b.toNat]'(by omega)) < rankN l[k]
    ·rw [decide_eq_true hr, if_pos ⟨trivial, .inr hr⟩]; rfl
    ·rw [decide_eq_false hr, if_neg (fun h => h.2.elim hb0 hr)]; rfl)
  (by intro b _; dsimp only; rw [dnlt]; rfl) (-1) ⟨by omega, by omega, fun h => absurd h (by omega)⟩
 refine ⟨e, ?_⟩
 obtain ⟨b', hb'⟩ := run_pick l (wants kind code origin company day) l 0 (-1)
 have := e2 b' hb'
 unfold bestI; rw [hb']; exact this
theorem app_loop : loopF (S := Int × Int) (T := (Int)) (fun (v22, v23) => cond (decide (v23 < (l.length : Int))) (Option.bind (Option.bind (idx l v23) (fun m32 => Option.bind (gd (m32.Kind == kind) (measure_Covers m32 code origin company day)) (fun x34 => Option.bind (gd (((m32.Kind == kind) && x34) && (!(decide (v22 < 0)))) (idx l v22)) (fun m35 => Option.bind (gd (((m32.Kind == kind) && x34) && (!(decide (v22 < 0)))) (measure_precedes m32 m35)) (fun x36 => cond (((m32.Kind == kind) && x34) && ((decide (v22 < 0)) || x36)) (some v23) (some v22)))))) (fun v30 => some (.inl (v30, (IntKind.i64.wrap (v23 + 1)))))) (some (.inr v22))) FUEL ((-1), 0) = some (bestI l (wants kind code origin company day)) := by
 have hl' : l.length ≤ 4611686018427387904 := by omega
 obtain ⟨e, e2⟩ := loop_run (S := Int × Int) (T := Int) hl' (body := fun (v22, v23) => cond (decide (v23 < (l.length : Int))) (Option.bind (Option.bind (idx l v23) (fun m32 => Option.bind (gd (m32.Kind == kind) (measure_Covers m32 code origin company day)) (fun x34 => Option.bind (gd (((m32.Kind == kind) && x34) && (!(decide (v22 < 0)))) (idx l v22)) (fun m35 => Option.bind (gd (((m32.Kind == kind) && x34) && (!(decide (v22 < 0)))) (measure_precedes m32 m35)) (fun x36 => cond (((m32.Kind == kind) && x34) && ((decide (v22 < 0)) || x36)) (some v23) (some v22)))))) (fun v30 => some (.inl (v30, (IntKind.i64.wrap (v23 + 1)))))) (some (.inr v22)))
  (fun i b => (b, i)) (pickF l (wants kind code origin company day)) id (fun _ => -1) (BP l (wants kind code origin company day)) (by
   intro k hk b hb
   refine ⟨?_, fun a' h => by injection h with h; rw [← h]; exact pick_bp hk hb⟩
   have mk := hm _ (List.getElem_mem hk)
   dsimp only
   rw [dlt hk, cond_true, bnd (idx_nat hk), wnext hk hl']
   show Option.bind _ _ = some (Sum.inl (pickB l (wants kind code origin company day) k l[k] b, ((k + 1 : Nat) : Int)))
   unfold pickB wants
   cases hkd : (l[k].Kind == kind)
   ·rfl
   rw [gd_tt, covers_prog _ (by have := mk.orig; omega) mk.reg]
   rw [Option.bind_some]
   cases hc : cov l[k] code origin company day
   ·rfl
   by_cases hb0 : b < 0
   ·rw [decide_eq_true hb0, if_pos ⟨rfl, .inl hb0⟩]; rfl
   ·obtain ⟨b1, b2, b3⟩ := hb
    have hbl : b < l.length := by omega
    have mb := hm _ (List.getElem_mem (show b.toNat < l.length by omega))
    rw [decide_eq_false hb0]
    simp only [Bool.not_false, Bool.and_self, Bool.true_and, Bool.false_or]
    rw [gd_tt, bnd (idx_int (by omega) hbl), gd_tt, bnd (precedes_ok mk mb), getD_in (by omega)]
    by_cases hr : rankN (l[b.toNat]'(by omega)) < rankN l[k]
    ·rw [decide_eq_true hr, if_pos ⟨trivial, .inr hr⟩]; rfl
    ·rw [decide_eq_false hr, if_neg (fun h => h.2.elim hb0 hr)]; rfl)
  (by intro b _; dsimp only; rw [dnlt]; rfl) (-1) ⟨by omega, by omega, fun h => absurd h (by omega)⟩
 exact e
theorem ofM_cases : (ofM l (wants kind code origin company day) = none ∧ bestI l (wants kind code origin company day) < 0) ∨ ∃ m, ofM l (wants kind code origin company day) = some m ∧ 0 ≤ bestI l (wants kind code origin company day) ∧ idx l (bestI l (wants kind code origin company day)) = some m ∧ MOK m ∧ m.Kind = kind ∧ m ∈ l := by
 obtain ⟨_, b1, b2, b3⟩ := of_loop hl hm kind code origin company day
 unfold ofM
 by_cases h : bestI l (wants kind code origin company day) < 0
 ·left; rw [if_pos h]; exact ⟨rfl, h⟩
 ·right
  rw [if_neg h]
  obtain ⟨m, h1, h2⟩ := b3 (by omega)
  have hmem := List.mem_of_getElem? h1
  refine ⟨m, h1, by omega, ?_, hm m hmem, ?_, hmem⟩
  ·unfold idx; rw [if_pos (by omega)]; exact h1
  ·unfold wants at h2; simp only [Bool.and_eq_true, beq_iff_eq] at h2; exact h2.1
theorem ref_of : ref19_Of l kind code origin company day = some (match ofM l (wants kind code origin company day) with | none => (zeroM, false) | some m => (m, true)) := by
 unfold ref19_Of
 rw [bnd (of_loop hl hm kind code origin company day).1]
 rcases ofM_cases hl hm kind code origin company day with ⟨h1, h2⟩ | ⟨m, h1, h2, h3, _⟩
 ·rw [h1, decide_eq_true h2]; rfl
 ·rw [h1, decide_eq_false (by omega), cond_false, bnd h3]
theorem app_round (acc : List TMeasure) (ha : acc.length ≤ 10) : (Option.bind (some (bestI l (wants kind code origin company day))) (fun v25 => cond (decide (0 ≤ v25)) (Option.bind (idx l v25) (fun m39 => Option.bind (slices_Clone_string_string m39.Origins) (fun x41 => Option.bind (app 144 acc [(⟨m39.ID, m39.Kind, m39.Prefix, x41, m39.Company, m39.From, m39.To, m39.Registered, m39.Duty⟩ : TMeasure)]) (fun l47 => some l47)))) (some acc))) = some (addM acc (ofM l (wants kind code origin company day))) := by
 rw [Option.bind_some]
 rcases ofM_cases hl hm kind code origin company day with ⟨h1, h2⟩ | ⟨m, h1, h2, h3, h4, _⟩
 ·rw [h1, decide_eq_false (by omega)]; simp [addM]
 ·rw [h1, decide_eq_true h2, cond_true, bnd h3]
  have := h4.orig
  have e1 : slices_Clone_string_string m.Origins = some m.Origins := by
   unfold slices_Clone_string_string app; rw [if_pos (by simp; omega)]; rfl
  have e2 : app 144 acc [m] = some (acc ++ [m]) := by unfold app; rw [if_pos (by simp; omega)]
  rw [bnd e1, show (⟨m.ID, m.Kind, m.Prefix, m.Origins, m.Company, m.From, m.To, m.Registered, m.Duty⟩ : TMeasure) = m from rfl, bnd e2]; rfl
end
def appl (l : List TMeasure) (code origin : ByteArray) (company day : Int) : List TMeasure := addM (addM (addM (addM (addM (addM [] (ofM l (wants 1 code origin company day))) (ofM l (wants 2 code origin company day))) (ofM l (wants 3 code origin company day))) (ofM l (wants 4 code origin company day))) (ofM l (wants 5 code origin company day))) (ofM l (wants 6 code origin company day))
theorem applicable {l : List TMeasure} (hl : l.length ≤ 300) (hm : ∀ m ∈ l, MOK m) (code origin : ByteArray) (company day : Int) : measure_Applicable l code origin company day = some (appl l code origin company day) := by
  unfold measure_Applicable
  have hfu : FUEL = 1267650600228229401496703205367 + 9 := rfl
  have hstep : ∀ (N : Nat) (acc : List TMeasure) (k : Int), 1 ≤ k → k ≤ 6 → acc.length ≤ 10 → ∀ {β : Type} (c : List TMeasure → Option β),
      (loopF (S := ByteArray × Int × Int × (List TMeasure) × Int) (T := ((List TMeasure))) (fun (v1, v2, v3, l5, v8) => cond (decide (v8 ≤ 6)) (Option.bind (Option.bind (loopF (S := Int × Int) (T := (Int)) (fun (v22, v23) => cond (decide (v23 < (l.length : Int))) (Option.bind (Option.bind (idx l v23) (fun m32 => Option.bind (gd (m32.Kind == v8) (measure_Covers m32 code v1 v2 v3)) (fun x34 => Option.bind (gd (((m32.Kind == v8) && x34) && (!(decide (v22 < 0)))) (idx l v22)) (fun m35 => Option.bind (gd (((m32.Kind == v8) && x34) && (!(decide (v22 < 0)))) (measure_precedes m32 m35)) (fun x36 => cond (((m32.Kind == v8) && x34) && ((decide (v22 < 0)) || x36)) (some v23) (some v22)))))) (fun v30 => some (.inl (v30, (IntKind.i64.wrap (v23 + 1)))))) (some (.inr v22))) FUEL ((-1), 0)) (fun v25 => cond (decide (0 ≤ v25)) (Option.bind (idx l v25) (fun m39 => Option.bind (slices_Clone_string_string m39.Origins) (fun x41 => Option.bind (app 144 l5 [(⟨m39.ID, m39.Kind, m39.Prefix, x41, m39.Company, m39.From, m39.To, m39.Registered, m39.Duty⟩ : TMeasure)]) (fun l47 => some l47)))) (some l5))) (fun l20 => some (.inl (v1, v2, v3, l20, (IntKind.i64.wrap (v8 + 1)))))) (some (.inr l5))) (N + 1) (origin, company, day, acc, k)).bind c = (loopF (S := ByteArray × Int × Int × (List TMeasure) × Int) (T := ((List TMeasure))) (fun (v1, v2, v3, l5, v8) => cond (decide (v8 ≤ 6)) (Option.bind (Option.bind (loopF (S := Int × Int) (T := (Int)) (fun (v22, v23) => cond (decide (v23 < (l.length : Int))) (Option.bind (Option.bind (idx l v23) (fun m32 => Option.bind (gd (m32.Kind == v8) (measure_Covers m32 code v1 v2 v3)) (fun x34 => Option.bind (gd (((m32.Kind == v8) && x34) && (!(decide (v22 < 0)))) (idx l v22)) (fun m35 => Option.bind (gd (((m32.Kind == v8) && x34) && (!(decide (v22 < 0)))) (measure_precedes m32 m35)) (fun x36 => cond (((m32.Kind == v8) && x34) && ((decide (v22 < 0)) || x36)) (some v23) (some v22)))))) (fun v30 => some (.inl (v30, (IntKind.i64.wrap (v23 + 1)))))) (some (.inr v22))) FUEL ((-1), 0)) (fun v25 => cond (decide (0 ≤ v25)) (Option.bind (idx l v25) (fun m39 => Option.bind (slices_Clone_string_string m39.Origins) (fun x41 => Option.bind (app 144 l5 [(⟨m39.ID, m39.Kind, m39.Prefix, x41, m39.Company, m39.From, m39.To, m39.Registered, m39.Duty⟩ : TMeasure)]) (fun l47 => some l47)))) (some l5))) (fun l20 => some (.inl (v1, v2, v3, l20, (IntKind.i64.wrap (v8 + 1)))))) (some (.inr l5))) N (origin, company, day, addM acc (ofM l (wants k code origin company day)), k + 1)).bind c := by
    intro N acc k k0 k1 ha β c
    refine lfb_step _ ?_
    dsimp only
    rw [decide_eq_true k1, cond_true, app_loop hl hm k code origin company day, app_round hl hm k code origin company day acc ha, Option.bind_some, i64s (by omega) (by omega)]
  have l1 := addM_len [] (ofM l (wants 1 code origin company day))
  have l2 := addM_len (addM [] (ofM l (wants 1 code origin company day))) (ofM l (wants 2 code origin company day))
  have l3 := addM_len (addM (addM [] (ofM l (wants 1 code origin company day))) (ofM l (wants 2 code origin company day))) (ofM l (wants 3 code origin company day))
  have l4 := addM_len (addM (addM (addM [] (ofM l (wants 1 code origin company day))) (ofM l (wants 2 code origin company day))) (ofM l (wants 3 code origin company day))) (ofM l (wants 4 code origin company day))
  have l5 := addM_len (addM (addM (addM (addM [] (ofM l (wants 1 code origin company day))) (ofM l (wants 2 code origin company day))) (ofM l (wants 3 code origin company day))) (ofM l (wants 4 code origin company day))) (ofM l (wants 5 code origin company day))
  simp only [List.length_nil] at l1
  refine (hstep 1267650600228229401496703205375 [] 1 (by omega) (by omega) (by simp) _).trans ?_
  refine (hstep 1267650600228229401496703205374 _ 2 (by omega) (by omega) (by omega) _).trans ?_
  refine (hstep 1267650600228229401496703205373 _ 3 (by omega) (by omega) (by omega) _).trans ?_
  refine (hstep 1267650600228229401496703205372 _ 4 (by omega) (by omega) (by omega) _).trans ?_
  refine (hstep 1267650600228229401496703205371 _ 5 (by omega) (by omega) (by omega) _).trans ?_
  refine (hstep 1267650600228229401496703205370 _ 6 (by omega) (by omega) (by omega) _).trans ?_
  exact (lfb_done (appl l code origin company day) rfl)
end SX
end Go.Proofs.YtfcecieppoljlaaGreatDoor
set_option maxRecDepth 100000
namespace Go.Proofs.YtfcecieppoljlaaGreatDoor
namespace SX
open Go
abbrev LS := Bool × Int × Int × Int × Int × Int
def zeroL : TDebtLine := ⟨0, 0, 0, 0, 0⟩
def stepM (q v : Int) (st : LS) (m : TMeasure) : LS ⊕ Int :=
 if (evN m.Duty v q).2 ≠ 0 then .inr (evN m.Duty v q).2 else if st.1 = false ∨ (evN m.Duty v q).1 < st.2.2.2.2.2 then .inl (true, m.Kind, m.ID, q, v, (evN m.Duty v q).1) else .inl st
def stepO (q v : Int) (o : Option TMeasure) (st : LS) : LS ⊕ Int := match o with | none => .inl st | some m => stepM q v st m
def innerF (kind q v : Int) (_ : Nat) (m : TMeasure) (st : LS) : LS ⊕ Int := if m.Kind = kind then stepM q v st m else .inl st
def leastF (ms : List TMeasure) (q v : Int) (_ : Nat) (k : Int) (st : LS) : LS ⊕ Int := run (innerF k q v) ms 0 st
def least (ms : List TMeasure) (q v : Int) (ks : List Int) : LS ⊕ Int := run (leastF ms q v) ks 0 (false, 0, 0, 0, 0, 0)
def lineOf (st : LS) : TDebtLine := ⟨st.2.1, st.2.2.1, st.2.2.2.1, st.2.2.2.2.1, st.2.2.2.2.2⟩
section
variable {ms : List TMeasure} (hl : ms.length ≤ 300) (hm : ∀ m ∈ ms, MOK m) {q v : Int} (hv : 0 ≤ v) (hv' : v ≤ 1000000000000) (hq : 0 ≤ q) (hq' : q ≤ 1000000000)
include hl hm hv hv' hq hq'
theorem least_ok (ks : List Int) (hks : ks.length ≤ 10) : assess_leastDuty ms ⟨q, v, ks⟩ = some (outf (fun st => (lineOf st, st.1, 0)) (fun e => (zeroL, false, e)) (least ms q v ks)) := by
 unfold assess_leastDuty
 have inner : ∀ (kind : Int) (st : LS), loopF (S := Bool × Int × Int × Int × Int × Int × Int) (T := (Bool × Int × Int × Int × Int × Int) ⊕ ((Bool × Int × Int × Int × Int × Int × Int) ⊕ ((Bool × Int × Int × Int × Int × Int) ⊕ (TDebtLine × Bool × Int)))) (fun (v21, v22, v23, v24, v25, v26, v27) => cond (decide (v22 < (ms.length : Int))) (Option.bind (α := (Bool × Int × Int × Int × Int × Int) ⊕ _) (Option.bind (idx ms v22) (fun m44 => cond (m44.Kind != kind) (some (.inl (v21, v23, v24, v25, v26, v27))) (Option.bind (duty_Evaluate m44.Duty v q) (fun x47 => cond (x47.2 != 0) (some (.inr (.inr (.inr (.inr (.inr ((⟨0, 0, 0, 0, 0⟩ : TDebtLine), false, x47.2))))))) (cond ((!v21) || (decide (x47.1 < v27))) (some (.inl (true, m44.Kind, m44.ID, q, v, x47.1))) (some (.inl (v21, v23, v24, v25, v26, v27)))))))) (fun q => match q with | .inl (v37, v38, v39, v40, v41, v42) => some (.inl (v37, (IntKind.i64.wrap (v22 + 1)), v38, v39, v40, v41, v42)) | .inr e => some e)) (some (.inr (.inl (v21, v23, v24, v25, v26, v27))))) FUEL (st.1, 0, st.2.1, st.2.2.1, st.2.2.2.1, st.2.2.2.2.1, st.2.2.2.2.2) = some (outf (fun st => .inl st) (fun e => .inr (.inr (.inr (zeroL, false, e)))) (run (innerF kind q v) ms 0 st)) := by
  intro kind st
  have hl' : ms.length ≤ 4611686018427387904 := by omega
  exact (loop_run (S := Bool × Int × Int × Int × Int × Int × Int) (T := (Bool × Int × Int × Int × Int × Int) ⊕ ((Bool × Int × Int × Int × Int × Int × Int) ⊕ ((Bool × Int × Int × Int × Int × Int) ⊕ (TDebtLine × Bool × Int)))) hl' (body := fun (v21, v22, v23, v24, v25, v26, v27) => cond (decide (v22 < (ms.length : Int))) (Option.bind (α := (Bool × Int × Int × Int × Int × Int) ⊕ _) (Option.bind (idx ms v22) (fun m44 => cond (m44.Kind != kind) (some (.inl (v21, v23, v24, v25, v26, v27))) (Option.bind (duty_Evaluate m44.Duty v q) (fun x47 => cond (x47.2 != 0) (some (.inr (.inr (.inr (.inr (.inr ((⟨0, 0, 0, 0, 0⟩ : TDebtLine), false, x47.2))))))) (cond ((!v21) || (decide (x47.1 < v27))) (some (.inl (true, m44.Kind, m44.ID, q, v, x47.1))) (some (.inl (v21, v23, v24, v25, v26, v27)))))))) (fun q => match q with | .inl (v37, v38, v39, v40, v41, v42) => some (.inl (v37, (IntKind.i64.wrap (v22 + 1)), v38, v39, v40, v41, v42)) | .inr e => some e)) (some (.inr (.inl (v21, v23, v24, v25, v26, v27)))))
   (fun i (st : LS) => (st.1, i, st.2.1, st.2.2.1, st.2.2.2.1, st.2.2.2.2.1, st.2.2.2.2.2)) (innerF kind q v) (fun st => .inl st) (fun e => .inr (.inr (.inr (zeroL, false, e)))) (fun _ _ => True) (by
    intro k hk st _
    refine ⟨?_, fun _ _ => trivial⟩
    have mk := hm _ (List.getElem_mem hk)
    obtain ⟨e0, e1, e2, _⟩ := dutyVal ms[k].Duty
    rw [mk.duty] at e1
    have hd := e2 (Option.some.inj e1).symm
    dsimp only
    rw [dlt hk, cond_true, bnd (idx_nat hk), eval_prog hd hv hv' hq hq' mk.duty, wnext hk hl', Option.bind_some]
    unfold innerF stepM
    by_cases h1 : ms[k].Kind = kind
    ·rw [if_pos h1, show (ms[k].Kind != kind) = false by simp [h1], cond_false]
     by_cases h2 : (evN ms[k].Duty v q).2 = 0
     ·rw [if_neg (by simp [h2]), show ((evN ms[k].Duty v q).2 != 0) = false by simp [h2], cond_false]
      by_cases h3 : st.1 = false ∨ (evN ms[k].Duty v q).1 < st.2.2.2.2.2
      ·rw [if_pos h3, show ((!st.1) || (decide ((evN ms[k].Duty v q).1 < st.2.2.2.2.2))) = true by simp; exact h3]; rfl
      ·rw [if_neg h3, show ((!st.1) || (decide ((evN ms[k].Duty v q).1 < st.2.2.2.2.2))) = false by
        rw [Bool.eq_false_iff]; intro h; apply h3; simpa using h]; rfl
     ·rw [if_pos h2, show ((evN ms[k].Duty v q).2 != 0) = true by simp [h2]]; rfl
    ·rw [if_neg h1, show (ms[k].Kind != kind) = true by simp [h1]]; rfl)
   (by intro st _; dsimp only; rw [dnlt]; rfl) st trivial).1
 have hk' : ks.length ≤ 4611686018427387904 := by omega
 obtain ⟨e, _⟩ := loop_run (S := Bool × Int × Int × Int × Int × Int × Int) (T := (Bool × Int × Int × Int × Int × Int) ⊕ (TDebtLine × Bool × Int)) hk' (body := fun (v4, v5, v6, v7, v8, v9, v10) => cond (decide (v5 < (ks.length : Int))) (Option.bind (idx ks v5) (fun m20 => Option.bind (loopF (S := Bool × Int × Int × Int × Int × Int × Int) (T := (Bool × Int × Int × Int × Int × Int) ⊕ (_)) (fun (v21, v22, v23, v24, v25, v26, v27) => cond (decide (v22 < (ms.length : Int))) (Option.bind (α := (Bool × Int × Int × Int × Int × Int) ⊕ _) (Option.bind (idx ms v22) (fun m44 => cond (m44.Kind != m20) (some (.inl (v21, v23, v24, v25, v26, v27))) (Option.bind (duty_Evaluate m44.Duty v q) (fun x47 => cond (x47.2 != 0) (some (.inr (.inr (.inr (.inr (.inr ((⟨0, 0, 0, 0, 0⟩ : TDebtLine), false, x47.2))))))) (cond ((!v21) || (decide (x47.1 < v27))) (some (.inl (true, m44.Kind, m44.ID, q, v, x47.1))) (some (.inl (v21, v23, v24, v25, v26, v27)))))))) (fun q => match q with | .inl (v37, v38, v39, v40, v41, v42) => some (.inl (v37, (IntKind.i64.wrap (v22 + 1)), v38, v39, v40, v41, v42)) | .inr e => some e)) (some (.inr (.inl (v21, v23, v24, v25, v26, v27))))) FUEL (v4, 0, v6, v7, v8, v9, v10)) (fun q => match q with | .inl (v28, v29, v30, v31, v32, v33) => some (.inl (v28, (IntKind.i64.wrap (v5 + 1)), v29, v30, v31, v32, v33)) | .inr e => some e))) (some (.inr (.inl (v4, v6, v7, v8, v9, v10)))))
  (fun i (st : LS) => (st.1, i, st.2.1, st.2.2.1, st.2.2.2.1, st.2.2.2.2.1, st.2.2.2.2.2)) (leastF ms q v) (fun st => .inl st) (fun e => .inr (zeroL, false, e)) (fun _ _ => True) (by
   intro k hk st _
   refine ⟨?_, fun _ _ => trivial⟩
   dsimp only
   rw [dlt hk, cond_true, bnd (idx_nat hk), inner, wnext hk hk', Option.bind_some]
   unfold leastF
   cases run (innerF ks[k] q v) ms 0 st <;> rfl)
  (by intro st _; dsimp only; rw [dnlt]; rfl) (false, 0, 0, 0, 0, 0) trivial
 dsimp only
 erw [bnd e]
 unfold least
 cases run (leastF ms q v) ks 0 (false, 0, 0, 0, 0, 0) <;> rfl
end
def val2 (x : TItem) : Int × Int := if 0 < x.Quantity then share2 x.Value x.Granted (x.Quantity - x.Granted) else (0, x.Value)
def kinds3 (x : TItem) : List Int := if x.Proof = true then [1, 2, 3] else [1, 2]
def partsL (x : TItem) : List Tassess_part := (if 0 < x.Granted then [⟨x.Granted, (val2 x).1, kinds3 x ++ [4]⟩] else []) ++ (if 0 < x.Quantity - x.Granted ∨ x.Quantity = 0 then [⟨x.Quantity - x.Granted, (val2 x).2, kinds3 x⟩] else []) ++ [⟨x.Quantity, x.Value, [5]⟩, ⟨x.Quantity, x.Value, [6]⟩]
structure ItOK (x : TItem) : Prop where
 q0 : 0 ≤ x.Quantity
 q1 : x.Quantity ≤ 1000000000
 v0 : 0 ≤ x.Value
 v1 : x.Value ≤ 1000000000000
 g0 : 0 ≤ x.Granted
 g1 : x.Granted ≤ x.Quantity
theorem itOK {x : TItem} (h : assess_Validate x = some 0) : ItOK x := by
 unfold assess_Validate at h
 rw [show nomenclature_Level x.Code = some (level x.Code) from rfl, valid_country, Option.bind_some] at h
 have : ∃ b, gd (!(level x.Code != 8)) (some (ctry x.Origin)) = some b := by cases (!(level x.Code != 8)) <;> exact ⟨_, rfl⟩
 obtain ⟨b, hb⟩ := this
 rw [bnd hb] at h
 cases hc : ((level x.Code != 8) || (!b))
 ·rw [hc, cond_false] at h
  cases hd : (((((((((((decide (x.Company < 0)) || (decide (999 < x.Company))) || (decide (x.Day < 0))) || (decide (36524 < x.Day))) || (decide (x.Quantity < 0))) || (decide (1000000000 < x.Quantity))) || (decide (x.Value < 0))) || (decide (1000000000000 < x.Value))) || (decide (x.Granted < 0))) || (decide (x.Quantity < x.Granted))) : Bool)
  ·simp at hd
   exact ⟨by omega, by omega, by omega, by omega, by omega, by omega⟩
  ·rw [hd] at h; cases h
 ·rw [hc] at h; cases h
theorem val2_ok {x : TItem} (h : ItOK x) : (val2 x).1 + (val2 x).2 = x.Value ∧ 0 ≤ (val2 x).1 ∧ (val2 x).1 ≤ 1000000000000 ∧ 0 ≤ (val2 x).2 ∧ (val2 x).2 ≤ 1000000000000 := by
 obtain ⟨q0, q1, v0, v1, g0, g1⟩ := h
 unfold val2
 split
 ·exact share2_ok ⟨v0, v1, g0, by omega, by omega, by omega, by omega⟩
 ·dsimp only; omega
theorem parts_ok {x : TItem} (h : ItOK x) : assess_partsOf x = some (partsL x, 0) := by
  have hok := h
  obtain ⟨q0, q1, v0, v1, g0, g1⟩ := h
  unfold assess_partsOf
  rw [i64s (r := x.Quantity - x.Granted) (by omega) (by omega)]
  have e1 : (cond (decide (0 < x.Quantity)) (Option.bind (apportion_Share x.Value [x.Granted, x.Quantity - x.Granted]) (fun x9 => cond (x9.2 != 0) (some (.inr (([] : List Tassess_part), x9.2))) (some (.inl x9.1)))) (some (.inl [0, x.Value]))) = some (Sum.inl [(val2 x).1, (val2 x).2] : List Int ⊕ (List Tassess_part × Int)) := by
    unfold val2
    by_cases hq : 0 < x.Quantity
    · rw [decide_eq_true hq, if_pos hq, cond_true, bnd (share_prog ⟨v0, v1, g0, by omega, by omega, by omega, by omega⟩)]; rfl
    · rw [decide_eq_false hq, if_neg hq]; rfl
  rw [bnd e1]
  dsimp only
  have e2 : (cond x.Proof (Option.bind (app 8 [1, 2] [3]) (fun l21 => some l21)) (some [1, 2])) = some (kinds3 x) := by
    unfold kinds3; cases x.Proof <;> rfl
  rw [bnd e2]
  have hk3 : (kinds3 x).length ≤ 3 := by unfold kinds3; split <;> simp
  have e3 : slices_Clone_int_int (kinds3 x) = some (kinds3 x) := by unfold slices_Clone_int_int app; rw [if_pos (by simp; omega)]; rfl
  have e4 : app 8 (kinds3 x) [4] = some (kinds3 x ++ [4]) := by unfold app; rw [if_pos (by simp; omega)]
  have e5 : (cond (decide (0 < x.Granted)) (Option.bind (idx [(val2 x).1, (val2 x).2] 0) (fun m32 => Option.bind (slices_Clone_int_int (kinds3 x)) (fun x33 => Option.bind (app 8 x33 [4]) (fun l39 => Option.bind (app 40 ([] : List Tassess_part) [(⟨x.Granted, m32, l39⟩ : Tassess_part)]) (fun l44 => some l44))))) (some ([] : (List Tassess_part)))) = some (if 0 < x.Granted then [⟨x.Granted, (val2 x).1, kinds3 x ++ [4]⟩] else []) := by
    by_cases hg : 0 < x.Granted
    · rw [decide_eq_true hg, if_pos hg, cond_true, bnd ix0, bnd e3, bnd e4]; rfl
    · rw [decide_eq_false hg, if_neg hg]; rfl
  rw [bnd e5]
  have e6 : ∀ p : List Tassess_part, p.length ≤ 1 → (cond ((decide (0 < x.Quantity - x.Granted)) || (x.Quantity == 0)) (Option.bind (idx [(val2 x).1, (val2 x).2] 1) (fun m54 => Option.bind (app 40 p [(⟨x.Quantity - x.Granted, m54, kinds3 x⟩ : Tassess_part)]) (fun l57 => some l57))) (some p)) = some (p ++ (if 0 < x.Quantity - x.Granted ∨ x.Quantity = 0 then [⟨x.Quantity - x.Granted, (val2 x).2, kinds3 x⟩] else [])) := by
    intro p hp
    by_cases hg : 0 < x.Quantity - x.Granted ∨ x.Quantity = 0
    · rw [if_pos hg, show ((decide (0 < x.Quantity - x.Granted)) || (x.Quantity == 0)) = true by simpa using hg, cond_true, bnd ix1]
      have : app 40 p [(⟨x.Quantity - x.Granted, (val2 x).2, kinds3 x⟩ : Tassess_part)] = some (p ++ [⟨x.Quantity - x.Granted, (val2 x).2, kinds3 x⟩]) := by unfold app; rw [if_pos (by simp; omega)]
      rw [bnd this]
    · rw [if_neg hg, show ((decide (0 < x.Quantity - x.Granted)) || (x.Quantity == 0)) = false by rw [Bool.eq_false_iff]; intro h; apply hg; simpa using h, cond_false, List.append_nil]
  have hp1 : (if 0 < x.Granted then [(⟨x.Granted, (val2 x).1, kinds3 x ++ [4]⟩ : Tassess_part)] else []).length ≤ 1 := by split <;> simp
  rw [bnd (e6 _ hp1)]
  have e7 : ∀ p : List Tassess_part, p.length ≤ 2 → app 40 p [(⟨x.Quantity, x.Value, [5]⟩ : Tassess_part), (⟨x.Quantity, x.Value, [6]⟩ : Tassess_part)] = some (p ++ [⟨x.Quantity, x.Value, [5]⟩, ⟨x.Quantity, x.Value, [6]⟩]) := by
    intro p hp; unfold app; rw [if_pos (by simp; omega)]
  rw [bnd (e7 _ (by rw [List.length_append]; have : (if 0 < x.Quantity - x.Granted ∨ x.Quantity = 0 then [(⟨x.Quantity - x.Granted, (val2 x).2, kinds3 x⟩ : Tassess_part)] else []).length ≤ 1 := by split <;> simp
                    omega))]
  rfl
end SX
end Go.Proofs.YtfcecieppoljlaaGreatDoor
set_option maxRecDepth 100000
namespace Go.Proofs.YtfcecieppoljlaaGreatDoor
namespace SX
open Go
abbrev bindS (p : LS ⊕ Int) (f : LS → LS ⊕ Int) : LS ⊕ Int := bindR p f
def st0 : LS := (false, 0, 0, 0, 0, 0)
def chain (o : Int → Option TMeasure) (q v : Int) : List Int → LS → LS ⊕ Int
 | [], st => .inl st
 | k :: ks, st => bindS (stepO q v (o k) st) (chain o q v ks)
def oK (l : List TMeasure) (x : TItem) (k : Int) : Option TMeasure := ofM l (wants k x.Code x.Origin x.Company x.Day)
theorem run_append {k q v : Int} : ∀ (a b : List TMeasure) (j : Nat) (st : LS), run (innerF k q v) (a ++ b) j st = bindS (run (innerF k q v) a j st) (run (innerF k q v) b 0) := by
 have shift : ∀ (b : List TMeasure) (j i : Nat) (st : LS), run (innerF k q v) b j st = run (innerF k q v) b i st := by
  intro b
  induction b with
  | nil => intro j i st; rfl
  | cons y ys ih =>
   intro j i st
   rw [run_cons, run_cons]
   have : innerF k q v j y st = innerF k q v i y st := rfl
   rw [this]
   cases innerF k q v i y st with
   | inl a' => exact ih _ _ _
   | inr r => rfl
 intro a
 induction a with
 | nil => intro b j st; exact shift b j 0 st
 | cons y ys ih =>
  intro b j st
  rw [List.cons_append, run_cons, run_cons]
  cases innerF k q v j y st with
  | inl a' => exact ih b _ _
  | inr r => rfl
theorem bindR_l {A B R : Type} (a : A) (g : A → B ⊕ R) : bindR (.inl a) g = g a := rfl
theorem bindS_inl (p : LS ⊕ Int) : bindR p (fun s => .inl s) = p := by cases p <;> rfl
section
variable {l : List TMeasure} (hl : l.length ≤ 300) (hm : ∀ m ∈ l, MOK m) (x : TItem)
include hl hm
theorem oK_cases (k : Int) : oK l x k = none ∨ ∃ m, oK l x k = some m ∧ MOK m ∧ m.Kind = k ∧ m ∈ l := by
 rcases ofM_cases hl hm k x.Code x.Origin x.Company x.Day with ⟨h1, _⟩ | ⟨m, h1, _, _, h2, h3, h4⟩
 ·exact .inl h1
 ·exact .inr ⟨m, h1, h2, h3, h4⟩
theorem inner_one (k k' q v : Int) : run (innerF k q v) (oK l x k').toList 0 = fun st => if k' = k then stepO q v (oK l x k) st else .inl st := by
 funext st
 rcases oK_cases hl hm x k' with h | ⟨m, h, _, h2, _⟩
 ·by_cases e : k' = k
  ·subst e; rw [h, if_pos rfl]; rfl
  ·rw [h, if_neg e]; rfl
 ·rw [h]
  show bindR (innerF k q v 0 m st) (run (innerF k q v) [] 1) = _
  unfold innerF
  by_cases e : k' = k
  ·subst e; rw [h, if_pos h2, if_pos rfl]
   show _ = stepM q v st m
   cases stepM q v st m <;> rfl
  ·rw [if_neg (by rw [h2]; exact e), if_neg e]; rfl
theorem inner_all {k : Int} (h1 : 1 ≤ k) (h6 : k ≤ 6) (q v : Int) (st : LS) : run (innerF k q v) (appl l x.Code x.Origin x.Company x.Day) 0 st = stepO q v (oK l x k) st := by
 unfold appl addM
 rw [run_append, run_append, run_append, run_append, run_append, run_append]
 rw [show ofM l (wants 1 x.Code x.Origin x.Company x.Day) = oK l x 1 from rfl, show ofM l (wants 2 x.Code x.Origin x.Company x.Day) = oK l x 2 from rfl, show ofM l (wants 3 x.Code x.Origin x.Company x.Day) = oK l x 3 from rfl, show ofM l (wants 4 x.Code x.Origin x.Company x.Day) = oK l x 4 from rfl, show ofM l (wants 5 x.Code x.Origin x.Company x.Day) = oK l x 5 from rfl, show ofM l (wants 6 x.Code x.Origin x.Company x.Day) = oK l x 6 from rfl]
 rw [inner_one hl hm x k 1, inner_one hl hm x k 2, inner_one hl hm x k 3, inner_one hl hm x k 4, inner_one hl hm x k 5, inner_one hl hm x k 6]
 have hk : k = 1 ∨ k = 2 ∨ k = 3 ∨ k = 4 ∨ k = 5 ∨ k = 6 := by omega
 have base : run (innerF k q v) [] 0 st = .inl st := rfl
 rw [base]
 rcases hk with rfl | rfl | rfl | rfl | rfl | rfl <;> simp [bindR_l, bindS_inl]
theorem least_appl (q v : Int) (ks : List Int) (hks : ∀ k ∈ ks, 1 ≤ k ∧ k ≤ 6) : least (appl l x.Code x.Origin x.Company x.Day) q v ks = chain (oK l x) q v ks st0 := by
 unfold least
 have : ∀ (ks : List Int) (j : Nat) (st : LS), (∀ k ∈ ks, 1 ≤ k ∧ k ≤ 6) → run (leastF (appl l x.Code x.Origin x.Company x.Day) q v) ks j st = chain (oK l x) q v ks st := by
  intro ks
  induction ks with
  | nil => intro j st _; rfl
  | cons k ks ih =>
   intro j st h
   have hk := h k (by simp)
   rw [run_cons]
   show _ = bindS (stepO q v (oK l x k) st) (chain (oK l x) q v ks)
   unfold leastF
   rw [inner_all hl hm x hk.1 hk.2]
   cases stepO q v (oK l x k) st with
   | inl s => exact ih _ _ (fun k' h' => h k' (by simp [h']))
   | inr e => rfl
 exact this ks 0 _ hks
theorem appl_mem : (appl l x.Code x.Origin x.Company x.Day).length ≤ 300 ∧ ∀ m ∈ appl l x.Code x.Origin x.Company x.Day, MOK m := by
 have key : ∀ k, (∀ m ∈ (ofM l (wants k x.Code x.Origin x.Company x.Day)).toList, MOK m) ∧ (ofM l (wants k x.Code x.Origin x.Company x.Day)).toList.length ≤ 1 := by
  intro k
  rcases oK_cases hl hm x k with h | ⟨m, h, h2, _⟩
  ·rw [show ofM l (wants k x.Code x.Origin x.Company x.Day) = none from h]; simp
  ·rw [show ofM l (wants k x.Code x.Origin x.Company x.Day) = some m from h]; simp; exact h2
 unfold appl addM
 constructor
 ·simp only [List.length_append, List.length_nil]
  have := (key 1).2; have := (key 2).2; have := (key 3).2; have := (key 4).2; have := (key 5).2; have := (key 6).2
  omega
 ·intro m h
  simp only [List.mem_append, List.not_mem_nil, false_or] at h
  rcases h with ((((h | h) | h) | h) | h) | h
  ·exact (key 1).1 m h
  ·exact (key 2).1 m h
  ·exact (key 3).1 m h
  ·exact (key 4).1 m h
  ·exact (key 5).1 m h
  ·exact (key 6).1 m h
end
theorem containsFunc (ms : List TMeasure) (hl : ms.length ≤ 4611686018427387904) : slices_ContainsFunc_api_Measure_api_Measure ms (fun y8 => assess_Assess_1 y8) = some (ms.any fun m => m.Kind == 1) := by
 unfold slices_ContainsFunc_api_Measure_api_Measure slices_IndexFunc_api_Measure_api_Measure
 obtain ⟨e, _⟩ := loop_run (T := Unit ⊕ Int) hl (body := fun v1 => cond (decide (v1 < (ms.length : Int))) (Option.bind (idx ms v1) (fun m5 => Option.bind ((fun y8 => assess_Assess_1 y8) m5) (fun x6 => cond x6 (some (.inr (.inr v1))) (some (.inl (IntKind.i64.wrap (v1 + 1))))))) (some (.inr (.inl ()))))
  (fun i (_ : Unit) => i) (fun k m _ => if m.Kind == 1 then .inr (k : Int) else .inl ()) (fun _ => .inl ()) (fun r => .inr r) (fun _ _ => True) (by
   intro k hk a _
   refine ⟨?_, fun _ _ => trivial⟩
   rw [dlt hk, cond_true, bnd (idx_nat hk), wnext hk hl]
   show Option.bind (some (ms[k].Kind == 1)) _ = _
   rw [Option.bind_some]
   cases (ms[k].Kind == 1) <;> rfl)
  (by intro a _; rw [dnlt]; rfl) () trivial
 rw [bnd e]
 have hrun : ∀ (xs : List TMeasure) (k : Nat), (∃ j : Nat, run (fun k (m : TMeasure) (_ : Unit) => if m.Kind == 1 then Sum.inr (k : Int) else Sum.inl ()) xs k () = .inr (j : Int) ∧ (xs.any fun m => m.Kind == 1) = true) ∨ (run (fun k (m : TMeasure) (_ : Unit) => if m.Kind == 1 then Sum.inr (k : Int) else Sum.inl ()) xs k () = .inl () ∧ (xs.any fun m => m.Kind == 1) = false) := by
  intro xs
  induction xs with
  | nil => intro k; right; exact ⟨rfl, rfl⟩
  | cons y ys ih =>
   intro k
   rw [run_cons]
   rw [List.any_cons]
   cases hy : (y.Kind == 1)
   ·exact ih (k + 1)
   ·left; exact ⟨k, rfl, rfl⟩
 rcases hrun ms 0 with ⟨j, h1, h2⟩ | ⟨h1, h2⟩
 ·rw [h1, h2]; show some (decide ((0 : Int) ≤ (j : Int))) = _; rw [decide_eq_true (by omega)]
 ·rw [h1, h2]; rfl
def itErr (x : TItem) : Int := (assess_Validate x).getD 0
def errD (e : Int) : TDebt × Int := (⟨[], 0⟩, e)
def partF (o : Int → Option TMeasure) (_ : Nat) (p : Tassess_part) (st : List TDebtLine × Int) : (List TDebtLine × Int) ⊕ Int := match chain o p.quantity p.value p.kinds st0 with | .inr e => .inr e | .inl s => .inl (if s.1 = true then (st.1 ++ [lineOf s], st.2 + s.2.2.2.2.2) else st)
def finD (st : List TDebtLine × Int) : TDebt × Int := if 1000000000000 < st.2 then errD 3 else (⟨st.1, st.2⟩, 0)
def assessS (l : List TMeasure) (x : TItem) : TDebt × Int := if msErr l ≠ 0 then errD (msErr l) else if itErr x ≠ 0 then errD (itErr x) else if oK l x 1 = none then errD 7 else outf finD errD (run (partF (oK l x)) (partsL x) 0 ([], 0))
def AmtOK (st : LS) : Prop := 0 ≤ st.2.2.2.2.2 ∧ st.2.2.2.2.2 ≤ 1000000000000
structure PartOK (p : Tassess_part) : Prop where
 v0 : 0 ≤ p.value
 v1 : p.value ≤ 1000000000000
 q0 : 0 ≤ p.quantity
 q1 : p.quantity ≤ 1000000000
 kl : p.kinds.length ≤ 10
 kr : ∀ k ∈ p.kinds, 1 ≤ k ∧ k ≤ 6
theorem kinds3_ok (x : TItem) : (kinds3 x).length ≤ 3 ∧ ∀ k ∈ kinds3 x, 1 ≤ k ∧ k ≤ 6 := by
 unfold kinds3; split <;> refine ⟨by simp, ?_⟩ <;> intro k hk <;> simp at hk <;> omega
theorem parts_all {x : TItem} (h : ItOK x) : (partsL x).length ≤ 4 ∧ ∀ p ∈ partsL x, PartOK p := by
 obtain ⟨s, a0, a1, b0, b1⟩ := val2_ok h
 obtain ⟨k1, k2⟩ := kinds3_ok x
 obtain ⟨q0, q1, v0, v1, g0, g1⟩ := h
 unfold partsL
 constructor
 ·simp only [List.length_append, List.length_cons, List.length_nil]
  split <;> split <;> simp
 ·intro p hp
  simp only [List.mem_append, List.mem_cons, List.not_mem_nil, or_false] at hp
  rcases hp with (hp | hp) | hp | hp
  ·split at hp
   ·simp only [List.mem_cons, List.not_mem_nil, or_false] at hp; subst hp
    refine ⟨a0, a1, by dsimp only; omega, by dsimp only; omega, by simp; omega, ?_⟩
    intro k hk
    simp only [List.mem_append, List.mem_cons, List.not_mem_nil, or_false] at hk
    rcases hk with hk | rfl
    ·exact k2 k hk
    ·omega
   ·cases hp
  ·split at hp
   ·simp only [List.mem_cons, List.not_mem_nil, or_false] at hp; subst hp
    exact ⟨b0, b1, by dsimp only; omega, by dsimp only; omega, by dsimp only; omega, k2⟩
   ·cases hp
  ·subst hp; exact ⟨v0, v1, q0, q1, by simp, by intro k hk; simp at hk; omega⟩
  ·subst hp; exact ⟨v0, v1, q0, q1, by simp, by intro k hk; simp at hk; omega⟩
theorem evN_amt {m : TMeasure} (h : MOK m) {q v : Int} (hv : 0 ≤ v) (hv' : v ≤ 1000000000000) (hq : 0 ≤ q) (hq' : q ≤ 1000000000) : ((evN m.Duty v q).2 = 0 ∧ 0 ≤ (evN m.Duty v q).1 ∧ (evN m.Duty v q).1 ≤ 1000000000000) ∨ ((evN m.Duty v q).2 = 3 ∧ (evN m.Duty v q).1 = 0) := by
 obtain ⟨e, e1, e2, _⟩ := dutyVal m.Duty
 rw [h.duty] at e1
 have hd := e2 (Option.some.inj e1).symm
 exact evN_ok m.Duty v q (evSum_ok hd hv hv' hq hq').1.1 (perU hd).1
theorem stepO_amt {o : Option TMeasure} (ho : ∀ m, o = some m → MOK m) {q v : Int} (hv : 0 ≤ v) (hv' : v ≤ 1000000000000) (hq : 0 ≤ q) (hq' : q ≤ 1000000000) {st : LS} (h : AmtOK st) : (∃ s, stepO q v o st = .inl s ∧ AmtOK s ∧ (st.1 = true → s.1 = true) ∧ (o ≠ none → s.1 = true)) ∨ stepO q v o st = .inr 3 := by
 cases o with
 | none => left; exact ⟨st, rfl, h, id, fun h => absurd rfl h⟩
 | some m =>
  have := evN_amt (ho m rfl) hv hv' hq hq'
  show (∃ s, stepM q v st m = .inl s ∧ _) ∨ stepM q v st m = .inr 3
  unfold stepM
  rcases this with ⟨a, b, c⟩ | ⟨a, b⟩
  ·left
   rw [if_neg (by simp [a])]
   by_cases hc : st.1 = false ∨ (evN m.Duty v q).1 < st.2.2.2.2.2
   ·rw [if_pos hc]; exact ⟨_, rfl, ⟨b, c⟩, fun _ => rfl, fun _ => rfl⟩
   ·rw [if_neg hc]; exact ⟨_, rfl, h, id, fun _ => by cases hs : st.1; exact absurd (.inl hs) hc; rfl⟩
  ·right; rw [if_pos (by simp [a]), a]
theorem chain_amt {o : Int → Option TMeasure} (ho : ∀ k m, o k = some m → MOK m) {q v : Int} (hv : 0 ≤ v) (hv' : v ≤ 1000000000000) (hq : 0 ≤ q) (hq' : q ≤ 1000000000) : ∀ (ks : List Int) (st : LS), AmtOK st → (∃ s, chain o q v ks st = .inl s ∧ AmtOK s ∧ (st.1 = true → s.1 = true)) ∨ chain o q v ks st = .inr 3 := by
 intro ks
 induction ks with
 | nil => intro st h; left; exact ⟨st, rfl, h, id⟩
 | cons k ks ih =>
  intro st h
  show (∃ s, bindS (stepO q v (o k) st) (chain o q v ks) = .inl s ∧ _) ∨ bindS (stepO q v (o k) st) (chain o q v ks) = .inr 3
  rcases stepO_amt (ho k) hv hv' hq hq' h with ⟨s, h1, h2, h3, _⟩ | h1
  ·rw [h1]
   rcases ih s h2 with ⟨s', g1, g2, g3⟩ | g1
   ·left; exact ⟨s', g1, g2, fun h => g3 (h3 h)⟩
   ·right; exact g1
  ·rw [h1]; right; rfl
theorem appl_any {l : List TMeasure} (hl : l.length ≤ 300) (hm : ∀ m ∈ l, MOK m) (x : TItem) : ((appl l x.Code x.Origin x.Company x.Day).any fun m => m.Kind == 1) = decide (oK l x 1 ≠ none) := by
 have key : ∀ k, ((ofM l (wants k x.Code x.Origin x.Company x.Day)).toList.any fun m => m.Kind == 1) = decide (k = 1 ∧ oK l x k ≠ none) := by
  intro k
  rcases oK_cases hl hm x k with h | ⟨m, h, _, h2, _⟩
  ·rw [show ofM l (wants k x.Code x.Origin x.Company x.Day) = none from h, h]; simp
  ·rw [show ofM l (wants k x.Code x.Origin x.Company x.Day) = some m from h, h]; simp [h2]
   by_cases e : k = 1 <;> simp [e]
 unfold appl addM
 simp only [List.any_append, List.any_nil, Bool.false_or, key]
 simp
theorem assess_prog (l : List TMeasure) (x : TItem) (hx : ∃ e, assess_Validate x = some e) : assess_Assess l x = some (assessS l x) := by
 obtain ⟨e, he⟩ := hx
 unfold assess_Assess assessS
 have hie : itErr x = e := by unfold itErr; rw [he]; rfl
 rw [bnd (validate_prog l), he, hie]
 rcases Decidable.em (¬ msErr l = 0) with h1 | h1
 ·rw [if_pos h1, show (msErr l != 0) = true by simp [h1]]; rfl
 have h1 := Decidable.not_not.1 h1
 obtain ⟨hl, hm⟩ := msErr_ok h1
 rw [if_neg (by simp [h1]), show (msErr l != 0) = false by simp [h1], cond_false, Option.bind_some]
 rcases Decidable.em (¬ e = 0) with h2 | h2
 ·rw [if_pos h2, show (e != 0) = true by simp [h2]]; rfl
 have h2 := Decidable.not_not.1 h2
 subst h2
 have hit := itOK he
 rw [if_neg (by simp), bne_self_eq_false, cond_false, bnd (applicable hl hm _ _ _ _), bnd (containsFunc _ (by have := (appl_mem hl hm x).1; omega)), appl_any hl hm x]
 by_cases h3 : oK l x 1 = none
 ·rw [if_pos h3, decide_eq_false (by simp [h3])]; rfl
 rw [if_neg h3, decide_eq_true h3, Bool.not_true, cond_false, bnd (parts_ok hit), bne_self_eq_false, cond_false]
 obtain ⟨pl, pa⟩ := parts_all hit
 have hpl : (partsL x).length ≤ 4611686018427387904 := by omega
 have ho : ∀ k m, oK l x k = some m → MOK m := by
  intro k m h
  rcases oK_cases hl hm x k with h' | ⟨m', h', h2, _⟩
  ·rw [h'] at h; cases h
  ·rw [h'] at h; injection h with h; exact h ▸ h2
 obtain ⟨e, _⟩ := loop_run (S := Int × (List TDebtLine) × Int) (T := ((List TDebtLine) × Int) ⊕ (TDebt × Int)) hpl (body := fun (v14, l16, v19) => cond (decide (v14 < ((partsL x).length : Int))) (Option.bind (α := ((List TDebtLine) × Int) ⊕ _) (Option.bind (idx (partsL x) v14) (fun m35 => Option.bind (assess_leastDuty (appl l x.Code x.Origin x.Company x.Day) m35) (fun x37 => cond (x37.2.2 != 0) (some (.inr (.inr (.inr ((⟨[], 0⟩ : TDebt), x37.2.2))))) (cond x37.2.1 (Option.bind (app 40 l16 [x37.1]) (fun l43 => some (.inl (l43, (IntKind.i64.wrap (v19 + x37.1.Amount)))))) (some (.inl (l16, v19))))))) (fun q => match q with | .inl (l32, v33) => some (.inl ((IntKind.i64.wrap (v14 + 1)), l32, v33)) | .inr e => some e)) (some (.inr (.inl (l16, v19)))))
  (fun i (st : List TDebtLine × Int) => (i, st.1, st.2)) (partF (oK l x)) (fun st => .inl st) (fun e => .inr (errD e)) (fun k st => st.1.length ≤ k ∧ 0 ≤ st.2 ∧ st.2 ≤ k * 1000000000000) (by
   intro k hk st ⟨s1, s2, s3⟩
   have pk := pa _ (List.getElem_mem hk)
   obtain ⟨a1, a2⟩ := appl_mem hl hm x
   have hle := least_ok a1 a2 pk.v0 pk.v1 pk.q0 pk.q1 _ pk.kl
   rw [least_appl hl hm x _ _ _ pk.kr] at hle
   have hch := chain_amt ho pk.v0 pk.v1 pk.q0 pk.q1 (partsL x)[k].kinds st0 ⟨by unfold st0; simp, by unfold st0; simp⟩
   dsimp only
   rw [dlt hk, cond_true, bnd (idx_nat hk), show (partsL x)[k] = ⟨(partsL x)[k].quantity, (partsL x)[k].value, (partsL x)[k].kinds⟩ from rfl, hle, wnext hk hpl, Option.bind_some]
   unfold partF
   rcases hch with ⟨s, g1, g2, _⟩ | g1
   ·rw [g1]
    dsimp only [outf]
    obtain ⟨b1, b2⟩ := g2
    cases hs : s.1
    ·refine ⟨rfl, fun a' h => ?_⟩
     injection h with h; subst h
     simp; omega
    ·have hap : app 40 st.1 [lineOf s] = some (st.1 ++ [lineOf s]) := by unfold app; rw [if_pos (by simp; omega)]
     rw [bne_self_eq_false, cond_false, cond_true, bnd hap]
     have hw : IntKind.i64.wrap (st.2 + (lineOf s).Amount) = st.2 + s.2.2.2.2.2 := i64s (by show -9223372036854775808 ≤ st.2 + s.2.2.2.2.2; omega) (by show st.2 + s.2.2.2.2.2 ≤ 9223372036854775807; omega)
     rw [hw]
     refine ⟨rfl, fun a' h => ?_⟩
     injection h with h; subst h
     simp; omega
   ·rw [g1]
    exact ⟨rfl, fun a' h => by cases h⟩)
  (by intro st _; dsimp only; rw [dnlt]; rfl) ([], 0) ⟨by simp, by simp, by simp⟩
 refine (bnd e).trans ?_
 cases hr : run (partF (oK l x)) (partsL x) 0 ([], 0) with
 | inr e => rfl
 | inl st =>
  show cond (decide (1000000000000 < st.2)) _ _ = some (finD st)
  unfold finD
  by_cases h : 1000000000000 < st.2
  ·rw [decide_eq_true h, if_pos h]; rfl
  ·rw [decide_eq_false h, if_neg h]; rfl
end SX
end Go.Proofs.YtfcecieppoljlaaGreatDoor
set_option maxRecDepth 100000
namespace Go.Proofs.YtfcecieppoljlaaGreatDoor
namespace SX
open Go
theorem chain_snoc {o : Int → Option TMeasure} {q v k : Int} : ∀ (ks : List Int) (st : LS), chain o q v (ks ++ [k]) st = bindR (chain o q v ks st) (stepO q v (o k)) := by
 intro ks
 induction ks with
 | nil => intro st; show bindR (stepO q v (o k) st) (fun s => .inl s) = stepO q v (o k) st; exact bindS_inl _
 | cons j ks ih =>
  intro st
  show bindR (stepO q v (o j) st) (chain o q v (ks ++ [k])) = bindR (bindR (stepO q v (o j) st) (chain o q v ks)) _
  cases stepO q v (o j) st with
  | inl s => exact ih s
  | inr e => rfl
def refStep (skip : Bool) (o : Option TMeasure) (k q v : Int) (r : LS) : LS := match o with
 | none => r
 | some m => if skip = true then r else if k = 1 ∨ (evN m.Duty v q).1 < r.2.2.2.2.2 then (r.1 || ((evN m.Duty v q).2 != 0), k, m.ID, q, v, (evN m.Duty v q).1) else (r.1 || ((evN m.Duty v q).2 != 0), r.2)
def LRel (p : LS ⊕ Int) (ov : Bool) (r : LS) : Prop := (∃ s : LS, p = .inl s ∧ s.1 = true ∧ r = (ov, s.2) ∧ AmtOK s) ∨ (p = .inr 3 ∧ r.1 = true)
section
variable {o : Int → Option TMeasure} (ho : ∀ k m, o k = some m → MOK m ∧ m.Kind = k) {q v : Int} (hv : 0 ≤ v) (hv' : v ≤ 1000000000000) (hq : 0 ≤ q) (hq' : q ≤ 1000000000)
include ho hv hv' hq hq'
theorem rel_first {m : TMeasure} (h : o 1 = some m) (ov : Bool) : LRel (stepO q v (o 1) st0) ov (refStep false (o 1) 1 q v (ov, 0, 0, 0, 0, 0)) := by
 obtain ⟨mk, kd⟩ := ho 1 m h
 rw [h]
 show LRel (stepM q v st0 m) ov _
 unfold stepM refStep
 dsimp only
 rw [if_neg (show ¬ false = true by decide), if_pos (Or.inl rfl)]
 rcases evN_amt mk hv hv' hq hq' with ⟨a, b, c⟩ | ⟨a, b⟩
 ·rw [if_neg (by simp [a]), if_pos (Or.inl (show st0.1 = false from rfl)), a, kd]
  left; exact ⟨_, rfl, rfl, by simp, ⟨b, c⟩⟩
 ·rw [if_pos (by simp [a]), a]; right; exact ⟨rfl, by simp⟩
theorem rel_step {p : LS ⊕ Int} {ov : Bool} {r : LS} (h : LRel p ov r) {k : Int} (hk : k ≠ 1) : LRel (bindR p (stepO q v (o k))) ov (refStep false (o k) k q v r) := by
 cases hok : o k with
 | none =>
  rcases h with ⟨s, h1, h2, h3, h4⟩ | ⟨h1, h2⟩
  ·subst h1; left; exact ⟨s, rfl, h2, h3, h4⟩
  ·subst h1; right; exact ⟨rfl, h2⟩
 | some m =>
  obtain ⟨mk, kd⟩ := ho k m hok
  show LRel _ ov (if false = true then r else if k = 1 ∨ (evN m.Duty v q).1 < r.2.2.2.2.2 then _ else _)
  rw [if_neg (show ¬ false = true by decide)]
  rcases h with ⟨s, h1, h2, h3, h4⟩ | ⟨h1, h2⟩
  ·subst h1; subst h3
   show LRel (stepM q v s m) ov _
   unfold stepM
   rcases evN_amt mk hv hv' hq hq' with ⟨a, b, c⟩ | ⟨a, b⟩
   ·rw [if_neg (by simp [a])]
    by_cases hlt : (evN m.Duty v q).1 < s.2.2.2.2.2
    ·rw [if_pos (Or.inr hlt), if_pos (Or.inr hlt), a, kd]
     left; exact ⟨_, rfl, rfl, by simp, ⟨b, c⟩⟩
    ·rw [if_neg (by rw [h2]; simp [hlt]), if_neg (by simp [hk, hlt]), a]
     left; exact ⟨_, rfl, h2, by simp, h4⟩
   ·rw [if_pos (by simp [a]), a]; right
    refine ⟨rfl, ?_⟩
    split <;> simp
  ·subst h1; right
   refine ⟨rfl, ?_⟩
   split <;> simp [h2]
omit ho hv hv' hq hq' in
theorem rel_skip {p : LS ⊕ Int} {ov : Bool} {r : LS} (h : LRel p ov r) {k : Int} : LRel p ov (refStep true (o k) k q v r) := by
 cases o k with
 | none => exact h
 | some m => exact h
def rounds (o : Int → Option TMeasure) (q v : Int) (no3 no4 : Bool) (ov : Bool) : LS := refStep no4 (o 4) 4 q v (refStep no3 (o 3) 3 q v (refStep false (o 2) 2 q v (refStep false (o 1) 1 q v (ov, 0, 0, 0, 0, 0))))
theorem rel_rounds {m : TMeasure} (h : o 1 = some m) (x : TItem) (no4 : Bool) (ov : Bool) : LRel (chain o q v (kinds3 x ++ if no4 = true then [] else [4]) st0) ov (rounds o q v (!x.Proof) no4 ov) := by
 have r1 : LRel (chain o q v [1] st0) ov (refStep false (o 1) 1 q v (ov, 0, 0, 0, 0, 0)) := by
  show LRel (bindR (stepO q v (o 1) st0) (fun s => .inl s)) _ _
  rw [bindS_inl]
  exact rel_first ho hv hv' hq hq' h ov
 have r2 : LRel (chain o q v [1, 2] st0) ov (refStep false (o 2) 2 q v (refStep false (o 1) 1 q v (ov, 0, 0, 0, 0, 0))) := by
  rw [show ([1, 2] : List Int) = [1] ++ [2] from rfl, chain_snoc]
  exact rel_step ho hv hv' hq hq' r1 (by omega)
 have r3 : LRel (chain o q v (kinds3 x) st0) ov (refStep (!x.Proof) (o 3) 3 q v (refStep false (o 2) 2 q v (refStep false (o 1) 1 q v (ov, 0, 0, 0, 0, 0)))) := by
  unfold kinds3
  cases x.Proof
  ·rw [if_neg (by simp)]; exact rel_skip r2
  ·rw [if_pos rfl, show ([1, 2, 3] : List Int) = [1, 2] ++ [3] from rfl, chain_snoc]
   exact rel_step ho hv hv' hq hq' r2 (by omega)
 unfold rounds
 cases no4
 ·rw [if_neg (by simp), chain_snoc]; exact rel_step ho hv hv' hq hq' r3 (by omega)
 ·rw [if_pos rfl, List.append_nil]; exact rel_skip r3
end
section
variable {l : List TMeasure} (hl : l.length ≤ 300) (hm : ∀ m ∈ l, MOK m) (x : TItem)
include hl hm
theorem oK_ok : ∀ k m, oK l x k = some m → MOK m ∧ m.Kind = k := by
 intro k m h
 rcases oK_cases hl hm x k with h' | ⟨m', h', h2, h3, _⟩
 ·rw [h'] at h; cases h
 ·rw [h'] at h; injection h with h; exact h ▸ ⟨h2, h3⟩
theorem ref_inner {gr vs : List Int} {i q v : Int} (hq2 : idx gr i = some q) (hv2 : idx vs i = some v) (hv : 0 ≤ v) (hv' : v ≤ 1000000000000) (hq : 0 ≤ q) (hq' : q ≤ 1000000000) (ov : Bool) {β : Type} (c : LS → Option β) :
    Option.bind (loopF (S := Bool × Int × Int × Int × Int × Int × Int) (T := (Bool × Int × Int × Int × Int × Int)) (fun (v43, v44, v45, v46, v47, v48, v49) => cond (decide (v44 ≤ 4)) (Option.bind (Option.bind (ref19_Of l v44 x.Code x.Origin x.Company x.Day) (fun x68 => cond (((!x68.2) || ((v44 == 3) && (!x.Proof))) || ((v44 == 4) && (i == 1))) (some (v43, v45, v46, v47, v48, v49)) (Option.bind (idx vs i) (fun m71 => Option.bind (idx gr i) (fun m72 => Option.bind (ref17_Evaluate x68.1.Duty m71 m72) (fun x73 => cond ((v44 == 1) || (decide (x73.1 < v49))) (Option.bind (idx gr i) (fun m75 => Option.bind (idx vs i) (fun m76 => some ((v43 || (x73.2 != 0)), v44, x68.1.ID, m75, m76, x73.1)))) (some ((v43 || (x73.2 != 0)), v45, v46, v47, v48, v49)))))))) (fun (v60, v62, v63, v64, v65, v66) => some (.inl (v60, (IntKind.i64.wrap (v44 + 1)), v62, v63, v64, v65, v66)))) (some (.inr (v43, v45, v46, v47, v48, v49)))) FUEL (ov, 1, 0, 0, 0, 0, 0)) c = c (rounds (oK l x) q v (!x.Proof) (i == 1) ov) := by
  have one : ∀ (k : Int) (hk : k ≤ 4) (hk0 : 1 ≤ k) (r : LS), (fun (v43, v44, v45, v46, v47, v48, v49) => cond (decide (v44 ≤ 4)) (Option.bind (Option.bind (ref19_Of l v44 x.Code x.Origin x.Company x.Day) (fun x68 => cond (((!x68.2) || ((v44 == 3) && (!x.Proof))) || ((v44 == 4) && (i == 1))) (some (v43, v45, v46, v47, v48, v49)) (Option.bind (idx vs i) (fun m71 => Option.bind (idx gr i) (fun m72 => Option.bind (ref17_Evaluate x68.1.Duty m71 m72) (fun x73 => cond ((v44 == 1) || (decide (x73.1 < v49))) (Option.bind (idx gr i) (fun m75 => Option.bind (idx vs i) (fun m76 => some ((v43 || (x73.2 != 0)), v44, x68.1.ID, m75, m76, x73.1)))) (some ((v43 || (x73.2 != 0)), v45, v46, v47, v48, v49)))))))) (fun (v60, v62, v63, v64, v65, v66) => some (.inl (v60, (IntKind.i64.wrap (v44 + 1)), v62, v63, v64, v65, v66)))) (some (.inr (v43, v45, v46, v47, v48, v49))) : Bool × Int × Int × Int × Int × Int × Int → Option ((Bool × Int × Int × Int × Int × Int × Int) ⊕ (Bool × Int × Int × Int × Int × Int))) (r.1, k, r.2) = some (.inl ((refStep (((k == 3) && (!x.Proof)) || ((k == 4) && (i == 1))) (oK l x k) k q v r).1, k + 1, (refStep (((k == 3) && (!x.Proof)) || ((k == 4) && (i == 1))) (oK l x k) k q v r).2)) := by
    intro k hk hk0 r
    obtain ⟨r1, r2, r3, r4, r5, r6⟩ := r
    dsimp only
    rw [decide_eq_true hk, cond_true, bnd (ref_of hl hm k x.Code x.Origin x.Company x.Day), show ofM l (wants k x.Code x.Origin x.Company x.Day) = oK l x k from rfl, i64s (by omega) (by omega)]
    cases hok : oK l x k with
    | none => rfl
    | some m =>
      obtain ⟨mk, _⟩ := oK_ok hl hm x k m hok
      obtain ⟨e0, e1, e2, _⟩ := dutyVal m.Duty
      rw [mk.duty] at e1
      have hd := e2 (Option.some.inj e1).symm
      dsimp only
      rw [Bool.not_true, Bool.false_or]
      unfold refStep
      dsimp only
      cases (((k == 3) && (!x.Proof)) || ((k == 4) && (i == 1)))
      · rw [cond_false, bnd hv2, bnd hq2, bnd (eval_ref hd hv hv' hq hq' mk.duty), bnd hq2, bnd hv2, if_neg (show ¬ false = true by decide)]
        by_cases hc : k = 1 ∨ (evN m.Duty v q).1 < r6
        · rw [if_pos hc, show ((k == 1) || decide ((evN m.Duty v q).1 < r6)) = true by simpa using hc]; rfl
        · rw [if_neg hc, show ((k == 1) || decide ((evN m.Duty v q).1 < r6)) = false by rw [Bool.eq_false_iff]; intro h; apply hc; simpa using h]; rfl
      · rfl
  unfold rounds
  refine (lfb_step (N := 1267650600228229401496703205375) _ (one 1 (by omega) (by omega) (ov, 0, 0, 0, 0, 0))).trans ?_
  refine (lfb_step (N := 1267650600228229401496703205374) _ (one 2 (by omega) (by omega) _)).trans ?_
  refine (lfb_step (N := 1267650600228229401496703205373) _ (one 3 (by omega) (by omega) _)).trans ?_
  refine (lfb_step (N := 1267650600228229401496703205372) _ (one 4 (by omega) (by omega) _)).trans ?_
  refine (lfb_done (N := 1267650600228229401496703205371) _ rfl).trans ?_
  have b1 : ((((1 : Int) == 3) && (!x.Proof)) || (((1 : Int) == 4) && (i == 1))) = false := rfl
  have b2 : ((((2 : Int) == 3) && (!x.Proof)) || (((2 : Int) == 4) && (i == 1))) = false := rfl
  have b3 : ((((3 : Int) == 3) && (!x.Proof)) || (((3 : Int) == 4) && (i == 1))) = !x.Proof := by cases x.Proof <;> rfl
  have b4 : ((((4 : Int) == 3) && (!x.Proof)) || (((4 : Int) == 4) && (i == 1))) = (i == 1) := by cases (i == 1) <;> rfl
  rw [b1, b2, b3, b4]
end
end SX
end Go.Proofs.YtfcecieppoljlaaGreatDoor
set_option maxRecDepth 100000
namespace Go.Proofs.YtfcecieppoljlaaGreatDoor
namespace SX
open Go
theorem run_app {α A R : Type} {f : Nat → α → A → A ⊕ R} (hf : ∀ j i y a, f j y a = f i y a) : ∀ (a b : List α) (j : Nat) (st : A), run f (a ++ b) j st = bindR (run f a j st) (run f b 0) := by
 have shift : ∀ (b : List α) (j i : Nat) (st : A), run f b j st = run f b i st := by
  intro b
  induction b with
  | nil => intro j i st; rfl
  | cons y ys ih =>
   intro j i st
   rw [run_cons, run_cons, hf j i y st]
   cases f i y st with
   | inl a' => exact ih _ _ _
   | inr r => rfl
 intro a
 induction a with
 | nil => intro b j st; exact shift b j 0 st
 | cons y ys ih =>
  intro b j st
  rw [List.cons_append, run_cons, run_cons]
  cases f j y st with
  | inl a' => exact ih b _ _
  | inr r => rfl
theorem bindR_id {A R : Type} (p : A ⊕ R) : bindR p (fun s => .inl s) = p := by cases p <;> rfl
theorem run_one {α A R : Type} {f : Nat → α → A → A ⊕ R} (y : α) : run f [y] 0 = f 0 y := by
 funext st; rw [run_cons]; exact bindR_id _
def sumF (_ : Nat) (y : TDebtLine) (t : Int) : Int ⊕ Unit := .inl (IntKind.i64.wrap (t + y.Amount))
def sumR (ls : List TDebtLine) : Int := outf id (fun _ => 0) (run sumF ls 0 0)
theorem sumR_snoc (ls : List TDebtLine) (y : TDebtLine) : sumR (ls ++ [y]) = IntKind.i64.wrap (sumR ls + y.Amount) := by
 unfold sumR
 rw [run_app (fun _ _ _ _ => rfl), run_one]
 cases h : run sumF ls 0 0 with
 | inl t => rfl
 | inr u =>
  exact absurd h (by
   have : ∀ (ls : List TDebtLine) (k : Nat) (t : Int), ∃ t', run sumF ls k t = .inl t' := by
    intro ls
    induction ls with
    | nil => intro k t; exact ⟨t, rfl⟩
    | cons z zs ih => intro k t; exact ih _ _
   obtain ⟨t', h'⟩ := this ls 0 0
   rw [h']; intro h; cases h)
def RelO (n : Nat) (p : (List TDebtLine × Int) ⊕ Int) (r : Bool × List TDebtLine) : Prop := r.2.length ≤ n ∧ ((∃ st, p = .inl st ∧ r = (false, st.1) ∧ sumR st.1 = st.2 ∧ 0 ≤ st.2 ∧ st.2 ≤ (n : Int) * 1000000000000) ∨ (p = .inr 3 ∧ r.1 = true))
theorem RelO.up {n m : Nat} (h : n ≤ m) {p : (List TDebtLine × Int) ⊕ Int} {r : Bool × List TDebtLine} (hr : RelO n p r) : RelO m p r := by
 obtain ⟨a, b⟩ := hr
 refine ⟨by omega, ?_⟩
 rcases b with ⟨st, h1, h2, h3, h4, h5⟩ | b
 ·left; exact ⟨st, h1, h2, h3, h4, by omega⟩
 ·right; exact b
theorem rel_add {n : Nat} (hn : n ≤ 10) {p : (List TDebtLine × Int) ⊕ Int} {r : Bool × List TDebtLine} (h : RelO n p r) {o : Int → Option TMeasure} {j : Nat} {q v : Int} {ks : List Int} {rr : LS} (hc : LRel (chain o q v ks st0) r.1 rr) : RelO (n + 1) (bindR p (partF o j ⟨q, v, ks⟩)) (rr.1, r.2 ++ [lineOf rr]) := by
 obtain ⟨a, b⟩ := h
 refine ⟨by simp; omega, ?_⟩
 rcases b with ⟨st, h1, h2, h3, h4, h5⟩ | ⟨h1, h2⟩
 ·subst h1; subst h2
  rcases hc with ⟨s, g1, g2, g3, g4⟩ | ⟨g1, g2⟩
  ·left
   subst g3
   refine ⟨(st.1 ++ [lineOf s], st.2 + s.2.2.2.2.2), ?_, rfl, ?_, ?_, ?_⟩
   ·show partF o j ⟨q, v, ks⟩ st = _
    unfold partF
    dsimp only
    rw [g1]; dsimp only; rw [if_pos g2]
   ·rw [sumR_snoc, h3]
    exact i64s (by show -9223372036854775808 ≤ st.2 + s.2.2.2.2.2; have := g4.1; omega) (by show st.2 + s.2.2.2.2.2 ≤ 9223372036854775807; have := g4.2; omega)
   ·have := g4.1; dsimp only; omega
   ·have := g4.2; dsimp only; omega
  ·right
   refine ⟨?_, g2⟩
   show partF o j ⟨q, v, ks⟩ st = _
   unfold partF
   dsimp only
   rw [g1]
 ·right
  subst h1
  refine ⟨rfl, ?_⟩
  rcases hc with ⟨s, g1, g2, g3, g4⟩ | ⟨g1, g2⟩
  ·rw [g3]; exact h2
  ·exact g2
def refMore (o : Int → Option TMeasure) (k q v : Int) (r : Bool × List TDebtLine) : Bool × List TDebtLine := match o k with
 | none => r
 | some m => (r.1 || ((evN m.Duty v q).2 != 0), r.2 ++ [⟨k, m.ID, q, v, (evN m.Duty v q).1⟩])
theorem rel_more {n : Nat} (hn : n ≤ 10) {p : (List TDebtLine × Int) ⊕ Int} {r : Bool × List TDebtLine} (h : RelO n p r) {o : Int → Option TMeasure} (ho : ∀ k m, o k = some m → MOK m ∧ m.Kind = k) {j : Nat} {q v k : Int} (hv : 0 ≤ v) (hv' : v ≤ 1000000000000) (hq : 0 ≤ q) (hq' : q ≤ 1000000000) : RelO (n + 1) (bindR p (partF o j ⟨q, v, [k]⟩)) (refMore o k q v r) := by
 have hch : chain o q v [k] st0 = stepO q v (o k) st0 := bindS_inl _
 unfold refMore
 cases hok : o k with
 | none =>
  dsimp only
  have e : ∀ st, partF o j ⟨q, v, [k]⟩ st = .inl st := by
   intro st; unfold partF; dsimp only; rw [hch, hok]; rfl
  have : bindR p (partF o j ⟨q, v, [k]⟩) = p := by
   cases p with
   | inl st => exact e st
   | inr e => rfl
  rw [this]; exact h.up (by omega)
 | some m =>
  obtain ⟨mk, kd⟩ := ho k m hok
  dsimp only
  have hr : LRel (chain o q v [k] st0) r.1 (r.1 || ((evN m.Duty v q).2 != 0), k, m.ID, q, v, (evN m.Duty v q).1) := by
   rw [hch, hok]
   show LRel (stepM q v st0 m) _ _
   unfold stepM
   rcases evN_amt mk hv hv' hq hq' with ⟨a, b, c⟩ | ⟨a, b⟩
   ·rw [if_neg (by simp [a]), if_pos (Or.inl (show st0.1 = false from rfl)), a, kd]
    left; exact ⟨_, rfl, rfl, by simp, ⟨b, c⟩⟩
   ·rw [if_pos (by simp [a]), a]; right; exact ⟨rfl, by simp⟩
  exact rel_add hn h hr
def refPart (o : Int → Option TMeasure) (x : TItem) (q v : Int) (skip no4 : Bool) (r : Bool × List TDebtLine) : Bool × List TDebtLine := if skip = true then r else ((rounds o q v (!x.Proof) no4 r.1).1, r.2 ++ [lineOf (rounds o q v (!x.Proof) no4 r.1)])
section
variable {l : List TMeasure} (hl : l.length ≤ 300) (hm : ∀ m ∈ l, MOK m) {x : TItem} (hx : ItOK x) {m1 : TMeasure} (h1 : oK l x 1 = some m1)
include hl hm hx h1
def refAll (l : List TMeasure) (x : TItem) : Bool × List TDebtLine := refMore (oK l x) 6 x.Quantity x.Value (refMore (oK l x) 5 x.Quantity x.Value (refPart (oK l x) x (x.Quantity - x.Granted) (val2 x).2 (((x.Quantity - x.Granted) == 0) && (decide (0 < x.Quantity))) true (refPart (oK l x) x x.Granted (val2 x).1 (x.Granted == 0) false (false, []))))
theorem rel_all : RelO 4 (run (partF (oK l x)) (partsL x) 0 ([], 0)) (refAll l x) := by
 have ho := oK_ok hl hm x
 obtain ⟨s, a0, a1, b0, b1⟩ := val2_ok hx
 obtain ⟨q0, q1, v0, v1, g0, g1⟩ := hx
 unfold partsL refAll
 rw [run_app (fun _ _ _ _ => rfl), run_app (fun _ _ _ _ => rfl)]
 have start : RelO 0 (.inl ([], 0)) (false, []) := ⟨by simp, .inl ⟨_, rfl, rfl, rfl, by simp, by simp⟩⟩
 have p1 : RelO 1 (run (partF (oK l x)) (if 0 < x.Granted then [⟨x.Granted, (val2 x).1, kinds3 x ++ [4]⟩] else []) 0 ([], 0)) (refPart (oK l x) x x.Granted (val2 x).1 (x.Granted == 0) false (false, [])) := by
  unfold refPart
  by_cases hg : 0 < x.Granted
  ·rw [if_pos hg, if_neg (by simp; omega), run_one]
   exact rel_add (p := .inl ([], 0)) (j := 0) (by omega) start (rel_rounds ho a0 a1 g0 (by omega) h1 x false false)
  ·rw [if_neg hg, if_pos (by simp; omega)]; exact start.up (by omega)
 have p2 : RelO 2 (bindR (run (partF (oK l x)) (if 0 < x.Granted then [⟨x.Granted, (val2 x).1, kinds3 x ++ [4]⟩] else []) 0 ([], 0)) (run (partF (oK l x)) (if 0 < x.Quantity - x.Granted ∨ x.Quantity = 0 then [⟨x.Quantity - x.Granted, (val2 x).2, kinds3 x⟩] else []) 0)) (refPart (oK l x) x (x.Quantity - x.Granted) (val2 x).2 (((x.Quantity - x.Granted) == 0) && (decide (0 < x.Quantity))) true (refPart (oK l x) x x.Granted (val2 x).1 (x.Granted == 0) false (false, []))) := by
  generalize refPart (oK l x) x x.Granted (val2 x).1 (x.Granted == 0) false (false, []) = r1 at *
  generalize run (partF (oK l x)) (if 0 < x.Granted then [⟨x.Granted, (val2 x).1, kinds3 x ++ [4]⟩] else []) 0 ([], 0) = pp at *
  unfold refPart
  by_cases hg : 0 < x.Quantity - x.Granted ∨ x.Quantity = 0
  ·rw [if_pos hg, show (((x.Quantity - x.Granted) == 0) && (decide (0 < x.Quantity))) = false by rw [Bool.and_eq_false_iff]; simp only [beq_eq_false_iff_ne, decide_eq_false_iff_not]; omega, if_neg (show ¬ false = true by decide), run_one]
   have := rel_rounds ho b0 b1 (show 0 ≤ x.Quantity - x.Granted by omega) (by omega) h1 x true r1.1
   rw [if_pos rfl, List.append_nil] at this
   exact rel_add (j := 0) (by omega) p1 this
  ·rw [if_neg hg, show (((x.Quantity - x.Granted) == 0) && (decide (0 < x.Quantity))) = true by rw [Bool.and_eq_true]; simp only [beq_iff_eq, decide_eq_true_eq]; omega, if_pos rfl]
   have : (run (partF (oK l x)) [] 0) = fun st => .inl st := rfl
   rw [this, bindR_id]; exact p1.up (by omega)
 have e56 : ∀ st, run (partF (oK l x)) [⟨x.Quantity, x.Value, [5]⟩, ⟨x.Quantity, x.Value, [6]⟩] 0 st = bindR (partF (oK l x) 0 ⟨x.Quantity, x.Value, [5]⟩ st) (partF (oK l x) 0 ⟨x.Quantity, x.Value, [6]⟩) := by
  intro st
  rw [show ([⟨x.Quantity, x.Value, [5]⟩, ⟨x.Quantity, x.Value, [6]⟩] : List Tassess_part) = [⟨x.Quantity, x.Value, [5]⟩] ++ [⟨x.Quantity, x.Value, [6]⟩] from rfl, run_app (fun _ _ _ _ => rfl), run_one, run_one]
 have p3 := rel_more (by omega) p2 ho (j := 0) (k := 5) v0 v1 q0 q1
 have p4 := rel_more (by omega) p3 ho (j := 0) (k := 6) v0 v1 q0 q1
 rw [show run (partF (oK l x)) [⟨x.Quantity, x.Value, [5]⟩, ⟨x.Quantity, x.Value, [6]⟩] 0 = fun st => bindR (partF (oK l x) 0 ⟨x.Quantity, x.Value, [5]⟩ st) (partF (oK l x) 0 ⟨x.Quantity, x.Value, [6]⟩) from funext e56]
 have assoc : ∀ p : (List TDebtLine × Int) ⊕ Int, bindR (bindR p (partF (oK l x) 0 ⟨x.Quantity, x.Value, [5]⟩)) (partF (oK l x) 0 ⟨x.Quantity, x.Value, [6]⟩) = bindR p (fun st => bindR (partF (oK l x) 0 ⟨x.Quantity, x.Value, [5]⟩ st) (partF (oK l x) 0 ⟨x.Quantity, x.Value, [6]⟩)) := by
  intro p; cases p <;> rfl
 rw [assoc] at p4
 exact p4
end
theorem refPart_len (o : Int → Option TMeasure) (x : TItem) (q v : Int) (skip no4 : Bool) (r : Bool × List TDebtLine) : (refPart o x q v skip no4 r).2.length ≤ r.2.length + 1 := by
 unfold refPart; split <;> simp
theorem refMore_len (o : Int → Option TMeasure) (k q v : Int) (r : Bool × List TDebtLine) : (refMore o k q v r).2.length ≤ r.2.length + 1 := by
 unfold refMore; split <;> simp
theorem sum_loop (ls : List TDebtLine) (hl : ls.length ≤ 100) {β : Type} (c : Int → Option β) : Option.bind (loopF (S := Int × Int) (T := (Int)) (fun (v113, v114) => cond (decide (v113 < ((ls.length : Nat) : Int))) (Option.bind (idx ls v113) (fun m120 => some (.inl ((IntKind.i64.wrap (v113 + 1)), (IntKind.i64.wrap (v114 + m120.Amount)))))) (some (.inr v114))) FUEL (0, 0)) c = c (sumR ls) := by
 have hl' : ls.length ≤ 4611686018427387904 := by omega
 obtain ⟨e, _⟩ := loop_run (S := Int × Int) (T := Int) hl' (body := fun (v113, v114) => cond (decide (v113 < ((ls.length : Nat) : Int))) (Option.bind (idx ls v113) (fun m120 => some (.inl ((IntKind.i64.wrap (v113 + 1)), (IntKind.i64.wrap (v114 + m120.Amount)))))) (some (.inr v114)))
  (fun i t => (i, t)) sumF id (fun _ => 0) (fun _ _ => True) (by
   intro k hk t _
   refine ⟨?_, fun _ _ => trivial⟩
   dsimp only
   rw [dlt hk, cond_true, bnd (idx_nat hk), wnext hk hl']; rfl)
  (by intro t _; dsimp only; rw [dnlt]; rfl) 0 trivial
 exact bnd e
theorem assess_ref (l : List TMeasure) (x : TItem) (hp : ∀ m ∈ l, m.Prefix.size ≤ 140737488355328) (hc : x.Code.size ≤ 140737488355328) : ref19_Assess l x = some (assessS l x) := by
 obtain ⟨e, he, he2⟩ := valid_eq x hc
 unfold ref19_Assess assessS
 have hie : itErr x = e := by unfold itErr; rw [he]; rfl
 rw [bnd (validate_ref l hp), he2, hie]
 rcases Decidable.em (¬ msErr l = 0) with h1 | h1
 ·rw [if_pos h1, show (msErr l != 0) = true by simp [h1]]; rfl
 have h1 := Decidable.not_not.1 h1
 obtain ⟨hl, hm⟩ := msErr_ok h1
 rw [if_neg (by simp [h1]), show (msErr l != 0) = false by simp [h1], cond_false, Option.bind_some]
 rcases Decidable.em (¬ e = 0) with h2 | h2
 ·rw [if_pos h2, show (e != 0) = true by simp [h2]]; rfl
 have h2 := Decidable.not_not.1 h2
 subst h2
 have hit := itOK he
 obtain ⟨s, a0, a1, b0, b1⟩ := val2_ok hit
 have hit' := hit
 obtain ⟨q0, q1, v0, v1, g0, g1⟩ := hit'
 rw [if_neg (by simp), bne_self_eq_false, cond_false, i64s (r := x.Quantity - x.Granted) (by omega) (by omega)]
 have e1 : (cond (decide (0 < x.Quantity)) (Option.bind (ref02_Share x.Value [x.Granted, x.Quantity - x.Granted]) (fun x14 => some x14.1)) (some [0, x.Value])) = some [(val2 x).1, (val2 x).2] := by
  unfold val2
  by_cases hq : 0 < x.Quantity
  ·rw [decide_eq_true hq, if_pos hq, cond_true, bnd (share_ref ⟨v0, v1, g0, by omega, by omega, by omega, by omega⟩)]
  ·rw [decide_eq_false hq, if_neg hq]; rfl
 rw [bnd e1, bnd (ref_of hl hm 1 x.Code x.Origin x.Company x.Day), show ofM l (wants 1 x.Code x.Origin x.Company x.Day) = oK l x 1 from rfl]
 cases hok : oK l x 1 with
 | none => rw [if_pos rfl]; rfl
 | some m1 =>
 rw [if_neg (by simp)]
 dsimp only
 rw [Bool.not_true, cond_false]
 have all := rel_all hl hm hit hok
 have ho := oK_ok hl hm x
 have hr1 : (refPart (oK l x) x x.Granted (val2 x).1 (x.Granted == 0) false (false, [])).2.length ≤ 1 := refPart_len _ _ _ _ _ _ _
 have hr2 : (refPart (oK l x) x (x.Quantity - x.Granted) (val2 x).2 (((x.Quantity - x.Granted) == 0) && (decide (0 < x.Quantity))) true (refPart (oK l x) x x.Granted (val2 x).1 (x.Granted == 0) false (false, []))).2.length ≤ 2 := Nat.le_trans (refPart_len _ _ _ _ _ _ _) (by omega)
 refine (lfb_step (N := 1267650600228229401496703205375) ((refPart (oK l x) x x.Granted (val2 x).1 (x.Granted == 0) false (false, [])).1, 1, (refPart (oK l x) x x.Granted (val2 x).1 (x.Granted == 0) false (false, [])).2) ?_).trans ?_
 ·dsimp only
  rw [show decide ((0 : Int) < 2) = true from rfl, cond_true, bnd ix0, show (((0 : Int) == 0) || (decide (0 < x.Quantity))) = true from rfl, Bool.and_true]
  unfold refPart
  cases (x.Granted == 0)
  ·rw [cond_false, ref_inner hl hm x (gr := [x.Granted, x.Quantity - x.Granted]) (vs := [(val2 x).1, (val2 x).2]) (i := 0) ix0 ix0 a0 a1 g0 (by omega)]
   rfl
  ·rfl
 generalize hr1e : refPart (oK l x) x x.Granted (val2 x).1 (x.Granted == 0) false (false, []) = r1 at *
 refine (lfb_step (N := 1267650600228229401496703205374) ((refPart (oK l x) x (x.Quantity - x.Granted) (val2 x).2 (((x.Quantity - x.Granted) == 0) && (decide (0 < x.Quantity))) true r1).1, 2, (refPart (oK l x) x (x.Quantity - x.Granted) (val2 x).2 (((x.Quantity - x.Granted) == 0) && (decide (0 < x.Quantity))) true r1).2) ?_).trans ?_
 ·dsimp only
  rw [show decide ((1 : Int) < 2) = true from rfl, cond_true, bnd ix1, show (((1 : Int) == 0) || (decide (0 < x.Quantity))) = decide (0 < x.Quantity) from rfl]
  unfold refPart
  cases (((x.Quantity - x.Granted) == 0) && (decide (0 < x.Quantity)))
  ·rw [cond_false, ref_inner hl hm x (gr := [x.Granted, x.Quantity - x.Granted]) (vs := [(val2 x).1, (val2 x).2]) (i := 1) ix1 ix1 b0 b1 (show 0 ≤ x.Quantity - x.Granted by omega) (by omega)]
   have hap : ∀ y : TDebtLine, app 40 r1.2 [y] = some (r1.2 ++ [y]) := by intro y; unfold app; rw [if_pos (by simp; omega)]
   rw [bnd (hap _)]; rfl
  ·rfl
 refine (lfb_done (N := 1267650600228229401496703205373) (refPart (oK l x) x (x.Quantity - x.Granted) (val2 x).2 (((x.Quantity - x.Granted) == 0) && (decide (0 < x.Quantity))) true r1) rfl).trans ?_
 have hall : refAll l x = refMore (oK l x) 6 x.Quantity x.Value (refMore (oK l x) 5 x.Quantity x.Value (refPart (oK l x) x (x.Quantity - x.Granted) (val2 x).2 (((x.Quantity - x.Granted) == 0) && (decide (0 < x.Quantity))) true r1)) := by
  unfold refAll; rw [hr1e]
 generalize refPart (oK l x) x (x.Quantity - x.Granted) (val2 x).2 (((x.Quantity - x.Granted) == 0) && (decide (0 < x.Quantity))) true r1 = r2 at *
 have more : ∀ (k : Int) (_ : k = 5 ∨ k = 6) (r : Bool × List TDebtLine) (_ : r.2.length ≤ 10), (Option.bind (Option.bind (ref19_Of l k x.Code x.Origin x.Company x.Day) (fun x103 => cond x103.2 (Option.bind (ref17_Evaluate x103.1.Duty x.Value x.Quantity) (fun x106 => Option.bind (app 40 r.2 [(⟨k, x103.1.ID, x.Quantity, x.Value, x106.1⟩ : TDebtLine)]) (fun l109 => some ((r.1 || (x106.2 != 0)), l109)))) (some (r.1, r.2)))) (fun (v97, l101) => some (Sum.inl (v97, (IntKind.i64.wrap (k + 1)), l101)))) = some (Sum.inl ((refMore (oK l x) k x.Quantity x.Value r).1, k + 1, (refMore (oK l x) k x.Quantity x.Value r).2) : (Bool × Int × List TDebtLine) ⊕ (Bool × List TDebtLine)) := by
  intro k hk r hr
  rw [bnd (ref_of hl hm k x.Code x.Origin x.Company x.Day), show ofM l (wants k x.Code x.Origin x.Company x.Day) = oK l x k from rfl, i64s (by omega) (by omega)]
  unfold refMore
  cases hokk : oK l x k with
  | none => rfl
  | some m =>
   obtain ⟨mk, _⟩ := ho k m hokk
   obtain ⟨e0, e1, e2, _⟩ := dutyVal m.Duty
   rw [mk.duty] at e1
   have hd := e2 (Option.some.inj e1).symm
   have hap : ∀ y : TDebtLine, app 40 r.2 [y] = some (r.2 ++ [y]) := by intro y; unfold app; rw [if_pos (by simp; omega)]
   dsimp only
   rw [cond_true, bnd (eval_ref hd v0 v1 q0 q1 mk.duty), bnd (hap _)]; rfl
 have hm5 : (refMore (oK l x) 5 x.Quantity x.Value r2).2.length ≤ 3 := Nat.le_trans (refMore_len _ _ _ _ _) (by omega)
 refine (lfb_step (N := 1267650600228229401496703205375) ((refMore (oK l x) 5 x.Quantity x.Value r2).1, 6, (refMore (oK l x) 5 x.Quantity x.Value r2).2) ?_).trans ?_
 ·exact more 5 (.inl rfl) r2 (by omega)
 generalize refMore (oK l x) 5 x.Quantity x.Value r2 = r3 at *
 refine (lfb_step (N := 1267650600228229401496703205374) ((refMore (oK l x) 6 x.Quantity x.Value r3).1, 7, (refMore (oK l x) 6 x.Quantity x.Value r3).2) ?_).trans ?_
 ·exact more 6 (.inr rfl) r3 (by omega)
 refine (lfb_done (N := 1267650600228229401496703205373) (refMore (oK l x) 6 x.Quantity x.Value r3) rfl).trans ?_
 rw [← hall]
 obtain ⟨al, ac⟩ := all
 refine (sum_loop (refAll l x).2 (by omega) _).trans ?_
 rcases ac with ⟨st, k1, k2, k3, k4, k5⟩ | ⟨k1, k2⟩
 ·rw [k1, k2, k3]
  show cond (false || decide (1000000000000 < st.2)) _ _ = some (finD st)
  unfold finD
  by_cases h : 1000000000000 < st.2
  ·rw [decide_eq_true h, if_pos h]; rfl
  ·rw [decide_eq_false h, if_neg h]; rfl
 ·rw [k1, k2]; rfl
end SX
end Go.Proofs.YtfcecieppoljlaaGreatDoor
set_option maxRecDepth 100000
namespace Go.Proofs.YtfcecieppoljlaaGreatDoor
namespace SX
open Go
theorem code_gen {p : Tmade_Source} (hp : SOK p) {n : Nat} (hn : n = 2 ∨ n = 4 ∨ n = 6 ∨ n = 8) : ∃ l q, made_Source_Code p (n : Int) = some (strOfNums l, q) ∧ l.length = n ∧ Digs l ∧ SOK q := by
 unfold made_Source_Code
 obtain ⟨r, q, h1, h2, h3, h4⟩ := next_ok hp 2 (by omega) (by omega)
 rw [bnd h1]
 simp only
 rw [i64s (by omega) (by omega), wrap_u8 (by omega)]
 obtain ⟨t, h5, h6⟩ := loopF_run (body := fun (l5, l8, v9) => cond (decide (((l5.length : Nat) : Int) < (n : Int))) (Option.bind (made_Source_Next (⟨l8, v9⟩ : Tmade_Source) 3) (fun x19 => Option.bind (app 1 l5 [48, (IntKind.u8.wrap (IntKind.i64.wrap (49 + x19.1)))]) (fun l22 => some (.inl (l22, x19.2.L, x19.2.I))))) (some (.inr (l5, l8, v9))))
  (fun s : List Int × List Int × Int => (∃ j, s.1.length = 2 * j) ∧ 2 ≤ s.1.length ∧ s.1.length ≤ n ∧ Digs s.1 ∧ SOK ⟨s.2.1, s.2.2⟩) (fun s => 8 - s.1.length) (fun t : List Int × List Int × Int => t.1.length = n ∧ Digs t.1 ∧ SOK ⟨t.2.1, t.2.2⟩)
  (fun s hs => by
   obtain ⟨l, l8, v9⟩ := s
   obtain ⟨⟨j, a0⟩, a1, a1', a2, a3⟩ := hs
   simp only at a0 a1 a1' a2 a3 ⊢
   by_cases hl : ((l.length : Nat) : Int) < (n : Int)
   ·left
    rw [decide_eq_true hl]; simp only [cond_true]
    obtain ⟨r, q, b1, b2, b3, b4⟩ := next_ok a3 3 (by omega) (by omega)
    rw [bnd b1]; simp only
    rw [i64s (by omega) (by omega), wrap_u8 (by omega)]
    have e : app 1 l [48, 49 + r] = some (l ++ [48, 49 + r]) := by unfold app; rw [if_pos]; simp; omega
    rw [bnd e]
    refine ⟨_, rfl, ⟨⟨j + 1, by simp only [List.length_append, List.length_cons, List.length_nil]; omega⟩, by simp only [List.length_append, List.length_cons, List.length_nil]; omega, by simp only [List.length_append, List.length_cons, List.length_nil]; omega, ?_, b4⟩, by simp only [List.length_append, List.length_cons, List.length_nil]; omega⟩
    intro x hx
    simp only [List.mem_append, List.mem_cons, List.not_mem_nil, or_false] at hx
    rcases hx with hx | rfl | rfl
    ·exact a2 x hx
    ·omega
    ·omega
   ·right
    rw [decide_eq_false hl]
    exact ⟨_, rfl, by show l.length = n; omega, a2, a3⟩)
  FUEL ([57, 52 + r], q.L, q.I) ⟨⟨1, rfl⟩, by simp, by simp; omega, by intro x hx; simp only [List.mem_cons, List.not_mem_nil, or_false] at hx; omega, h4⟩ (fuel_big (by simp))
 obtain ⟨l, l8, v9⟩ := t
 rw [bnd h5]
 exact ⟨_, _, rfl, h6.1, h6.2.1, h6.2.2⟩
theorem rate_ok {p : Tmade_Source} (hp : SOK p) : ∃ r q, made_Source_rate p = some (r, q) ∧ 0 ≤ r ∧ r ≤ 1010000 ∧ SOK q := by
 unfold made_Source_rate
 obtain ⟨a, q, h1, h2, h3, h4⟩ := next_ok hp 4 (by omega) (by omega)
 rw [bnd h1]
 dsimp only
 cases decide (0 < a)
 ·obtain ⟨b, q2, g1, g2, g3, g4⟩ := next_ok h4 1000001 (by omega) (by omega)
  rw [cond_false, bnd g1]
  exact ⟨_, _, rfl, g2, by omega, g4⟩
 ·obtain ⟨b, q2, g1, g2, g3, g4⟩ := next_ok h4 101 (by omega) (by omega)
  rw [cond_true, bnd g1]
  dsimp only
  rw [i64s (by omega) (by omega)]
  exact ⟨_, _, rfl, by omega, by omega, g4⟩
theorem duty_ok {p : Tmade_Source} (hp : SOK p) : ∃ d q, made_Source_duty p = some (d, q) ∧ SOK q := by
 unfold made_Source_duty
 obtain ⟨a, q1, h1, h2, h3, h4⟩ := next_ok hp 3 (by omega) (by omega)
 rw [bnd h1]
 have k1 : ∃ l v w, (cond (decide (0 < (a, q1).1)) (Option.bind (made_Source_rate (a, q1).2) (fun x9 => some (x9.2.L, x9.2.I, (IntKind.i64.wrap (Int.tdiv x9.1 4))))) (some ((a, q1).2.L, (a, q1).2.I, 0))) = some (l, v, w) ∧ SOK ⟨l, v⟩ := by
  cases decide (0 < (a, q1).1)
  ·exact ⟨_, _, _, rfl, h4⟩
  ·obtain ⟨r, q, g1, _, _, g2⟩ := rate_ok h4
   dsimp only
   rw [cond_true, bnd g1]; exact ⟨_, _, _, rfl, g2⟩
 obtain ⟨l, v, w, k1, k2⟩ := k1
 rw [bnd k1]
 dsimp only
 obtain ⟨a2, q2, h1, h2, h3, h4⟩ := next_ok k2 3 (by omega) (by omega)
 rw [bnd h1]
 have k3 : ∃ (l : List Int) (v w z : Int), (cond ((a2, q2).1 == 1) (Option.bind (made_Source_Next (a2, q2).2 500) (fun x17 => Option.bind (made_Source_Next x17.2 5) (fun x20 => Option.bind (idx [1, 100, 1000, 1000000, 7] x20.1) (fun m21 => some (x20.2.L, x20.2.I, (IntKind.i64.wrap (1 + x17.1)), m21))))) (some ((a2, q2).2.L, (a2, q2).2.I, 0, 0))) = some (l, v, w, z) ∧ SOK ⟨l, v⟩ := by
  cases ((a2, q2).1 == 1)
  ·exact ⟨_, _, _, _, rfl, h4⟩
  ·obtain ⟨r, q, g1, g2, g3, g4⟩ := next_ok h4 500 (by omega) (by omega)
   obtain ⟨r', q', f1, f2, f3, f4⟩ := next_ok g4 5 (by omega) (by omega)
   dsimp only
   rw [cond_true, bnd g1, bnd f1]
   dsimp only
   rw [bnd (idx_int (l := [1, 100, 1000, 1000000, 7]) f2 (by simp; omega))]
   exact ⟨_, _, _, _, rfl, f4⟩
 obtain ⟨l, v, w, z, k3, k4⟩ := k3
 rw [bnd k3]
 dsimp only
 obtain ⟨a3, q3, h1, h2, h3, h4⟩ := next_ok k4 4 (by omega) (by omega)
 rw [bnd h1]
 have k5 : ∃ l v w z, (cond ((a3, q3).1 == 1) (Option.bind (made_Source_rate (a3, q3).2) (fun x30 => some (x30.2.L, x30.2.I, true, x30.1))) (some ((a3, q3).2.L, (a3, q3).2.I, false, 0))) = some (l, v, w, z) ∧ SOK ⟨l, v⟩ := by
  cases ((a3, q3).1 == 1)
  ·exact ⟨_, _, _, _, rfl, h4⟩
  ·obtain ⟨r, q, g1, _, _, g2⟩ := rate_ok h4
   dsimp only
   rw [cond_true, bnd g1]; exact ⟨_, _, _, _, rfl, g2⟩
 obtain ⟨l, v, w5, z5, k5, k6⟩ := k5
 rw [bnd k5]
 dsimp only
 obtain ⟨a4, q4, h1, h2, h3, h4⟩ := next_ok k6 4 (by omega) (by omega)
 rw [bnd h1]
 have k7 : ∃ l v w z, (cond ((a4, q4).1 == 1) (Option.bind (made_Source_rate (a4, q4).2) (fun x38 => cond w5 (some (x38.2.L, x38.2.I, true, (imin (IntKind.i64.wrap (Int.tdiv x38.1 8)) z5))) (some (x38.2.L, x38.2.I, true, (IntKind.i64.wrap (Int.tdiv x38.1 8)))))) (some ((a4, q4).2.L, (a4, q4).2.I, false, 0))) = some (l, v, w, z) ∧ SOK ⟨l, v⟩ := by
  cases ((a4, q4).1 == 1)
  ·exact ⟨_, _, _, _, rfl, h4⟩
  ·obtain ⟨r, q, g1, _, _, g2⟩ := rate_ok h4
   dsimp only
   rw [cond_true, bnd g1]
   cases w5
   ·exact ⟨_, _, _, _, rfl, g2⟩
   ·exact ⟨_, _, _, _, rfl, g2⟩
 obtain ⟨l, v, w, z, k7, k8⟩ := k7
 rw [bnd k7]
 exact ⟨_, _, rfl, k8⟩
theorem bind_run {S T β : Type} {body : S → Option (S ⊕ T)} {k : T → Option β} {s : S} {Z : Option β → Prop} (P : S → Prop) (μ : S → Nat) (Q : T → Prop) (hs : P s) (hμ : μ s < FUEL) (hk : ∀ t, Q t → Z (k t)) (step : ∀ s, P s → (∃ s', body s = some (.inl s') ∧ P s' ∧ μ s' < μ s) ∨ ∃ t, body s = some (.inr t) ∧ Q t) : Z ((loopF body FUEL s).bind k) := by
 obtain ⟨t, e, h⟩ := loopF_run P μ Q step FUEL s hs hμ
 rw [bnd e]; exact hk t h
theorem ctry_loop (b : Int) : ∃ t, loopF (S := Int × (List ByteArray)) (T := ((List ByteArray))) (fun (v60, l62) => cond ((decide (v60 < 3)) && (decide (7 < b))) (Option.bind (Option.bind (ge0 v60) (fun u80 => cond ((iand .i64 (ishr .i64 b v60) 1) == 1) (Option.bind (made_Countries) (fun x82 => Option.bind (idx x82 v60) (fun m83 => Option.bind (app 16 l62 [m83]) (fun l86 => some l86)))) (some l62))) (fun l78 => some (.inl ((IntKind.i64.wrap (v60 + 1)), l78)))) (some (.inr l62))) FUEL (0, ([] : List ByteArray)) = some t ∧ t.length ≤ 3 := by
 refine loopF_run (fun s : Int × List ByteArray => 0 ≤ s.1 ∧ s.1 ≤ 3 ∧ (s.2.length : Int) ≤ s.1) (fun s => (3 - s.1).toNat) (fun t : List ByteArray => t.length ≤ 3) ?_ FUEL (0, []) ⟨by simp, by simp, by simp⟩ (fuel_big (by simp))
 rintro ⟨k, ls⟩ ⟨h1, h2, h3⟩
 dsimp only at h1 h2 h3 ⊢
 by_cases hk : k < 3
 ·cases decide (7 < b)
  ·right; rw [Bool.and_false]; exact ⟨_, rfl, by omega⟩
  ·left
   rw [decide_eq_true hk, Bool.and_true, cond_true, bnd (ge0_ok h1), i64s (by omega) (by omega)]
   cases ((iand .i64 (ishr .i64 b k) 1) == 1)
   ·exact ⟨_, rfl, ⟨by dsimp only; omega, by dsimp only; omega, by dsimp only; omega⟩, by dsimp only; omega⟩
   ·obtain ⟨s, hs, _⟩ := country_ok (k := k) h1 (by omega) (l := [(⟨#[65, 65]⟩ : ByteArray), (⟨#[66, 66]⟩ : ByteArray), (⟨#[67, 67]⟩ : ByteArray), (⟨#[68, 68]⟩ : ByteArray), (⟨#[69, 69]⟩ : ByteArray), (⟨#[70, 70]⟩ : ByteArray)]) rfl
    have ha : app 16 ls [s] = some (ls ++ [s]) := by unfold app; rw [if_pos (by simp; omega)]
    rw [cond_true, bnd (show made_Countries = some [(⟨#[65, 65]⟩ : ByteArray), (⟨#[66, 66]⟩ : ByteArray), (⟨#[67, 67]⟩ : ByteArray), (⟨#[68, 68]⟩ : ByteArray), (⟨#[69, 69]⟩ : ByteArray), (⟨#[70, 70]⟩ : ByteArray)] from rfl), bnd hs, bnd ha]
    exact ⟨_, rfl, ⟨by dsimp only; omega, by dsimp only; omega, by simp; omega⟩, by dsimp only; omega⟩
 ·right
  rw [decide_eq_false hk]; exact ⟨_, rfl, by omega⟩
theorem strOf_size (l : List Int) : (strOfNums l).size = l.length := by simp [strOfNums, ByteArray.size]
def MsB (n : Nat) (ms : List TMeasure) : Prop := ms.length ≤ n ∧ ∀ m ∈ ms, m.Prefix.size ≤ 8
theorem measures_ok (p : List Int) : ∃ ms, made_Measures p = some ms ∧ MsB 15 ms := by
 unfold made_Measures
 obtain ⟨x, h1, h2⟩ := cut_ok p 300 (by omega) (by omega)
 rw [bnd h1]
 have hs : SOK ⟨x, 0⟩ := ⟨by simp, by simp, by simp only; omega⟩
 obtain ⟨a, q, h3, h4, h5, h6⟩ := next_ok hs 8 (by omega) (by omega)
 rw [bnd h3]
 have k1 : ∃ ms l v, (cond (decide (0 < (a, q).1)) (Option.bind (made_Source_duty (a, q).2) (fun x12 => Option.bind (made_Source_duty x12.2) (fun x13 => Option.bind (app 144 ([] : List TMeasure) [(⟨1, 1, (⟨#[57, 52]⟩ : ByteArray), [], 0, 0, 36525, (-1), x12.1⟩ : TMeasure), (⟨2, 1, (⟨#[57, 53]⟩ : ByteArray), [], 0, 0, 25, (-1), x13.1⟩ : TMeasure)]) (fun l17 => some (l17, x13.2.L, x13.2.I))))) (some (([] : (List TMeasure)), (a, q).2.L, (a, q).2.I))) = some (ms, l, v) ∧ SOK ⟨l, v⟩ ∧ MsB 2 ms := by
  cases decide (0 < (a, q).1)
  ·exact ⟨_, _, _, rfl, h6, by simp, by intro m h; cases h⟩
  ·obtain ⟨d, q1, g1, g2⟩ := duty_ok h6
   obtain ⟨d', q2, f1, f2⟩ := duty_ok g2
   dsimp only
   rw [cond_true, bnd g1, bnd f1]
   refine ⟨_, _, _, rfl, f2, by simp, ?_⟩
   intro m hm
   simp only [List.nil_append, List.mem_cons, List.not_mem_nil, or_false] at hm
   rcases hm with rfl | rfl <;> (show (2 : Nat) ≤ 8; omega)
 obtain ⟨ms, l, v, k1, k2, k3⟩ := k1
 rw [bnd k1]
 dsimp only
 obtain ⟨n, q2, h1, h2, h3, h4⟩ := next_ok k2 13 (by omega) (by omega)
 rw [bnd h1]
 refine bind_run (Z := fun o => ∃ ms, o = some ms ∧ MsB 15 ms) (fun s : List TMeasure × Int × List Int × Int => 0 ≤ s.2.1 ∧ s.2.1 ≤ n ∧ SOK ⟨s.2.2.1, s.2.2.2⟩ ∧ MsB (2 + s.2.1.toNat) s.1) (fun s => (13 - s.2.1).toNat) (MsB 15) ⟨by simp, by simp; omega, h4, by simpa using k3⟩ (fuel_big (by simp)) (fun t ht => ⟨t, rfl, ht⟩) ?_
 ·rintro ⟨ms, i, ll, vv⟩ ⟨a1, a2, a3, a4⟩
  dsimp only at a1 a2 a3 a4 ⊢
  by_cases hi : i < n
  ·left
   rw [decide_eq_true hi, cond_true]
   obtain ⟨b1, s1, c1, d1, e1, f1⟩ := next_ok a3 6 (by omega) (by omega)
   rw [bnd c1]; dsimp only
   obtain ⟨b2, s2, c2, d2, e2, f2⟩ := next_ok f1 4 (by omega) (by omega)
   rw [bnd c2]; dsimp only
   rw [i64s (r := 2 * b2) (by omega) (by omega), i64s (r := 2 + 2 * b2) (by omega) (by omega)]
   obtain ⟨cl, s3, c3, d3, e3, f3⟩ := code_gen f2 (n := (2 + 2 * b2).toNat) (by omega)
   rw [show (((2 + 2 * b2).toNat : Nat) : Int) = 2 + 2 * b2 by omega] at c3
   rw [bnd c3]; dsimp only
   obtain ⟨b4, s4, c4, d4, e4, f4⟩ := next_ok f3 20 (by omega) (by omega)
   rw [bnd c4]; dsimp only
   obtain ⟨b5, s5, c5, f5⟩ := duty_ok f4
   rw [bnd c5]; dsimp only
   obtain ⟨b6, s6, c6, d6, e6, f6⟩ := next_ok f5 30 (by omega) (by omega)
   rw [bnd c6]; dsimp only
   obtain ⟨b7, s7, c7, d7, e7, f7⟩ := next_ok f6 3 (by omega) (by omega)
   rw [bnd c7]; dsimp only
   rw [i64s (r := b4 + 1) (by omega) (by omega)]
   have k8 : ∃ l v w, (cond (b7 == 1) (Option.bind (made_Source_Next s7 (b4 + 1)) (fun x50 => some (x50.2.L, x50.2.I, x50.1))) (some (s7.L, s7.I, (-1)))) = some (l, v, w) ∧ SOK ⟨l, v⟩ := by
    cases (b7 == 1)
    ·exact ⟨_, _, _, rfl, f7⟩
    ·obtain ⟨r, q, g1, _, _, g2⟩ := next_ok f7 (b4 + 1) (by omega) (by omega)
     rw [cond_true, bnd g1]; exact ⟨_, _, _, rfl, g2⟩
   obtain ⟨l8, v8, w8, k8, f8⟩ := k8
   rw [bnd k8]; dsimp only
   obtain ⟨b9, s9, c9, d9, e9, f9⟩ := next_ok f8 3 (by omega) (by omega)
   rw [bnd c9]; dsimp only
   have k10 : ∃ l v w, (cond (b9 == 1) (Option.bind (made_Source_Next s9 2) (fun x58 => some (x58.2.L, x58.2.I, (IntKind.i64.wrap (1 + x58.1))))) (some (s9.L, s9.I, 0))) = some (l, v, w) ∧ SOK ⟨l, v⟩ := by
    cases (b9 == 1)
    ·exact ⟨_, _, _, rfl, f9⟩
    ·obtain ⟨r, q, g1, _, _, g2⟩ := next_ok f9 2 (by omega) (by omega)
     rw [cond_true, bnd g1]; exact ⟨_, _, _, rfl, g2⟩
   obtain ⟨l10, v10, w10, k10, f10⟩ := k10
   rw [bnd k10]; dsimp only
   obtain ⟨b11, s11, c11, d11, e11, f11⟩ := next_ok f10 16 (by omega) (by omega)
   rw [bnd c11]; dsimp only
   obtain ⟨t, c12, d12⟩ := ctry_loop b11
   rw [bnd c12]
   have hap : ∀ m : TMeasure, app 144 ms [m] = some (ms ++ [m]) := by
    intro m; have := a4.1; unfold app; rw [if_pos (by simp; omega)]
   rw [bnd (hap _)]
   rw [i64s (r := i + 1) (by omega) (by omega)]
   refine ⟨_, rfl, ⟨by dsimp only; omega, by dsimp only; omega, f11, ?_⟩, by dsimp only; omega⟩
   refine ⟨by have := a4.1; simp; omega, ?_⟩
   intro m hm
   simp only [List.mem_append, List.mem_cons, List.not_mem_nil, or_false] at hm
   rcases hm with hm | rfl
   ·exact a4.2 m hm
   ·show (strOfNums cl).size ≤ 8; rw [strOf_size]; omega
  ·right
   rw [decide_eq_false hi]
   exact ⟨_, rfl, by have := a4.1; omega, a4.2⟩
end SX
end Go.Proofs.YtfcecieppoljlaaGreatDoor
set_option maxRecDepth 100000
namespace Go.Proofs.YtfcecieppoljlaaGreatDoor
namespace SX
open Go
theorem run_len (o : Int → Option TMeasure) : ∀ (ps : List Tassess_part) (k : Nat) (st st' : List TDebtLine × Int), run (partF o) ps k st = .inl st' → st'.1.length ≤ st.1.length + ps.length := by
 intro ps
 induction ps with
 | nil => intro k st st' h; change Sum.inl st = Sum.inl st' at h; injection h with h; subst h; simp
 | cons p ps ih =>
  intro k st st' h
  rw [run_cons] at h
  cases hp : partF o k p st with
  | inr e => rw [hp] at h; change Sum.inr e = _ at h; cases h
  | inl s =>
   rw [hp] at h
   have h1 := ih _ _ _ h
   have h2 : s.1.length ≤ st.1.length + 1 := by
    unfold partF at hp
    cases hc : chain o p.quantity p.value p.kinds st0 with
    | inr e => rw [hc] at hp; cases hp
    | inl c =>
     rw [hc] at hp
     injection hp with hp; rw [← hp]
     split <;> simp
   simp; omega
theorem assessS_len (l : List TMeasure) (x : TItem) : (assessS l x).1.Lines.length ≤ 4 := by
 unfold assessS
 split
 ·simp [errD]
 split
 ·simp [errD]
 split
 ·simp [errD]
 cases h : run (partF (oK l x)) (partsL x) 0 ([], 0) with
 | inr e => simp [outf, errD]
 | inl st =>
  have := run_len _ _ _ _ _ h
  have hp : (partsL x).length ≤ 4 := by
   unfold partsL
   simp only [List.length_append, List.length_cons, List.length_nil]
   split <;> split <;> simp
  simp only [List.length_nil, Nat.zero_add] at this
  show (finD st).1.Lines.length ≤ 4
  unfold finD; split
  ·simp [errD]
  ·dsimp only; omega
end SX
end Go.Proofs.YtfcecieppoljlaaGreatDoor
set_option maxRecDepth 100000
namespace Go.Proofs.YtfcecieppoljlaaGreatDoor
namespace SX
open Go
def pF (Q V : Int) (_ : Nat) (y : TDebtLine) (t : Int × Int × Int) : (Int × Int × Int) ⊕ Unit := if y.Kind ≤ 4 then .inl (IntKind.i64.wrap (t.1 + y.Quantity), IntKind.i64.wrap (t.2.1 + y.Value), IntKind.i64.wrap (t.2.2 + y.Amount)) else if y.Quantity = Q ∧ y.Value = V then .inl (t.1, t.2.1, IntKind.i64.wrap (t.2.2 + y.Amount)) else .inr ()
structure PI (Q V : Int) (n : Nat) (st : List TDebtLine × Int) (qs vs : Int) : Prop where
 eq : run (pF Q V) st.1 0 (0, 0, 0) = .inl (qs, vs, st.2)
 t0 : 0 ≤ st.2
 t1 : st.2 ≤ (n : Int) * 1000000000000
 q0 : 0 ≤ qs
 q1 : qs ≤ 1000000000
 v0 : 0 ≤ vs
 v1 : vs ≤ 1000000000000
theorem PI.up {Q V : Int} {n m : Nat} (hm : n ≤ m) {st : List TDebtLine × Int} {qs vs : Int} (h : PI Q V n st qs vs) : PI Q V m st qs vs := ⟨h.eq, h.t0, by have := h.t1; omega, h.q0, h.q1, h.v0, h.v1⟩
section
variable {o : Int → Option TMeasure} (ho : ∀ k m, o k = some m → MOK m ∧ m.Kind = k)
include ho
end
end SX
end Go.Proofs.YtfcecieppoljlaaGreatDoor
set_option maxRecDepth 100000
namespace Go.Proofs.YtfcecieppoljlaaGreatDoor
namespace SX
open Go
theorem cov_sub {σ : PEnv} {ρ ρ' : List PRes} (h : PSub ρ' ρ) : Cov σ ρ σ ρ' := fun _ _ _ h2 => pwc_sub h h2
end SX
end Go.Proofs.YtfcecieppoljlaaGreatDoor
set_option maxRecDepth 100000
namespace Go.Proofs.YtfcecieppoljlaaGreatDoor
namespace SX
open Go
attribute [local irreducible] PWL PWC PWD POpL POpQ PEv PGuardIs PSub PPick PUpd PSplice PFill PLit PF PFV PCall pseqK pblockK pmidK pcutK ploopK pretK Cov PHolds loopF idx app mk gd lb nz ge0 cat sub ssub iand ior ixor ishl ishr imin imax IntKind.wrap Int.tmod Int.tdiv Op.bytesLess strOfNums
def law20_AssessCheck (p0 : (List Int)) (p1 : (List Int)) (p2 : Int) (p3 : Int) (p4 : Int) : Option Bool := Option.bind (made_Measures p0) (fun x1 => Option.bind (made_Item p1) (fun x2 => Option.bind (assess_Assess x1 x2) (fun x4 => Option.bind (assess_Check x1 x2 x4.1) (fun x6 => cond (((x4.2 != x6.2) && (!(x4.2 == 0))) || ((x4.2 == 0) && ((x6.2 != 0) || (x6.1 != (x4.1.Lines.length : Int))))) (some false) (Option.bind (ref19_Assess x1 x2) (fun x8 => Option.bind (cond (decide (0 < (x8.1.Lines.length : Int))) (Option.bind (app 40 ([] : List TDebtLine) x8.1.Lines) (fun l15 => Option.bind (made_Within p2 (x8.1.Lines.length : Int)) (fun x19 => Option.bind (made_Within p3 7) (fun x20 => Option.bind (cond (x20 == 0) (Option.bind (idx l15 x19) (fun m27 => Option.bind (made_Within p4 3) (fun x28 => Option.bind (idx l15 x19) (fun m29 => some ((l15.set x19.toNat (⟨m29.Kind, m29.Measure, m29.Quantity, m29.Value, (IntKind.i64.wrap ((IntKind.i64.wrap (m27.Amount + x28)) - 1))⟩ : TDebtLine)), x8.1.Total))))) (cond (x20 == 1) (Option.bind (made_Within p4 30) (fun x33 => Option.bind (idx l15 x19) (fun m34 => some ((l15.set x19.toNat (⟨m34.Kind, x33, m34.Quantity, m34.Value, m34.Amount⟩ : TDebtLine)), x8.1.Total)))) (cond (x20 == 2) (Option.bind (made_Within p4 7) (fun x37 => Option.bind (idx l15 x19) (fun m38 => some ((l15.set x19.toNat (⟨x37, m38.Measure, m38.Quantity, m38.Value, m38.Amount⟩ : TDebtLine)), x8.1.Total)))) (cond (x20 == 3) (Option.bind (sub l15 0 x19) (fun l41 => some (l41, x8.1.Total))) (cond (x20 == 4) (Option.bind (idx l15 x19) (fun m43 => Option.bind (app 40 l15 [m43]) (fun l46 => some (l46, x8.1.Total)))) (cond (x20 == 5) (Option.bind (made_Within p4 3) (fun x51 => some (l15, (IntKind.i64.wrap ((IntKind.i64.wrap (x8.1.Total + x51)) - 1))))) (Option.bind (idx l15 x19) (fun m55 => Option.bind (idx l15 x19) (fun m56 => Option.bind (idx l15 x19) (fun m57 => Option.bind (idx (l15.set x19.toNat (⟨m57.Kind, m57.Measure, m57.Quantity, m55.Quantity, m57.Amount⟩ : TDebtLine)) x19) (fun m59 => some (((l15.set x19.toNat (⟨m57.Kind, m57.Measure, m57.Quantity, m55.Quantity, m57.Amount⟩ : TDebtLine)).set x19.toNat (⟨m59.Kind, m59.Measure, m56.Value, m59.Value, m59.Amount⟩ : TDebtLine)), x8.1.Total)))))))))))) (fun (l21, v22) => some (l21, v22)))))) (some (x8.1.Lines, x8.1.Total))) (fun (l9, v10) => Option.bind (assess_Check x1 x2 (⟨l9, v10⟩ : TDebt)) (fun x62 => Option.bind (ref19_Check x1 x2 (⟨l9, v10⟩ : TDebt)) (fun x63 => Option.bind (gd ((x62.1 == x63.1) && (x62.2 == x63.2)) (law20_awake)) (fun x64 => some (((x62.1 == x63.1) && (x62.2 == x63.2)) && x64)))))))))))
set_option maxHeartbeats 4000000 in
theorem law20_AssessCheck_ok {p0 : (List Int)} {p1 : (List Int)} {p2 : Int} {p3 : Int} {p4 : Int} {r : Bool}  (h : law20_AssessCheck p0 p1 p2 p3 p4 = some r) : PF 8 [.slc (List.map eI p0), .slc (List.map eI p1), .v (.int .i64 p2), .v (.int .i64 p3), .v (.int .i64 p4)] (.v (.bool r)) := by
 unfold law20_AssessCheck at h
 refine pf_of ?_
 refine penter Tryz.func8 fk8 rfl Tryz.ntmps8 Tryz.results8 rfl ?_
 refine yab (yaa ?_)
 refine zas (p := .v (.bool false)) rfl rfl rfl rfl rfl ?_
 refine yad (yae (yab (yaa ?_)))
 refine zmv (p := .slc (List.map eI p0)) rfl rfl rfl rfl rfl ?_
 refine yaf h ?_; clear h; intro x1 hx1 h
 refine ybd rfl rfl rfl rfl rfl (made_Measures_ok hx1) ?_
 refine zmv (p := .slc (List.map eI p1)) rfl rfl rfl rfl rfl ?_
 refine yaf h ?_; clear h; intro x2 hx2 h
 refine ybd rfl rfl rfl rfl rfl (made_Item_ok hx2) ?_
 refine ybl rfl rfl rfl (pl_alloc (cs := [.v (.string ByteArray.empty), .v (.string ByteArray.empty), .v (.bool false), .v (.int .i64 0), .v (.int .i64 0), .v (.int .i64 0), .v (.int .i64 0), .v (.int .i64 0)]) rfl rfl rfl rfl (fun b3 => ?_))
 refine zas (p := .slc (List.map TMeasure.enc x1)) rfl rfl rfl rfl rfl ?_
 refine pwl_l0 rfl rfl (yax (vs := [.v (.string x2.Code), .v (.string x2.Origin), .v (.bool x2.Proof), .v (.int .i64 x2.Company), .v (.int .i64 x2.Day), .v (.int .i64 x2.Quantity), .v (.int .i64 x2.Value), .v (.int .i64 x2.Granted)]) rfl rfl rfl rfl rfl zuh (zlc (zlc (zlc (zlc (zlc (zlc (zlc (zlc zln)))))))) ?_)
 refine yad (yae (yab (yaa ?_)))
 refine zmv (p := .slc (List.map TMeasure.enc x1)) rfl rfl rfl rfl rfl ?_
 refine yah rfl rfl rfl (yag (p := .agg [.v (.string x2.Code), .v (.string x2.Origin), .v (.bool x2.Proof), .v (.int .i64 x2.Company), .v (.int .i64 x2.Day), .v (.int .i64 x2.Quantity), .v (.int .i64 x2.Value), .v (.int .i64 x2.Granted)]) rfl (.p rfl) zm0 rfl) ?_
 refine yaf h ?_; clear h; intro x4 hx4 h
 refine ybd rfl rfl rfl rfl rfl (assess_Assess_ok hx4) ?_
 refine zmv (p := .tup [.agg [.slc (List.map TDebtLine.enc x4.1.Lines), .v (.int .i64 x4.1.Total)], .v (.int .i64 x4.2)]) rfl rfl rfl rfl rfl ?_
 refine zex (p := .agg [.slc (List.map TDebtLine.enc x4.1.Lines), .v (.int .i64 x4.1.Total)]) rfl rfl rfl rfl rfl rfl ?_
 refine zex (p := .v (.int .i64 x4.2)) rfl rfl rfl rfl rfl rfl ?_
 refine ybl rfl rfl rfl (pl_alloc (cs := [.v (.slice none 0 0), .v (.int .i64 0)]) rfl rfl rfl rfl (fun b5 => ?_))
 refine pwl_l0 rfl rfl (yax (vs := [.slc (List.map TDebtLine.enc x4.1.Lines), .v (.int .i64 x4.1.Total)]) rfl rfl rfl rfl rfl zuh (zlc (zlc zln)) ?_)
 refine zas (p := .v (.int .i64 x4.2)) rfl rfl rfl rfl rfl ?_
 refine yad (yae (yab (yaa ?_)))
 refine zmv (p := .slc (List.map TMeasure.enc x1)) rfl rfl rfl rfl rfl ?_
 refine yah rfl rfl rfl (yag (p := .agg [.v (.string x2.Code), .v (.string x2.Origin), .v (.bool x2.Proof), .v (.int .i64 x2.Company), .v (.int .i64 x2.Day), .v (.int .i64 x2.Quantity), .v (.int .i64 x2.Value), .v (.int .i64 x2.Granted)]) rfl (.p rfl) zm1 rfl) ?_
 refine yah rfl rfl rfl (yag (p := .agg [.slc (List.map TDebtLine.enc x4.1.Lines), .v (.int .i64 x4.1.Total)]) rfl (.p rfl) zm0 rfl) ?_
 refine yaf h ?_; clear h; intro x6 hx6 h
 refine ybd rfl rfl rfl rfl rfl (assess_Check_ok hx6) ?_
 refine zmv (p := .tup [.v (.int .i64 x6.1), .v (.int .i64 x6.2)]) rfl rfl rfl rfl rfl ?_
 refine zex (p := .v (.int .i64 x6.1)) rfl rfl rfl rfl rfl rfl ?_
 refine zex (p := .v (.int .i64 x6.2)) rfl rfl rfl rfl rfl rfl ?_
 refine zas (p := .v (.int .i64 x6.1)) rfl rfl rfl rfl rfl ?_
 refine zas (p := .v (.int .i64 x6.2)) rfl rfl rfl rfl rfl ?_
 refine yad (yae (yab (yab (yaa ?_))))
 refine zmv (p := .v (.int .i64 x4.2)) rfl rfl rfl rfl rfl ?_
 refine zmv (p := .v (.int .i64 x6.2)) rfl rfl rfl rfl rfl ?_
 refine yah rfl rfl rfl (yak rfl (.p rfl) (.p rfl) rfl) ?_
 refine zmv (p := .v (.bool (x4.2 != x6.2))) rfl rfl rfl rfl rfl ?_
 refine yaj (yan rfl rfl rfl) rfl rfl (yam (p := .v (.int .i64 x4.2)) rfl (.p rfl)) ?_
 refine yaj (yan rfl rfl rfl) rfl rfl (yak rfl (.g rfl) (.p rfl) rfl) ?_
 refine yaj (yan rfl rfl rfl) rfl rfl (pq_not rfl (.g rfl)) ?_
 refine yah rfl rfl rfl (pq_and rfl (.p rfl) (.p rfl) (.g rfl)) ?_
 refine zmv (p := .v (.bool ((x4.2 != x6.2) && (!(x4.2 == 0))))) rfl rfl rfl rfl rfl ?_
 refine yaj (yai rfl rfl rfl) rfl rfl (yam (p := .v (.int .i64 x4.2)) rfl (.p rfl)) ?_
 refine yaj (yai rfl rfl rfl) rfl rfl (yak rfl (.g rfl) (.p rfl) rfl) ?_
 refine yaj (yai rfl rfl rfl) rfl rfl (yam (p := .v (.bool (x4.2 == 0))) rfl (.g rfl)) ?_
 refine yaj (yay rfl rfl rfl) rfl rfl (yam (p := .v (.int .i64 x6.2)) rfl (.p rfl)) ?_
 refine yaj (yay rfl rfl rfl) rfl rfl (yak rfl (.g rfl) (.p rfl) rfl) ?_
 refine yaj (yay rfl rfl rfl) rfl rfl (yam (p := .v (.bool (x6.2 != 0))) rfl (.g rfl)) ?_
 refine yaj (pguard_gf rfl rfl rfl) rfl rfl (yam (p := .v (.int .i64 x6.1)) rfl (.p rfl)) ?_
 refine yaj (pguard_gf rfl rfl rfl) rfl rfl (yac rfl rfl rfl rfl rfl (.p rfl)) ?_
 refine yaj (pguard_gf rfl rfl rfl) rfl rfl (yag (p := .slc (List.map TDebtLine.enc x4.1.Lines)) rfl (.g rfl) zm0 rfl) ?_
 refine yaj (pguard_gf rfl rfl rfl) rfl rfl (pq_lenT (enc := TDebtLine.enc) rfl rfl (.g rfl)) ?_
 refine yaj (pguard_gf rfl rfl rfl) rfl rfl (yak rfl (.g rfl) (.g rfl) rfl) ?_
 refine yaj (yay rfl rfl rfl) rfl rfl (pq_or rfl (.g rfl) (.p rfl) (.g rfl)) ?_
 refine yaj (yai rfl rfl rfl) rfl rfl (pq_and rfl (.g rfl) (.p rfl) (.g rfl)) ?_
 refine yah rfl rfl rfl (pq_or rfl (.p rfl) (.p rfl) (.g rfl)) ?_
 refine yad (yae ?_)
 refine yal rfl (fun hc7 => ?_) (fun hc7 => ?_)
 ·replace h := yav hc7 h
  refine yab (yaa ?_)
  refine zas (p := .v (.bool false)) rfl rfl rfl rfl rfl ?_
  refine yad (yae (yaq (yap ?_)))
  obtain rfl := Option.some.inj h
  exact yar (prv_1 (yat rfl)) zsn ⟨rfl, rfl⟩
 ·replace h := yaw hc7 h
  refine yao (yae (yab (yaa ?_)))
  refine zmv (p := .slc (List.map TMeasure.enc x1)) rfl rfl rfl rfl rfl ?_
  refine yah rfl rfl rfl (yag (p := .agg [.v (.string x2.Code), .v (.string x2.Origin), .v (.bool x2.Proof), .v (.int .i64 x2.Company), .v (.int .i64 x2.Day), .v (.int .i64 x2.Quantity), .v (.int .i64 x2.Value), .v (.int .i64 x2.Granted)]) rfl (.p rfl) zm1 rfl) ?_
  refine yaf h ?_; clear h; intro x8 hx8 h
  refine ybd rfl rfl rfl rfl rfl (ref19_Assess_ok hx8) ?_
  refine zmv (p := .tup [.agg [.slc (List.map TDebtLine.enc x8.1.Lines), .v (.int .i64 x8.1.Total)], .v (.int .i64 x8.2)]) rfl rfl rfl rfl rfl ?_
  refine zex (p := .agg [.slc (List.map TDebtLine.enc x8.1.Lines), .v (.int .i64 x8.1.Total)]) rfl rfl rfl rfl rfl rfl ?_
  refine zex (p := .v (.int .i64 x8.2)) rfl rfl rfl rfl rfl rfl ?_
  refine pwl_l0 rfl rfl (yax (vs := [.slc (List.map TDebtLine.enc x8.1.Lines), .v (.int .i64 x8.1.Total)]) rfl rfl rfl rfl rfl zuh (zlc (zlc zln)) ?_)
  refine yad (yae (yab (yab (yaa ?_))))
  refine yah rfl rfl rfl (yac rfl rfl rfl rfl rfl (.p rfl)) ?_
  refine yah rfl rfl rfl (yag (p := .slc (List.map TDebtLine.enc x8.1.Lines)) rfl (.p rfl) zm0 rfl) ?_
  refine yah rfl rfl rfl (pq_lenT (enc := TDebtLine.enc) rfl rfl (.p rfl)) ?_
  refine zas (p := .v (.int .i64 (x8.1.Lines.length : Int))) rfl rfl rfl rfl rfl ?_
  refine yad (yae (yab (yaa ?_)))
  refine zmv (p := .v (.int .i64 (x8.1.Lines.length : Int))) rfl rfl rfl rfl rfl ?_
  refine yah rfl rfl rfl (yak rfl (.p rfl) (.p rfl) rfl) ?_
  refine yad (yae ?_)
  refine yaf h ?_; clear h; intro q11 hq11 h
  refine ybe (Y := (Unit) × ((List TDebtLine) × Int)) (fun (_, (l9, v10)) => [(11, .slc (List.map TMeasure.enc x1)), (12, .v (.pointer (some ⟨b3, 0, none⟩))), (13, .v (.pointer (some ⟨b5, 0, none⟩)))]) (fun (_, (l9, v10)) => [PRes.b b3 23 [.v (.string x2.Code), .v (.string x2.Origin), .v (.bool x2.Proof), .v (.int .i64 x2.Company), .v (.int .i64 x2.Day), .v (.int .i64 x2.Quantity), .v (.int .i64 x2.Value), .v (.int .i64 x2.Granted)], PRes.b b5 35 [.slc (List.map TDebtLine.enc l9), .v (.int .i64 v10)]]) (fun (_, (l9, v10)) => q11 = (l9, v10)) ?_ ?_
  ·skip
   refine yal rfl (fun hc12 => ?_) (fun hc12 => ?_)
   ·replace hq11 := yav hc12 hq11
    refine yab (yaa ?_)
    refine ybl rfl rfl rfl (pl_lit rfl rfl rfl rfl rfl zin rfl rfl rfl rfl (fun b13 => ?_))
    refine yah rfl rfl rfl (yac rfl rfl rfl rfl rfl (.p rfl)) ?_
    refine yah rfl rfl rfl (yag (p := .slc (List.map TDebtLine.enc x8.1.Lines)) rfl (.p rfl) zm1 rfl) ?_
    refine yaf hq11 ?_; clear hq11; intro l15 hl15 hq11
    refine ybl rfl rfl rfl (pl_app_s (enc := TDebtLine.enc) rfl rfl rfl rfl rfl (fun _ => rfl) rfl rfl rfl (by exact zph) hl15 (fun a16 c17 => ?_))
    refine zas (p := .v (.slice a16 l15.length c17)) rfl rfl rfl rfl rfl ?_
    refine yad (yae (yab (yaa ?_)))
    refine zmv (p := .v (.int .i64 p2)) rfl rfl rfl rfl rfl ?_
    refine zmv (p := .v (.int .i64 (x8.1.Lines.length : Int))) rfl rfl rfl rfl rfl ?_
    refine yaf hq11 ?_; clear hq11; intro x19 hx19 hq11
    refine ybd rfl rfl rfl rfl rfl (made_Within_ok hx19) ?_
    refine zas (p := .v (.int .i64 x19)) rfl rfl rfl rfl rfl ?_
    refine yad (yae (yab (yab (yaa ?_))))
    refine zmv (p := .v (.int .i64 p3)) rfl rfl rfl rfl rfl ?_
    refine yaf hq11 ?_; clear hq11; intro x20 hx20 hq11
    refine ybd rfl rfl rfl rfl rfl (made_Within_ok hx20) ?_
    refine yad (yae ?_)
    refine yaf hq11 ?_; clear hq11; intro q23 hq23 hq11
    refine ybe (Y := (Unit) × ((List TDebtLine) × Int)) (fun (_, (l21, v22)) => [(11, .slc (List.map TMeasure.enc x1)), (12, .v (.pointer (some ⟨b3, 0, none⟩))), (13, .v (.pointer (some ⟨b5, 0, none⟩))), (18, .slc (List.map TDebtLine.enc l21))]) (fun (_, (l21, v22)) => [PRes.b b3 23 [.v (.string x2.Code), .v (.string x2.Origin), .v (.bool x2.Proof), .v (.int .i64 x2.Company), .v (.int .i64 x2.Day), .v (.int .i64 x2.Quantity), .v (.int .i64 x2.Value), .v (.int .i64 x2.Granted)], PRes.b b5 35 [.slc (List.map TDebtLine.enc x8.1.Lines), .v (.int .i64 v22)]]) (fun (_, (l21, v22)) => q23 = (l21, v22)) ?_ ?_
    ·skip
     refine yaz (yab (yaa ?_))
     refine yah rfl rfl rfl (yak rfl (.p rfl) (.p rfl) rfl) ?_
     refine zas (p := .v (.bool (x20 == 0))) rfl rfl rfl rfl rfl ?_
     refine yad (yae ?_)
     refine yal rfl (fun hc24 => ?_) (fun hc24 => ?_)
     ·replace hq23 := yav hc24 hq23
      refine pwc_rowfact (enc := TDebtLine.enc) (xs := l15) (a := a16) zm0 (fun hl25 ha26 => ?_)
      refine yaf hq23 ?_; clear hq23; intro m27 hm27 hq23
      refine yaf hq23 ?_; clear hq23; intro x28 hx28 hq23
      refine yaf hq23 ?_; clear hq23; intro m29 hm29 hq23
      refine pwc_cutK (Y := Unit) (fun _ => [(11, .slc (List.map TMeasure.enc x1)), (12, .v (.pointer (some ⟨b3, 0, none⟩))), (13, .v (.pointer (some ⟨b5, 0, none⟩))), (18, .v (.slice a16 l15.length c17))]) (fun _ => [PRes.b b3 23 [.v (.string x2.Code), .v (.string x2.Origin), .v (.bool x2.Proof), .v (.int .i64 x2.Company), .v (.int .i64 x2.Day), .v (.int .i64 x2.Quantity), .v (.int .i64 x2.Value), .v (.int .i64 x2.Granted)], PRes.b b5 35 [.slc (List.map TDebtLine.enc x8.1.Lines), .v (.int .i64 x8.1.Total)], PRes.row a16 l15.length c17 49 5 (List.map TDebtLine.enc (l15.set x19.toNat (⟨m29.Kind, m29.Measure, m29.Quantity, m29.Value, (IntKind.i64.wrap ((IntKind.i64.wrap (m27.Amount + x28)) - 1))⟩ : TDebtLine)))]) (fun _ => True) ?_ ?_
      ·refine pws_start (ρd := [PRes.row a16 _ _ _ _ _]) _ (List.Perm.refl _) ?_
       refine pws_q 0 (by kernel_rfl) rfl rfl rfl rfl (yam (p := .v (.slice a16 l15.length c17)) rfl (.p rfl)) ?_
       refine pws_q 1 (by kernel_rfl) rfl rfl rfl rfl (yam (p := .v (.int .i64 x19)) rfl (.p rfl)) ?_
       refine pws_q 2 (by kernel_rfl) rfl rfl rfl rfl (yam (p := .v (.slice a16 l15.length c17)) rfl (.p rfl)) ?_
       refine pws_q 3 (by kernel_rfl) rfl rfl rfl rfl (yam (p := .v (.int .i64 x19)) rfl (.p rfl)) ?_
       refine pws_q 4 (by kernel_rfl) rfl rfl rfl rfl (pq_indexF (xs := l15) (by first | exact hl25 | rfl | (simp only [List.length_set]; exact hl25) | simp only [List.length_set]) ha26 rfl rfl rfl (.p rfl) (.p rfl) (fun _ => hm27)) ?_
       refine pws_q 5 (by kernel_rfl) rfl rfl rfl rfl (yac rfl rfl rfl rfl rfl (.p rfl)) ?_
       refine pws_q 7 (by kernel_rfl) rfl rfl rfl rfl (yam (p := .v (.int .i64 p4)) rfl (.p rfl)) ?_
       refine pws_two 6 8 (by kernel_rfl) ?_ ?_
       ·skip
        refine pstep_l rfl rfl rfl rfl (pl_q (pq_load_o (p := .v (.int .i64 m27.Amount)) (enc := TDebtLine.enc) (xs := l15) (a := a16) x19 4 m27 rfl (.p rfl) rfl zm0 (fun _ => hm27) rfl) ?_)
        refine pws_one 8 (by kernel_rfl) ?_
        refine pstep_call rfl rfl rfl rfl rfl rfl (made_Within_ok hx28) ?_
        refine pws_q 9 (by kernel_rfl) rfl rfl rfl rfl (yas rfl (.p rfl) (.p rfl) rfl) ?_
        refine pws_q 10 (by kernel_rfl) rfl rfl rfl rfl (yas rfl (.p rfl) (.p rfl) rfl) ?_
        refine pws_q 11 (by kernel_rfl) rfl rfl rfl rfl (pq_indexF (xs := l15) (by first | exact hl25 | rfl | (simp only [List.length_set]; exact hl25) | simp only [List.length_set]) ha26 rfl rfl rfl (.p rfl) (.p rfl) (fun _ => hm29)) ?_
        refine pws_q 12 (by kernel_rfl) rfl rfl rfl rfl (yac rfl rfl rfl rfl rfl (.p rfl)) ?_
        refine pws_one 13 (by kernel_rfl) ?_
        refine pstep_l0 rfl rfl rfl (pl_store_o (enc := TDebtLine.enc) (xs := l15) (a := a16) x19 4 m29 (⟨m29.Kind, m29.Measure, m29.Quantity, m29.Value, (IntKind.i64.wrap ((IntKind.i64.wrap (m27.Amount + x28)) - 1))⟩ : TDebtLine) rfl rfl rfl rfl (fun _ => rfl) rfl rfl hm29 (zlt (zlt (zlt (zlt (zlc zln))))) zuh ?_)
        refine pws_done (by kernel_rfl) ?_
        exact pk_cut () (zhc rfl (zhc rfl (zhc rfl (zhc rfl zhn)))) (zsc (zpt (zpt zph)) (zsc (zpt zph) (zsc zph zsn))) trivial
       ·skip
        refine pstep_call rfl rfl rfl rfl rfl rfl (made_Within_ok hx28) ?_
        refine pws_one 6 (by kernel_rfl) ?_
        refine pstep_l rfl rfl rfl rfl (pl_q (pq_load_o (p := .v (.int .i64 m27.Amount)) (enc := TDebtLine.enc) (xs := l15) (a := a16) x19 4 m27 rfl (.p rfl) rfl zm0 (fun _ => hm27) rfl) ?_)
        refine pws_q 9 (by kernel_rfl) rfl rfl rfl rfl (yas rfl (.p rfl) (.p rfl) rfl) ?_
        refine pws_q 10 (by kernel_rfl) rfl rfl rfl rfl (yas rfl (.p rfl) (.p rfl) rfl) ?_
        refine pws_q 11 (by kernel_rfl) rfl rfl rfl rfl (pq_indexF (xs := l15) (by first | exact hl25 | rfl | (simp only [List.length_set]; exact hl25) | simp only [List.length_set]) ha26 rfl rfl rfl (.p rfl) (.p rfl) (fun _ => hm29)) ?_
        refine pws_q 12 (by kernel_rfl) rfl rfl rfl rfl (yac rfl rfl rfl rfl rfl (.p rfl)) ?_
        refine pws_one 13 (by kernel_rfl) ?_
        refine pstep_l0 rfl rfl rfl (pl_store_o (enc := TDebtLine.enc) (xs := l15) (a := a16) x19 4 m29 (⟨m29.Kind, m29.Measure, m29.Quantity, m29.Value, (IntKind.i64.wrap ((IntKind.i64.wrap (m27.Amount + x28)) - 1))⟩ : TDebtLine) rfl rfl rfl rfl (fun _ => rfl) rfl rfl hm29 (zlt (zlt (zlt (zlt (zlc zln))))) zuh ?_)
        refine pws_done (by kernel_rfl) ?_
        exact pk_cut () (zhc rfl (zhc rfl (zhc rfl (zhc rfl zhn)))) (zsc (zpt (zpt zph)) (zsc (zpt zph) (zsc zph zsn))) trivial
      ·rintro _ τ ρ1 hsub31 _; (try dsimp only at hsub31); dsimp only [pupds]
       refine ybc ?_
       refine pk_mid_cov (cov_sub hsub31) ?_
       refine pk_mid_cov (cov_frzt (css := List.map TDebtLine.enc (l15.set x19.toNat (⟨m29.Kind, m29.Measure, m29.Quantity, m29.Value, (IntKind.i64.wrap ((IntKind.i64.wrap (m27.Amount + x28)) - 1))⟩ : TDebtLine))) 18 rfl (by exact zpt (zpt zph))) ?_
       obtain rfl := Option.some.inj hq23
       exact ybb ((), ((l15.set x19.toNat (⟨m29.Kind, m29.Measure, m29.Quantity, m29.Value, (IntKind.i64.wrap ((IntKind.i64.wrap (m27.Amount + x28)) - 1))⟩ : TDebtLine)), x8.1.Total)) (zhc rfl (zhc rfl (zhc rfl (zhc rfl zhn)))) (zsc (zpt zph) (zsc (zpt zph) zsn)) rfl
     ·replace hq23 := yaw hc24 hq23
      refine yab (yaa ?_)
      refine yah rfl rfl rfl (yak rfl (.p rfl) (.p rfl) rfl) ?_
      refine zas (p := .v (.bool (x20 == 1))) rfl rfl rfl rfl rfl ?_
      refine yad (yae ?_)
      refine yal rfl (fun hc32 => ?_) (fun hc32 => ?_)
      ·replace hq23 := yav hc32 hq23
       refine yaa ?_
       refine zmv (p := .v (.slice a16 l15.length c17)) rfl rfl rfl rfl rfl ?_
       refine zmv (p := .v (.int .i64 x19)) rfl rfl rfl rfl rfl ?_
       refine zmv (p := .v (.int .i64 p4)) rfl rfl rfl rfl rfl ?_
       refine yaf hq23 ?_; clear hq23; intro x33 hx33 hq23
       refine ybd rfl rfl rfl rfl rfl (made_Within_ok hx33) ?_
       refine yaf hq23 ?_; clear hq23; intro m34 hm34 hq23
       refine yah rfl rfl rfl (pq_indexO (enc := TDebtLine.enc) (xs := l15) rfl rfl rfl (.p rfl) zm0 (.p rfl) (fun _ => hm34)) ?_
       refine yah rfl rfl rfl (yac rfl rfl rfl rfl rfl (.p rfl)) ?_
       refine pwl_l0 rfl rfl (pl_store_o (enc := TDebtLine.enc) (xs := l15) (a := a16) x19 1 m34 (⟨m34.Kind, x33, m34.Quantity, m34.Value, m34.Amount⟩ : TDebtLine) rfl rfl rfl rfl (fun _ => rfl) rfl rfl hm34 (zlt (zlc zln)) zuh ?_)
       refine yad (ybc ?_)
       refine pk_mid_cov (cov_frzt (css := List.map TDebtLine.enc (l15.set x19.toNat (⟨m34.Kind, x33, m34.Quantity, m34.Value, m34.Amount⟩ : TDebtLine))) 18 rfl (by exact zph)) ?_
       obtain rfl := Option.some.inj hq23
       exact ybb ((), ((l15.set x19.toNat (⟨m34.Kind, x33, m34.Quantity, m34.Value, m34.Amount⟩ : TDebtLine)), x8.1.Total)) (zhc rfl (zhc rfl (zhc rfl (zhc rfl zhn)))) (zsc (zpt (zpt zph)) (zsc (zpt zph) zsn)) rfl
      ·replace hq23 := yaw hc32 hq23
       refine yab (yaa ?_)
       refine yah rfl rfl rfl (yak rfl (.p rfl) (.p rfl) rfl) ?_
       refine zas (p := .v (.bool (x20 == 2))) rfl rfl rfl rfl rfl ?_
       refine yad (yae ?_)
       refine yal rfl (fun hc36 => ?_) (fun hc36 => ?_)
       ·replace hq23 := yav hc36 hq23
        refine yaa ?_
        refine zmv (p := .v (.slice a16 l15.length c17)) rfl rfl rfl rfl rfl ?_
        refine zmv (p := .v (.int .i64 x19)) rfl rfl rfl rfl rfl ?_
        refine zmv (p := .v (.int .i64 p4)) rfl rfl rfl rfl rfl ?_
        refine yaf hq23 ?_; clear hq23; intro x37 hx37 hq23
        refine ybd rfl rfl rfl rfl rfl (made_Within_ok hx37) ?_
        refine yaf hq23 ?_; clear hq23; intro m38 hm38 hq23
        refine yah rfl rfl rfl (pq_indexO (enc := TDebtLine.enc) (xs := l15) rfl rfl rfl (.p rfl) zm0 (.p rfl) (fun _ => hm38)) ?_
        refine yah rfl rfl rfl (yac rfl rfl rfl rfl rfl (.p rfl)) ?_
        refine pwl_l0 rfl rfl (pl_store_o (enc := TDebtLine.enc) (xs := l15) (a := a16) x19 0 m38 (⟨x37, m38.Measure, m38.Quantity, m38.Value, m38.Amount⟩ : TDebtLine) rfl rfl rfl rfl (fun _ => rfl) rfl rfl hm38 (zlc zln) zuh ?_)
        refine yad (ybc ?_)
        refine pk_mid_cov (cov_frzt (css := List.map TDebtLine.enc (l15.set x19.toNat (⟨x37, m38.Measure, m38.Quantity, m38.Value, m38.Amount⟩ : TDebtLine))) 18 rfl (by exact zph)) ?_
        obtain rfl := Option.some.inj hq23
        exact ybb ((), ((l15.set x19.toNat (⟨x37, m38.Measure, m38.Quantity, m38.Value, m38.Amount⟩ : TDebtLine)), x8.1.Total)) (zhc rfl (zhc rfl (zhc rfl (zhc rfl zhn)))) (zsc (zpt (zpt zph)) (zsc (zpt zph) zsn)) rfl
       ·replace hq23 := yaw hc36 hq23
        refine yab (yaa ?_)
        refine yah rfl rfl rfl (yak rfl (.p rfl) (.p rfl) rfl) ?_
        refine zas (p := .v (.bool (x20 == 3))) rfl rfl rfl rfl rfl ?_
        refine yad (yae ?_)
        refine yal rfl (fun hc40 => ?_) (fun hc40 => ?_)
        ·replace hq23 := yav hc40 hq23
         refine yaa ?_
         refine zmv (p := .v (.slice a16 l15.length c17)) rfl rfl rfl rfl rfl ?_
         refine zmv (p := .v (.int .i64 x19)) rfl rfl rfl rfl rfl ?_
         refine pwl_frzt (css := List.map TDebtLine.enc l15) 133 rfl (by exact zph) ?_
         refine yaf hq23 ?_; clear hq23; intro l41 hl41 hq23
         refine yah rfl rfl rfl (pq_sliceH (enc := TDebtLine.enc) rfl rfl rfl (fun _ => rfl) (.p rfl) (.p rfl) (fun _ => hl41)) ?_
         refine zas (p := .slc (List.map TDebtLine.enc l41)) rfl rfl rfl rfl rfl ?_
         refine yad (ybc ?_)
         obtain rfl := Option.some.inj hq23
         exact ybb ((), (l41, x8.1.Total)) (zhc rfl (zhc rfl (zhc rfl (zhc rfl zhn)))) (zsc (zpt (zpt zph)) (zsc (zpt zph) zsn)) rfl
        ·replace hq23 := yaw hc40 hq23
         refine yab (yaa ?_)
         refine yah rfl rfl rfl (yak rfl (.p rfl) (.p rfl) rfl) ?_
         refine zas (p := .v (.bool (x20 == 4))) rfl rfl rfl rfl rfl ?_
         refine yad (yae ?_)
         refine yal rfl (fun hc42 => ?_) (fun hc42 => ?_)
         ·replace hq23 := yav hc42 hq23
          refine yaa ?_
          refine zmv (p := .v (.slice a16 l15.length c17)) rfl rfl rfl rfl rfl ?_
          refine zmv (p := .v (.slice a16 l15.length c17)) rfl rfl rfl rfl rfl ?_
          refine zmv (p := .v (.int .i64 x19)) rfl rfl rfl rfl rfl ?_
          refine yaf hq23 ?_; clear hq23; intro m43 hm43 hq23
          refine yah rfl rfl rfl (pq_indexO (enc := TDebtLine.enc) (xs := l15) rfl rfl rfl (.p rfl) zm0 (.p rfl) (fun _ => hm43)) ?_
          refine yah rfl rfl rfl (pq_load_o (p := .agg [.v (.int .i64 m43.Kind), .v (.int .i64 m43.Measure), .v (.int .i64 m43.Quantity), .v (.int .i64 m43.Value), .v (.int .i64 m43.Amount)]) (enc := TDebtLine.enc) (xs := l15) (a := a16) x19 0 m43 rfl (.p rfl) rfl zm0 (fun _ => hm43) rfl) ?_
          refine ybl rfl rfl rfl (pl_lit rfl rfl rfl rfl rfl (zic rfl zin) rfl rfl rfl rfl (fun b44 => ?_))
          refine yaf hq23 ?_; clear hq23; intro l46 hl46 hq23
          refine ybl rfl rfl rfl (pl_app_o (enc := TDebtLine.enc) rfl rfl rfl rfl rfl rfl rfl rfl rfl zm0 (by exact zpt zph) hl46 (fun a47 c48 => ?_))
          refine zas (p := .v (.slice a47 l46.length c48)) rfl rfl rfl rfl rfl ?_
          refine yad (ybc ?_)
          refine pk_mid_cov (cov_frzt (css := List.map TDebtLine.enc l46) 18 rfl (by exact zph)) ?_
          obtain rfl := Option.some.inj hq23
          exact ybb ((), (l46, x8.1.Total)) (zhc rfl (zhc rfl (zhc rfl (zhc rfl zhn)))) (zsc (zpt (zpt (zpt zph))) (zsc (zpt (zpt zph)) zsn)) rfl
         ·replace hq23 := yaw hc42 hq23
          refine yab (yaa ?_)
          refine yah rfl rfl rfl (yak rfl (.p rfl) (.p rfl) rfl) ?_
          refine zas (p := .v (.bool (x20 == 5))) rfl rfl rfl rfl rfl ?_
          refine yad (yae ?_)
          refine yal rfl (fun hc50 => ?_) (fun hc50 => ?_)
          ·replace hq23 := yav hc50 hq23
           refine yaf hq23 ?_; clear hq23; intro x51 hx51 hq23
           refine pwc_cutK (Y := Unit) (fun _ => [(11, .slc (List.map TMeasure.enc x1)), (12, .v (.pointer (some ⟨b3, 0, none⟩))), (13, .v (.pointer (some ⟨b5, 0, none⟩))), (18, .v (.slice a16 l15.length c17))]) (fun _ => [PRes.b b3 23 [.v (.string x2.Code), .v (.string x2.Origin), .v (.bool x2.Proof), .v (.int .i64 x2.Company), .v (.int .i64 x2.Day), .v (.int .i64 x2.Quantity), .v (.int .i64 x2.Value), .v (.int .i64 x2.Granted)], PRes.b b5 35 [.slc (List.map TDebtLine.enc x8.1.Lines), .v (.int .i64 (IntKind.i64.wrap ((IntKind.i64.wrap (x8.1.Total + x51)) - 1)))], PRes.row a16 l15.length c17 49 5 (List.map TDebtLine.enc l15)]) (fun _ => True) ?_ ?_
           ·refine pws_start (ρd := [PRes.b b5 _ _]) _ (ybk (zpt zph) (List.Perm.refl _)) ?_
            refine pws_q 0 (by kernel_rfl) rfl rfl rfl rfl (yac rfl rfl rfl rfl rfl (.p rfl)) ?_
            refine pws_q 2 (by kernel_rfl) rfl rfl rfl rfl (yam (p := .v (.int .i64 p4)) rfl (.p rfl)) ?_
            refine pws_two 1 3 (by kernel_rfl) ?_ ?_
            ·skip
             refine pstep_l rfl rfl rfl rfl (pl_q (yag (p := .v (.int .i64 x8.1.Total)) rfl (.p rfl) zm0 rfl) ?_)
             refine pws_one 3 (by kernel_rfl) ?_
             refine pstep_call rfl rfl rfl rfl rfl rfl (made_Within_ok hx51) ?_
             refine pws_q 4 (by kernel_rfl) rfl rfl rfl rfl (yas rfl (.p rfl) (.p rfl) rfl) ?_
             refine pws_q 5 (by kernel_rfl) rfl rfl rfl rfl (yas rfl (.p rfl) (.p rfl) rfl) ?_
             refine pws_q 6 (by kernel_rfl) rfl rfl rfl rfl (yac rfl rfl rfl rfl rfl (.p rfl)) ?_
             refine pws_one 7 (by kernel_rfl) ?_
             refine pstep_l0 rfl rfl rfl (yax (vs := [.v (.int .i64 (IntKind.i64.wrap ((IntKind.i64.wrap (x8.1.Total + x51)) - 1)))]) rfl rfl rfl rfl rfl zuh (zlt (zlc zln)) ?_)
             refine pws_done (by kernel_rfl) ?_
             exact pk_cut () (zhc rfl (zhc rfl (zhc rfl (zhc rfl zhn)))) (zsc (zpt (zpt zph)) (zsc zph (zsc zph zsn))) trivial
            ·skip
             refine pstep_call rfl rfl rfl rfl rfl rfl (made_Within_ok hx51) ?_
             refine pws_one 1 (by kernel_rfl) ?_
             refine pstep_l rfl rfl rfl rfl (pl_q (yag (p := .v (.int .i64 x8.1.Total)) rfl (.p rfl) zm0 rfl) ?_)
             refine pws_q 4 (by kernel_rfl) rfl rfl rfl rfl (yas rfl (.p rfl) (.p rfl) rfl) ?_
             refine pws_q 5 (by kernel_rfl) rfl rfl rfl rfl (yas rfl (.p rfl) (.p rfl) rfl) ?_
             refine pws_q 6 (by kernel_rfl) rfl rfl rfl rfl (yac rfl rfl rfl rfl rfl (.p rfl)) ?_
             refine pws_one 7 (by kernel_rfl) ?_
             refine pstep_l0 rfl rfl rfl (yax (vs := [.v (.int .i64 (IntKind.i64.wrap ((IntKind.i64.wrap (x8.1.Total + x51)) - 1)))]) rfl rfl rfl rfl rfl zuh (zlt (zlc zln)) ?_)
             refine pws_done (by kernel_rfl) ?_
             exact pk_cut () (zhc rfl (zhc rfl (zhc rfl (zhc rfl zhn)))) (zsc (zpt (zpt zph)) (zsc zph (zsc zph zsn))) trivial
           ·rintro _ τ ρ1 hsub52 _; (try dsimp only at hsub52); dsimp only [pupds]
            refine ybc ?_
            refine pk_mid_cov (cov_sub hsub52) ?_
            refine pk_mid_cov (cov_frzt (css := List.map TDebtLine.enc l15) 18 rfl (by exact zpt (zpt zph))) ?_
            obtain rfl := Option.some.inj hq23
            exact ybb ((), (l15, (IntKind.i64.wrap ((IntKind.i64.wrap (x8.1.Total + x51)) - 1)))) (zhc rfl (zhc rfl (zhc rfl (zhc rfl zhn)))) (zsc (zpt zph) (zsc (zpt zph) zsn)) rfl
          ·replace hq23 := yaw hc50 hq23
           refine pwc_rowfact (enc := TDebtLine.enc) (xs := l15) (a := a16) zm0 (fun hl53 ha54 => ?_)
           refine yaf hq23 ?_; clear hq23; intro m55 hm55 hq23
           refine yaf hq23 ?_; clear hq23; intro m56 hm56 hq23
           refine yaf hq23 ?_; clear hq23; intro m57 hm57 hq23
           refine yaf hq23 ?_; clear hq23; intro m59 hm59 hq23
           refine pwc_cutK (Y := Unit) (fun _ => [(11, .slc (List.map TMeasure.enc x1)), (12, .v (.pointer (some ⟨b3, 0, none⟩))), (13, .v (.pointer (some ⟨b5, 0, none⟩))), (18, .v (.slice a16 l15.length c17))]) (fun _ => [PRes.b b3 23 [.v (.string x2.Code), .v (.string x2.Origin), .v (.bool x2.Proof), .v (.int .i64 x2.Company), .v (.int .i64 x2.Day), .v (.int .i64 x2.Quantity), .v (.int .i64 x2.Value), .v (.int .i64 x2.Granted)], PRes.b b5 35 [.slc (List.map TDebtLine.enc x8.1.Lines), .v (.int .i64 x8.1.Total)], PRes.row a16 l15.length c17 49 5 (List.map TDebtLine.enc ((l15.set x19.toNat (⟨m57.Kind, m57.Measure, m57.Quantity, m55.Quantity, m57.Amount⟩ : TDebtLine)).set x19.toNat (⟨m59.Kind, m59.Measure, m56.Value, m59.Value, m59.Amount⟩ : TDebtLine)))]) (fun _ => True) ?_ ?_
           ·refine pws_start (ρd := [PRes.row a16 _ _ _ _ _]) _ (List.Perm.refl _) ?_
            refine pws_q 0 (by kernel_rfl) rfl rfl rfl rfl (yam (p := .v (.slice a16 l15.length c17)) rfl (.p rfl)) ?_
            refine pws_q 1 (by kernel_rfl) rfl rfl rfl rfl (yam (p := .v (.int .i64 x19)) rfl (.p rfl)) ?_
            refine pws_q 2 (by kernel_rfl) rfl rfl rfl rfl (yam (p := .v (.slice a16 l15.length c17)) rfl (.p rfl)) ?_
            refine pws_q 3 (by kernel_rfl) rfl rfl rfl rfl (yam (p := .v (.int .i64 x19)) rfl (.p rfl)) ?_
            refine pws_q 4 (by kernel_rfl) rfl rfl rfl rfl (yam (p := .v (.slice a16 l15.length c17)) rfl (.p rfl)) ?_
            refine pws_q 5 (by kernel_rfl) rfl rfl rfl rfl (yam (p := .v (.int .i64 x19)) rfl (.p rfl)) ?_
            refine pws_q 6 (by kernel_rfl) rfl rfl rfl rfl (pq_indexF (xs := l15) (by first | exact hl53 | rfl | (simp only [List.length_set]; exact hl53) | simp only [List.length_set]) ha54 rfl rfl rfl (.p rfl) (.p rfl) (fun _ => hm55)) ?_
            refine pws_q 7 (by kernel_rfl) rfl rfl rfl rfl (yac rfl rfl rfl rfl rfl (.p rfl)) ?_
            refine pws_q 9 (by kernel_rfl) rfl rfl rfl rfl (yam (p := .v (.slice a16 l15.length c17)) rfl (.p rfl)) ?_
            refine pws_q 10 (by kernel_rfl) rfl rfl rfl rfl (yam (p := .v (.int .i64 x19)) rfl (.p rfl)) ?_
            refine pws_q 11 (by kernel_rfl) rfl rfl rfl rfl (pq_indexF (xs := l15) (by first | exact hl53 | rfl | (simp only [List.length_set]; exact hl53) | simp only [List.length_set]) ha54 rfl rfl rfl (.p rfl) (.p rfl) (fun _ => hm56)) ?_
            refine pws_q 12 (by kernel_rfl) rfl rfl rfl rfl (yac rfl rfl rfl rfl rfl (.p rfl)) ?_
            refine pws_two 8 13 (by kernel_rfl) ?_ ?_
            ·skip
             refine pstep_l rfl rfl rfl rfl (pl_q (pq_load_o (p := .v (.int .i64 m55.Quantity)) (enc := TDebtLine.enc) (xs := l15) (a := a16) x19 2 m55 rfl (.p rfl) rfl zm0 (fun _ => hm55) rfl) ?_)
             refine pws_one 13 (by kernel_rfl) ?_
             refine pstep_l rfl rfl rfl rfl (pl_q (pq_load_o (p := .v (.int .i64 m56.Value)) (enc := TDebtLine.enc) (xs := l15) (a := a16) x19 3 m56 rfl (.p rfl) rfl zm0 (fun _ => hm56) rfl) ?_)
             refine pws_q 14 (by kernel_rfl) rfl rfl rfl rfl (pq_indexF (xs := l15) (by first | exact hl53 | rfl | (simp only [List.length_set]; exact hl53) | simp only [List.length_set]) ha54 rfl rfl rfl (.p rfl) (.p rfl) (fun _ => hm57)) ?_
             refine pws_q 15 (by kernel_rfl) rfl rfl rfl rfl (yac rfl rfl rfl rfl rfl (.p rfl)) ?_
             refine pws_one 16 (by kernel_rfl) ?_
             refine pstep_l0 rfl rfl rfl (pl_store_o (enc := TDebtLine.enc) (xs := l15) (a := a16) x19 3 m57 (⟨m57.Kind, m57.Measure, m57.Quantity, m55.Quantity, m57.Amount⟩ : TDebtLine) rfl rfl rfl rfl (fun _ => rfl) rfl rfl hm57 (zlt (zlt (zlt (zlc zln)))) zuh ?_)
             refine pws_q 17 (by kernel_rfl) rfl rfl rfl rfl (pq_indexF (xs := (l15.set x19.toNat (⟨m57.Kind, m57.Measure, m57.Quantity, m55.Quantity, m57.Amount⟩ : TDebtLine))) (by first | exact hl53 | rfl | (simp only [List.length_set]; exact hl53) | simp only [List.length_set]) ha54 rfl rfl rfl (.p rfl) (.p rfl) (fun _ => hm59)) ?_
             refine pws_q 18 (by kernel_rfl) rfl rfl rfl rfl (yac rfl rfl rfl rfl rfl (.p rfl)) ?_
             refine pws_one 19 (by kernel_rfl) ?_
             refine pstep_l0 rfl rfl rfl (pl_store_o (enc := TDebtLine.enc) (xs := (l15.set x19.toNat (⟨m57.Kind, m57.Measure, m57.Quantity, m55.Quantity, m57.Amount⟩ : TDebtLine))) (a := a16) x19 2 m59 (⟨m59.Kind, m59.Measure, m56.Value, m59.Value, m59.Amount⟩ : TDebtLine) rfl rfl rfl rfl (fun _ => rfl) rfl rfl hm59 (zlt (zlt (zlc zln))) zuh ?_)
             refine pws_done (by kernel_rfl) ?_
             exact pk_cut () (zhc rfl (zhc rfl (zhc rfl (zhc rfl zhn)))) (zsc (zpt (zpt zph)) (zsc (zpt zph) (zsc zph zsn))) trivial
            ·skip
             refine pstep_l rfl rfl rfl rfl (pl_q (pq_load_o (p := .v (.int .i64 m56.Value)) (enc := TDebtLine.enc) (xs := l15) (a := a16) x19 3 m56 rfl (.p rfl) rfl zm0 (fun _ => hm56) rfl) ?_)
             refine pws_one 8 (by kernel_rfl) ?_
             refine pstep_l rfl rfl rfl rfl (pl_q (pq_load_o (p := .v (.int .i64 m55.Quantity)) (enc := TDebtLine.enc) (xs := l15) (a := a16) x19 2 m55 rfl (.p rfl) rfl zm0 (fun _ => hm55) rfl) ?_)
             refine pws_q 14 (by kernel_rfl) rfl rfl rfl rfl (pq_indexF (xs := l15) (by first | exact hl53 | rfl | (simp only [List.length_set]; exact hl53) | simp only [List.length_set]) ha54 rfl rfl rfl (.p rfl) (.p rfl) (fun _ => hm57)) ?_
             refine pws_q 15 (by kernel_rfl) rfl rfl rfl rfl (yac rfl rfl rfl rfl rfl (.p rfl)) ?_
             refine pws_one 16 (by kernel_rfl) ?_
             refine pstep_l0 rfl rfl rfl (pl_store_o (enc := TDebtLine.enc) (xs := l15) (a := a16) x19 3 m57 (⟨m57.Kind, m57.Measure, m57.Quantity, m55.Quantity, m57.Amount⟩ : TDebtLine) rfl rfl rfl rfl (fun _ => rfl) rfl rfl hm57 (zlt (zlt (zlt (zlc zln)))) zuh ?_)
             refine pws_q 17 (by kernel_rfl) rfl rfl rfl rfl (pq_indexF (xs := (l15.set x19.toNat (⟨m57.Kind, m57.Measure, m57.Quantity, m55.Quantity, m57.Amount⟩ : TDebtLine))) (by first | exact hl53 | rfl | (simp only [List.length_set]; exact hl53) | simp only [List.length_set]) ha54 rfl rfl rfl (.p rfl) (.p rfl) (fun _ => hm59)) ?_
             refine pws_q 18 (by kernel_rfl) rfl rfl rfl rfl (yac rfl rfl rfl rfl rfl (.p rfl)) ?_
             refine pws_one 19 (by kernel_rfl) ?_
             refine pstep_l0 rfl rfl rfl (pl_store_o (enc := TDebtLine.enc) (xs := (l15.set x19.toNat (⟨m57.Kind, m57.Measure, m57.Quantity, m55.Quantity, m57.Amount⟩ : TDebtLine))) (a := a16) x19 2 m59 (⟨m59.Kind, m59.Measure, m56.Value, m59.Value, m59.Amount⟩ : TDebtLine) rfl rfl rfl rfl (fun _ => rfl) rfl rfl hm59 (zlt (zlt (zlc zln))) zuh ?_)
             refine pws_done (by kernel_rfl) ?_
             exact pk_cut () (zhc rfl (zhc rfl (zhc rfl (zhc rfl zhn)))) (zsc (zpt (zpt zph)) (zsc (zpt zph) (zsc zph zsn))) trivial
           ·rintro _ τ ρ1 hsub61 _; (try dsimp only at hsub61); dsimp only [pupds]
            refine ybc ?_
            refine pk_mid_cov (cov_sub hsub61) ?_
            refine pk_mid_cov (cov_frzt (css := List.map TDebtLine.enc ((l15.set x19.toNat (⟨m57.Kind, m57.Measure, m57.Quantity, m55.Quantity, m57.Amount⟩ : TDebtLine)).set x19.toNat (⟨m59.Kind, m59.Measure, m56.Value, m59.Value, m59.Amount⟩ : TDebtLine))) 18 rfl (by exact zpt (zpt zph))) ?_
            obtain rfl := Option.some.inj hq23
            exact ybb ((), (((l15.set x19.toNat (⟨m57.Kind, m57.Measure, m57.Quantity, m55.Quantity, m57.Amount⟩ : TDebtLine)).set x19.toNat (⟨m59.Kind, m59.Measure, m56.Value, m59.Value, m59.Amount⟩ : TDebtLine)), x8.1.Total)) (zhc rfl (zhc rfl (zhc rfl (zhc rfl zhn)))) (zsc (zpt zph) (zsc (zpt zph) zsn)) rfl
    ·rintro ⟨_, ⟨l21, v22⟩⟩ τ hz; (try dsimp only at hz); subst q23; (try dsimp only at hq11); dsimp only [pupds]
     refine yaa ?_
     refine zmv (p := .slc (List.map TDebtLine.enc l21)) rfl rfl rfl rfl rfl ?_
     refine yah rfl rfl rfl (yac rfl rfl rfl rfl rfl (.p rfl)) ?_
     refine pwl_l0 rfl rfl (yax (vs := [.slc (List.map TDebtLine.enc l21)]) rfl rfl rfl rfl rfl (zut zuh) (zlc zln) ?_)
     refine yad ?_
     obtain rfl := Option.some.inj hq11
     exact ybb ((), (l21, v22)) (zhc rfl (zhc rfl (zhc rfl zhn))) (zsc zph (zsc zph zsn)) rfl
   ·replace hq11 := yaw hc12 hq11
    refine yao ?_
    obtain rfl := Option.some.inj hq11
    exact ybb ((), (x8.1.Lines, x8.1.Total)) (zhc rfl (zhc rfl (zhc rfl zhn))) (zsc (zpt zph) (zsc zph zsn)) rfl
  ·rintro ⟨_, ⟨l9, v10⟩⟩ τ hz; (try dsimp only at hz); subst q11; (try dsimp only at h); dsimp only [pupds]
   refine yab (yaa ?_)
   refine zmv (p := .slc (List.map TMeasure.enc x1)) rfl rfl rfl rfl rfl ?_
   refine yah rfl rfl rfl (yag (p := .agg [.v (.string x2.Code), .v (.string x2.Origin), .v (.bool x2.Proof), .v (.int .i64 x2.Company), .v (.int .i64 x2.Day), .v (.int .i64 x2.Quantity), .v (.int .i64 x2.Value), .v (.int .i64 x2.Granted)]) rfl (.p rfl) zm0 rfl) ?_
   refine yah rfl rfl rfl (yag (p := .agg [.slc (List.map TDebtLine.enc l9), .v (.int .i64 v10)]) rfl (.p rfl) zm1 rfl) ?_
   refine yaf h ?_; clear h; intro x62 hx62 h
   refine ybd rfl rfl rfl rfl rfl (assess_Check_ok hx62) ?_
   refine zmv (p := .tup [.v (.int .i64 x62.1), .v (.int .i64 x62.2)]) rfl rfl rfl rfl rfl ?_
   refine zex (p := .v (.int .i64 x62.1)) rfl rfl rfl rfl rfl rfl ?_
   refine zex (p := .v (.int .i64 x62.2)) rfl rfl rfl rfl rfl rfl ?_
   refine zas (p := .v (.int .i64 x62.1)) rfl rfl rfl rfl rfl ?_
   refine zas (p := .v (.int .i64 x62.2)) rfl rfl rfl rfl rfl ?_
   refine yad (yae (yab (yaa ?_)))
   refine zmv (p := .slc (List.map TMeasure.enc x1)) rfl rfl rfl rfl rfl ?_
   refine yah rfl rfl rfl (yag (p := .agg [.v (.string x2.Code), .v (.string x2.Origin), .v (.bool x2.Proof), .v (.int .i64 x2.Company), .v (.int .i64 x2.Day), .v (.int .i64 x2.Quantity), .v (.int .i64 x2.Value), .v (.int .i64 x2.Granted)]) rfl (.p rfl) zm0 rfl) ?_
   refine yah rfl rfl rfl (yag (p := .agg [.slc (List.map TDebtLine.enc l9), .v (.int .i64 v10)]) rfl (.p rfl) zm1 rfl) ?_
   refine yaf h ?_; clear h; intro x63 hx63 h
   refine ybd rfl rfl rfl rfl rfl (ref19_Check_ok hx63) ?_
   refine zmv (p := .tup [.v (.int .i64 x63.1), .v (.int .i64 x63.2)]) rfl rfl rfl rfl rfl ?_
   refine zex (p := .v (.int .i64 x63.1)) rfl rfl rfl rfl rfl rfl ?_
   refine zex (p := .v (.int .i64 x63.2)) rfl rfl rfl rfl rfl rfl ?_
   refine zas (p := .v (.int .i64 x63.1)) rfl rfl rfl rfl rfl ?_
   refine zas (p := .v (.int .i64 x63.2)) rfl rfl rfl rfl rfl ?_
   refine yad (yae (yab (yaa ?_)))
   refine zmv (p := .v (.int .i64 x62.1)) rfl rfl rfl rfl rfl ?_
   refine zmv (p := .v (.int .i64 x63.1)) rfl rfl rfl rfl rfl ?_
   refine yah rfl rfl rfl (yak rfl (.p rfl) (.p rfl) rfl) ?_
   refine zmv (p := .v (.bool (x62.1 == x63.1))) rfl rfl rfl rfl rfl ?_
   refine yaj (yan rfl rfl rfl) rfl rfl (yam (p := .v (.int .i64 x62.2)) rfl (.p rfl)) ?_
   refine yaj (yan rfl rfl rfl) rfl rfl (yam (p := .v (.int .i64 x63.2)) rfl (.p rfl)) ?_
   refine yaj (yan rfl rfl rfl) rfl rfl (yak rfl (.g rfl) (.g rfl) rfl) ?_
   refine yah rfl rfl rfl (pq_and rfl (.p rfl) (.p rfl) (.g rfl)) ?_
   refine zmv (p := .v (.bool ((x62.1 == x63.1) && (x62.2 == x63.2)))) rfl rfl rfl rfl rfl ?_
   refine yaf h ?_; clear h; intro x64 hx64 h
   refine pwl_callg (yan rfl rfl rfl) rfl rfl rfl (pargs_nil) (fun hc => law20_awake_ok (gd_t hx64 hc)) ?_
   refine yah rfl rfl rfl (pq_and rfl (.p rfl) (.p rfl) (.g rfl)) ?_
   refine zas (p := .v (.bool (((x62.1 == x63.1) && (x62.2 == x63.2)) && x64))) rfl rfl rfl rfl rfl ?_
   refine yad (yae (yaq ?_))
   obtain rfl := Option.some.inj h
   exact yar (prv_1 (yat rfl)) zsn ⟨rfl, rfl⟩
end SX
end Go.Proofs.YtfcecieppoljlaaGreatDoor
set_option maxRecDepth 100000
namespace Go.Proofs.YtfcecieppoljlaaGreatDoor
namespace SX
open Go
def chkF (a : List TDebtLine) (k : Nat) (y : TDebtLine) (_ : Unit) : Unit ⊕ Int := if a[k]? = some y then .inl () else .inr (k : Int)
def checkT (a : TDebt) (d : TDebt) : Int × Int := match run (chkF a.Lines) d.Lines 0 () with
 | .inr k => (k, 10)
 | .inl _ => if (d.Lines.length : Int) < (a.Lines.length : Int) ∨ d.Total ≠ a.Total then ((d.Lines.length : Int), 10) else ((d.Lines.length : Int), 0)
def checkS (m : List TMeasure) (x : TItem) (d : TDebt) : Int × Int := if (assessS m x).2 ≠ 0 then (0, (assessS m x).2) else checkT (assessS m x).1 d
theorem chk_tail (a d : TDebt) : (match (outf (fun _ => .inl ()) (fun k => .inr (k, 10)) (run (chkF a.Lines) d.Lines 0 ()) : Unit ⊕ (Int × Int)) with | .inl _ => cond ((decide ((d.Lines.length : Int) < (a.Lines.length : Int))) || (d.Total != a.Total)) (some ((d.Lines.length : Int), (10 : Int))) (some ((d.Lines.length : Int), (0 : Int))) | .inr e => some e) = some (checkT a d) := by
 unfold checkT
 cases run (chkF a.Lines) d.Lines 0 () with
 | inr k => rfl
 | inl u =>
  dsimp only [outf]
  by_cases h : (d.Lines.length : Int) < (a.Lines.length : Int) ∨ d.Total ≠ a.Total
  ·rw [if_pos h]
   rcases h with h | h
   ·rw [decide_eq_true h]; rfl
   ·rw [show (d.Total != a.Total) = true by simp [h], Bool.or_true]; rfl
  ·rw [if_neg h, decide_eq_false (fun g => h (.inl g)), show (d.Total != a.Total) = false by simp; exact Decidable.not_not.1 (fun g => h (.inr g))]; rfl
theorem chk_step (a : List TDebtLine) {k : Nat} (y : TDebtLine) (m12 : TDebtLine) (hm : ∀ h : k < a.length, m12 = a[k]) : ((decide ((a.length : Int) ≤ (k : Int))) || (!(TDebtLine.eqb y m12))) = !decide (a[k]? = some y) := by
 by_cases h : k < a.length
 ·rw [decide_eq_false (by omega), Bool.false_or, hm h, List.getElem?_eq_getElem h]
  by_cases e : y = a[k]
  ·rw [TDebtLine.eqb_iff.2 e]; simp [e]
  ·rw [show TDebtLine.eqb y a[k] = false by cases hh : TDebtLine.eqb y a[k]; rfl; exact absurd (TDebtLine.eqb_iff.1 hh) e]
   simp; exact fun h => e h.symm
 ·rw [decide_eq_true (by omega), List.getElem?_eq_none (by omega)]; simp
theorem gd_le (a : List TDebtLine) (k : Nat) : ∃ m12, gd (!(decide ((a.length : Int) ≤ (k : Int)))) (idx a (k : Int)) = some m12 ∧ ∀ h : k < a.length, m12 = a[k] := by
 by_cases h : k < a.length
 ·rw [decide_eq_false (by omega), Bool.not_false, gd_tt, idx_nat h]; exact ⟨_, rfl, fun _ => rfl⟩
 ·rw [decide_eq_true (by omega)]; exact ⟨_, rfl, fun h' => absurd h' h⟩
theorem check_prog (m : List TMeasure) (x : TItem) (hx : ∃ e, assess_Validate x = some e) (d : TDebt) (hd : d.Lines.length ≤ 4611686018427387904) : assess_Check m x d = some (checkS m x d) := by
 unfold assess_Check checkS
 rw [bnd (assess_prog m x hx)]
 by_cases h : (assessS m x).2 = 0
 case neg => rw [if_pos h, show ((assessS m x).2 != 0) = true by simp [h]]; rfl
 rw [if_neg (by simp [h]), show ((assessS m x).2 != 0) = false by simp [h], cond_false]
 generalize (assessS m x).1 = a
 obtain ⟨e, _⟩ := loop_run (S := Int) (T := Unit ⊕ (Int × Int)) hd (body := fun v6 => cond (decide (v6 < (d.Lines.length : Int))) (Option.bind (idx d.Lines v6) (fun m10 => Option.bind (gd (!(decide ((a.Lines.length : Int) ≤ v6))) (idx a.Lines v6)) (fun m12 => cond ((decide ((a.Lines.length : Int) ≤ v6)) || (!(TDebtLine.eqb m10 m12))) (some (.inr (.inr (v6, 10)))) (some (.inl (IntKind.i64.wrap (v6 + 1))))))) (some (.inr (.inl ()))))
  (fun i (_ : Unit) => i) (chkF a.Lines) (fun _ => .inl ()) (fun k => .inr (k, 10)) (fun _ _ => True) (by
   intro k hk t _
   refine ⟨?_, fun _ _ => trivial⟩
   obtain ⟨m12, g1, g2⟩ := gd_le a.Lines k
   rw [dlt hk, cond_true, bnd (idx_nat hk), bnd g1, chk_step _ _ _ g2, wnext hk hd]
   unfold chkF
   by_cases c : a.Lines[k]? = some d.Lines[k]
   ·rw [if_pos c, decide_eq_true c]; rfl
   ·rw [if_neg c, decide_eq_false c]; rfl)
  (by intro t _; rw [dnlt]; rfl) () trivial
 refine (bnd e).trans ?_
 exact chk_tail a d
theorem check_ref (m : List TMeasure) (x : TItem) (hp : ∀ y ∈ m, y.Prefix.size ≤ 140737488355328) (hc : x.Code.size ≤ 140737488355328) (d : TDebt) (hd : d.Lines.length ≤ 4611686018427387904) : ref19_Check m x d = some (checkS m x d) := by
 unfold ref19_Check checkS
 rw [bnd (assess_ref m x hp hc)]
 by_cases h : (assessS m x).2 = 0
 case neg => rw [if_pos h, show ((assessS m x).2 != 0) = true by simp [h]]; rfl
 rw [if_neg (by simp [h]), show ((assessS m x).2 != 0) = false by simp [h], cond_false]
 generalize (assessS m x).1 = a
 obtain ⟨e, _⟩ := loop_run (S := Int) (T := Unit ⊕ (Int × Int)) hd (body := fun v6 => cond (decide (v6 < (d.Lines.length : Int))) (Option.bind (gd (!(decide ((a.Lines.length : Int) ≤ v6))) (idx d.Lines v6)) (fun m10 => Option.bind (gd (!(decide ((a.Lines.length : Int) ≤ v6))) (idx a.Lines v6)) (fun m11 => cond ((decide ((a.Lines.length : Int) ≤ v6)) || (!(TDebtLine.eqb m10 m11))) (some (.inr (.inr (v6, 10)))) (some (.inl (IntKind.i64.wrap (v6 + 1))))))) (some (.inr (.inl ()))))
  (fun i (_ : Unit) => i) (chkF a.Lines) (fun _ => .inl ()) (fun k => .inr (k, 10)) (fun _ _ => True) (by
   intro k hk t _
   refine ⟨?_, fun _ _ => trivial⟩
   obtain ⟨m12, g1, g2⟩ := gd_le a.Lines k
   rw [dlt hk, cond_true, wnext hk hd]
   unfold chkF
   by_cases hh : k < a.Lines.length
   ·have hg : (!(decide ((a.Lines.length : Int) ≤ (k : Int)))) = true := by rw [decide_eq_false (by omega)]; rfl
    rw [show gd (!(decide ((a.Lines.length : Int) ≤ (k : Int)))) (idx d.Lines (k : Int)) = some d.Lines[k] by rw [hg, gd_tt, idx_nat hk], Option.bind_some, bnd g1, chk_step _ _ _ g2]
    by_cases c : a.Lines[k]? = some d.Lines[k]
    ·rw [if_pos c, decide_eq_true c]; rfl
    ·rw [if_neg c, decide_eq_false c]; rfl
   ·rw [if_neg (by rw [List.getElem?_eq_none (by omega)]; simp), show decide ((a.Lines.length : Int) ≤ (k : Int)) = true from decide_eq_true (by omega)]; rfl)
  (by intro t _; rw [dnlt]; rfl) () trivial
 refine (bnd e).trans ?_
 exact chk_tail a d
theorem chk_self (a : List TDebtLine) : ∀ (ys : List TDebtLine) (k : Nat), a.drop k = ys → run (chkF a) ys k () = .inl () := by
 intro ys
 induction ys with
 | nil => intro k _; rfl
 | cons y ys ih =>
  intro k h
  rw [run_cons]
  have e : a[k]? = some y := by
   have := congrArg (fun l => l[0]?) h
   simpa using this
  have : chkF a k y () = .inl () := by unfold chkF; rw [if_pos e]
  rw [this]
  refine ih (k + 1) ?_
  have := congrArg (List.drop 1) h
  simpa [List.drop_drop, Nat.add_comm] using this
theorem checkT_self (a : TDebt) : checkT a a = ((a.Lines.length : Int), 0) := by
 unfold checkT
 rw [chk_self a.Lines a.Lines 0 rfl]
 dsimp only
 rw [if_neg (by simp)]
theorem assessCheck_eq (p0 p1 : List Int) (p2 p3 p4 : Int) : law20_AssessCheck p0 p1 p2 p3 p4 = some true := by
 unfold law20_AssessCheck
 obtain ⟨m, h1, h2⟩ := measures_ok p0
 obtain ⟨x, g1, g2⟩ := item_ok p1
 have hv := g2.valid
 have hsz := g2.size
 have hp : ∀ y ∈ m, y.Prefix.size ≤ 140737488355328 := fun y hy => by have := h2.2 y hy; omega
 have hlen := assessS_len m x
 rw [bnd h1, bnd g1, bnd (assess_prog m x ⟨0, hv⟩), bnd (check_prog m x ⟨0, hv⟩ _ (by omega))]
 have hfirst : ((((assessS m x).2 != (checkS m x (assessS m x).1).2) && (!((assessS m x).2 == 0))) || (((assessS m x).2 == 0) && (((checkS m x (assessS m x).1).2 != 0) || ((checkS m x (assessS m x).1).1 != ((assessS m x).1.Lines.length : Int))))) = false := by
  unfold checkS
  by_cases h : (assessS m x).2 = 0
  ·rw [if_neg (by simp [h]), checkT_self, h]; simp
  ·rw [if_pos h]; simp [h]
 rw [hfirst, cond_false, bnd (assess_ref m x hp (by omega))]
 generalize assessS m x = A at *
 have key : ∃ l v, (cond (decide (0 < (A.1.Lines.length : Int))) (Option.bind (app 40 ([] : List TDebtLine) A.1.Lines) (fun l15 => Option.bind (made_Within p2 (A.1.Lines.length : Int)) (fun x19 => Option.bind (made_Within p3 7) (fun x20 => Option.bind (cond (x20 == 0) (Option.bind (idx l15 x19) (fun m27 => Option.bind (made_Within p4 3) (fun x28 => Option.bind (idx l15 x19) (fun m29 => some ((l15.set x19.toNat (⟨m29.Kind, m29.Measure, m29.Quantity, m29.Value, (IntKind.i64.wrap ((IntKind.i64.wrap (m27.Amount + x28)) - 1))⟩ : TDebtLine)), A.1.Total))))) (cond (x20 == 1) (Option.bind (made_Within p4 30) (fun x33 => Option.bind (idx l15 x19) (fun m34 => some ((l15.set x19.toNat (⟨m34.Kind, x33, m34.Quantity, m34.Value, m34.Amount⟩ : TDebtLine)), A.1.Total)))) (cond (x20 == 2) (Option.bind (made_Within p4 7) (fun x37 => Option.bind (idx l15 x19) (fun m38 => some ((l15.set x19.toNat (⟨x37, m38.Measure, m38.Quantity, m38.Value, m38.Amount⟩ : TDebtLine)), A.1.Total)))) (cond (x20 == 3) (Option.bind (sub l15 0 x19) (fun l41 => some (l41, A.1.Total))) (cond (x20 == 4) (Option.bind (idx l15 x19) (fun m43 => Option.bind (app 40 l15 [m43]) (fun l46 => some (l46, A.1.Total)))) (cond (x20 == 5) (Option.bind (made_Within p4 3) (fun x51 => some (l15, (IntKind.i64.wrap ((IntKind.i64.wrap (A.1.Total + x51)) - 1))))) (Option.bind (idx l15 x19) (fun m55 => Option.bind (idx l15 x19) (fun m56 => Option.bind (idx l15 x19) (fun m57 => Option.bind (idx (l15.set x19.toNat (⟨m57.Kind, m57.Measure, m57.Quantity, m55.Quantity, m57.Amount⟩ : TDebtLine)) x19) (fun m59 => some (((l15.set x19.toNat (⟨m57.Kind, m57.Measure, m57.Quantity, m55.Quantity, m57.Amount⟩ : TDebtLine)).set x19.toNat (⟨m59.Kind, m59.Measure, m56.Value, m59.Value, m59.Amount⟩ : TDebtLine)), A.1.Total)))))))))))) (fun (l21, v22) => some (l21, v22)))))) (some (A.1.Lines, A.1.Total))) = some (l, v) ∧ l.length ≤ 1000 := by
  by_cases hn : 0 < (A.1.Lines.length : Int)
  case neg => rw [decide_eq_false hn]; exact ⟨_, _, rfl, by omega⟩
  have ha : app 40 ([] : List TDebtLine) A.1.Lines = some A.1.Lines := by unfold app; rw [if_pos (by simp; omega)]; rfl
  obtain ⟨k, w1, w2, w3⟩ := within_ok p2 (A.1.Lines.length : Int) (by omega) (by omega)
  obtain ⟨c, v1, v2, v3⟩ := within_ok p3 7 (by omega) (by omega)
  obtain ⟨n3, n1, n2, _⟩ := within_ok p4 3 (by omega) (by omega)
  obtain ⟨n30, o1, _, _⟩ := within_ok p4 30 (by omega) (by omega)
  obtain ⟨n7, q1, _, _⟩ := within_ok p4 7 (by omega) (by omega)
  rw [decide_eq_true hn, cond_true, bnd ha, bnd w1, bnd v1, n1, o1, q1]
  have hi := idx_int (l := A.1.Lines) w2 w3
  generalize A.1.Lines[k.toNat]'(by omega) = y at hi
  rw [hi]
  have hs : ∀ z : TDebtLine, ∃ u, idx (A.1.Lines.set k.toNat z) k = some u := fun z => ⟨_, idx_int (l := A.1.Lines.set k.toNat z) w2 (by simp; omega)⟩
  simp only [Option.bind_some]
  cases c == 0
  case true => exact ⟨_, _, rfl, by simp; omega⟩
  cases c == 1
  case true => exact ⟨_, _, rfl, by simp; omega⟩
  cases c == 2
  case true => exact ⟨_, _, rfl, by simp; omega⟩
  cases c == 3
  case true =>
   have : sub A.1.Lines 0 k = some ((A.1.Lines.take k.toNat).drop 0) := by unfold sub; rw [if_pos (by omega)]; rfl
   rw [this]; exact ⟨_, _, rfl, by simp; omega⟩
  cases c == 4
  case true =>
   have : app 40 A.1.Lines [y] = some (A.1.Lines ++ [y]) := by unfold app; rw [if_pos (by simp; omega)]
   rw [this]; exact ⟨_, _, rfl, by simp; omega⟩
  cases c == 5
  case true => exact ⟨_, _, rfl, by dsimp only; omega⟩
  obtain ⟨u, hu⟩ := hs (⟨y.Kind, y.Measure, y.Quantity, y.Quantity, y.Amount⟩ : TDebtLine)
  rw [hu]; exact ⟨_, _, rfl, by simp; omega⟩
 obtain ⟨l, v, k1, k2⟩ := key
 rw [bnd k1]
 dsimp only
 rw [bnd (check_prog m x ⟨0, hv⟩ _ (by dsimp only; omega)), bnd (check_ref m x hp (by omega) _ (by dsimp only; omega))]
 rw [beq_self_eq_true, beq_self_eq_true, Bool.and_self, gd_tt, bnd awake_ok]; rfl
theorem assessCheck_law {κ : Kr} {v1 v2 v3 v4 v5 : List Value} (p0 p1 : List Int) (p2 p3 p4 : Int) (_ : Rps κ [.slc (List.map eI p0)] v1) (_ : Rps κ [.slc (List.map eI p1)] v2) (_ : Rps κ (eI p2) v3) (_ : Rps κ (eI p3) v4) (_ : Rps κ (eI p4) v5) : law20_AssessCheck p0 p1 p2 p3 p4 = some true := assessCheck_eq p0 p1 p2 p3 p4
end SX
end Go.Proofs.YtfcecieppoljlaaGreatDoor
set_option maxRecDepth 100000
namespace Go.Proofs.YtfcecieppoljlaaGreatDoor
namespace SX
open Go
theorem op3 {H : Type} {eh : TypeId × Value → H} : Opens eh 3 eI := opens_int rfl
theorem op24 {H : Type} {eh : TypeId × Value → H} : Opens eh 24 (eL eI) := opens_slice rfl rfl rfl rfl op3
end SX
end Go.Proofs.YtfcecieppoljlaaGreatDoor
set_option maxRecDepth 100000
namespace Go.Proofs.YtfcecieppoljlaaGreatDoor
open Go Go.ChangeShapes Go.WideShapes Go.RowKit
open SX
theorem assessCheck_lifted (os : Os) (started : os.Started) (H : Type) (enc : TypeId × Value → H) :
    ReturnsInHanded {} Tryz.checked os 8 .any (fun w args => (Rows.assessCheckSpec.pre enc Tryz.prog Tryz.f8 [] false w args ∧ laidMetH Tryz.prog laidL w) ∧ sizedMet enc Tryz.prog Tryz.f8 (OpenSpec.ofChange Rows.assessCheckSpec) false w args)
      (Rows.assessCheckSpec.post enc Tryz.prog Tryz.f8 false true false false) := by
  refine returnsInHanded_of_change_and (C := Tryz.checked) (X := fun w _ => laidMetH Tryz.prog laidL w) (fun _ _ _ hh h => h.of_heap hh) own_ok started (by kernel_rfl) Tryz.func8
    (ChangeSpec.witness_at (enc := enc) (C := Tryz.checked) (os := os) (X := fun w _ => laidMetH Tryz.prog laidL w) false (laidWorld os) #[.slice none 0 0, .slice none 0 0, .int .i64 0, .int .i64 0, .int .i64 0] 8 rfl (by kernel_rfl) (by kernel_rfl) (by kernel_rfl) (by kernel_rfl) (by kernel_rfl) (laidWorld_met os _)) ?_
  intro W base args ds gs before hval0 hW _ hwt hL _
  have hval : ∀ (j : Nat) t v, Tryz.f8.params[j]? = some t → args[j]? = some v → Value.okWide Tryz.prog W .any base t v := hval0
  have hW2 := hW
  obtain ⟨p, q, hA0, hV0, rfl, _, _⟩ := hW
  have hA : DataW.TrodAll enc Tryz.prog W 0 (fun _ => true) true [24, 24, 3, 3, 3] args.toList ds p := hA0
  obtain ⟨rfl, rfl⟩ : gs = [] ∧ q = [] := by
    cases gs with
    | nil => exact ⟨rfl, hV0⟩
    | cons g r => exact absurd hV0 (by intro h; cases h)
  generalize hargs : args.toList = vs at hA
  have hval2 : ∀ (j : Nat) t v, [24, 24, 3, 3, 3][j]? = some t → vs[j]? = some v → Value.okWide Tryz.prog W .any base t v := fun j t v h1 h2 => hval j t v (by rw [Tryz.params8]; simpa using h1) (by rw [← hargs] at h2; simpa using h2)
  obtain ⟨v0, vs0, d0, ds0, p0, q0, rfl, rfl, h0, hA⟩ := SX.trodAll_cons hA
  obtain ⟨v1, vs1, d1, ds1, p1, q1, rfl, rfl, h1, hA⟩ := SX.trodAll_cons hA
  obtain ⟨v2, vs2, d2, ds2, p2, q2, rfl, rfl, h2, hA⟩ := SX.trodAll_cons hA
  obtain ⟨v3, vs3, d3, ds3, p3, q3, rfl, rfl, h3, hA⟩ := SX.trodAll_cons hA
  obtain ⟨v4, vs4, d4, ds4, p4, q4, rfl, rfl, h4, hA⟩ := SX.trodAll_cons hA
  obtain ⟨rfl, rfl⟩ := SX.trodAll_nil hA
  have hw : (DataW.weightsEach Tryz.prog [24, 24, 3, 3, 3] [d0, d1, d2, d3, d4]).all (· ≤ reachBytes) = true := hwt
  obtain ⟨l0, hw⟩ := SX.light_head hw
  obtain ⟨m0, s0⟩ := arg_one rfl rfl op24 (fun _ => ⟨_, rfl⟩) (hval2 0 24 v0 rfl rfl) h0 l0
  obtain ⟨l1, hw⟩ := SX.light_head hw
  obtain ⟨m1, s1⟩ := arg_one rfl rfl op24 (fun _ => ⟨_, rfl⟩) (hval2 1 24 v1 rfl rfl) h1 l1
  obtain ⟨l2, hw⟩ := SX.light_head hw
  obtain ⟨m2, s2⟩ := arg_one rfl rfl op3 (fun _ => ⟨_, rfl⟩) (hval2 2 3 v2 rfl rfl) h2 l2
  obtain ⟨l3, hw⟩ := SX.light_head hw
  obtain ⟨m3, s3⟩ := arg_one rfl rfl op3 (fun _ => ⟨_, rfl⟩) (hval2 3 3 v3 rfl rfl) h3 l3
  obtain ⟨l4, hw⟩ := SX.light_head hw
  obtain ⟨m4, s4⟩ := arg_one rfl rfl op3 (fun _ => ⟨_, rfl⟩) (hval2 4 3 v4 rfl rfl) h4 l4
  exact row_post (readB (by kernel_rfl)) rfl (und_ok rfl) rfl (by simp [Rows.assessCheckSpec]) hW2 (gok_of_laid hL) (by rw [hargs]; exact (s0.app (s1.app (s2.app (s3.app s4))))) (law20_AssessCheck_ok (assessCheck_law m0 m1 m2 m3 m4 s0 s1 s2 s3 s4))
theorem assessCheck_holds : Rows.AssessCheckSaid :=
 OpenClaim.holds_of_wide 8 Tryz.f8 rfl rfl rfl rfl rfl rfl rfl ⟨rfl, rfl, rfl, rfl, rfl⟩ rfl rfl rfl rfl rfl (by kernel_rfl) Tryz.func8 (by kernel_rfl)
  (of_decide_eq_true (by kernel_rfl)) (by unfold Func.isWrapper; rw [if_neg (of_decide_eq_false (by kernel_rfl))]; exact ⟨rfl, rfl⟩)
  (fun os started H enc _ => assessCheck_lifted os started H enc)
theorem assessCheck_card : Rows.AssessCheckCardSaid :=
 Claim7.holds_tied_plain_at .later [] [.data, .data, .pinned] true (true, "c44fdb8b3d3db5b11b14cf1358bdd2c8cf9d007e81e3e7ea20beffe313180608") false
  assessCheck_holds (fun _ h => by cases h) (by kernel_rfl) (fun _ h => by cases h) assessCheck_row_tie rfl ⟨rfl, rfl⟩ (by kernel_rfl) rfl
  (fun f fn hf hfn => by
   obtain rfl : f = 8 := Option.some.inj ((show Tryz.prog.funcNamed "customs/customslaw20.AssessCheck" = some 8 by kernel_rfl).symm.trans hf) |>.symm
   obtain rfl : fn = Tryz.f8 := (Option.some.inj (Tryz.func8.symm.trans hfn)).symm
   exact ⟨by kernel_rfl, fun j t ht => by
    rw [Tryz.params8] at ht
    exact standIns_no (by kernel_rfl) ht⟩)
  (by kernel_rfl)
#print axioms assessCheck_card
end Go.Proofs.YtfcecieppoljlaaGreatDoor
