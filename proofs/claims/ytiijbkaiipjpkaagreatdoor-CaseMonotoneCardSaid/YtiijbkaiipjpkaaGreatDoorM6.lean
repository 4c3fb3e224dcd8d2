/- CaseMonotone: for every input the law returns true, and each argument reads afterwards as it read before. Conditions: the package variables are as the program's text lays them (the card ties them). -/
import Derived.Test.YtiijbkaiipjpkaaGreatDoorM5
import Derived.Test.YtiijbkaiipjpkaaGreatDoorChecked
import Derived.KernelRfl
import Derived.WalkKit
import Derived.OrdersHeld
import Derived.Laws.CopyRow
import Derived.Laws.StructEq
import Derived.Maps.AppendAt
import Derived.Laws.MakeOwn
import Derived.Laws.BytesArg
import Derived.Laws.Externs
import Derived.Laws.Cover3
import Derived.MapKept
import Derived.Laws.RangeAny
import Derived.Laws.RangeString
import Derived.Shelf.Slices.In.SortNone
import Derived.Shelf.Sort.Plain
import Derived.Test.YtiijbkaiipjpkaaGreatDoorProg
import Derived.Shelf.SlSortCmp.NoneTotal
import Derived.Ground.SlsfProg
import Derived.ChangeArms
import Derived.DataReads
import GoSem.ClaimJoined
import Derived.Test.YtiijbkaiipjpkaaGreatDoorRows
import Derived.ChangeSame
import Derived.ChangeVars
import Derived.JoinedOf
import Derived.RowKit
import Derived.RowKitTokens
import Derived.LaidLaws
import Derived.LaidHandle
import Derived.Carry
import Derived.Handed
import Derived.ChangeOld
import Derived.SevenTiedAt
import Derived.Test.YtiijbkaiipjpkaaGreatDoorCards
import Derived.Test.YtiijbkaiipjpkaaGreatDoorTie
set_option linter.unusedVariables false
set_option linter.unusedSimpArgs false
set_option maxRecDepth 100000
namespace Go.Proofs.YtiijbkaiipjpkaaGreatDoor
namespace SX
open Go
mutual
def tt : TRule → Irule_test
 | ⟨k, d, e, t, m, n, l⟩ => cond (k == 5) (.every_ (tts l)) (cond (k == 6) (.some_ (tts l)) (.single_ ⟨⟨k, d, e, t, m, n, l⟩⟩))
def tts : List TRule → List Irule_test
 | [] => []
 | a :: l => tt a :: tts l
end
theorem tts_map : ∀ l : List TRule, tts l = l.map tt
 | [] => by rw [tts]; rfl
 | a :: l => by rw [tts, tts_map l]; rfl
theorem tt_eq (r : TRule) : tt r = cond (r.Kind == 5) (.every_ (r.Args.map tt)) (cond (r.Kind == 6) (.some_ (r.Args.map tt)) (.single_ ⟨r⟩)) := by
 cases r; rw [tt, tts_map]
theorem cnt_mem : ∀ {l : List TRule} {a : TRule}, a ∈ l → cnt a ≤ cnts l
 | b :: l, a, h => by
  rw [cnts]
  rcases List.mem_cons.1 h with rfl | h
  ·omega
  ·have := cnt_mem h; omega
theorem testOf_F (n : Nat) : ∀ r : TRule, ruleB r = true → dep r ≤ n → rule_testOf_F n r = some (tt r) := by
 induction n with
 | zero => intro r _ hd; rw [dep_eq] at hd; omega
 | succ n ih =>
  intro r hr hd
  obtain ⟨hl, ha, _⟩ := ruleB_len hr
  show rule_testOf_B (rule_testOf_F n) r = _
  unfold rule_testOf_B
  refine (fold_loop (l := r.Args) (by omega) (fun i (s : List Irule_test) => (s, i)) (fun s x => s ++ [tt x]) (fun s => s) (fun k s => s.length = k) [] rfl (fun k hk s hs => ?_) (fun s _ => by simp only [dnlt, cond_false])).1.trans ?_
  ·simp only [dlt hk, cond_true, idx_nat hk, Option.bind_some, wnext hk (show r.Args.length ≤ 4611686018427387904 by omega)]
   rw [ih _ (ha _ (List.getElem_mem hk)) (by have := dep_arg (List.getElem_mem hk); omega), Option.bind_some, app_ok (by simp; omega) (by simp; omega)]
   exact ⟨rfl, by simp [hs]⟩
  ·have key : ∀ (l : List TRule) (a : List Irule_test), l.foldl (fun s x => s ++ [tt x]) a = a ++ l.map tt := by
    intro l
    induction l with
    | nil => intro a; simp
    | cons x l ih => intro a; rw [List.foldl_cons, ih]; simp
   rw [key, List.nil_append, tt_eq]
   cases (r.Kind == 5) <;> cases (r.Kind == 6) <;> rfl
section
variable (x : TCase)
mutual
def wit : TRule → Option (List Int)
 | ⟨k, d, e, t, m, n, l⟩ => cond (k == 5) (witE l) (cond (k == 6) (witO 0 l) (cond (leafH ⟨k, d, e, t, m, n, l⟩ x) (some []) none))
def witE : List TRule → Option (List Int)
 | [] => some []
 | a :: l => (wit a).bind fun p => (witE l).bind fun q => some (p ++ q)
def witO (i : Nat) : List TRule → Option (List Int)
 | [] => none
 | a :: l => match wit a with
  | some p => some ((i : Int) :: p)
  | none => witO (i + 1) l
end
end
theorem wit_eq (x : TCase) (r : TRule) : wit x r = cond (r.Kind == 5) (witE x r.Args) (cond (r.Kind == 6) (witO x 0 r.Args) (cond (leafH r x) (some []) none)) := by
 cases r; rw [wit]
mutual
theorem wit_len (x : TCase) : ∀ (r : TRule) (p : List Int), wit x r = some p → p.length ≤ cnt r
 | ⟨k, d, e, t, m, n, l⟩, p, h => by
  rw [wit] at h
  rw [cnt]
  cases h5 : (k == 5)
  ·rw [h5] at h
   simp only [cond_false] at h
   cases h6 : (k == 6)
   ·rw [h6] at h
    simp only [cond_false] at h
    cases hh : leafH ⟨k, d, e, t, m, n, l⟩ x
    ·rw [hh] at h; cases h
    ·rw [hh] at h; injection h with h; subst h; simp
   ·rw [h6] at h
    exact witO_len x l 0 p h
  ·rw [h5] at h
   have := witE_len x l p h; omega
theorem witE_len (x : TCase) : ∀ (l : List TRule) (p : List Int), witE x l = some p → p.length ≤ cnts l
 | [], p, h => by rw [witE] at h; injection h with h; subst h; simp
 | a :: l, p, h => by
  rw [witE] at h
  rw [cnts]
  cases ha : wit x a with
  | none => rw [ha] at h; cases h
  | some q =>
   rw [ha, Option.bind_some] at h
   cases hl : witE x l with
   | none => rw [hl] at h; cases h
   | some s =>
    rw [hl, Option.bind_some] at h
    injection h with h
    subst h
    have h1 := wit_len x a q ha
    have h2 := witE_len x l s hl
    rw [List.length_append]; omega
theorem witO_len (x : TCase) : ∀ (l : List TRule) (i : Nat) (p : List Int), witO x i l = some p → p.length ≤ 1 + cnts l
 | [], i, p, h => by rw [witO] at h; cases h
 | a :: l, i, p, h => by
  rw [witO] at h
  rw [cnts]
  cases ha : wit x a with
  | none =>
   rw [ha] at h
   have := witO_len x l (i + 1) p h; omega
  | some q =>
   rw [ha] at h
   injection h with h
   subst h
   have h1 := wit_len x a q ha
   rw [List.length_cons]; omega
end
theorem concatI (a b : List Int) (h : a.length + b.length ≤ 1000000) : slices_Concat_int_int [a, b] = some (a ++ b) := by
 unfold slices_Concat_int_int slices_Grow_int_int
 refine (run_loop (l := [a, b]) (by simp) (fun i (s : Nat) => ((s : Int), i)) (fun _ x s => (.inl (s + x.length) : Nat ⊕ Empty)) (fun (s : Nat) => (s : Int)) noE (fun k s => s ≤ 1000000 ∧ s = ([a, b].take k).flatten.length) 0 ⟨by omega, rfl⟩ (fun k hk s hs => ⟨?_, fun s' h' => ?_⟩) (fun s _ => by simp only [dnlt, cond_false])).trans ?_
 ·have hb : s + ([a, b][k]).length ≤ 1000000 := by
   obtain ⟨_, e⟩ := hs
   match k, hk with
   | 0, _ => simp at e; subst e; simp; omega
   | 1, _ => simp at e; subst e; simp; omega
  simp only [dlt hk, cond_true, idx_nat hk, Option.bind_some, wnext hk (show [a, b].length ≤ 4611686018427387904 by simp), outc]
  rw [i64s (by omega) (by omega), decide_eq_false (by omega)]
  simp only [cond_false, Int.natCast_add]
 ·injection h' with h'
  obtain ⟨h1, h2⟩ := hs
  subst h'
  match k, hk with
  | 0, _ => simp at h2 ⊢; subst h2; simp; omega
  | 1, _ => simp at h2 ⊢; subst h2; omega
 ·show Option.bind (Option.bind (mk0 8 ((0 + a.length + b.length : Nat) : Int)) _) _ = _
  rw [mk0_ok (by omega) (by omega), Option.bind_some, Option.bind_some]
  refine (fold_loop (l := [a, b]) (by simp) (fun i (s : List Int) => (s, i)) (fun s x => s ++ x) (fun s => s) (fun k s => s = ([a, b].take k).flatten) [] rfl (fun k hk s hs => ⟨?_, ?_⟩) (fun s _ => by simp only [dnlt, cond_false])).1.trans ?_
  ·have hb : s.length + ([a, b][k]).length ≤ 1000000 := by
    match k, hk with
    | 0, _ => simp at hs; subst hs; simp; omega
    | 1, _ => simp at hs; subst hs; simp; omega
   simp only [dlt hk, cond_true, idx_nat hk, Option.bind_some, wnext hk (show [a, b].length ≤ 4611686018427387904 by simp)]
   rw [app_ok (by omega) (by omega)]; rfl
  ·match k, hk with
   | 0, _ => simp at hs; subst hs; simp
   | 1, _ => simp at hs; subst hs; simp
  ·simp
theorem witness_F (x : TCase) (hx : VCase x) (n : Nat) : ∀ r : TRule, ruleB r = true → cnt r ≤ 1000 → dep r ≤ n → Irule_test_witness_F n (tt r) x = some (opt2 [] (wit x r)) := by
 induction n with
 | zero => intro r _ _ hd; rw [dep_eq] at hd; omega
 | succ n ih =>
  intro r hr hc hd
  obtain ⟨hl, ha, _⟩ := ruleB_len hr
  have hargs : ∀ k (hk : k < r.Args.length), Irule_test_witness_F n (tt r.Args[k]) x = some (opt2 [] (wit x r.Args[k])) := fun k hk => ih _ (ha _ (List.getElem_mem hk)) (by have := cnt_eq r; have := cnt_mem (List.getElem_mem hk); omega) (by have := dep_arg (List.getElem_mem hk); omega)
  have hcl : ∀ k (hk : k < r.Args.length) p, wit x r.Args[k] = some p → p.length ≤ 1000 := fun k hk p h => by have h1 := wit_len x _ p h; have := cnt_eq r; have := cnt_mem (List.getElem_mem hk); omega
  show Irule_test_witness_B (Irule_test_witness_F n) (tt r) x = _
  rw [tt_eq, wit_eq]
  have hml : (r.Args.map tt).length = r.Args.length := List.length_map _
  have hmi : ∀ k (hk : k < (r.Args.map tt).length), (r.Args.map tt)[k] = tt (r.Args[k]'(by omega)) := fun k hk => by rw [List.getElem_map]
  cases h5 : (r.Kind == 5)
  ·cases h6 : (r.Kind == 6)
   ·show rule_single_witness ⟨r⟩ x = _
    unfold rule_single_witness
    rw [prog_holds hx hr, Option.bind_some]
    simp only [cond_false]
    cases leafH r x <;> rfl
   ·show rule_some_witness_B (Irule_test_witness_F n) (r.Args.map tt) x = _
    unfold rule_some_witness_B
    refine (find_loop (l := r.Args.map tt) (by omega) (fun k t => match Irule_test_witness_F n t x with | some (p, true) => some (.inr ((k : Int) :: p, true)) | _ => none) (.inl ()) (fun k hk => ?_) (by simp only [dnlt, cond_false])).trans ?_
    ·simp only [dlt hk, cond_true, idx_nat hk, Option.bind_some, wnext hk (show (r.Args.map tt).length ≤ 4611686018427387904 by omega), hmi k hk]
     rw [hargs k (by omega)]
     have := hcl k (by omega)
     cases hw : wit x (r.Args[k]'(by omega)) with
     | none => rfl
     | some p =>
      have := this p hw
      show Option.bind (slices_Concat_int_int [[(k : Int)], p]) _ = _
      rw [concatI _ _ (by simp; omega)]; rfl
    ·have key : ∀ (m : List TRule) (i : Nat), (∀ j (hj : j < m.length), Irule_test_witness_F n (tt m[j]) x = some (opt2 [] (wit x m[j]))) → findS (fun k t => match Irule_test_witness_F n t x with | some (p, true) => some (Sum.inr ((k : Int) :: p, true) : Unit ⊕ (List Int × Bool)) | _ => none) (m.map tt) i = (witO x i m).map fun p => Sum.inr (p, true) := by
      intro m
      induction m with
      | nil => intro i _; rw [witO]; rfl
      | cons a m ih =>
       intro i h
       have h0 := h 0 (by simp)
       have h1 := ih (i + 1) fun j hj => h (j + 1) (by simpa using hj)
       rw [List.map_cons, findS, witO, h1]
       change Irule_test_witness_F n (tt a) x = some (opt2 [] (wit x a)) at h0
       rw [h0]
       cases wit x a <;> rfl
     rw [key _ 0 hargs]
     simp only [cond_false, cond_true]
     cases witO x 0 r.Args <;> rfl
  ·show rule_every_witness_B (Irule_test_witness_F n) (r.Args.map tt) x = _
   unfold rule_every_witness_B
   simp only [cond_true]
   refine (run_loop (l := r.Args.map tt) (by omega) (fun i (s : List Int) => (s, i)) (fun _ t s => match Irule_test_witness_F n t x with | some (p, true) => (.inl (s ++ p) : List Int ⊕ Unit) | _ => .inr ()) (fun s => .inl s) (fun _ => .inr ([], false)) (fun k s => s.length ≤ k * 1000) [] (by simp) (fun k hk s hs => ⟨?_, fun s' h' => ?_⟩) (fun s _ => by simp only [dnlt, cond_false])).trans ?_
   ·simp only [dlt hk, cond_true, idx_nat hk, Option.bind_some, wnext hk (show (r.Args.map tt).length ≤ 4611686018427387904 by omega), hmi k hk]
    rw [hargs k (by omega)]
    have := hcl k (by omega)
    cases hw : wit x (r.Args[k]'(by omega)) with
    | none => rfl
    | some p =>
     have := this p hw
     show Option.bind (app 8 s p) _ = _
     rw [app_ok (by omega) (by omega)]; rfl
   ·have h0 := hargs k (by omega)
    have := hcl k (by omega)
    rw [hmi k hk, h0] at h'
    cases hw : wit x (r.Args[k]'(by omega)) with
    | none => rw [hw] at h'; cases h'
    | some p =>
     have := this p hw
     rw [hw] at h'
     injection h' with h'
     subst h'
     rw [List.length_append]; omega
   ·have key : ∀ (m : List TRule) (i : Nat) (s : List Int), (∀ j (hj : j < m.length), Irule_test_witness_F n (tt m[j]) x = some (opt2 [] (wit x m[j]))) → run (fun _ t s => match Irule_test_witness_F n t x with | some (p, true) => (.inl (s ++ p) : List Int ⊕ Unit) | _ => .inr ()) (m.map tt) i s = match witE x m with | some p => .inl (s ++ p) | none => .inr () := by
     intro m
     induction m with
     | nil => intro i s _; rw [witE]; simp [run]
     | cons a m ih =>
      intro i s h
      have h0 := h 0 (by simp)
      have h1 := fun s => ih (i + 1) s fun j hj => h (j + 1) (by simpa using hj)
      rw [List.map_cons, run_cons, witE]
      change Irule_test_witness_F n (tt a) x = some (opt2 [] (wit x a)) at h0
      rw [h0]
      cases wit x a with
      | none => rfl
      | some p =>
       show run _ (m.map tt) (i + 1) (s ++ p) = _
       rw [h1, Option.bind_some]
       cases witE x m with
       | none => rfl
       | some q => show Sum.inl (s ++ p ++ q) = Sum.inl (s ++ (p ++ q)); rw [List.append_assoc]
    rw [key _ 0 [] hargs]
    cases witE x r.Args <;> rfl
theorem prog_witness {r : TRule} {x : TCase} (hx : VCase x) (ok : ROk r) (hr : ruleB r = true) (hc : cnt r ≤ 32) : rule_Witness r x = some (opt2 [] (wit x r)) := by
 have hd := dep_cnt r
 have hf : FUEL = 1267650600228229401496703205376 := rfl
 unfold rule_Witness rule_applicable
 rw [prog_rule r ok (by omega), (ruleE_zero r).2 ⟨hc, hr⟩, Option.bind_some, show ((0 : Int) == 0) = true from rfl, gd_tt, prog_validCase hx, Option.bind_some, Option.bind_some]
 show Option.bind (rule_testOf_F FUEL r) _ = _
 rw [testOf_F FUEL r hr (by omega), Option.bind_some]
 show Option.bind (Irule_test_witness_F FUEL (tt r) x) _ = _
 rw [witness_F x hx FUEL r hr (by omega) (by omega)]; rfl
theorem prog_Holds {r : TRule} {x : TCase} (hx : VCase x) (ok : ROk r) (hr : ruleB r = true) (hc : cnt r ≤ 32) : rule_Holds r x = some (wit x r).isSome := by
 unfold rule_Holds; rw [prog_witness hx ok hr hc]; cases wit x r <;> rfl
mutual
theorem wit_mono {x y : TCase} (h : ∀ r, ruleB r = true → leafH r x = true → leafH r y = true) : ∀ r : TRule, ruleB r = true → (wit x r).isSome = true → (wit y r).isSome = true
 | ⟨k, d, e, t, m, n, l⟩, hr, hw => by
  have hl := hr
  rw [ruleB] at hl
  rw [wit] at hw ⊢
  cases h5 : (k == 5)
  ·rw [h5] at hw hl
   simp only [cond_false] at hw ⊢
   cases h6 : (k == 6)
   ·rw [h6] at hw
    simp only [cond_false] at hw ⊢
    cases hh : leafH ⟨k, d, e, t, m, n, l⟩ x
    ·rw [hh] at hw; cases hw
    ·rw [h _ hr hh]; rfl
   ·rw [h6] at hw hl
    simp only [Bool.or_true, cond_true, Bool.and_eq_true] at hl
    exact witO_mono h l 0 0 k hl.2.2 hw
  ·rw [h5] at hw hl
   simp only [Bool.true_or, cond_true, Bool.and_eq_true] at hl
   exact witE_mono h l k hl.2.2 hw
theorem witE_mono {x y : TCase} (h : ∀ r, ruleB r = true → leafH r x = true → leafH r y = true) : ∀ (l : List TRule) (k : Int), rulesB k l = true → (witE x l).isSome = true → (witE y l).isSome = true
 | [], k, _, _ => by rw [witE]; rfl
 | a :: l, k, hr, hw => by
  rw [rulesB] at hr
  simp only [Bool.and_eq_true] at hr
  rw [witE] at hw ⊢
  have h1 := wit_mono h a hr.1.2
  have h2 := witE_mono h l k hr.2
  cases ha : wit x a with
  | none => rw [ha] at hw; cases hw
  | some p =>
   cases hl : witE x l with
   | none => rw [ha, hl] at hw; cases hw
   | some q =>
    rw [ha] at h1; rw [hl] at h2
    obtain ⟨p', e1⟩ := Option.isSome_iff_exists.1 (h1 rfl)
    obtain ⟨q', e2⟩ := Option.isSome_iff_exists.1 (h2 rfl)
    rw [e1, e2]; rfl
theorem witO_mono {x y : TCase} (h : ∀ r, ruleB r = true → leafH r x = true → leafH r y = true) : ∀ (l : List TRule) (i j : Nat) (k : Int), rulesB k l = true → (witO x i l).isSome = true → (witO y j l).isSome = true
 | [], i, j, k, _, hw => by rw [witO] at hw; cases hw
 | a :: l, i, j, k, hr, hw => by
  rw [rulesB] at hr
  simp only [Bool.and_eq_true] at hr
  rw [witO] at hw ⊢
  have h1 := wit_mono h a hr.1.2
  cases ha : wit x a with
  | none =>
   rw [ha] at hw
   cases wit y a with
   | none => exact witO_mono h l (i + 1) (j + 1) k hr.2 hw
   | some p => rfl
  | some p =>
   rw [ha] at h1
   obtain ⟨p', e1⟩ := Option.isSome_iff_exists.1 (h1 rfl)
   rw [e1]; rfl
end
end SX
end Go.Proofs.YtiijbkaiipjpkaaGreatDoor
set_option maxRecDepth 100000
namespace Go.Proofs.YtiijbkaiipjpkaaGreatDoor
namespace SX
open Go
structure Wt (f : TInput → Int) : Prop where
 same : ∀ c v a b, f ⟨c, v, a⟩ = f ⟨c, v, b⟩
 pos : ∀ i : TInput, 0 ≤ i.Value → 0 ≤ f i
theorem wtV : Wt fV := ⟨fun _ _ _ _ => rfl, fun _ h => h⟩
theorem wtN : Wt fN := ⟨fun _ _ _ _ => rfl, fun _ _ => by unfold fN; omega⟩
theorem wtW (r : TRule) (code : ByteArray) : Wt (fW r code) := ⟨fun _ _ _ _ => rfl, fun i h => by unfold fW; cases violB r code i.Code; exact Int.le_refl _; exact h⟩
def tw (f : TInput → Int) (ps : List Int) (S : CSet) (q : TProduct) (v : Int) : Int := cond (takeS ps S q v).2.isSome 0 (f ⟨q.Code, v, false⟩)
theorem wS_take {f : TInput → Int} (hf : Wt f) (ps : List Int) (S : CSet) (q : TProduct) (v : Int) (l : List TInput) : wS f ((takeS ps S q v).1 :: l) = tw f ps S q v + wS f l := by
 obtain ⟨h1, h2, h3⟩ := take_fst ps S q v
 rw [wS, h3]
 unfold tw
 generalize (takeS ps S q v).1 = i at h1 h2 h3
 obtain ⟨c, w, o⟩ := i
 dsimp only at h1 h2
 subst h1 h2
 rw [hf.same _ _ o false]
theorem tw_pos {f : TInput → Int} (hf : Wt f) (ps : List Int) (S : CSet) (q : TProduct) {v : Int} (hv : 0 ≤ v) : 0 ≤ tw f ps S q v := by
 unfold tw
 cases (takeS ps S q v).2.isSome
 ·exact hf.pos _ hv
 ·exact Int.le_refl _
theorem take_mono {ps : List Int} {S T : CSet} (h : ∀ c, S c = true → T c = true) (q : TProduct) (v : Int) : (takeS ps S q v).2.isSome = true → (takeS ps T q v).2.isSome = true := by
 intro hs
 unfold takeS at hs ⊢
 cases hS : ps.find? (fun id => S ⟨q.ID, id⟩) with
 | none => rw [hS] at hs; cases hs
 | some id =>
  cases hT : ps.find? (fun id => T ⟨q.ID, id⟩) with
  | some j => rfl
  | none =>
   rw [List.find?_eq_none] at hT
   exact absurd (h _ (by have := List.find?_some hS; exact this)) (hT id (List.mem_of_find?_eq_some hS))
theorem tw_mono {f : TInput → Int} (hf : Wt f) {ps : List Int} {S T : CSet} (h : ∀ c, S c = true → T c = true) (q : TProduct) {v : Int} (hv : 0 ≤ v) : tw f ps T q v ≤ tw f ps S q v := by
 have hm := take_mono (ps := ps) h q v
 have hp := tw_pos hf ps S q hv
 unfold tw at hp ⊢
 cases ht : (takeS ps T q v).2.isSome
 ·cases hs : (takeS ps S q v).2.isSome
  ·exact Int.le_refl _
  ·rw [hm hs] at ht; cases ht
 ·exact hp
theorem parts_mono {f : TInput → Int} (hf : Wt f) {plan : List TProduct} (hv : VPs plan) {ps : List Int} {S T : CSet} (h : ∀ c, S c = true → T c = true) {w price : Int} (hw : 0 ≤ w) (hp : 1 ≤ price) : ∀ l : List TIngredient, (∀ y ∈ l, 0 ≤ y.Value) →
    wS f ((l.map fun y => takeS ps T (getP plan y.Product) (portionS w y.Value price)).map (·.1)) ≤ wS f ((l.map fun y => takeS ps S (getP plan y.Product) (portionS w y.Value price)).map (·.1)) ∧ 0 ≤ wS f ((l.map fun y => takeS ps S (getP plan y.Product) (portionS w y.Value price)).map (·.1))
  | [], _ => ⟨Int.le_refl _, Int.le_refl _⟩
  | y :: l, hl => by
    obtain ⟨h1, h2⟩ := parts_mono hf hv (ps := ps) h hw hp l fun z hz => hl z (by simp [hz])
    have hr := (portionS_range hw (hl y (by simp)) hp).1
    simp only [List.map_cons]
    rw [wS_take hf, wS_take hf]
    have := tw_mono hf h (ps := ps) (getP plan y.Product) hr
    have := tw_pos hf ps S (getP plan y.Product) hr
    omega
theorem supply_mono {f : TInput → Int} (hf : Wt f) {plan : List TProduct} (hv : VPs plan) (a : TAgreement) {ps : List Int} {S T : CSet} (h : ∀ c, S c = true → T c = true) (x : TIngredient) (hx : (findP plan x.Product).isSome = true) (hx0 : 0 ≤ x.Value) :
    wS f ((supplyS plan a ps T x).map (·.1)) ≤ wS f ((supplyS plan a ps S x).map (·.1)) ∧ 0 ≤ wS f ((supplyS plan a ps S x).map (·.1)) := by
  obtain ⟨hq1, hq, _⟩ := getP_ok hv hx
  have hparts := parts_mono hf hv (ps := ps) h hx0 hq.price.1 (getP plan x.Product).Inputs fun y hy => (hq.inp y hy).2.1
  have hm := take_mono (ps := ps) h (getP plan x.Product) x.Value
  have hp := tw_pos hf ps S (getP plan x.Product) hx0
  have hle := tw_mono hf (ps := ps) h (getP plan x.Product) hx0
  have hnil : wS f [] = 0 := rfl
  unfold supplyS
  cases hT : (takeS ps T (getP plan x.Product) x.Value).2.isSome
  · have hS : (takeS ps S (getP plan x.Product) x.Value).2.isSome = false := by
      cases hs : (takeS ps S (getP plan x.Product) x.Value).2.isSome
      · rfl
      · rw [hm hs] at hT; cases hT
    rw [hS]
    cases (false || !fullB a (getP plan x.Product) || (getP plan x.Product).Inputs.isEmpty)
    · exact hparts
    · simp only [cond_true, List.map_cons, List.map_nil]
      rw [wS_take hf, wS_take hf]; omega
  · have e0 : tw f ps T (getP plan x.Product) x.Value = 0 := by unfold tw; rw [hT]; rfl
    simp only [Bool.true_or, cond_true, List.map_cons, List.map_nil]
    rw [wS_take hf, e0]
    cases ((takeS ps S (getP plan x.Product) x.Value).2.isSome || !fullB a (getP plan x.Product) || (getP plan x.Product).Inputs.isEmpty)
    · simp only [cond_false]; omega
    · simp only [cond_true, List.map_cons, List.map_nil]
      rw [wS_take hf]; omega
theorem supplies_mono {f : TInput → Int} (hf : Wt f) {plan : List TProduct} (hv : VPs plan) (a : TAgreement) {ps : List Int} {S T : CSet} (h : ∀ c, S c = true → T c = true) {p : TProduct} (hp : VProd plan p) :
    wS f ((suppliesS plan a ps T p).map (·.1)) ≤ wS f ((suppliesS plan a ps S p).map (·.1)) ∧ 0 ≤ wS f ((suppliesS plan a ps T p).map (·.1)) := by
  unfold suppliesS
  have key : ∀ l : List TIngredient, (∀ x ∈ l, (findP plan x.Product).isSome = true ∧ 0 ≤ x.Value) → wS f ((l.flatMap (supplyS plan a ps T)).map (·.1)) ≤ wS f ((l.flatMap (supplyS plan a ps S)).map (·.1)) ∧ 0 ≤ wS f ((l.flatMap (supplyS plan a ps T)).map (·.1)) := by
    intro l
    induction l with
    | nil => intro _; exact ⟨Int.le_refl _, Int.le_refl _⟩
    | cons x l ih =>
      intro hl
      have h1 := ih fun y hy => hl y (by simp [hy])
      have hx := hl x (by simp)
      have h2 := supply_mono hf hv a (ps := ps) h x hx.1 hx.2
      have h3 := (supply_mono hf hv a (ps := ps) (S := T) (T := T) (fun _ k => k) x hx.1 hx.2).2
      rw [List.flatMap_cons, List.flatMap_cons, List.map_append, List.map_append, wS_app, wS_app]
      omega
  exact key _ fun x hx => ⟨(hp.inp x hx).1, (hp.inp x hx).2.1⟩
theorem case_mono {plan : List TProduct} (l : List TAgreement) (hv : VPs plan) (imp : ByteArray) (c : TOriginClaim) {S T : CSet} (h : ∀ c, S c = true → T c = true) (hf : (findP plan c.Product).isSome = true) (r : TRule) (hr : ruleB r = true) (hw : (wit (caseC plan l imp c S) r).isSome = true) : (wit (caseC plan l imp c T) r).isSome = true := by
 obtain ⟨hq1, hq, _⟩ := getP_ok hv hf
 refine wit_mono (fun r hr hl => ?_) r hr hw
 have hV := supplies_mono wtV hv (agrOf l c.Agreement) (ps := partnersS l c.Agreement (getP plan c.Product).Country imp) h hq
 have hN := supplies_mono wtN hv (agrOf l c.Agreement) (ps := partnersS l c.Agreement (getP plan c.Product).Country imp) h hq
 have hW := supplies_mono (wtW r (getP plan c.Product).Code) hv (agrOf l c.Agreement) (ps := partnersS l c.Agreement (getP plan c.Product).Country imp) h hq
 unfold leafH caseC at hl ⊢
 dsimp only at hl ⊢
 cases h1 : (r.Kind == 1)
 ·rw [h1] at hl
  cases h2 : (r.Kind == 2)
  ·rw [h2] at hl
   cases h3 : (r.Kind == 3)
   ·rw [h3] at hl; exact hl
   ·rw [h3] at hl
    simp only [cond_false, cond_true, decide_eq_true_eq] at hl ⊢
    omega
  ·rw [h2] at hl
   simp only [cond_false, cond_true, decide_eq_true_eq] at hl ⊢
   omega
 ·rw [h1] at hl
  simp only [cond_true, Bool.and_eq_true, beq_iff_eq] at hl ⊢
  exact ⟨hl.1, by omega⟩
theorem rule_made (m : List Int) : Y (made_Rule m) (fun r => Good r 32) := by
 unfold made_Rule
 refine (cut_Y m 100 (by omega) (by omega)).bind fun x hx => ?_
 refine Y.bind (rule_Y 2 FUEL ⟨x, 0⟩ 0 (by unfold FUEL; omega) (by omega) hx (.inl rfl)) fun r hr => Y.ret ?_
 have := hr.1.size
 exact ⟨hr.1.ok, hr.1.valid, by simp only [bnd3] at this; omega⟩
theorem ins_mem : ∀ (l acc : List TOriginClaim) (z : TOriginClaim), z ∈ l.foldl (insS ltClaim) acc ↔ z ∈ acc ∨ z ∈ l
 | [], acc, z => by simp
 | x :: l, acc, z => by
  rw [List.foldl_cons, ins_mem l, insS_mem, List.mem_cons]
  constructor
  ·rintro ((h | h) | h)
   ·exact .inr (.inl h)
   ·exact .inl h
   ·exact .inr (.inr h)
  ·rintro (h | h | h)
   ·exact .inl (.inr h)
   ·exact .inl (.inl h)
   ·exact .inr h
theorem caseMonotone_law (m0 m1 m2 : List Int) (m3 m4 m5 : Int) (m6 m7 : List Int) {κ : Kr} {v0 v1 v2 v3 v4 v5 v6 v7 : List Value} (_ : Rps κ (eL eI m0) v0) (_ : Rps κ (eL eI m1) v1) (_ : Rps κ (eL eI m2) v2) (_ : Rps κ (eI m3) v3) (_ : Rps κ (eI m4) v4) (_ : Rps κ (eI m5) v5) (_ : Rps κ (eL eI m6) v6) (_ : Rps κ (eL eI m7) v7) : law14_CaseMonotone m0 m1 m2 m3 m4 m5 m6 m7 = some true := by
 unfold law14_CaseMonotone
 obtain ⟨p, e1, h1⟩ := plan_Y m0
 obtain ⟨l, e2, h2⟩ := agreements_Y m1
 obtain ⟨r, e0, h0⟩ := rule_made m2
 rw [e1, Option.bind_some, e2, Option.bind_some, e0, Option.bind_some]
 have hp := h1.len; have hl := h2.len
 obtain ⟨c, e3, _⟩ := claim_Y (p := p) (a := l) (by omega) (by omega) m3 m4
 obtain ⟨imp, e4, _⟩ := importer_Y m5
 obtain ⟨s, e5, hs⟩ := claims_Y p l (by omega) (by omega) m6
 obtain ⟨t0, e6, ht0⟩ := claims_Y p l (by omega) (by omega) m7
 have hv := h1.vps
 rw [e3, Option.bind_some, e4, Option.bind_some, e5, Option.bind_some, e6, Option.bind_some]
 have hfold := fold_loop (β := Bool) (l := s) (by omega) (body := fun (l16, v17) => cond (decide (v17 < (s.length : Int))) (Option.bind (idx s v17) (fun m22 => Option.bind (ref14_With l16 m22) (fun x23 => some (.inl (x23, (IntKind.i64.wrap (v17 + 1))))))) (some (.inr l16))) (fun i (a : List TOriginClaim) => (a, i)) (insS ltClaim) (fun a => a) (fun k a => a.length ≤ t0.length + k) t0 (Nat.le_refl _) (fun k hk a ha => by
  simp only [dlt hk, cond_true, idx_nat hk, Option.bind_some, wnext hk (show s.length ≤ 4611686018427387904 by omega)]
  rw [ref_withC _ _ (by omega)]
  exact ⟨rfl, by have := insS_len (lt := ltClaim) a s[k]; omega⟩) (fun a _ => by simp only [dnlt, cond_false]) (k := fun a => some a.isEmpty)
 refine (fold_loop (l := s) (by omega) (fun i (a : List TOriginClaim) => (a, i)) (insS ltClaim) (fun a => a) (fun k a => a.length ≤ t0.length + k) t0 (Nat.le_refl _) (fun k hk a ha => ?_) (fun a _ => by simp only [dnlt, cond_false])).1.trans ?_
 ·simp only [dlt hk, cond_true, idx_nat hk, Option.bind_some, wnext hk (show s.length ≤ 4611686018427387904 by omega)]
  rw [ref_withC _ _ (by omega)]
  exact ⟨rfl, by have := insS_len (lt := ltClaim) a s[k]; omega⟩
 have htl := hfold.2
 have hsub : ∀ c, memB s c = true → memB (s.foldl (insS ltClaim) t0) c = true := fun c hc => memB_iff.2 ((ins_mem s t0 c).2 (.inr (memB_iff.1 hc)))
 generalize s.foldl (insS ltClaim) t0 = t at htl hsub
 rw [prog_case hv h2.vas imp c s (by omega), Option.bind_some, prog_case hv h2.vas imp c t (by omega), Option.bind_some]
 unfold caseS
 cases h : admB p l imp c
 ·simp only [cond_false]
  rw [show decide (zCase.Code = (⟨#[]⟩ : ByteArray)) = true from rfl]
  simp only [cond_true, gd_tt, awake_ok, Option.bind_some, Bool.and_self]
 ·simp only [cond_true]
  have hfd := adm_found h
  have hc1 := case_valid (l := l) hv imp c (memB s) hfd
  have hc2 := case_valid (l := l) hv imp c (memB t) hfd
  have hm := case_mono l hv imp c hsub hfd r h0.valid
  have hcode : decide ((caseC p l imp c (memB s)).Code = (⟨#[]⟩ : ByteArray)) = false := by
   have h6 := level_size hc1.lvl
   refine decide_eq_false fun e => ?_
   rw [e] at h6
   exact absurd h6 (by decide)
  have hsame : decide ((caseC p l imp c (memB t)).Code = (caseC p l imp c (memB s)).Code) = true := decide_eq_true rfl
  rw [hcode, hsame, prog_Holds hc1 h0.ok h0.valid h0.size, prog_Holds hc2 h0.ok h0.valid h0.size]
  simp only [cond_false, gd_tt, Option.bind_some, Bool.true_and]
  cases hw : (wit (caseC p l imp c (memB s)) r).isSome
  ·simp only [Bool.not_false, Bool.not_true, gd_ff, Option.bind_some, Bool.true_or, gd_tt, awake_ok, Bool.and_self]
  ·rw [hm hw]
   simp only [Bool.not_true, Bool.not_false, gd_tt, Option.bind_some, Bool.or_true, awake_ok, Bool.and_self]
end SX
end Go.Proofs.YtiijbkaiipjpkaaGreatDoor
set_option maxRecDepth 100000
namespace Go.Proofs.YtiijbkaiipjpkaaGreatDoor
namespace SX
open Go
theorem op3 {H : Type} {eh : TypeId × Value → H} : Opens eh 3 eI := opens_int rfl
theorem op23 {H : Type} {eh : TypeId × Value → H} : Opens eh 23 (eL eI) := opens_slice rfl rfl rfl rfl op3
end SX
end Go.Proofs.YtiijbkaiipjpkaaGreatDoor
set_option maxRecDepth 100000
namespace Go.Proofs.YtiijbkaiipjpkaaGreatDoor
open Go Go.ChangeShapes Go.WideShapes Go.RowKit
open SX
theorem caseMonotone_lifted (os : Os) (started : os.Started) (H : Type) (enc : TypeId × Value → H) :
    ReturnsInHanded {} Tryz.checked os 9 .any (fun w args => (Rows.caseMonotoneSpec.pre enc Tryz.prog Tryz.f9 [] false w args ∧ laidMetH Tryz.prog laidL w) ∧ sizedMet enc Tryz.prog Tryz.f9 (OpenSpec.ofChange Rows.caseMonotoneSpec) false w args)
      (Rows.caseMonotoneSpec.post enc Tryz.prog Tryz.f9 false true false false) := by
  refine returnsInHanded_of_change_and (C := Tryz.checked) (X := fun w _ => laidMetH Tryz.prog laidL w) (fun _ _ _ hh h => h.of_heap hh) own_ok started (by kernel_rfl) Tryz.func9
    (ChangeSpec.witness_at (enc := enc) (C := Tryz.checked) (os := os) (X := fun w _ => laidMetH Tryz.prog laidL w) false (laidWorld os) #[.slice none 0 0, .slice none 0 0, .slice none 0 0, .int .i64 0, .int .i64 0, .int .i64 0, .slice none 0 0, .slice none 0 0] 8 rfl (by kernel_rfl) (by kernel_rfl) (by kernel_rfl) (by kernel_rfl) (by kernel_rfl) (laidWorld_met os _)) ?_
  intro W base args ds gs before hval0 hW _ hwt hL _
  have hval : ∀ (j : Nat) t v, Tryz.f9.params[j]? = some t → args[j]? = some v → Value.okWide Tryz.prog W .any base t v := hval0
  have hW2 := hW
  obtain ⟨p, q, hA0, hV0, rfl, _, _⟩ := hW
  have hA : DataW.TrodAll enc Tryz.prog W 0 (fun _ => true) true [23, 23, 23, 3, 3, 3, 23, 23] args.toList ds p := hA0
  obtain ⟨rfl, rfl⟩ : gs = [] ∧ q = [] := by
    cases gs with
    | nil => exact ⟨rfl, hV0⟩
    | cons g r => exact absurd hV0 (by intro h; cases h)
  generalize hargs : args.toList = vs at hA
  have hval2 : ∀ (j : Nat) t v, [23, 23, 23, 3, 3, 3, 23, 23][j]? = some t → vs[j]? = some v → Value.okWide Tryz.prog W .any base t v := fun j t v h1 h2 => hval j t v (by rw [Tryz.params9]; simpa using h1) (by rw [← hargs] at h2; simpa using h2)
  obtain ⟨v0, vs0, d0, ds0, p0, q0, rfl, rfl, h0, hA⟩ := SX.trodAll_cons hA
  obtain ⟨v1, vs1, d1, ds1, p1, q1, rfl, rfl, h1, hA⟩ := SX.trodAll_cons hA
  obtain ⟨v2, vs2, d2, ds2, p2, q2, rfl, rfl, h2, hA⟩ := SX.trodAll_cons hA
  obtain ⟨v3, vs3, d3, ds3, p3, q3, rfl, rfl, h3, hA⟩ := SX.trodAll_cons hA
  obtain ⟨v4, vs4, d4, ds4, p4, q4, rfl, rfl, h4, hA⟩ := SX.trodAll_cons hA
  obtain ⟨v5, vs5, d5, ds5, p5, q5, rfl, rfl, h5, hA⟩ := SX.trodAll_cons hA
  obtain ⟨v6, vs6, d6, ds6, p6, q6, rfl, rfl, h6, hA⟩ := SX.trodAll_cons hA
  obtain ⟨v7, vs7, d7, ds7, p7, q7, rfl, rfl, h7, hA⟩ := SX.trodAll_cons hA
  obtain ⟨rfl, rfl⟩ := SX.trodAll_nil hA
  have hw : (DataW.weightsEach Tryz.prog [23, 23, 23, 3, 3, 3, 23, 23] [d0, d1, d2, d3, d4, d5, d6, d7]).all (· ≤ reachBytes) = true := hwt
  obtain ⟨l0, hw⟩ := SX.light_head hw
  obtain ⟨m0, s0⟩ := arg_one rfl rfl op23 (fun _ => ⟨_, rfl⟩) (hval2 0 23 v0 rfl rfl) h0 l0
  obtain ⟨l1, hw⟩ := SX.light_head hw
  obtain ⟨m1, s1⟩ := arg_one rfl rfl op23 (fun _ => ⟨_, rfl⟩) (hval2 1 23 v1 rfl rfl) h1 l1
  obtain ⟨l2, hw⟩ := SX.light_head hw
  obtain ⟨m2, s2⟩ := arg_one rfl rfl op23 (fun _ => ⟨_, rfl⟩) (hval2 2 23 v2 rfl rfl) h2 l2
  obtain ⟨l3, hw⟩ := SX.light_head hw
  obtain ⟨m3, s3⟩ := arg_one rfl rfl op3 (fun _ => ⟨_, rfl⟩) (hval2 3 3 v3 rfl rfl) h3 l3
  obtain ⟨l4, hw⟩ := SX.light_head hw
  obtain ⟨m4, s4⟩ := arg_one rfl rfl op3 (fun _ => ⟨_, rfl⟩) (hval2 4 3 v4 rfl rfl) h4 l4
  obtain ⟨l5, hw⟩ := SX.light_head hw
  obtain ⟨m5, s5⟩ := arg_one rfl rfl op3 (fun _ => ⟨_, rfl⟩) (hval2 5 3 v5 rfl rfl) h5 l5
  obtain ⟨l6, hw⟩ := SX.light_head hw
  obtain ⟨m6, s6⟩ := arg_one rfl rfl op23 (fun _ => ⟨_, rfl⟩) (hval2 6 23 v6 rfl rfl) h6 l6
  obtain ⟨l7, hw⟩ := SX.light_head hw
  obtain ⟨m7, s7⟩ := arg_one rfl rfl op23 (fun _ => ⟨_, rfl⟩) (hval2 7 23 v7 rfl rfl) h7 l7
  exact row_post (readB (by kernel_rfl)) rfl (und_ok rfl) rfl (by simp [Rows.caseMonotoneSpec]) hW2 (gok_of_laid hL) (by rw [hargs]; exact (s0.app (s1.app (s2.app (s3.app (s4.app (s5.app (s6.app s7)))))))) (law14_CaseMonotone_ok (caseMonotone_law m0 m1 m2 m3 m4 m5 m6 m7 s0 s1 s2 s3 s4 s5 s6 s7))
theorem caseMonotone_holds : Rows.CaseMonotoneSaid :=
 OpenClaim.holds_of_wide 9 Tryz.f9 rfl rfl rfl rfl rfl rfl rfl ⟨rfl, rfl, rfl, rfl, rfl⟩ rfl rfl rfl rfl rfl (by kernel_rfl) Tryz.func9 (by kernel_rfl)
  (of_decide_eq_true (by kernel_rfl)) (by unfold Func.isWrapper; rw [if_neg (of_decide_eq_false (by kernel_rfl))]; exact ⟨rfl, rfl⟩)
  (fun os started H enc _ => caseMonotone_lifted os started H enc)
theorem caseMonotone_card : Rows.CaseMonotoneCardSaid :=
 Claim7.holds_tied_plain_at .later [] [.data, .data, .pinned] true (true, "daaef14461230708ffb83573f1fcc36e0026bff35fd16ab9288311ad3f1de33f") true
  caseMonotone_holds (fun _ h => by cases h) (by kernel_rfl) (fun _ h => by cases h) caseMonotone_row_tie rfl ⟨rfl, rfl⟩ (by kernel_rfl) rfl
  (fun f fn hf hfn => by
   obtain rfl : f = 9 := Option.some.inj ((show Tryz.prog.funcNamed "customs/customslaw14.CaseMonotone" = some 9 by kernel_rfl).symm.trans hf) |>.symm
   obtain rfl : fn = Tryz.f9 := (Option.some.inj (Tryz.func9.symm.trans hfn)).symm
   exact ⟨by kernel_rfl, fun j t ht => by
    rw [Tryz.params9] at ht
    exact standIns_no (by kernel_rfl) ht⟩)
  (by kernel_rfl)
#print axioms caseMonotone_card
end Go.Proofs.YtiijbkaiipjpkaaGreatDoor
