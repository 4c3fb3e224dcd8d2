/- AgreementPartners: for every input the law returns true, and each argument reads afterwards as it read before. Conditions: the package variables are as the program's text lays them (the card ties them). -/
import Derived.Test.YtiijbkaiipjpkaaGreatDoorM4
import Derived.Test.YtiijbkaiipjpkaaGreatDoorChecked
import Derived.KernelRfl
import Derived.WalkKit
import Derived.OrdersHeld
import Derived.Laws.CopyRow
import Derived.Laws.StructEq
import Derived.Maps.AppendAt
import Derived.Laws.MakeOwn
import Derived.Laws.BytesArg
import Derived.Laws.Externs
import Derived.Laws.Cover3
import Derived.MapKept
import Derived.Laws.RangeAny
import Derived.Laws.RangeString
import Derived.Shelf.Slices.In.SortNone
import Derived.Shelf.Sort.Plain
import Derived.Test.YtiijbkaiipjpkaaGreatDoorProg
import Derived.Shelf.SlSortCmp.NoneTotal
import Derived.Ground.SlsfProg
import Derived.ChangeArms
import Derived.DataReads
import GoSem.ClaimJoined
import Derived.Test.YtiijbkaiipjpkaaGreatDoorRows
import Derived.ChangeSame
import Derived.ChangeVars
import Derived.JoinedOf
import Derived.RowKit
import Derived.RowKitTokens
import Derived.LaidLaws
import Derived.LaidHandle
import Derived.Carry
import Derived.Handed
import Derived.ChangeOld
import Derived.SevenTiedAt
import Derived.Test.YtiijbkaiipjpkaaGreatDoorCards
import Derived.Test.YtiijbkaiipjpkaaGreatDoorTie
set_option linter.unusedVariables false
set_option linter.unusedSimpArgs false
set_option maxRecDepth 100000
namespace Go.Proofs.YtiijbkaiipjpkaaGreatDoor
namespace SX
open Go
mutual
def dep : TRule → Nat
 | ⟨_, _, _, _, _, _, l⟩ => 1 + deps l
def deps : List TRule → Nat
 | [] => 0
 | a :: l => max (dep a) (deps l)
end
mutual
def cnt : TRule → Nat
 | ⟨_, _, _, _, _, _, l⟩ => 1 + cnts l
def cnts : List TRule → Nat
 | [] => 0
 | a :: l => cnt a + cnts l
end
theorem dep_eq (r : TRule) : dep r = 1 + deps r.Args := by cases r; rw [dep]
theorem cnt_eq (r : TRule) : cnt r = 1 + cnts r.Args := by cases r; rw [cnt]
theorem dep_mem : ∀ {l : List TRule} {a : TRule}, a ∈ l → dep a ≤ deps l
 | b :: l, a, h => by
  rw [deps]
  rcases List.mem_cons.1 h with rfl | h
  ·omega
  ·have := dep_mem h; omega
theorem dep_arg {r a : TRule} (h : a ∈ r.Args) : dep a < dep r := by rw [dep_eq r]; have := dep_mem h; omega
mutual
theorem dep_cnt : ∀ r : TRule, dep r ≤ cnt r
 | ⟨_, _, _, _, _, _, l⟩ => by rw [dep, cnt]; have := deps_cnts l; omega
theorem deps_cnts : ∀ l : List TRule, deps l ≤ cnts l
 | [] => by rw [deps, cnts]; exact Nat.le_refl _
 | a :: l => by rw [deps, cnts]; have h1 := dep_cnt a; have h2 := deps_cnts l; omega
end
inductive ROk : TRule → Prop
 | mk (r : TRule) (h1 : StrsOk r.Except) (h2 : r.Name.size ≤ 140737488355328) (h3 : r.Args.length ≤ 140737488355328) (h4 : ∀ a ∈ r.Args, ROk a) : ROk r
theorem ROk.ex {r : TRule} (h : ROk r) : StrsOk r.Except := by cases h; assumption
theorem ROk.nm {r : TRule} (h : ROk r) : r.Name.size ≤ 140737488355328 := by cases h; assumption
theorem ROk.len {r : TRule} (h : ROk r) : r.Args.length ≤ 140737488355328 := by cases h; assumption
theorem ROk.arg {r : TRule} (h : ROk r) {a : TRule} (ha : a ∈ r.Args) : ROk a := by cases h with | mk _ _ _ _ h4 => exact h4 a ha
theorem nodes_F (n : Nat) : ∀ (r : TRule) (lim : Nat), ROk r → dep r ≤ n → 1 ≤ lim → lim ≤ 1000 → rule_nodes_F n r (lim : Int) = some ((min (cnt r) lim : Nat) : Int) := by
 induction n with
 | zero => intro r lim _ hd; rw [dep_eq] at hd; omega
 | succ n ih =>
  intro r lim hr hd h1 h2
  have hl := hr.len
  show rule_nodes_B (rule_nodes_F n) r (lim : Int) = _
  unfold rule_nodes_B
  refine (run_loop (l := r.Args) (by omega) (fun i (a : Nat) => ((a : Int), i)) (fun _ x a => cond (Nat.ble lim a) (.inr ()) (.inl (min (a + cnt x) lim))) (fun (a : Nat) => .inl (a : Int)) (fun (_ : Unit) => .inr (lim : Int)) (fun _ a => a ≤ lim) 1 h1 (fun k hk a ha => ⟨?_, fun a' h => ?_⟩) (fun a ha => ?_)).trans ?_
  ·simp only [dlt hk, cond_true, idx_nat hk, Option.bind_some]
   cases hb : Nat.ble lim a
   ·have hlt : a < lim := by rcases Nat.lt_or_ge a lim with h | h; exact h; rw [Nat.ble_eq_true_of_le h] at hb; cases hb
    rw [show decide ((lim : Int) ≤ (a : Int)) = false from decide_eq_false (by omega), i64s (by omega) (by omega), show (lim : Int) - (a : Int) = ((lim - a : Nat) : Int) by omega,
     ih _ (lim - a) (hr.arg (List.getElem_mem hk)) (by have := dep_arg (List.getElem_mem hk); omega) (by omega) (by omega)]
    simp only [cond_false, Option.bind_some, wnext hk (show r.Args.length ≤ 4611686018427387904 by omega), outc]
    rw [i64s (by omega) (by omega), show (a : Int) + ((min (cnt r.Args[k]) (lim - a) : Nat) : Int) = ((min (a + cnt r.Args[k]) lim : Nat) : Int) by omega]
   ·have hle := Nat.le_of_ble_eq_true hb
    rw [show decide ((lim : Int) ≤ (a : Int)) = true from decide_eq_true (by omega)]; rfl
  ·cases hb : Nat.ble lim a
   ·rw [hb] at h; injection h with h; omega
   ·rw [hb] at h; cases h
  ·simp only [dnlt, cond_false]
  ·have key : ∀ (l : List TRule) (i a : Nat), a ≤ lim → outf (fun (a : Nat) => (a : Int)) (fun (_ : Unit) => (lim : Int)) (run (fun _ x a => cond (Nat.ble lim a) (.inr ()) (.inl (min (a + cnt x) lim))) l i a) = ((min (a + cnts l) lim : Nat) : Int) := by
    intro l
    induction l with
    | nil => intro i a ha; rw [cnts]; show (a : Int) = _; omega
    | cons x l ihl =>
     intro i a ha
     rw [run_cons, cnts]
     cases hb : Nat.ble lim a
     ·exact (ihl _ _ (by omega)).trans (by omega)
     ·have hle := Nat.le_of_ble_eq_true hb
      show (lim : Int) = _; omega
   have k2 : ∀ (o : Nat ⊕ Unit), (match (outf (fun (a : Nat) => .inl (a : Int)) (fun (_ : Unit) => .inr (lim : Int)) o : Int ⊕ Int) with | .inl v4 => some v4 | .inr e => some e) = some (outf (fun (a : Nat) => (a : Int)) (fun (_ : Unit) => (lim : Int)) o) := fun o => by cases o <;> rfl
   rw [cnt_eq]
   exact (k2 _).trans (congrArg some (key _ _ _ h1))
def lev (s : ByteArray) : Bool := !(level s == 0)
def codesB (l : List ByteArray) : Bool := decide (l.length ≤ 6) && (l.all lev && ascB ltS l)
def mil (n : Int) : Bool := decide (0 ≤ n) && decide (n ≤ 1000000)
def plainB (r : TRule) : Bool := (r.Kind == 2 || (r.Digits == 0 && r.Except.isEmpty && r.Tolerance == 0)) && (r.Kind == 3 || r.Limit == 0) && (r.Kind == 4 || decide (r.Name = ⟨#[]⟩)) && (r.Kind == 5 || r.Kind == 6 || r.Args.isEmpty)
def leafB (r : TRule) : Bool := cond (r.Kind == 1) true (cond (r.Kind == 2) ((r.Digits == 2 || r.Digits == 4 || r.Digits == 6) && codesB r.Except && mil r.Tolerance) (cond (r.Kind == 3) (mil r.Limit) (cond (r.Kind == 4) (wordB r.Name) false)))
mutual
def ruleB : TRule → Bool
 | ⟨k, d, e, t, m, n, l⟩ => plainB ⟨k, d, e, t, m, n, l⟩ && cond (k == 5 || k == 6) (decide (2 ≤ l.length) && decide (l.length ≤ 6) && rulesB k l) (leafB ⟨k, d, e, t, m, n, l⟩)
def rulesB (k : Int) : List TRule → Bool
 | [] => true
 | a :: l => (!(a.Kind == k) && ruleB a) && rulesB k l
end
theorem rulesB_all (k : Int) : ∀ l : List TRule, rulesB k l = l.all fun a => !(a.Kind == k) && ruleB a
 | [] => by rw [rulesB]; rfl
 | a :: l => by rw [rulesB, rulesB_all k l]; rfl
theorem ruleB_eq (r : TRule) : ruleB r = (plainB r && cond (r.Kind == 5 || r.Kind == 6) (decide (2 ≤ r.Args.length) && decide (r.Args.length ≤ 6) && r.Args.all fun a => !(a.Kind == r.Kind) && ruleB a) (leafB r)) := by
 cases r; rw [ruleB, rulesB_all]
theorem len0 {α : Type} (l : List α) : ((l.length : Int) == 0) = l.isEmpty := by cases l <;> rfl
theorem len0' {α : Type} (l : List α) : decide (0 < (l.length : Int)) = !l.isEmpty := by cases l with
 | nil => rfl
 | cons a l => exact decide_eq_true (by rw [List.length_cons]; omega)
theorem prog_plain (r : TRule) : rule_plain r = some (plainB r) := by
 unfold rule_plain plainB
 rw [len0, len0']
 simp only [bne]
 cases (r.Kind == 2) <;> cases (r.Digits == 0) <;> cases r.Except.isEmpty <;> cases (r.Tolerance == 0) <;> cases (r.Kind == 3) <;> cases (r.Limit == 0) <;> cases (r.Kind == 4) <;> cases decide (r.Name = ⟨#[]⟩) <;> rfl
theorem prog_codes (l : List ByteArray) (hl : StrsOk l) : rule_validCodes l = some (codesB l) := by
 obtain ⟨hl, hs⟩ := hl
 unfold rule_validCodes codesB
 have i2 : decide ((6 : Int) < (l.length : Int)) = !decide (l.length ≤ 6) := by rw [← decide_not]; exact decide_eq_decide.2 (by omega)
 rw [i2]
 cases decide (l.length ≤ 6)
 ·rfl
 simp only [Bool.not_true, cond_false, Bool.true_and]
 refine (find_loop (l := l) (by omega) (fun k x => cond (okAt lev l k x) none (some (.inr false))) (.inl ()) (fun k hk => ?_) (by simp only [dnlt, cond_false])).trans ?_
 ·have h62 : l.length ≤ 4611686018427387904 := by omega
  simp only [dlt hk, cond_true, idx_nat hk, Option.bind_some, show ∀ s, nomenclature_Level s = some (level s) from fun _ => rfl, d0k, wnext hk h62, okAt, lev]
  cases hw : (level l[k] == 0)
  ·by_cases h0 : 0 < k
   ·simp only [h0, decide_true, Bool.not_true, Bool.not_false, Bool.and_true, Bool.true_and, Bool.false_or, gd_tt, idx_prev h0 hk h62, Option.bind_some, getD_in (show k - 1 < l.length by omega), ltS, str_tot]
    cases Op.bytesLess (l[k-1]'(by omega)).toList l[k].toList <;> rfl
   ·simp only [h0, decide_false, Bool.and_false, gd_ff, Option.bind_some, Bool.not_true, Bool.false_or, Bool.false_and, cond_false, Bool.not_false, Bool.true_and, Bool.true_or, Bool.or_false]; rfl
  ·rfl
 ·rw [findS_bad]
  cases (l.all lev && ascB ltS l) <;> rfl
end SX
end Go.Proofs.YtiijbkaiipjpkaaGreatDoor
set_option maxRecDepth 100000
namespace Go.Proofs.YtiijbkaiipjpkaaGreatDoor
namespace SX
open Go
theorem one_word (s : ByteArray) (hs : s.size ≤ 140737488355328) : goods_ValidWords [s] = some (wordB s) := by
 rw [prog_words [s] ⟨by simp, by simpa using hs⟩]
 simp [wordsB, ascB]
theorem valid_F (n : Nat) : ∀ (r : TRule), ROk r → dep r ≤ n → rule_valid_F n r = some (ruleB r) := by
 induction n with
 | zero => intro r _ hd; rw [dep_eq] at hd; omega
 | succ n ih =>
  intro r hr hd
  have hl := hr.len
  show rule_valid_B (rule_valid_F n) r = _
  unfold rule_valid_B
  rw [prog_plain, ruleB_eq, Option.bind_some]
  cases plainB r
  ·rfl
  simp only [Bool.not_true, cond_false, Bool.true_and]
  cases e1 : (r.Kind == 1)
  rotate_left
  ·have := eq_of_beq e1
   simp only [leafB, e1, this]; rfl
  cases e2 : (r.Kind == 2)
  rotate_left
  ·have := eq_of_beq e2
   simp only [leafB, e1, e2, this, cond_true, cond_false]
   rw [prog_codes _ hr.ex]
   show _ = some (_ && codesB r.Except && mil r.Tolerance)
   cases (r.Digits == 2 || r.Digits == 4 || r.Digits == 6)
   ·rfl
   ·simp only [gd_tt, Bool.true_and, Option.bind_some]
    cases codesB r.Except <;> rfl
  cases e3 : (r.Kind == 3)
  rotate_left
  ·have := eq_of_beq e3
   simp only [leafB, e1, e2, e3, this, cond_true, cond_false]; rfl
  cases e4 : (r.Kind == 4)
  rotate_left
  ·have := eq_of_beq e4
   simp only [leafB, e1, e2, e3, e4, this, cond_true, cond_false]
   rw [one_word _ hr.nm]; rfl
  simp only [leafB, e1, e2, e3, e4, cond_false]
  have e56 : (cond (r.Kind == 5) (some (r.Kind == 5)) (some (r.Kind == 6)) : Option Bool) = some (r.Kind == 5 || r.Kind == 6) := by cases (r.Kind == 5) <;> rfl
  rw [e56, Option.bind_some]
  cases (r.Kind == 5 || r.Kind == 6)
  ·rfl
  simp only [cond_true]
  have i1 : decide ((r.Args.length : Int) < 2) = !decide (2 ≤ r.Args.length) := by rw [← decide_not]; exact decide_eq_decide.2 (by omega)
  have i2 : decide ((6 : Int) < (r.Args.length : Int)) = !decide (r.Args.length ≤ 6) := by rw [← decide_not]; exact decide_eq_decide.2 (by omega)
  rw [i1, i2]
  cases decide (2 ≤ r.Args.length)
  ·rfl
  cases decide (r.Args.length ≤ 6)
  ·rfl
  simp only [Bool.not_true, Bool.or_self, cond_false, Bool.true_and]
  refine (find_loop (l := r.Args) (by omega) (fun _ a => cond (!(a.Kind == r.Kind) && ruleB a) none (some (.inr false))) (.inl ()) (fun k hk => ?_) (by simp only [dnlt, cond_false])).trans ?_
  ·simp only [dlt hk, cond_true, idx_nat hk, Option.bind_some, wnext hk (show r.Args.length ≤ 4611686018427387904 by omega)]
   have h2 := ih _ (hr.arg (List.getElem_mem hk)) (by have := dep_arg (List.getElem_mem hk); omega)
   cases (r.Args[k].Kind == r.Kind)
   ·simp only [Bool.not_false, gd_tt, h2, Option.bind_some, Bool.true_and, Bool.false_or]
    cases ruleB r.Args[k] <;> rfl
   ·rfl
  ·rw [findS_all]
   cases (r.Args.all fun a => !(a.Kind == r.Kind) && ruleB a) <;> rfl
def ruleE (r : TRule) : Int := cond (decide (cnt r ≤ 32)) (cond (ruleB r) 0 1) 8
theorem prog_rule (r : TRule) (hr : ROk r) (hd : dep r ≤ 1000) : rule_Validate r = some (ruleE r) := by
 unfold rule_Validate rule_nodes rule_valid ruleE
 have hf : FUEL = 1267650600228229401496703205376 := rfl
 have h1 := nodes_F FUEL r 33 hr (by rw [hf]; omega) (by omega) (by omega)
 rw [show ((33 : Nat) : Int) = 33 from rfl] at h1
 rw [h1, Option.bind_some, valid_F FUEL r hr (by rw [hf]; omega)]
 by_cases h : cnt r ≤ 32
 ·rw [decide_eq_false (by omega), decide_eq_true h]
  cases ruleB r <;> rfl
 ·rw [decide_eq_true (by omega), decide_eq_false h]; rfl
theorem ruleE_zero (r : TRule) : ruleE r = 0 ↔ cnt r ≤ 32 ∧ ruleB r = true := by
 unfold ruleE
 by_cases h : cnt r ≤ 32
 ·rw [decide_eq_true h]; cases ruleB r <;> simp [h]
 ·rw [decide_eq_false h]; simp [h]
end SX
end Go.Proofs.YtiijbkaiipjpkaaGreatDoor
set_option maxRecDepth 100000
namespace Go.Proofs.YtiijbkaiipjpkaaGreatDoor
namespace SX
open Go
structure RFOk (x : TRuleFor) : Prop where
 pre : x.Prefix.size ≤ 140737488355328
 rule : ROk x.Rule
 deep : dep x.Rule ≤ 1000
structure AOk (a : TAgreement) : Prop where
 par : StrsOk a.Parties
 len : a.Rules.length ≤ 140737488355328
 rules : ∀ x ∈ a.Rules, RFOk x
structure ASOk (l : List TAgreement) : Prop where
 len : l.length ≤ 140737488355328
 all : ∀ a ∈ l, AOk a
def partiesB (l : List ByteArray) : Bool := l.all ctry && ascB ltS l
def gRule (l : List TRuleFor) (k : Nat) (x : TRuleFor) : Option Int := cond (lev x.Prefix) (cond (decide (0 < k) && !ltS (l.getD (k - 1) x).Prefix x.Prefix) (some 9) (cond (ruleE x.Rule == 0) none (some (ruleE x.Rule)))) (some 1)
def rulesE (l : List TRuleFor) : Int := (findS (gRule l) l 0).getD 0
def gAgr (l : List TAgreement) (k : Nat) (a : TAgreement) : Option Int :=
 cond (decide (a.ID < 1) || decide (1000 < a.ID) || decide (a.Kind < 1) || decide (3 < a.Kind)) (some 2) (cond (decide (0 < k) && decide (a.ID ≤ (l.getD (k - 1) a).ID)) (some 9) (cond (decide (12 < a.Parties.length) || decide (12 < a.Rules.length)) (some 8)
  (cond (partiesB a.Parties) (cond (rulesE a.Rules == 0) none (some (rulesE a.Rules))) (some 1))))
def agrE (l : List TAgreement) : Int := cond (decide (l.length ≤ 8)) ((findS (gAgr l) l 0).getD 0) 8
end SX
end Go.Proofs.YtiijbkaiipjpkaaGreatDoor
set_option maxRecDepth 100000
namespace Go.Proofs.YtiijbkaiipjpkaaGreatDoor
namespace SX
open Go
def Y {α : Type} (x : Option α) (P : α → Prop) : Prop := ∃ a, x = some a ∧ P a
section
variable {α β S T : Type} {x y : Option α} {P P' : α → Prop} {Q : β → Prop} {f : α → Option β} {a : α} {c : Bool}
theorem Y.bind (h : Y x P) (k : ∀ a, P a → Y (f a) Q) : Y (x.bind f) Q := by
 obtain ⟨a, h1, h2⟩ := h; rw [h1]; exact k a h2
theorem Y.ret (h : P a) : Y (some a) P := ⟨a, rfl, h⟩
theorem Y.mono (h : Y x P) (k : ∀ a, P a → P' a) : Y x P' := by obtain ⟨a, h1, h2⟩ := h; exact ⟨a, h1, k a h2⟩
theorem Y.cond (h : c = true → Y x P) (k : c = false → Y y P) : Y (cond c x y) P := by cases c; exact k rfl; exact h rfl
theorem Y.eq {r : α} (h : x = some r) (k : Y (f r) Q) : Y (x.bind f) Q := by rw [h]; exact k
theorem Y.loop {body : S → Option (S ⊕ T)} {R : T → Prop} {s : S} (I : S → Prop) (μ : S → Nat) (h0 : I s) (hm : μ s ≤ 1267650600228229401496703205000) (step : ∀ s, I s → Y (body s) (fun o => match o with | .inl s' => I s' ∧ μ s' < μ s | .inr t => R t)) : Y (loopF body FUEL s) R := by
 obtain ⟨t, h1, h2⟩ := loopF_run (body := body) I μ R (fun s hs => by
  obtain ⟨o, k1, k2⟩ := step s hs
  cases o with
  | inl s' => exact .inl ⟨s', k1, k2⟩
  | inr t => exact .inr ⟨t, k1, k2⟩) FUEL s h0 (fuel_big hm)
 exact ⟨t, h1, h2⟩
theorem Y.idx {xs : List α} {i : Int} {n : Nat} (h : i = (n : Int)) (hn : n < xs.length) (k : Y (f xs[n]) Q) : Y ((idx xs i).bind f) Q := by subst h; rw [idx_nat hn]; exact k
theorem Y.gdp [Inhabited α] {z : Option (α × β)} {m : β} {R : α × β → Prop} (h : c = true → Y z R) (k : c = false → R (default, m)) : Y (gdp c z m) R := by
 cases c
 ·exact ⟨_, rfl, k rfl⟩
 ·exact h rfl
end
theorem within_ok (a n : Int) (h1 : 1 ≤ n) (h2 : n ≤ 4611686018427387904) : ∃ r, made_Within a n = some r ∧ 0 ≤ r ∧ r < n := by
 have hl := Int.tmod_lt_of_pos a (show 0 < n by omega)
 have hl2 := Int.tmod_lt_of_pos (-a) (show 0 < n by omega)
 rw [Int.neg_tmod] at hl2
 unfold made_Within nz lb
 rw [if_neg (by omega), i64s (by omega) (by omega)]
 exact ⟨_, rfl, Int.tmod_nonneg _ (by omega), Int.tmod_lt_of_pos _ (by omega)⟩
def SOK (p : Tmade_Source) : Prop := 0 ≤ p.I ∧ p.I ≤ p.L.length ∧ p.L.length ≤ 1000000000000000
theorem next_ok {p : Tmade_Source} (hp : SOK p) (n : Int) (h1 : 1 ≤ n) (h2 : n ≤ 4611686018427387904) : ∃ r q, made_Source_Next p n = some (r, q) ∧ 0 ≤ r ∧ r < n ∧ SOK q := by
 obtain ⟨a1, a2, a3⟩ := hp
 unfold made_Source_Next
 by_cases h : (p.L.length : Int) ≤ p.I
 ·rw [decide_eq_true h]; exact ⟨_, _, rfl, by omega, by omega, a1, a2, a3⟩
 ·rw [decide_eq_false h, i64s (r := p.I + 1) (by omega) (by omega), i64s (by omega) (by omega)]
  simp only [cond_false]
  have e : idx p.L (p.I + 1 - 1) = some (p.L[p.I.toNat]'(by omega)) := by
   unfold idx; rw [if_pos (by omega)]
   have : (p.I + 1 - 1).toNat = p.I.toNat := by omega
   rw [this]; exact List.getElem?_eq_getElem _
  rw [bnd e]
  obtain ⟨r, h3, h4, h5⟩ := within_ok (p.L[p.I.toNat]'(by omega)) n h1 h2
  rw [bnd h3]
  exact ⟨_, _, rfl, h4, h5, by simp only; omega, by simp only; omega, a3⟩
theorem cut_ok (l : List Int) (n : Int) (h : 0 ≤ n) (h2 : n ≤ 1000) : ∃ m, made_Cut l n = some m ∧ (m.length : Int) ≤ n := by
 unfold made_Cut
 by_cases h1 : n < (l.length : Int)
 ·rw [decide_eq_true h1]
  have e : sub l 0 n = some ((l.take n.toNat).drop 0) := by unfold sub; rw [if_pos (by omega)]; rfl
  simp only [cond_true]; rw [bnd e]; exact ⟨_, rfl, by simp; omega⟩
 ·rw [decide_eq_false h1]; exact ⟨_, rfl, by omega⟩
theorem within_Y (a n : Int) (h1 : 1 ≤ n) (h2 : n ≤ 4611686018427387904) : Y (made_Within a n) (fun r => 0 ≤ r ∧ r < n) := within_ok a n h1 h2
theorem next_Y {p : Tmade_Source} (hp : SOK p) (n : Int) (h1 : 1 ≤ n) (h2 : n ≤ 4611686018427387904) : Y (made_Source_Next p n) (fun r => 0 ≤ r.1 ∧ r.1 < n ∧ SOK r.2) := by
 obtain ⟨r, q, h3, h4, h5, h6⟩ := next_ok hp n h1 h2; exact ⟨(r, q), h3, h4, h5, h6⟩
theorem cut_Y (l : List Int) (n : Int) (h : 0 ≤ n) (h2 : n ≤ 1000) : Y (made_Cut l n) (fun m => SOK ⟨m, 0⟩) := by
 obtain ⟨m, h3, h4⟩ := cut_ok l n h h2
 exact ⟨m, h3, by dsimp only; omega, by dsimp only; omega, by dsimp only; omega⟩
theorem rate_Y {p : Tmade_Source} (hp : SOK p) : Y (made_Source_rate p) (fun r => mil r.1 = true ∧ SOK r.2) := by
 unfold made_Source_rate
 refine (next_Y hp 4 (by omega) (by omega)).bind fun a ⟨h1, h2, h3⟩ => ?_
 refine Y.cond (fun _ => ?_) (fun _ => ?_)
 ·refine (next_Y h3 101 (by omega) (by omega)).bind fun b ⟨k1, k2, k3⟩ => Y.ret ⟨?_, k3⟩
  rw [i64s (by omega) (by omega)]; simp only [mil, Bool.and_eq_true, decide_eq_true_eq]; omega
 ·refine (next_Y h3 1000001 (by omega) (by omega)).bind fun b ⟨k1, k2, k3⟩ => Y.ret ⟨?_, k3⟩
  simp only [mil, Bool.and_eq_true, decide_eq_true_eq]; omega
structure Good (r : TRule) (m : Nat) : Prop where
 ok : ROk r
 valid : ruleB r = true
 size : cnt r ≤ m
theorem strs0 : StrsOk [] := ⟨by simp, by simp⟩
theorem rok_leaf {r : TRule} (h1 : StrsOk r.Except) (h2 : r.Name.size ≤ 140737488355328) (h3 : r.Args = []) : ROk r := ⟨r, h1, h2, by rw [h3]; simp, by rw [h3]; simp⟩
theorem cnt_leaf {r : TRule} (h : r.Args = []) : cnt r = 1 := by rw [cnt_eq, h]; rfl
def bnd3 : Nat → Nat
 | 0 => 1
 | d + 1 => 1 + 3 * bnd3 d
theorem bnd3_pos (d : Nat) : 1 ≤ bnd3 d := by cases d <;> simp [bnd3]
theorem cnts_le {m : Nat} : ∀ {l : List TRule}, (∀ a ∈ l, cnt a ≤ m) → cnts l ≤ l.length * m
 | [], _ => by rw [cnts]; omega
 | a :: l, h => by
  rw [cnts, List.length_cons, Nat.add_mul, Nat.one_mul]
  have h1 := h a (by simp); have h2 := cnts_le (l := l) fun b hb => h b (by simp [hb]); omega
theorem leaf_Y {but : Int} (hb : but = 0 ∨ but = 5 ∨ but = 6) {r : TRule} {q : Tmade_Source} {m : Nat} (hm : 1 ≤ m) (hq : SOK q) (h1 : StrsOk r.Except) (h2 : r.Name.size ≤ 140737488355328) (h3 : r.Args = []) (hk : 1 ≤ r.Kind ∧ r.Kind ≤ 4) (hv : ruleB r = true) : Good r m ∧ r.Kind ≠ but ∧ SOK q :=
 ⟨⟨rok_leaf h1 h2 h3, hv, by rw [cnt_leaf h3]; exact hm⟩, by omega, hq⟩
theorem rule_step {d n : Nat} {p : Tmade_Source} {but : Int} (hp : SOK p) (hb : but = 0 ∨ but = 5 ∨ but = 6) (hn : d < n) (hd : d ≤ 10)
    (ih : ∀ d', d = d' + 1 → ∀ (q : Tmade_Source) (but' : Int), SOK q → (but' = 0 ∨ but' = 5 ∨ but' = 6) → Y (made_Source_rule_F (n - 1) q but' (d' : Int)) (fun r => Good r.1 (bnd3 d') ∧ r.1.Kind ≠ but' ∧ SOK r.2)) :
    Y (made_Source_rule_F n p but (d : Int)) (fun r => Good r.1 (bnd3 d) ∧ r.1.Kind ≠ but ∧ SOK r.2) := by
  obtain ⟨n, rfl⟩ : ∃ m, n = m + 1 := ⟨n - 1, by omega⟩
  rw [Nat.add_sub_cancel] at ih
  show Y (made_Source_rule_B (made_Source_rule_F n) p but (d : Int)) _
  unfold made_Source_rule_B
  refine (next_Y hp 8 (by omega) (by omega)).bind fun a ⟨h1, h2, h3⟩ => ?_
  refine Y.cond (fun hc => ?_) (fun hc => ?_)
  · simp only [Bool.and_eq_true, decide_eq_true_eq] at hc
    obtain ⟨d', rfl⟩ : ∃ d', d = d' + 1 := ⟨d - 1, by omega⟩
    have ih := ih d' rfl
    have hm1 : 0 ≤ Int.tmod a.1 2 := Int.tmod_nonneg _ (by omega)
    have hm2 : Int.tmod a.1 2 < 2 := Int.tmod_lt_of_pos _ (by omega)
    refine Y.bind (P := fun k => (k = 5 ∨ k = 6) ∧ k ≠ but) ?_ fun k ⟨hk, hkb⟩ => ?_
    · rw [i64s (by omega) (by omega)]
      refine Y.cond (fun hc => Y.ret ?_) (fun hc => Y.ret ?_)
      · have := eq_of_beq hc; rw [i64s (by omega) (by omega)]; omega
      · have : ¬ 5 + Int.tmod a.1 2 = but := by intro h; rw [h] at hc; simp at hc
        omega
    refine (next_Y h3 2 (by omega) (by omega)).bind fun b ⟨k1, k2, k3⟩ => ?_
    rw [i64s (r := 2 + b.1) (by omega) (by omega)]
    refine Y.bind (P := fun t : List Int × Int × List TRule => SOK ⟨t.1, t.2.1⟩ ∧ (2 ≤ t.2.2.length ∧ t.2.2.length ≤ 3) ∧ ∀ x ∈ t.2.2, Good x (bnd3 d') ∧ x.Kind ≠ k) ?_ fun t ⟨t1, t2, t3⟩ => ?_
    · refine Y.loop (fun s : Int × List Int × Int × List TRule => (0 ≤ s.1 ∧ s.1 + s.2.2.2.length = 2 + b.1) ∧ SOK ⟨s.2.1, s.2.2.1⟩ ∧ ∀ x ∈ s.2.2.2, Good x (bnd3 d') ∧ x.Kind ≠ k) (fun s => s.1.toNat) ⟨⟨by dsimp only; omega, by simp⟩, k3, by simp⟩ (by dsimp only; omega) fun s hs => ?_
      obtain ⟨v, l, i, m⟩ := s
      obtain ⟨⟨s1, s2⟩, s3, s4⟩ := hs
      dsimp only at s1 s2 s3 s4 ⊢
      refine Y.cond (fun hc => ?_) (fun hc => Y.ret ⟨s3, ?_, s4⟩)
      · have hc := of_decide_eq_true hc
        rw [i64s (by omega) (by omega), show ((d' + 1 : Nat) : Int) - 1 = (d' : Int) by omega]
        refine (ih _ k s3 (by omega)).bind fun x ⟨x1, x2, x3⟩ => ?_
        rw [app_ok (by simp; omega) (by simp; omega), Option.bind_some, i64s (by omega) (by omega)]
        refine Y.ret ⟨⟨⟨by dsimp only; omega, by simp; omega⟩, x3, fun z hz => ?_⟩, by dsimp only; omega⟩
        rcases List.mem_append.1 hz with hz | hz
        · exact s4 z hz
        · rw [List.mem_singleton.1 hz]; exact ⟨x1, x2⟩
      · have hc := of_decide_eq_false hc
        dsimp only; omega
    obtain ⟨l, i, m⟩ := t
    dsimp only at t1 t2 t3 ⊢
    refine Y.ret ⟨⟨⟨_, strs0, by simp, by dsimp only; omega, fun z hz => (t3 z hz).1.ok⟩, ?_, ?_⟩, hkb, t1⟩
    · rw [ruleB_eq]
      have e1 : (k == 5 || k == 6) = true := by rcases hk with rfl | rfl <;> rfl
      have e2 : plainB ⟨k, 0, [], 0, 0, ByteArray.empty, m⟩ = true := by rcases hk with rfl | rfl <;> rfl
      rw [e2]
      simp only [e1, cond_true, Bool.true_and, Bool.and_eq_true, decide_eq_true_eq, List.all_eq_true, Bool.not_eq_true', beq_eq_false_iff_ne, ne_eq]
      exact ⟨by omega, fun z hz => ⟨(t3 z hz).2, (t3 z hz).1.valid⟩⟩
    · rw [cnt_eq]
      have := cnts_le fun z hz => (t3 z hz).1.size
      have h3 : m.length * bnd3 d' ≤ 3 * bnd3 d' := Nat.mul_le_mul_right _ t2.2
      dsimp only [bnd3]; omega
  · have hpos := bnd3_pos d
    refine Y.bind (P := fun q : (List Int × Int) ⊕ (TRule × Tmade_Source) => match q with | .inl s => SOK ⟨s.1, s.2⟩ | .inr r => Good r.1 (bnd3 d) ∧ r.1.Kind ≠ but ∧ SOK r.2) ?_ fun q hq => ?_
    · refine Y.cond (fun _ => ?_) fun _ => Y.cond (fun _ => ?_) fun _ => Y.cond (fun _ => ?_) fun _ => Y.ret h3
      · refine (rate_Y h3).bind fun b ⟨k1, k2⟩ => Y.ret (leaf_Y hb hpos k2 strs0 (by simp) rfl ⟨by simp, by simp⟩ ?_)
        rw [ruleB_eq]; simp only [plainB, leafB, k1]; rfl
      · refine (next_Y h3 5 (by omega) (by omega)).bind fun b ⟨k1, k2, k3⟩ => ?_
        obtain ⟨j, hj⟩ : ∃ j : Nat, b.1 = (j : Int) := ⟨b.1.toNat, by omega⟩
        have hj5 : j < 5 := by omega
        refine Y.idx hj hj5 (Y.ret ?_)
        have hw : ∀ j : Nat, (h : j < 5) → wordB [(⟨#[97, 110, 100]⟩ : ByteArray), (⟨#[99, 117, 116]⟩ : ByteArray), (⟨#[111, 114]⟩ : ByteArray), (⟨#[115, 101, 119]⟩ : ByteArray), (⟨#[115, 112, 105, 110]⟩ : ByteArray)][j] = true := by
          intro j h
          match j, h with
          | 0, _ => rfl
          | 1, _ => rfl
          | 2, _ => rfl
          | 3, _ => rfl
          | 4, _ => rfl
        have hw2 := hw j hj5
        refine leaf_Y hb hpos k3 strs0 ?_ rfl ⟨by simp, by simp⟩ ?_
        · have h12 := hw2
          simp only [wordB, Bool.and_eq_true, decide_eq_true_eq] at h12
          dsimp only; omega
        · rw [ruleB_eq]; simp only [plainB, leafB, hw2]; rfl
      · refine (next_Y h3 3 (by omega) (by omega)).bind fun b ⟨k1, k2, k3⟩ => Y.cond (fun _ => Y.ret (leaf_Y hb hpos k3 strs0 (by simp) rfl ⟨by simp, by simp⟩ ?_)) fun _ => Y.ret k3
        rw [ruleB_eq]; rfl
    · cases q with
      | inr r => exact Y.ret hq
      | inl s =>
        obtain ⟨l, i⟩ := s
        dsimp only at hq ⊢
        refine (next_Y hq 3 (by omega) (by omega)).bind fun b ⟨k1, k2, k3⟩ => ?_
        refine (next_Y k3 3 (by omega) (by omega)).bind fun c ⟨c1, c2, c3⟩ => ?_
        refine Y.bind (P := fun t : List Int × Int × List ByteArray => SOK ⟨t.1, t.2.1⟩ ∧ StrsOk t.2.2 ∧ codesB t.2.2 = true) ?_ fun t ⟨t1, t2, t3⟩ => ?_
        · refine Y.cond (fun _ => ?_) fun _ => Y.ret ⟨c3, strs0, rfl⟩
          refine (next_Y c3 2 (by omega) (by omega)).bind fun e ⟨e1, e2, e3⟩ => ?_
          obtain he | he : e.1 = 0 ∨ e.1 = 1 := by omega
          · rw [he]; exact Y.ret ⟨e3, (show StrsOk [(⟨#[57, 52, 48, 49]⟩ : ByteArray), (⟨#[57, 53, 48, 50]⟩ : ByteArray)] from ⟨by decide, by decide⟩), (show codesB [(⟨#[57, 52, 48, 49]⟩ : ByteArray), (⟨#[57, 53, 48, 50]⟩ : ByteArray)] = true by kernel_rfl)⟩
          · rw [he]; exact Y.ret ⟨e3, (show StrsOk [(⟨#[57, 53, 48, 50]⟩ : ByteArray)] from ⟨by decide, by decide⟩), (show codesB [(⟨#[57, 53, 48, 50]⟩ : ByteArray)] = true by kernel_rfl)⟩
        obtain ⟨l2, i2, ex⟩ := t
        dsimp only at t1 t2 t3 ⊢
        refine (next_Y t1 3 (by omega) (by omega)).bind fun e ⟨e1, e2, e3⟩ => ?_
        refine Y.bind (P := fun t : List Int × Int × Int => SOK ⟨t.1, t.2.1⟩ ∧ mil t.2.2 = true) (Y.cond (fun _ => (rate_Y e3).bind fun f ⟨f1, f2⟩ => Y.ret ⟨f2, f1⟩) fun _ => Y.ret ⟨e3, rfl⟩) fun u ⟨u1, u2⟩ => ?_
        obtain ⟨l3, i3, tol⟩ := u
        dsimp only at u1 u2 ⊢
        refine Y.ret (leaf_Y hb hpos u1 t2 (by simp) rfl ⟨by simp, by simp⟩ ?_)
        rw [i64s (r := 2 * b.1) (by omega) (by omega), i64s (by omega) (by omega), ruleB_eq]
        simp only [plainB, leafB, t3, u2]
        obtain hb0 | hb0 | hb0 : b.1 = 0 ∨ b.1 = 1 ∨ b.1 = 2 := by omega
        · rw [hb0]; rfl
        · rw [hb0]; rfl
        · rw [hb0]; rfl
theorem rule_Y (d : Nat) : ∀ (n : Nat) (p : Tmade_Source) (but : Int), d < n → d ≤ 10 → SOK p → (but = 0 ∨ but = 5 ∨ but = 6) → Y (made_Source_rule_F n p but (d : Int)) (fun r => Good r.1 (bnd3 d) ∧ r.1.Kind ≠ but ∧ SOK r.2) := by
  induction d with
  | zero => exact fun n p but h1 h2 hp hb => rule_step hp hb h1 (by omega) (fun d h => absurd h (by omega))
  | succ d ih => exact fun n p but h1 h2 hp hb => rule_step hp hb h1 (by omega) (fun d' h q but' hq hb' => by
      obtain rfl : d' = d := by omega
      exact ih _ q but' (by omega) (by omega) hq hb')
end SX
end Go.Proofs.YtiijbkaiipjpkaaGreatDoor
set_option maxRecDepth 100000
namespace Go.Proofs.YtiijbkaiipjpkaaGreatDoor
namespace SX
open Go
theorem ltS_tr (x y z : ByteArray) (h1 : ltS x y = true) (h2 : ltS y z = true) : ltS x z = true := by
 rw [ltS_eq] at *; exact decide_eq_true (List.lt_trans (of_decide_eq_true h1) (of_decide_eq_true h2))
theorem ascB_iff : ∀ l : List ByteArray, ascB ltS l = true ↔ l.Pairwise (fun a b => ltS a b = true)
 | [] => by simp [ascB]
 | [a] => by simp [ascB]
 | a :: b :: l => by
  rw [ascB, Bool.and_eq_true, ascB_iff (b :: l)]
  constructor
  ·rintro ⟨h1, h2⟩
   refine List.pairwise_cons.2 ⟨fun c hc => ?_, h2⟩
   rcases List.mem_cons.1 hc with rfl | hc
   ·exact h1
   ·exact ltS_tr _ _ _ h1 ((List.pairwise_cons.1 h2).1 c hc)
  ·intro h; obtain ⟨h1, h2⟩ := List.pairwise_cons.1 h; exact ⟨h1 b (by simp), h2⟩
theorem sublist_take {α : Type} {l C : List α} {v : Nat} (h : l.Sublist (C.take v)) (hv : v < C.length) : (l ++ [C[v]]).Sublist (C.take (v + 1)) ∧ l.Sublist (C.take (v + 1)) := by
 have e : C.take (v + 1) = C.take v ++ [C[v]] := by rw [List.take_add_one, List.getElem?_eq_getElem hv]; rfl
 rw [e]
 exact ⟨h.append (List.Sublist.refl _), h.trans (List.sublist_append_left _ _)⟩
def C6 : List ByteArray := [(⟨#[65, 65]⟩ : ByteArray), (⟨#[66, 66]⟩ : ByteArray), (⟨#[67, 67]⟩ : ByteArray), (⟨#[68, 68]⟩ : ByteArray), (⟨#[69, 69]⟩ : ByteArray), (⟨#[70, 70]⟩ : ByteArray)]
def P5 : List ByteArray := [(⟨#[57, 52]⟩ : ByteArray), (⟨#[57, 52, 48, 49]⟩ : ByteArray), (⟨#[57, 52, 48, 49, 48, 50]⟩ : ByteArray), (⟨#[57, 53]⟩ : ByteArray), (⟨#[57, 53, 48, 50]⟩ : ByteArray)]
theorem C6_ok : C6.all ctry = true ∧ ascB ltS C6 = true ∧ (C6.all fun s => decide (s.size ≤ 100)) = true := ⟨by kernel_rfl, by kernel_rfl, by kernel_rfl⟩
theorem P5_ok : P5.all lev = true ∧ ascB ltS P5 = true ∧ (P5.all fun s => decide (s.size ≤ 100)) = true := ⟨by kernel_rfl, by kernel_rfl, by kernel_rfl⟩
structure MA (i : Nat) (a : TAgreement) : Prop where
 id : a.ID = 2 + 5 * (i : Int)
 kind : 1 ≤ a.Kind ∧ a.Kind ≤ 3
 par : a.Parties.Sublist C6
 pre : (a.Rules.map (·.Prefix)).Sublist P5
 good : ∀ x ∈ a.Rules, Good x.Rule (bnd3 1)
 ne : a.Rules ≠ []
structure MAs (l : List TAgreement) : Prop where
 len : 1 ≤ l.length ∧ l.length ≤ 4
 all : ∀ (i : Nat) (a : TAgreement), l[i]? = some a → MA i a
theorem P5_len {a : TAgreement} (h : (a.Rules.map (·.Prefix)).Sublist P5) : a.Rules.length ≤ 5 := by have := h.length_le; simpa [P5] using this
theorem MA.strs {i : Nat} {a : TAgreement} (h : MA i a) : StrsOk a.Parties := by
 refine ⟨?_, fun s hs => ?_⟩
 ·have := h.par.length_le; have h6 : C6.length = 6 := rfl; omega
 ·have := of_decide_eq_true (List.all_eq_true.1 C6_ok.2.2 s (h.par.subset hs)); omega
theorem MA.aok {i : Nat} {a : TAgreement} (h : MA i a) : AOk a := by
 refine ⟨h.strs, by have := P5_len h.pre; omega, fun x hx => ?_⟩
 have hp := of_decide_eq_true (List.all_eq_true.1 P5_ok.2.2 x.Prefix (h.pre.subset (List.mem_map_of_mem hx)))
 have hg := h.good x hx
 exact ⟨by omega, hg.ok, by have h1 := dep_cnt x.Rule; have h2 := hg.size; simp only [bnd3] at h2; omega⟩
theorem MAs.ok {l : List TAgreement} (h : MAs l) : ASOk l := ⟨by have := h.len; omega, fun a ha => by
 obtain ⟨i, hi, rfl⟩ := List.getElem_of_mem ha; exact (h.all i _ (List.getElem?_eq_getElem hi)).aok⟩
theorem MA.parties {i : Nat} {a : TAgreement} (h : MA i a) : partiesB a.Parties = true := by
 unfold partiesB
 rw [Bool.and_eq_true]
 refine ⟨List.all_eq_true.2 fun s hs => List.all_eq_true.1 C6_ok.1 s (h.par.subset hs), ?_⟩
 rw [ascB_iff]; exact List.Pairwise.sublist h.par ((ascB_iff _).1 C6_ok.2.1)
theorem MA.rulesE {i : Nat} {a : TAgreement} (h : MA i a) : rulesE a.Rules = 0 := by
 have : findS (gRule a.Rules) a.Rules 0 = none := by
  rw [findS_none]
  intro k x hx
  obtain ⟨hk, rfl⟩ := List.getElem?_eq_some_iff.1 hx
  have hmem : a.Rules[k] ∈ a.Rules := List.getElem_mem hk
  have h1 := List.all_eq_true.1 P5_ok.1 _ (h.pre.subset (List.mem_map_of_mem hmem))
  have hg := h.good _ hmem
  have h2 : ruleE a.Rules[k].Rule = 0 := (ruleE_zero _).2 ⟨by have := hg.size; simp only [bnd3] at this; omega, hg.valid⟩
  unfold gRule
  rw [Nat.zero_add, h1, h2]
  have hpw := List.Pairwise.sublist h.pre ((ascB_iff _).1 P5_ok.2.1)
  by_cases h0 : 0 < k
  ·rw [getD_in (show k - 1 < a.Rules.length by omega)]
   have := (List.pairwise_iff_getElem.1 (List.pairwise_map.1 hpw)) (k - 1) k (by omega) hk (by omega)
   rw [this]; simp
  ·simp [h0]
 unfold SX.rulesE; rw [this]; rfl
theorem MAs.valid {l : List TAgreement} (h : MAs l) : agrE l = 0 := by
 have : findS (gAgr l) l 0 = none := by
  rw [findS_none]
  intro k x hx
  obtain ⟨hk, rfl⟩ := List.getElem?_eq_some_iff.1 hx
  have hm := h.all k _ hx
  have hl := h.len
  unfold gAgr
  rw [Nat.zero_add, hm.parties, hm.rulesE]
  have i1 : (decide (l[k].ID < 1) || decide (1000 < l[k].ID) || decide (l[k].Kind < 1) || decide (3 < l[k].Kind)) = false := by
   have e1 := hm.id; have e2 := hm.kind
   rw [decide_eq_false (by omega), decide_eq_false (by omega), decide_eq_false (by omega), decide_eq_false (by omega)]; rfl
  have i2 : (decide (12 < l[k].Parties.length) || decide (12 < l[k].Rules.length)) = false := by
   have e1 := hm.par.length_le; have e2 := P5_len hm.pre; have h6 : C6.length = 6 := rfl
   rw [decide_eq_false (by omega), decide_eq_false (by omega)]; rfl
  rw [i1, i2]
  by_cases h0 : 0 < k
  ·rw [getD_in (show k - 1 < l.length by omega)]
   have hm2 := h.all (k - 1) _ (List.getElem?_eq_getElem (by omega))
   have e1 := hm.id; have e2 := hm2.id
   rw [decide_eq_false (show ¬ l[k].ID ≤ (l[k-1]'(by omega)).ID by omega)]; simp
  ·simp [h0]
 unfold agrE
 rw [decide_eq_true (by have := h.len; omega), this]; rfl
theorem countries_ok : made_Countries = some C6 := rfl
def bitI (m : Int) (v : Int) : Bool := iand .i64 (ishr .i64 m v) 1 == 1
theorem some_bit : ((List.range 31).all fun m => (List.range 5).any fun v => bitI ((m + 1 : Nat) : Int) (v : Int)) = true := by kernel_rfl
theorem has_bit {m : Int} (h1 : 1 ≤ m) (h2 : m ≤ 31) : ∃ v : Nat, v < 5 ∧ bitI m (v : Int) = true := by
 have := List.all_eq_true.1 some_bit (m.toNat - 1) (List.mem_range.2 (by omega))
 obtain ⟨v, hv, h⟩ := List.any_eq_true.1 this
 rw [show ((m.toNat - 1 + 1 : Nat) : Int) = m by omega] at h
 exact ⟨v, List.mem_range.1 hv, h⟩
theorem ge0_nat (v : Nat) : ge0 (v : Int) = some () := by unfold ge0; rw [if_pos (by omega)]
theorem parties_Y {c : Int → Bool} : Y (loopF (S := Int × (List ByteArray)) (T := ((List ByteArray))) (fun (v22, l24) => cond (decide (v22 < 6)) (Option.bind (Option.bind (ge0 v22) (fun _ => cond (c v22) (Option.bind (made_Countries) (fun x44 => Option.bind (idx x44 v22) (fun m45 => Option.bind (app 16 l24 [m45]) (fun l48 => some l48)))) (some l24))) (fun l40 => some (.inl ((IntKind.i64.wrap (v22 + 1)), l40)))) (some (.inr l24))) FUEL (0, ([] : List ByteArray))) (fun l => l.Sublist C6) := by
 refine Y.loop (fun s => ∃ v : Nat, s.1 = (v : Int) ∧ v ≤ 6 ∧ s.2.Sublist (C6.take v)) (fun s => (6 - s.1).toNat) ⟨0, rfl, by omega, List.Sublist.refl _⟩ (by dsimp only; omega) fun s hs => ?_
 obtain ⟨i, l⟩ := s
 obtain ⟨v, rfl, h1, h2⟩ := hs
 dsimp only at h2 ⊢
 have hlen : l.length ≤ 6 := by have := h2.length_le; have h6 : C6.length = 6 := rfl; rw [List.length_take] at this; omega
 refine Y.cond (fun hc => ?_) (fun hc => Y.ret (h2.trans (List.take_sublist _ _)))
 have hv : v < 6 := by have := of_decide_eq_true hc; omega
 have hs := sublist_take h2 (show v < C6.length from hv)
 refine Y.bind (P := fun m : List ByteArray => m.Sublist (C6.take (v + 1))) (Y.eq (ge0_nat v) (Y.cond (fun _ => ?_) fun _ => Y.ret hs.2)) fun m hm => Y.ret ⟨⟨v + 1, ?_, by omega, hm⟩, ?_⟩
 ·refine Y.eq countries_ok (Y.idx rfl (show v < C6.length from hv) ?_)
  rw [app_ok (by simp; omega) (by simp; omega)]; exact Y.ret hs.1
 ·show IntKind.i64.wrap ((v : Int) + 1) = _; rw [i64s (by omega) (by omega)]; omega
 ·show (6 - IntKind.i64.wrap ((v : Int) + 1)).toNat < (6 - (v : Int)).toNat; rw [i64s (by omega) (by omega)]; omega
theorem agreements_Y (p0 : List Int) : Y (made_Agreements p0) MAs := by
 unfold made_Agreements
 refine (cut_Y p0 200 (by omega) (by omega)).bind fun x1 hx1 => ?_
 refine (next_Y hx1 4 (by omega) (by omega)).bind fun x3 ⟨a1, a2, a3⟩ => ?_
 rw [i64s (r := 1 + x3.1) (by omega) (by omega)]
 refine Y.bind (P := MAs) ?_ fun l hl => Y.ret hl
 refine Y.loop (fun s : List TAgreement × Int × List Int × Int => (s.2.1 = (s.1.length : Int) ∧ s.2.1 ≤ 1 + x3.1) ∧ SOK ⟨s.2.2.1, s.2.2.2⟩ ∧ ∀ i a, s.1[i]? = some a → MA i a) (fun s => (1 + x3.1 - s.2.1).toNat) ⟨⟨rfl, by dsimp only; omega⟩, a3, by simp⟩ (by dsimp only; omega) fun s hs => ?_
 obtain ⟨l5, v8, l9, v10⟩ := s
 obtain ⟨⟨h1, h2⟩, h3, h4⟩ := hs
 dsimp only at h1 h2 h3 h4 ⊢
 refine Y.cond (fun hc => ?_) (fun hc => Y.ret ⟨?_, h4⟩)
 rotate_left
 ·have hc := of_decide_eq_false hc; omega
 have hc := of_decide_eq_true hc
 refine (next_Y h3 3 (by omega) (by omega)).bind fun x19 ⟨b1, b2, b3⟩ => ?_
 refine (next_Y b3 64 (by omega) (by omega)).bind fun x21 ⟨c1, c2, c3⟩ => ?_
 refine (parties_Y (c := fun v => iand .i64 (ishr .i64 (ior .i64 x21.1 3) v) 1 == 1)).bind fun l31 hl31 => ?_
 refine Y.bind (P := fun r : Int × Tmade_Source => SOK r.2) (Y.gdp (fun _ => (next_Y c3 2 (by omega) (by omega)).mono fun r hr => hr.2.2) fun _ => c3) fun x53 hx53 => ?_
 refine Y.bind (P := fun t : List Int × Int × List TRuleFor => SOK ⟨t.1, t.2.1⟩ ∧ (t.2.2.map (·.Prefix)).Sublist P5 ∧ (∀ x ∈ t.2.2, Good x.Rule (bnd3 1)) ∧ t.2.2 ≠ []) ?_ fun t ⟨t1, t2, t3, t4⟩ => ?_
 ·refine Y.cond (fun hc2 => ?_) fun hc2 => ?_
  ·simp only [Bool.and_eq_true, decide_eq_true_eq] at hc2
   obtain ⟨j, hj⟩ : ∃ j : Nat, v8 - 1 = (j : Int) := ⟨(v8 - 1).toNat, by omega⟩
   refine Y.idx (n := j) (by rw [i64s (by omega) (by omega)]; exact hj) (show j < l5.length by omega) ?_
   have := h4 j _ (List.getElem?_eq_getElem (by omega))
   exact Y.ret ⟨hx53, this.pre, this.good, this.ne⟩
  ·refine (next_Y hx53 31 (by omega) (by omega)).bind fun x64 ⟨d1, d2, d3⟩ => ?_
   refine Y.bind (P := fun t : List Int × Int × List TRuleFor => SOK ⟨t.1, t.2.1⟩ ∧ (t.2.2.map (·.Prefix)).Sublist P5 ∧ (∀ x ∈ t.2.2, Good x.Rule (bnd3 1)) ∧ t.2.2 ≠ []) ?_ fun t ht => Y.ret ht
   refine Y.loop (fun s : Int × List Int × Int × List TRuleFor => ∃ v : Nat, s.1 = (v : Int) ∧ v ≤ 5 ∧ SOK ⟨s.2.1, s.2.2.1⟩ ∧ (s.2.2.2.map (·.Prefix)).Sublist (P5.take v) ∧ (∀ x ∈ s.2.2.2, Good x.Rule (bnd3 1)) ∧ (s.2.2.2 ≠ [] ∨ ∀ u : Nat, u < v → bitI (1 + x64.1) (u : Int) = false)) (fun s => (5 - s.1).toNat) ⟨0, rfl, by omega, d3, List.Sublist.refl _, by simp, .inr (fun u hu => absurd hu (Nat.not_lt_zero _))⟩ (by dsimp only; omega) fun s hs => ?_
   obtain ⟨i, l, k, m⟩ := s
   obtain ⟨v, rfl, e1, e2, e3, e4, e5⟩ := hs
   dsimp only at e2 e3 e4 e5 ⊢
   have hlen : m.length ≤ 5 := by have := e3.length_le; have h6 : P5.length = 5 := rfl; rw [List.length_take, List.length_map] at this; omega
   refine Y.cond (fun hc3 => ?_) (fun hc3 => Y.ret ⟨e2, e3.trans (List.take_sublist _ _), e4, ?_⟩)
   rotate_left
   ·have h5 : v = 5 := by have := of_decide_eq_false hc3; omega
    rcases e5 with e5 | e5
    ·exact e5
    ·obtain ⟨u, hu, hb⟩ := has_bit (m := 1 + x64.1) (by omega) (by omega)
     rw [e5 u (by omega)] at hb; cases hb
   have hv : v < 5 := by have := of_decide_eq_true hc3; omega
   have hs := sublist_take e3 (show v < P5.length from hv)
   refine Y.bind (P := fun t : List Int × Int × List TRuleFor => SOK ⟨t.1, t.2.1⟩ ∧ (t.2.2.map (·.Prefix)).Sublist (P5.take (v + 1)) ∧ (∀ x ∈ t.2.2, Good x.Rule (bnd3 1)) ∧ (t.2.2 ≠ [] ∨ ∀ u : Nat, u < v + 1 → bitI (1 + x64.1) (u : Int) = false)) (Y.eq (ge0_nat v) (Y.cond (fun _ => ?_) fun hbit => Y.ret ⟨e2, hs.2, e4, ?_⟩)) fun t ⟨t1, t2, t3, t4⟩ => Y.ret ⟨⟨v + 1, ?_, by omega, t1, t2, t3, t4⟩, ?_⟩
   ·refine Y.idx (xs := P5) rfl (show v < P5.length from hv) ?_
    refine (rule_Y 1 FUEL ⟨l, k⟩ 0 (fuel_big (by omega)) (by omega) e2 (.inl rfl)).bind fun r ⟨r1, r2, r3⟩ => ?_
    rw [app_ok (by simp; omega) (by simp; omega)]
    refine Y.ret ⟨r3, by rw [List.map_append]; exact hs.1, fun z hz => ?_, .inl (by simp)⟩
    rcases List.mem_append.1 hz with hz | hz
    ·exact e4 z hz
    ·rw [List.mem_singleton.1 hz]; exact r1
   ·rcases e5 with e5 | e5
    ·exact .inl e5
    ·refine .inr fun u hu => ?_
     rcases Nat.lt_or_ge u v with h | h
     ·exact e5 u h
     ·obtain rfl : u = v := by omega
      rw [i64s (by omega) (by omega)] at hbit; exact hbit
   ·show IntKind.i64.wrap ((v : Int) + 1) = _; rw [i64s (by omega) (by omega)]; omega
   ·show (5 - IntKind.i64.wrap ((v : Int) + 1)).toNat < (5 - (v : Int)).toNat; rw [i64s (by omega) (by omega)]; omega
 obtain ⟨l55, v56, l58⟩ := t
 dsimp only at t1 t2 t3 ⊢
 rw [app_ok (by simp; omega) (by simp; omega), Option.bind_some, i64s (r := v8 + 1) (by omega) (by omega), i64s (r := 1 + x19.1) (by omega) (by omega), i64s (r := 5 * v8) (by omega) (by omega), i64s (by omega) (by omega)]
 refine Y.ret ⟨⟨⟨by simp; omega, by dsimp only; omega⟩, t1, fun i a ha => ?_⟩, by dsimp only; omega⟩
 rw [List.getElem?_append] at ha
 split at ha
 ·exact h4 i a ha
 ·rename_i hi
  have hi0 : i - l5.length = 0 := by have := (List.getElem?_eq_some_iff.1 ha).1; simp at this; omega
  rw [hi0] at ha
  simp only [List.getElem?_cons_zero, Option.some.injEq] at ha
  subst ha
  exact ⟨by dsimp only; omega, ⟨by dsimp only; omega, by dsimp only; omega⟩, hl31, t2, t3, t4⟩
end SX
end Go.Proofs.YtiijbkaiipjpkaaGreatDoor
set_option maxRecDepth 100000
namespace Go.Proofs.YtiijbkaiipjpkaaGreatDoor
namespace SX
open Go
structure RawA (a : TAgreement) : Prop where
 par : StrsOk a.Parties
 len : a.Rules.length ≤ 140737488355328
 rules : ∀ x ∈ a.Rules, x.Prefix.size ≤ 140737488355328 ∧ ROk x.Rule
theorem app_nil_ok {α : Type} {b : Nat} {l : List α} (h : l.length ≤ 1000000000) (hb : b ≤ 1000) : app b ([] : List α) l = some l := by
 have := Nat.mul_le_mul h hb
 exact app_ok (by simpa using (by omega : l.length * b ≤ 140737488355328)) (by simp; omega)
end SX
end Go.Proofs.YtiijbkaiipjpkaaGreatDoor
set_option maxRecDepth 100000
namespace Go.Proofs.YtiijbkaiipjpkaaGreatDoor
namespace SX
open Go
def k0 (W : World) : Kr := ⟨W, fun b => b < W.heap.size⟩
theorem cellsOf_eq {t : Nat} {z : Value} {s b : Nat} (h : inf t = some (z, s, b)) : Tryz.prog.cellsOf t = s ∧ Tryz.prog.bytesOf t = b := by
 obtain ⟨i, h1, h2, h3, h4⟩ := inf_get h
 constructor
 ·simp [Program.cellsOf, h1, h3]
 ·simp [Program.bytesOf, h1, h4]
def Light {H : Type} (t : Nat) (d : DataW H) : Prop := ∀ n ∈ d.weights Tryz.prog t, n ≤ reachBytes
def Opens {H : Type} (eh : TypeId × Value → H) {α : Type} (t : Nat) (e : α → List PV) : Prop :=
 ∀ (W : World) (fuel : Nat) (cs : List Value) (x : DataW H × List MemPlace), DataW.trod eh Tryz.prog W 0 (fun _ => true) true fuel t cs = some x → Light t x.1 → ∃ m, Rps (k0 W) (e m) cs ∧ One cs
section
variable {H : Type} {eh : TypeId × Value → H}
theorem one1 {v : Value} (h : v.oneCell' = true) : One [v] := fun u hu => by rw [List.mem_singleton.1 hu]; exact h
theorem opens_int {t : Nat} {k : IntKind} (h : und t = some (.int k)) : Opens eh t (fun x : Int => [.v (.int k x)]) := fun W fuel cs x hx _ => by
 obtain ⟨n, rfl, _, _⟩ := DataW.trod_int (und_ok h) hx
 exact ⟨n, .cons (.v rfl) .nil, one1 rfl⟩
theorem weightsAll_mem {e : Nat} : ∀ {l : List (DataW H)} {d : DataW H} {n : Nat}, d ∈ l → n ∈ d.weights Tryz.prog e → n ∈ DataW.weightsAll Tryz.prog e l
 | d' :: l, d, n, hd, hn => by
  simp only [DataW.weightsAll, List.mem_append]
  rcases List.mem_cons.1 hd with rfl | hd
  ·exact .inl hn
  ·exact .inr (weightsAll_mem hd hn)
theorem list_of {α β : Type} {R : α → β → Prop} : ∀ (l : List β), (∀ b ∈ l, ∃ a, R a b) → ∃ la : List α, la.length = l.length ∧ ∀ (i : Nat) (b : β), l[i]? = some b → ∃ a, la[i]? = some a ∧ R a b
 | [], _ => ⟨[], rfl, fun i b h => by simp at h⟩
 | b :: l, h => by
  obtain ⟨a, ha⟩ := h b (by simp)
  obtain ⟨la, h1, h2⟩ := list_of l fun b hb => h b (by simp [hb])
  refine ⟨a :: la, by simp [h1], fun i b' hb => ?_⟩
  cases i with
  | zero => simp only [List.getElem?_cons_zero, Option.some.injEq] at hb; subst hb; exact ⟨a, rfl, ha⟩
  | succ i => simp only [List.getElem?_cons_succ] at hb ⊢; exact h2 i b' hb
def OpensN {H : Type} (eh : TypeId × Value → H) {α : Type} (N : Nat) (t : Nat) (e : α → List PV) : Prop :=
 ∀ (W : World) (fuel : Nat) (cs : List Value) (x : DataW H × List MemPlace), fuel < N → DataW.trod eh Tryz.prog W 0 (fun _ => true) true fuel t cs = some x → Light t x.1 → ∃ m, Rps (k0 W) (e m) cs ∧ One cs
theorem opens_sliceN {α : Type} {N t E sz by' : Nat} {z : Value} {e : α → List PV} (hu : und t = some (.slice E)) (hi : inf E = some (z, sz, by')) (h0 : Nat.blt 0 sz = true) (hb0 : Nat.blt 0 by' = true) (hE : OpensN eh N E e) : OpensN eh (N + 1) t (eL e) := fun W fuel cs x hfu hx hw => by
 obtain ⟨hcz, hby⟩ := cellsOf_eq hi
 have hsz : 0 < sz := by have := h0; simp [Nat.blt] at this; omega
 have hbp : 0 < by' := by have := hb0; simp [Nat.blt] at this; omega
 rcases DataW.trod_slice (und_ok hu) hx with ⟨rfl, _⟩ | ⟨a, len, cap, elems, rest, n, rfl, rfl, rfl, _, hl, hm, hlen, hel, _, _⟩
 ·exact ⟨[], .cons (.slc (sz := sz) (css := []) Sl.nil (Nat.zero_le _) (fun _ h => by cases h) .nil) .nil, one1 rfl⟩
 ·rw [hcz] at hel
  have hwl : (elems.length + rest.length) * by' ≤ reachBytes := by
   have := hw ((elems.length + rest.length) * by') (by simp only [DataW.weights, und_ok hu, hby, List.length_map]; exact List.mem_cons_self)
   exact this
  have hn : len ≤ 140737488355328 := by
   unfold reachBytes at hwl
   have : elems.length * 1 ≤ (elems.length + rest.length) * by' := Nat.mul_le_mul (by omega) (by omega)
   omega
  have hcells : ∀ i ∈ List.range len, ∃ p : α × List Value, W.cells? 0 (a.add (i * sz)) sz = some p.2 ∧ Rps (k0 W) (e p.1) p.2 ∧ One p.2 := fun i hi' => by
   have hi' : i < len := List.mem_range.1 hi'
   have h1 := hel i hi'
   have hlt : i < elems.length := by omega
   rw [List.getElem?_eq_getElem hlt] at h1
   obtain ⟨cs, h2, h3⟩ := Option.bind_eq_some_iff.1 h1
   obtain ⟨m, k1, k2⟩ := hE W n cs _ (by omega) h3 fun q hq => hw q (by
    simp only [DataW.weights, und_ok hu]
    exact List.mem_cons_of_mem _ (List.mem_append.2 (.inl (weightsAll_mem (List.mem_map.2 ⟨_, List.getElem_mem hlt, rfl⟩) hq))))
   exact ⟨(m, cs), h2, k1, k2⟩
  obtain ⟨ps, g1, g2⟩ := list_of (R := fun (p : α × List Value) i => W.cells? 0 (a.add (i * sz)) sz = some p.2 ∧ Rps (k0 W) (e p.1) p.2 ∧ One p.2) (List.range len) hcells
  rw [List.length_range] at g1
  have g3 : ∀ (i : Nat) (p : α × List Value), ps[i]? = some p → W.cells? 0 (a.add (i * sz)) sz = some p.2 ∧ Rps (k0 W) (e p.1) p.2 ∧ One p.2 := fun i p hp => by
   have hlt := (List.getElem?_eq_some_iff.1 hp).1
   obtain ⟨p', h1, h2⟩ := g2 i i (by rw [List.getElem?_range (by omega)])
   rw [hp] at h1; injection h1 with h1; subst h1; exact h2
  refine ⟨ps.map (·.1), ?_, one1 rfl⟩
  have hps : (ps.map (·.1)).length = len := by simp [g1]
  unfold eL; rw [hps]
  refine .cons (.slc (sz := sz) (css := ps.map (·.2)) ⟨by simp [g1], hl, ?_, ?_⟩ hn ?_ ?_) .nil
  ·intro c hc
   obtain ⟨p, hp, rfl⟩ := List.mem_map.1 hc
   obtain ⟨i, hi', rfl⟩ := List.getElem_of_mem hp
   exact (World.cells?_some (g3 i _ (List.getElem?_eq_getElem hi')).1).2.1
  ·intro hpos
   have hp0 : 0 < ps.length := by omega
   have hc0 := (World.cells?_some (g3 0 _ (List.getElem?_eq_getElem hp0)).1)
   have hread := hc0.2.2 0 hsz
   have hspot : a.spot = none := by
    have hlt : 0 < (ps[0]).2.length := by rw [hc0.2.1]; exact hsz
    rw [List.getElem?_eq_getElem hlt] at hread
    unfold World.cell? at hread
    cases hs : a.spot with
    | none => rfl
    | some q =>
     have hsp : ((a.add (0 * sz)).add 0).spot.isSome = true := by simp [Addr.add, hs]
     split at hread
     ·rw [if_pos hsp] at hread; cases hread
     ·cases hread
   obtain ⟨ab, ao, asp⟩ := a
   simp only at hspot; subst hspot
   refine ⟨ab, ao, rfl, fun j c hj => ?_⟩
   rw [List.getElem?_map] at hj
   cases hpj : ps[j]? with
   | none => rw [hpj] at hj; cases hj
   | some p =>
    rw [hpj] at hj; simp only [Option.map_some, Option.some.injEq] at hj; subst hj
    have hcj := World.cells?_some (g3 j p hpj).1
    refine ⟨?_, fun i u hu' => ?_⟩
    ·have h1 := hcj.2.2 0 hsz
     have hlt : 0 < p.2.length := by rw [hcj.2.1]; exact hsz
     rw [List.getElem?_eq_getElem hlt, add_none, add_none] at h1
     unfold World.cell? at h1
     split at h1
     ·rename_i heq
      have := heap_some_lt heq
      exact this
     ·cases h1
    ·have hlt : i < sz := by have := (List.getElem?_eq_some_iff.1 hu').1; omega
     have h1 := hcj.2.2 i hlt
     rw [add_none, add_none] at h1
     rw [← hu']; exact h1
  ·intro c hc
   obtain ⟨p, hp, rfl⟩ := List.mem_map.1 hc
   obtain ⟨i, hi', rfl⟩ := List.getElem_of_mem hp
   exact (g3 i _ (List.getElem?_eq_getElem hi')).2.2
  ·have : ∀ (l : List (α × List Value)), (∀ p ∈ l, Rps (k0 W) (e p.1) p.2) → Rpss (k0 W) ((l.map (·.1)).map e) (l.map (·.2)) := fun l => by
    induction l with
    | nil => exact fun _ => .nil
    | cons p l ih => exact fun h => .cons (h p (by simp)) (ih fun q hq => h q (by simp [hq]))
   refine this ps fun p hp => ?_
   obtain ⟨i, hi', rfl⟩ := List.getElem_of_mem hp
   exact (g3 i _ (List.getElem?_eq_getElem hi')).2.1
theorem opens_slice {α : Type} {t E sz by' : Nat} {z : Value} {e : α → List PV} (hu : und t = some (.slice E)) (hi : inf E = some (z, sz, by')) (h0 : Nat.blt 0 sz = true) (hb0 : Nat.blt 0 by' = true) (hE : Opens eh E e) : Opens eh t (eL e) := fun W fuel cs x hx hw =>
 opens_sliceN (N := fuel) hu hi h0 hb0 (fun W' f' cs' x' _ => hE W' f' cs' x') W fuel cs x (Nat.lt_succ_self _) hx hw
end
end SX
end Go.Proofs.YtiijbkaiipjpkaaGreatDoor
set_option maxRecDepth 100000
namespace Go.Proofs.YtiijbkaiipjpkaaGreatDoor
open Go Go.ChangeShapes Go.WideShapes Go.RowKit
namespace SX
theorem own_ok : ownKnob Tryz.prog.godebug = none := by kernel_rfl
theorem laidOut_ok : laidOutB Tryz.prog = true := by kernel_rfl
def laidL : List (String × DataW Unit) := [("unicode/utf8.acceptRanges", Rows.laid_unicode_utf8_acceptRanges), ("customs/nomenclature.lengths", Rows.laid_customs_nomenclature_lengths), ("unicode/utf8.first", Rows.laid_unicode_utf8_first)]
mutual
def cellsD : DataW Unit → List Value
 | .lit (.int k n) => [.int k n]
 | .agg ds => cellsDs ds
 | _ => []
def cellsDs : List (DataW Unit) → List Value
 | [] => []
 | d :: r => cellsD d ++ cellsDs r
end
def c_acc : Array Value := (cellsD Rows.laid_unicode_utf8_acceptRanges).toArray
def c_len : Array Value := #[.int .i64 2, .int .i64 4, .int .i64 6, .int .i64 8]
def c_first : Array Value := (cellsD Rows.laid_unicode_utf8_first).toArray
def layAt (h : Array Obj) (g : Nat) (cs : Array Value) : Array Obj := h.modify g fun | .cells _ t frozen => .cells cs t frozen | o => o
noncomputable def laidWorld (os : Os) : World :=
 { World.holding Tryz.prog os ⟨#[], #[], []⟩ with heap := layAt (layAt (layAt (World.holding Tryz.prog os ⟨#[], #[], []⟩).heap 4 c_acc) 0 c_len) 3 c_first }
theorem laid_plain : (laidL.filter fun x => x.2.handleName?.isSome) = [] := by kernel_rfl
def placeB (w : World) : MemPlace → Bool
 | .cell b off => match w.heap[b]? with
  | some (.cells c _ (0, 0)) => match c[off]? with | some (.iface _ _) => false | _ => true
  | _ => false
 | _ => true
theorem placesB_ok {w : World} {ps : List MemPlace} (h : ps.all (placeB w) = true) : ∀ b off, MemPlace.cell b off ∈ ps → (∃ c t, w.heap[b]? = some (.cells c t (0, 0))) ∧ ∀ u v, w.cell? ⟨b, off, none⟩ = some (.iface u v) → Value.okWide Tryz.prog w .any 0 u v := fun b off hm => by
 have := List.all_eq_true.1 h _ hm
 unfold placeB at this
 split at this
 ·rename_i b' off' e
  injection e with e1 e2; subst e1; subst e2
  split at this
  ·rename_i c t heq
   refine ⟨⟨c, t, heq⟩, fun u v hc => ?_⟩
   simp only [World.cell?, heq] at hc
   split at this
   ·cases this
   ·rename_i hno; exact absurd hc (by simpa using hno u v)
  ·cases this
 ·rename_i hno; exact absurd rfl (hno b off)
theorem laidWorld_met (os : Os) (args : Array Value) : laidMetH Tryz.prog laidL ((laidWorld os).forCall (fun _ _ => 0) ⟨#[], args, []⟩).memory := by
 unfold laidMetH
 rw [laid_plain]
 refine ⟨_, ⟨4, 230, c_acc, 8, [], _, by kernel_rfl, by kernel_rfl, by kernel_rfl, by kernel_rfl, ⟨0, 156, c_len, 8, [], _, by kernel_rfl, by kernel_rfl, by kernel_rfl, by kernel_rfl, ⟨3, 227, c_first, 8, [], _, by kernel_rfl, by kernel_rfl, by kernel_rfl, by kernel_rfl, rfl, rfl⟩, rfl⟩, rfl⟩, ?_, ?_⟩
 ·exact of_decide_eq_true (by kernel_rfl)
 ·exact placesB_ok (by kernel_rfl)
theorem int_of_trod {H : Type} {eh : TypeId × Value → H} {P : Program} {w : World} {base : Nat} {sp : Nat → Bool} {held : Bool} {fuel : Nat} {t : TypeId} {k : IntKind} {c : Value} {y : DataW H × List MemPlace} (ht : P.underlying t = some (.int k)) (h : DataW.trod eh P w base sp held fuel t [c] = some y) : ∃ n, c = .int k n ∧ y = (.lit (.int k n), []) := by
 obtain ⟨n, h1, h2, _⟩ := DataW.trod_int ht h
 injection h1 with h1 _
 exact ⟨n, h1, h2⟩
theorem gok_of_laid {W : World} (h : laidMetH Tryz.prog laidL W) : GOK (k0 W) := by
 unfold laidMetH at h
 rw [laid_plain] at h
 obtain ⟨ps, ⟨_, _, _, _, _, _, _, _, _, _, ⟨g, t, cs, fuel, p, q, hg, ht, hvar, hd, _, _⟩, _⟩, _⟩ := h
 obtain rfl := Option.some.inj ((show Tryz.prog.globalNamed "customs/nomenclature.lengths" = some 0 by kernel_rfl).symm.trans hg)
 obtain rfl := Option.some.inj ((show (Tryz.prog.globals[0]?).map (·.type) = some 156 by kernel_rfl).symm.trans ht)
 have hcs : cs = c_len := by
  obtain ⟨l⟩ := cs
  cases fuel with
  | zero => simp [DataW.trod] at hd
  | succ fuel =>
   have hc1 := (cellsOf_eq (t := 156) rfl).1
   have hc2 := (cellsOf_eq (t := 3) rfl).1
   have hu1 : Tryz.prog.underlying 156 = some (.array 4 3) := und_ok rfl
   simp only [DataW.trod, hu1, hc1, hc2] at hd
   split at hd
   ·rename_i hl
    obtain ⟨c0, c1, c2, c3, rfl⟩ : ∃ c0 c1 c2 c3, l = [c0, c1, c2, c3] := by
     match l, hl with
     | [a, b, c, d], _ => exact ⟨a, b, c, d, rfl⟩
    have e : List.range 4 = [0, 1, 2, 3] := rfl
    rw [e] at hd
    simp only [Option.map_eq_some_iff, List.mapM_cons, List.mapM_nil, Option.bind_eq_bind, Option.bind_eq_some_iff, Option.pure_def, Option.some.injEq] at hd
    obtain ⟨xs, ⟨y0, h0, _, ⟨y1, h1, _, ⟨y2, h2, _, ⟨y3, h3, _, rfl, rfl⟩, rfl⟩, rfl⟩, rfl⟩, hx⟩ := hd
    have hui : Tryz.prog.underlying 3 = some (.int .i64) := und_ok rfl
    obtain ⟨n0, rfl, rfl⟩ := int_of_trod hui h0
    obtain ⟨n1, rfl, rfl⟩ := int_of_trod hui h1
    obtain ⟨n2, rfl, rfl⟩ := int_of_trod hui h2
    obtain ⟨n3, rfl, rfl⟩ := int_of_trod hui h3
    simp [Rows.laid_customs_nomenclature_lengths] at hx
    obtain ⟨⟨rfl, rfl, rfl, rfl⟩, _⟩ := hx
    rfl
   ·cases hd
 subst hcs
 have hcell : ∀ j u, c_len[j]? = some u → W.cell? ⟨0, j, none⟩ = some u := fun j u hu => by
  have := World.var?_cell hg hvar j
  rw [this]; exact hu
 refine ⟨?_, fun j u hu => ?_⟩
 ·have h0 := hcell 0 _ rfl
  unfold World.cell? at h0
  split at h0
  ·rename_i heq; exact heap_some_lt heq
  ·cases h0
 ·rw [Nat.zero_add]; exact hcell j u (by simpa [c_len] using hu)
end SX
end Go.Proofs.YtiijbkaiipjpkaaGreatDoor
set_option maxRecDepth 100000
namespace Go.Proofs.YtiijbkaiipjpkaaGreatDoor
open Go Go.ChangeShapes Go.WideShapes Go.RowKit
namespace SX
theorem inv0 (W : World) : Inv ⟨k0 W, []⟩ [] (k0 W) := ⟨.refl _ _, fun _ h => h, (fun _ h => by cases h), (fun _ h => by cases h), .nil⟩
theorem below_of {W : World} {ρ : List Res} {κ : Kr} (h : Inv ⟨k0 W, []⟩ ρ κ) : Below W.heap.size W κ.w := ⟨h.le.os, h.le.tape, h.le.output, h.le.kle.size, fun k hk => h.le.same k hk (by simp)⟩
section
variable {H : Type} {eh : TypeId × Value → H}
theorem trodAll_below {W W' : World} (hb : Below W.heap.size W W') {ts : List TypeId} (hr : ∀ t ∈ ts, Tryz.prog.readableRec t = true ∧ t < Tryz.prog.types.size) : ∀ {vs : List Value} {ds : List (DataW H)} {ps : List MemPlace}, DataW.TrodAll eh Tryz.prog W 0 (fun _ => true) true ts vs ds ps → (∀ p ∈ ps, p.block < W.heap.size) → DataW.TrodAll eh Tryz.prog W' 0 (fun b => decide (b < W.heap.size)) true ts vs ds ps := by
 induction ts with
 | nil => intro vs ds ps h _; cases vs <;> cases ds <;> first | exact h | cases h
 | cons t ts ih =>
  intro vs ds ps h hlt
  cases vs with
  | nil => cases h
  | cons v vs =>
   cases ds with
   | nil => cases h
   | cons d ds =>
    obtain ⟨p, q, h1, h2, e⟩ := h
    have ht := hr t (by simp)
    exact ⟨p, q, Below.trod laidOut_ok ht.1 ht.2 h1 hb (fun x hx => hlt x (by rw [e]; simp [hx])), ih (fun u hu => hr u (by simp [hu])) h2 (fun x hx => hlt x (by rw [e]; simp [hx])), e⟩
theorem readB {ts : List TypeId} (h : (ts.all fun t => Tryz.prog.readableRec t && Nat.blt t Tryz.prog.types.size) = true) : ∀ t ∈ ts, Tryz.prog.readableRec t = true ∧ t < Tryz.prog.types.size := fun t ht => by
 have := List.all_eq_true.1 h t ht
 rw [Bool.and_eq_true] at this
 exact ⟨this.1, by have h2 := this.2; exact Nat.le_of_ble_eq_true h2⟩
theorem row_post {f tb : Nat} {fn : Func} {s : ChangeSpec} {W : World} {args : Array Value} {ds gs : List (DataW H)} {before : List MemPlace} {pargs : List PV}
    (hrd : ∀ t ∈ fn.params.toList, Tryz.prog.readableRec t = true ∧ t < Tryz.prog.types.size) (hres : fn.resultTypes = #[tb]) (hub : Tryz.prog.underlying tb = some .bool) (hvars : s.vars = [])
    (hspec : s.fn H ds = { results := [.lit (.bool true)], args := ds }) (hW : DataW.Whole eh Tryz.prog fn.params.toList s.vars false W args.toList ds gs before) (hG : GOK (k0 W)) (hargs : Rps (k0 W) pargs args.toList) (hPF : PF f pargs (.v (.bool true))) :
    Calls Tryz.prog f args W fun e W' => ∃ v, e = .returned v ∧ s.post eh Tryz.prog fn false true false false W args v W' := by
  have hc := (hPF (k0 W) args.toList hG hargs).2 (inv0 W)
  have e : args.toList.toArray = args := by simp
  rw [e] at hc
  refine Calls.mono hc fun en W' ⟨v, ρ', κ', h1, h2, h3, h4, h5⟩ => ⟨v, h1, ?_⟩
  subst h2
  have hv := h5.val
  subst hv
  have hb := below_of h3
  have hW' := hW
  obtain ⟨p, q, hA, hV, rfl, hfz, hnd⟩ := hW
  rw [hvars] at hV
  obtain ⟨rfl, rfl⟩ : gs = [] ∧ q = [] := by
    cases gs with
    | nil => exact ⟨rfl, hV⟩
    | cons g r => exact absurd hV (by intro h; cases h)
  refine ⟨ds, [], _, [], p, [], hW', ?_, ?_, ?_, hb.frame _, fun h => by cases h⟩
  · rw [List.append_nil, hspec, hres]; exact trodAll_mk1 (shut_bool hub true)
  · rw [List.append_nil, hspec]; exact trodAll_below hb hrd hA (DataW.TrodAll.lt hA)
  · rw [hvars, List.append_nil, hspec]; rfl
theorem trodAll_cons {W : World} {t : TypeId} {ts : List TypeId} {vs : List Value} {ds : List (DataW H)} {ps : List MemPlace} (h : DataW.TrodAll eh Tryz.prog W 0 (fun _ => true) true (t :: ts) vs ds ps) : ∃ v vs' d ds' p q, vs = v :: vs' ∧ ds = d :: ds' ∧ DataW.Trod eh Tryz.prog W 0 (fun _ => true) true t v d p ∧ DataW.TrodAll eh Tryz.prog W 0 (fun _ => true) true ts vs' ds' q := by
 cases vs with
 | nil => cases h
 | cons v vs =>
  cases ds with
  | nil => cases h
  | cons d ds => obtain ⟨p, q, h1, h2, _⟩ := h; exact ⟨v, vs, d, ds, p, q, rfl, rfl, h1, h2⟩
theorem trodAll_nil {W : World} {vs : List Value} {ds : List (DataW H)} {ps : List MemPlace} (h : DataW.TrodAll eh Tryz.prog W 0 (fun _ => true) true [] vs ds ps) : vs = [] ∧ ds = [] := by
 cases vs <;> cases ds <;> first | exact ⟨rfl, rfl⟩ | cases h
theorem standIns_no {l : Array TypeId} (h : (l.toList.all fun t => !Tryz.prog.wantsStandIn t) = true) {j : Nat} {t : TypeId} (ht : l[j]? = some t) : Tryz.prog.wantsStandIn t = false := by
 have := List.all_eq_true.1 h t (by have := Array.mem_of_getElem? ht; simpa using this)
 simpa using this
theorem light_head {t : Nat} {ts : List Nat} {d : DataW H} {ds : List (DataW H)} (h : (DataW.weightsEach Tryz.prog (t :: ts) (d :: ds)).all (· ≤ reachBytes) = true) : Light t d ∧ (DataW.weightsEach Tryz.prog ts ds).all (· ≤ reachBytes) = true := by
 simp only [DataW.weightsEach, List.all_append, Bool.and_eq_true] at h
 exact ⟨fun n hn => by simpa using List.all_eq_true.1 h.1 n hn, h.2⟩
def isPlainD : TypeDesc → Bool
 | .int _ | .bool | .string | .slice _ => true
 | _ => false
theorem not_agg {W : World} {r : Reach} {base t : Nat} {v : Value} {D : TypeDesc} (hu : und t = some D) (hD : isPlainD D = true) (h : Value.okWide Tryz.prog W r base t v) : ∀ cs, v.cells.toList = [cs] → v = cs := fun cs he => by
 cases v with
 | agg arr =>
  exfalso
  unfold Value.okWide at h
  rw [und_ok hu] at h
  cases D <;> first | (revert hD; simp [isPlainD]; done) | (simp only at h; unfold Cell.okWide at h; rw [und_ok hu] at h; simp only at h; unfold Cell.ok at h; rw [und_ok hu] at h; simp at h)
 | _ => simpa [Value.cells] using he
theorem arg_one {W : World} {r : Reach} {base t : Nat} {v : Value} {D : TypeDesc} {α : Type} {e : α → List PV} {d : DataW H} {ps : List MemPlace} (hu : und t = some D) (hD : isPlainD D = true) (hO : Opens eh t e) (h1 : ∀ m, ∃ p, e m = [p]) (h : Value.okWide Tryz.prog W r base t v) (hd : DataW.Trod eh Tryz.prog W 0 (fun _ => true) true t v d ps) (hl : Light t d) : ∃ m, Rps (k0 W) (e m) [v] := by
 obtain ⟨fuel, hf⟩ := hd
 obtain ⟨m, h2, _⟩ := hO W fuel _ _ hf hl
 refine ⟨m, ?_⟩
 obtain ⟨p, hp⟩ := h1 m
 rw [hp] at h2
 generalize hc : v.cells.toList = cs at h2
 obtain ⟨w, ws, rfl, h3, h4⟩ := h2.cons_inv
 rw [h4.nil_inv] at hc
 rw [not_agg hu hD h w hc, hp]
 exact .cons h3 .nil
end
theorem rps_str {κ : Kr} {ps : List PV} {vs : List Value} {k : Nat} {s : ByteArray} (h : Rps κ ps vs) (hk : ps[k]? = some (.v (.string s))) : s.size ≤ 140737488355328 := by
 obtain ⟨v, _, h2⟩ := h.get hk
 exact Nat.le_of_ble_eq_true h2.ok
theorem rps_slc {κ : Kr} {ps : List PV} {vs : List Value} {k mm : Nat} {xs : List (List PV)} (h : Rps κ ps vs) (hk : ps[k]? = some (.slc mm xs)) : xs.length ≤ 140737488355328 := by
 obtain ⟨v, _, h2⟩ := h.get hk
 cases h2 with
 | slc hs hb _ hss => rw [hss.len, hs.len]; exact hb
theorem rps_elem {κ : Kr} {ps : List PV} {vs : List Value} {k mm : Nat} {xs : List (List PV)} {x : List PV} (h : Rps κ ps vs) (hk : ps[k]? = some (.slc mm xs)) (hx : x ∈ xs) : ∃ ds, Rps κ x ds := by
 obtain ⟨v, _, h2⟩ := h.get hk
 cases h2 with
 | slc hs hb _ hss =>
  obtain ⟨i, hi, rfl⟩ := List.getElem_of_mem hx
  obtain ⟨ds, _, h3⟩ := hss.get (List.getElem?_eq_getElem hi)
  exact ⟨ds, h3⟩
end SX
end Go.Proofs.YtiijbkaiipjpkaaGreatDoor
set_option maxRecDepth 100000
namespace Go.Proofs.YtiijbkaiipjpkaaGreatDoor
namespace SX
open Go
theorem awake_ok : law14_awake = some true := by kernel_rfl
theorem strs_of {κ : Kr} {ps : List PV} {vs : List Value} {k : Nat} {l : List ByteArray} (h : Rps κ ps vs) (hk : ps[k]? = some (pL eS l)) : StrsOk l := by
 refine ⟨by have := rps_slc h hk; simpa using this, fun s hs => ?_⟩
 obtain ⟨ds, hd⟩ := rps_elem h hk (List.mem_map_of_mem (f := eS) hs)
 exact rps_str (k := 0) hd rfl
mutual
theorem rok_of {κ : Kr} : ∀ (r : TRule) (ds : List Value), Rps κ (TRule.enc r) ds → ROk r
 | ⟨k, d, e, t, m, n, l⟩, ds, h => by
  rw [TRule.enc_eq] at h
  have hl : l.length ≤ 140737488355328 := by have := rps_slc (k := 6) h rfl; simpa using this
  exact ⟨_, strs_of (k := 2) h rfl, rps_str (k := 5) h rfl, hl, roks_of l (fun a ha => rps_elem (k := 6) h rfl (List.mem_map_of_mem (f := TRule.enc) ha))⟩
theorem roks_of {κ : Kr} : ∀ (l : List TRule), (∀ a ∈ l, ∃ ds, Rps κ (TRule.enc a) ds) → ∀ a ∈ l, ROk a
 | [], _, _, h => by cases h
 | b :: l, h, a, ha => by
  rcases List.mem_cons.1 ha with e | ha
  ·obtain ⟨ds, hd⟩ := h b (by simp)
   rw [e]; exact rok_of b ds hd
  ·exact roks_of l (fun a ha => h a (by simp [ha])) a ha
end
end SX
end Go.Proofs.YtiijbkaiipjpkaaGreatDoor
set_option maxRecDepth 100000
namespace Go.Proofs.YtiijbkaiipjpkaaGreatDoor
namespace SX
open Go
def prefB (s p : ByteArray) : Bool := decide (p.size ≤ s.size) && decide (s.extract 0 p.size = p)
theorem pref_val (s p : ByteArray) : Option.bind (gd (decide ((p.size : Int) ≤ (s.size : Int))) (ssub s 0 (p.size : Int))) (fun s1 => some ((decide ((p.size : Int) ≤ (s.size : Int))) && (decide (s1 = p)))) = some (prefB s p) := by
 unfold prefB
 by_cases h : p.size ≤ s.size
 ·rw [decide_eq_true h, show decide ((p.size : Int) ≤ (s.size : Int)) = true from decide_eq_true (by omega), gd_tt]
  unfold ssub; rw [if_pos (by omega)]; rfl
 ·rw [decide_eq_false h, show decide ((p.size : Int) ≤ (s.size : Int)) = false from decide_eq_false (by omega)]; rfl
theorem prog_pref (s p : ByteArray) : strings_HasPrefix s p = some (prefB s p) := by
 unfold strings_HasPrefix stringslite_HasPrefix; rw [pref_val]; rfl
theorem ref_pref (s p : ByteArray) : ref08_Prefix s p = some (prefB s p) := by unfold ref08_Prefix; exact pref_val s p
def bestStep (l : List TRuleFor) (code : ByteArray) (k : Nat) (x : TRuleFor) (b : Option Nat) : Option Nat :=
 cond (prefB code x.Prefix && (match b with | none => true | some j => decide ((l.getD j x).Prefix.size < x.Prefix.size))) (some k) b
def noE {α : Type} (e : Empty) : α := nomatch e
def bestI (l : List TRuleFor) (code : ByteArray) : Option Nat := outf (fun b => b) noE (run (fun k x b => (.inl (bestStep l code k x b) : Option Nat ⊕ Empty)) l 0 none)
def optI : Option Nat → Int
 | none => -1
 | some j => (j : Int)
theorem optI_neg (b : Option Nat) : decide (optI b < 0) = b.isNone := by
 cases b with
 | none => rfl
 | some j => exact decide_eq_false (by simp only [optI]; omega)
def inB (n : Nat) (b : Option Nat) : Prop := ∀ j, b = some j → j < n
theorem best_in {l : List TRuleFor} {code : ByteArray} {k : Nat} {x : TRuleFor} {b : Option Nat} (h : inB k b) : inB (k + 1) (bestStep l code k x b) := by
 intro j hj
 unfold bestStep at hj
 split at hj
 all_goals (cases hc : (prefB code x.Prefix && _) <;> rw [hc] at hj <;> simp only [cond_true, cond_false] at hj)
 all_goals first | (injection hj with hj; omega) | (have := h j hj; omega) | (cases hj)
theorem bestI_in (l : List TRuleFor) (code : ByteArray) : inB l.length (bestI l code) := by
 have key : ∀ (m : List TRuleFor) (i : Nat) (b : Option Nat), inB i b → inB (i + m.length) (outf (fun b => b) noE (run (fun k x b => (.inl (bestStep l code k x b) : Option Nat ⊕ Empty)) m i b)) := by
  intro m
  induction m with
  | nil => intro i b h; exact h
  | cons x m ih =>
   intro i b h
   rw [run_cons, List.length_cons, show i + (m.length + 1) = (i + 1) + m.length by omega]
   exact ih _ _ (best_in h)
 have := key l 0 none (fun j h => by cases h)
 rwa [Nat.zero_add] at this
theorem prog_best (l : List TRuleFor) (code : ByteArray) (hl : l.length ≤ 140737488355328) {β : Type} (K : Int → Option β) : Option.bind (loopF (S := Int × Int) (T := (Int)) (fun (v3, v4) => cond (decide (v4 < (l.length : Int))) (Option.bind (Option.bind (idx l v4) (fun m11 => Option.bind (strings_HasPrefix code m11.Prefix) (fun x13 => Option.bind (gd (x13 && (!(decide (v3 < 0)))) (idx l v3)) (fun m14 => cond (x13 && ((decide (v3 < 0)) || (decide ((m14.Prefix.size : Int) < (m11.Prefix.size : Int))))) (some v4) (some v3))))) (fun v9 => some (.inl (v9, (IntKind.i64.wrap (v4 + 1)))))) (some (.inr v3))) FUEL ((-1), 0)) K = K (optI (bestI l code)) := by
 have h62 : l.length ≤ 4611686018427387904 := by omega
 refine (run_loop (l := l) h62 (fun i (b : Option Nat) => (optI b, i)) (fun k x b => (.inl (bestStep l code k x b) : Option Nat ⊕ Empty)) optI noE (fun k b => inB k b) none (fun j h => by cases h) (fun k hk b hb => ⟨?_, fun b' h => by injection h with h; rw [← h]; exact best_in hb⟩) (fun b hb => by simp only [dnlt, cond_false])).trans ?_
 ·simp only [dlt hk, cond_true, idx_nat hk, Option.bind_some, prog_pref, wnext hk h62, outc, optI_neg]
  unfold bestStep
  cases hp : prefB code l[k].Prefix
  ·rfl
  ·cases b with
   | none => rfl
   | some j =>
    have hj := hb j rfl
    simp only [Option.isNone_some, Bool.not_false, Bool.and_true, gd_tt, optI, idx_nat (show j < l.length by omega), Option.bind_some, Bool.true_and, Bool.false_or, getD_in (show j < l.length by omega)]
    have e : decide (((l[j]'(by omega)).Prefix.size : Int) < (l[k].Prefix.size : Int)) = decide ((l[j]'(by omega)).Prefix.size < l[k].Prefix.size) := decide_eq_decide.2 (by omega)
    rw [e]
    cases decide ((l[j]'(by omega)).Prefix.size < l[k].Prefix.size) <;> rfl
 ·unfold bestI
  congr 1
  cases run (fun k x b => (.inl (bestStep l code k x b) : Option Nat ⊕ Empty)) l 0 none with
  | inl b => rfl
  | inr e => nomatch e
theorem ref_best (l : List TRuleFor) (code : ByteArray) (hl : l.length ≤ 140737488355328) {β : Type} (K : Int → Option β) : Option.bind (loopF (S := Int × Int) (T := (Int)) (fun (v3, v4) => cond (decide (v4 < (l.length : Int))) (Option.bind (Option.bind (idx l v4) (fun m11 => Option.bind (ref08_Prefix code m11.Prefix) (fun x12 => Option.bind (gd (x12 && (!(decide (v3 < 0)))) (idx l v4)) (fun m13 => Option.bind (gd (x12 && (!(decide (v3 < 0)))) (idx l v3)) (fun m14 => cond (x12 && ((decide (v3 < 0)) || (decide ((m14.Prefix.size : Int) < (m13.Prefix.size : Int))))) (some v4) (some v3)))))) (fun v9 => some (.inl (v9, (IntKind.i64.wrap (v4 + 1)))))) (some (.inr v3))) FUEL ((-1), 0)) K = K (optI (bestI l code)) := by
 have h62 : l.length ≤ 4611686018427387904 := by omega
 refine (run_loop (l := l) h62 (fun i (b : Option Nat) => (optI b, i)) (fun k x b => (.inl (bestStep l code k x b) : Option Nat ⊕ Empty)) optI noE (fun k b => inB k b) none (fun j h => by cases h) (fun k hk b hb => ⟨?_, fun b' h => by injection h with h; rw [← h]; exact best_in hb⟩) (fun b hb => by simp only [dnlt, cond_false])).trans ?_
 ·simp only [dlt hk, cond_true, idx_nat hk, Option.bind_some, ref_pref, wnext hk h62, outc, optI_neg]
  unfold bestStep
  cases hp : prefB code l[k].Prefix
  ·rfl
  ·cases b with
   | none => rfl
   | some j =>
    have hj := hb j rfl
    simp only [Option.isNone_some, Bool.not_false, Bool.and_true, gd_tt, optI, idx_nat (show j < l.length by omega), Option.bind_some, Bool.true_and, Bool.false_or, getD_in (show j < l.length by omega)]
    have e : decide (((l[j]'(by omega)).Prefix.size : Int) < (l[k].Prefix.size : Int)) = decide ((l[j]'(by omega)).Prefix.size < l[k].Prefix.size) := decide_eq_decide.2 (by omega)
    rw [e]
    cases decide ((l[j]'(by omega)).Prefix.size < l[k].Prefix.size) <;> rfl
 ·unfold bestI
  congr 1
  cases run (fun k x b => (.inl (bestStep l code k x b) : Option Nat ⊕ Empty)) l 0 none with
  | inl b => rfl
  | inr e => nomatch e
def opt2 {α : Type} (z : α) : Option α → α × Bool
 | some r => (r, true)
 | none => (z, false)
def zRule : TRule := ⟨0, 0, [], 0, 0, ByteArray.empty, []⟩
def ruleOfS (a : TAgreement) (code : ByteArray) : Option TRule := (bestI a.Rules code).bind fun j => (a.Rules[j]?).map (·.Rule)
theorem ruleOf_cases (a : TAgreement) (code : ByteArray) : (bestI a.Rules code = none ∧ ruleOfS a code = none) ∨ ∃ j, ∃ h : j < a.Rules.length, bestI a.Rules code = some j ∧ ruleOfS a code = some a.Rules[j].Rule := by
 cases hb : bestI a.Rules code with
 | none => left; exact ⟨rfl, by unfold ruleOfS; rw [hb]; rfl⟩
 | some j =>
  have hj := bestI_in a.Rules code j hb
  right; exact ⟨j, hj, rfl, by unfold ruleOfS; rw [hb, Option.bind_some, List.getElem?_eq_getElem hj]; rfl⟩
theorem ref_ruleOf (a : TAgreement) (code : ByteArray) (hl : a.Rules.length ≤ 140737488355328) : ref14_RuleOf a code = some (opt2 zRule (ruleOfS a code)) := by
 unfold ref14_RuleOf
 rw [ref_best _ _ hl]
 rcases ruleOf_cases a code with ⟨h1, h2⟩ | ⟨j, hj, h1, h2⟩
 ·rw [h1, h2]; rfl
 ·rw [h1, h2, optI_neg]; simp only [Option.isNone_some, cond_false, optI, idx_nat hj, Option.bind_some]; rfl
theorem ruleB_len {r : TRule} (h : ruleB r = true) : r.Args.length ≤ 6 ∧ (∀ a ∈ r.Args, ruleB a = true) ∧ r.Except.length ≤ 6 := by
 rw [ruleB_eq, Bool.and_eq_true] at h
 obtain ⟨h1, h2⟩ := h
 unfold plainB at h1
 simp only [Bool.and_eq_true, Bool.or_eq_true] at h1
 obtain ⟨⟨⟨p1, p2⟩, p3⟩, p4⟩ := h1
 have hE : r.Except.length ≤ 6 := by
  rcases p1 with p1 | ⟨⟨_, p1⟩, _⟩
  ·have hk := eq_of_beq p1
   rw [hk] at h2
   simp only [leafB, hk] at h2
   have h3 : codesB r.Except = true := by
    cases hc : codesB r.Except
    ·rw [hc] at h2; simp at h2
    ·rfl
   unfold codesB at h3
   simp only [Bool.and_eq_true, decide_eq_true_eq] at h3
   exact h3.1
  ·have := List.isEmpty_iff.1 p1; rw [this]; simp
 cases h56 : (r.Kind == 5 || r.Kind == 6)
 ·rw [Bool.or_eq_false_iff] at h56
  rcases p4 with (p4 | p4) | p4
  ·rw [h56.1] at p4; cases p4
  ·rw [h56.2] at p4; cases p4
  ·have := List.isEmpty_iff.1 p4; rw [this]; exact ⟨by simp, by simp, hE⟩
 ·rw [h56] at h2
  simp only [cond_true, Bool.and_eq_true, decide_eq_true_eq, List.all_eq_true] at h2
  exact ⟨h2.1.2, fun a ha => (h2.2 a ha).2, hE⟩
theorem clone_F (n : Nat) : ∀ (r : TRule), ruleB r = true → dep r ≤ n → cumulation_cloneRule_F n r = some r := by
 induction n with
 | zero => intro r _ hd; rw [dep_eq] at hd; omega
 | succ n ih =>
  intro r hr hd
  obtain ⟨h1, h2, h3⟩ := ruleB_len hr
  show cumulation_cloneRule_B (cumulation_cloneRule_F n) r = _
  unfold cumulation_cloneRule_B slices_Clone_string_string
  rw [app_nil_ok (by omega) (by omega), Option.bind_some, mk0_ok (by omega) (by omega), Option.bind_some]
  refine (fold_loop (l := r.Args) (by omega) (fun i (a : List TRule) => (a, i)) (fun a x => a ++ [x]) (fun a => a) (fun k a => a.length = k) [] rfl (fun k hk a ha => ⟨?_, by simp [ha]⟩) (fun a ha => by simp only [dnlt, cond_false])).1.trans ?_
  ·simp only [dlt hk, cond_true, idx_nat hk, Option.bind_some, wnext hk (show r.Args.length ≤ 4611686018427387904 by omega)]
   rw [ih _ (h2 _ (List.getElem_mem hk)) (by have := dep_arg (List.getElem_mem hk); omega), Option.bind_some, app_ok (by simp; omega) (by simp; omega)]; rfl
  ·have : ∀ (m acc : List TRule), m.foldl (fun a x => a ++ [x]) acc = acc ++ m := by
    intro m
    induction m with
    | nil => intro acc; simp
    | cons x m ih => intro acc; rw [List.foldl_cons, ih]; simp
   rw [this, List.nil_append]; cases r; rfl
theorem prog_clone (r : TRule) (h : ruleB r = true) (hd : dep r ≤ 1000) : cumulation_cloneRule r = some r := clone_F FUEL r h (by have hf : FUEL = 1267650600228229401496703205376 := rfl; omega)
structure VA (a : TAgreement) : Prop where
 ok : AOk a
 rules : ∀ x ∈ a.Rules, ruleE x.Rule = 0
 len : a.Rules.length ≤ 12 ∧ a.Parties.length ≤ 12
theorem prog_ruleOf (a : TAgreement) (code : ByteArray) (ha : VA a) : cumulation_RuleOf a code = some (opt2 zRule (ruleOfS a code)) := by
 unfold cumulation_RuleOf
 rw [prog_best _ _ ha.ok.len]
 rcases ruleOf_cases a code with ⟨h1, h2⟩ | ⟨j, hj, h1, h2⟩
 ·rw [h1, h2]; rfl
 ·have hm := List.getElem_mem hj
  have hr := ha.ok.rules _ hm
  have hv := ha.rules _ hm
  rw [h1, h2, optI_neg]
  simp only [Option.isNone_some, Bool.not_false, gd_tt, optI, idx_nat hj, Option.bind_some, prog_rule _ hr.rule hr.deep, hv, bne_self_eq_false, Bool.or_self, cond_false, prog_clone _ ((ruleE_zero _).1 hv).2 hr.deep]
  rfl
theorem MA.va {i : Nat} {a : TAgreement} (h : MA i a) : VA a := ⟨h.aok, fun x hx => (ruleE_zero _).2 ⟨by have := (h.good x hx).size; simp only [bnd3] at this; omega, (h.good x hx).valid⟩, by have := P5_len h.pre; omega, by have := h.par.length_le; have h6 : C6.length = 6 := rfl; omega⟩
end SX
end Go.Proofs.YtiijbkaiipjpkaaGreatDoor
set_option maxRecDepth 100000
namespace Go.Proofs.YtiijbkaiipjpkaaGreatDoor
namespace SX
open Go
theorem findS_ix {α T : Type} (p : α → Bool) (f : Nat → T) : ∀ (l : List α) (i : Nat), (findS (fun k x => cond (p x) (some (f k)) none) l i = none ∧ l.find? p = none) ∨ ∃ j, ∃ h : j < l.length, findS (fun k x => cond (p x) (some (f k)) none) l i = some (f (i + j)) ∧ l.find? p = some l[j]
 | [], _ => .inl ⟨rfl, rfl⟩
 | x :: xs, i => by
  rw [findS, List.find?_cons]
  cases hp : p x
  ·rcases findS_ix p f xs (i + 1) with ⟨h1, h2⟩ | ⟨j, hj, h1, h2⟩
   ·exact .inl ⟨h1, h2⟩
   ·exact .inr ⟨j + 1, by simpa using hj, by rw [show i + (j + 1) = i + 1 + j by omega]; exact h1, h2⟩
  ·exact .inr ⟨0, by simp, rfl, rfl⟩
def hasS (l : List ByteArray) (s : ByteArray) : Bool := l.any fun x => decide (x = s)
theorem hasS_iff (l : List ByteArray) (s : ByteArray) : hasS l s = true ↔ s ∈ l := by
 unfold hasS; simp
theorem prog_has (l : List ByteArray) (s : ByteArray) (hl : l.length ≤ 140737488355328) : slices_Contains_string_string l s = some (hasS l s) := by
 unfold slices_Contains_string_string
 have e : slices_Index_string_string l s = some (match findS (fun k x => cond (decide (x = s)) (some (Sum.inr (k : Int) : Unit ⊕ Int)) none) l 0 with | some (.inr k) => k | _ => -1) := by
  unfold slices_Index_string_string
  refine (find_loop (l := l) (by omega) (fun k x => cond (decide (x = s)) (some (.inr (k : Int))) none) (.inl ()) (fun k hk => ?_) (by simp only [dnlt, cond_false])).trans ?_
  ·simp only [dlt hk, cond_true, idx_nat hk, Option.bind_some, wnext hk (show l.length ≤ 4611686018427387904 by omega)]
   have e : decide (s = l[k]) = decide (l[k] = s) := decide_eq_decide.2 eq_comm
   rw [e]; cases decide (l[k] = s) <;> rfl
  ·cases findS (fun k x => cond (decide (x = s)) (some (Sum.inr (k : Int) : Unit ⊕ Int)) none) l 0 with
   | none => rfl
   | some t => cases t <;> rfl
 rw [e, Option.bind_some]
 rcases findS_ix (fun x => decide (x = s)) (fun k => (Sum.inr (k : Int) : Unit ⊕ Int)) l 0 with ⟨h1, h2⟩ | ⟨j, hj, h1, h2⟩
 ·rw [h1]
  have : hasS l s = false := by unfold hasS; rw [List.any_eq_false]; exact fun x hx => by have := List.find?_eq_none.1 h2 x hx; simpa using this
  rw [this]; rfl
 ·rw [h1]
  have : hasS l s = true := by
   have := List.find?_some h2
   rw [hasS_iff]; rw [← of_decide_eq_true this]; exact List.getElem_mem hj
  rw [this]
  show some (decide (0 ≤ ((0 + j : Nat) : Int))) = _
  rw [decide_eq_true (by omega)]
theorem ref_has (l : List ByteArray) (s : ByteArray) (hl : l.length ≤ 140737488355328) : ref08_Has l s = some (hasS l s) := by
 unfold ref08_Has
 refine (find_loop (l := l) (by omega) (fun _ x => cond (decide (x = s)) (some (.inr true)) none) (.inl ()) (fun k hk => ?_) (by simp only [dnlt, cond_false])).trans ?_
 ·simp only [dlt hk, cond_true, idx_nat hk, Option.bind_some, wnext hk (show l.length ≤ 4611686018427387904 by omega)]
  cases decide (l[k] = s) <;> rfl
 ·rw [findS_any (fun x => decide (x = s))]
  unfold hasS; cases (l.any fun x => decide (x = s)) <;> rfl
def findA (l : List TAgreement) (id : Int) : Option TAgreement := l.find? fun a => a.ID == id
def zAgr : TAgreement := ⟨0, 0, [], []⟩
theorem ref_findA (l : List TAgreement) (id : Int) (hl : l.length ≤ 140737488355328) : ref14_Agreement l id = some (opt2 zAgr (findA l id)) := by
 unfold ref14_Agreement findA
 refine (find_loop (l := l) (by omega) (fun _ x => cond (x.ID == id) (some (.inr (x, true))) none) (.inl ()) (fun k hk => ?_) (by simp only [dnlt, cond_false])).trans ?_
 ·simp only [dlt hk, cond_true, idx_nat hk, Option.bind_some, wnext hk (show l.length ≤ 4611686018427387904 by omega)]
  cases (l[k].ID == id) <;> rfl
 ·rw [findS_find (fun x : TAgreement => x.ID == id) (fun x => (Sum.inr (x, true) : Unit ⊕ (TAgreement × Bool)))]
  cases l.find? (fun x : TAgreement => x.ID == id) <;> rfl
theorem prog_findA (l : List TAgreement) (id : Int) (hl : l.length ≤ 140737488355328) : cumulation_find l id = some (opt2 zAgr (findA l id)) := by
 unfold cumulation_find findA
 have e : slices_IndexFunc_api_Agreement_api_Agreement l (fun y3 => cumulation_find_1 y3 id) = some (match findS (fun k (x : TAgreement) => cond (x.ID == id) (some (Sum.inr (k : Int) : Unit ⊕ Int)) none) l 0 with | some (.inr k) => k | _ => -1) := by
  unfold slices_IndexFunc_api_Agreement_api_Agreement cumulation_find_1
  refine (find_loop (l := l) (by omega) (fun k x => cond (x.ID == id) (some (.inr (k : Int))) none) (.inl ()) (fun k hk => ?_) (by simp only [dnlt, cond_false])).trans ?_
  ·simp only [dlt hk, cond_true, idx_nat hk, Option.bind_some, wnext hk (show l.length ≤ 4611686018427387904 by omega)]
   cases (l[k].ID == id) <;> rfl
  ·cases findS (fun k (x : TAgreement) => cond (x.ID == id) (some (Sum.inr (k : Int) : Unit ⊕ Int)) none) l 0 with
   | none => rfl
   | some t => cases t <;> rfl
 rw [e, Option.bind_some]
 rcases findS_ix (fun x : TAgreement => x.ID == id) (fun k => (Sum.inr (k : Int) : Unit ⊕ Int)) l 0 with ⟨h1, h2⟩ | ⟨j, hj, h1, h2⟩
 ·rw [h1, h2]; rfl
 ·rw [h1, h2]
  show cond (decide (((0 + j : Nat) : Int) < 0)) _ (Option.bind (idx l ((0 + j : Nat) : Int)) _) = _
  rw [decide_eq_false (by omega), Nat.zero_add, idx_nat hj]; rfl
def zipB {α : Type} (R : α → α → Bool) : List α → List α → Bool
 | [], _ => true
 | _ :: _, [] => true
 | x :: a, y :: b => R x y && zipB R a b
def eqLB {α : Type} (R : α → α → Bool) (a b : List α) : Bool := a.length == b.length && zipB R a b
theorem findS_zip {α T : Type} (R : α → α → Bool) (t : T) (B : List α) : ∀ (a b : List α) (i : Nat), B.drop i = b → a.length = b.length → findS (fun k x => cond (R x (B.getD k x)) none (some t)) a i = cond (zipB R a b) none (some t)
 | [], b, _, _, _ => by cases b <;> rfl
 | x :: a, [], _, _, h => by simp at h
 | x :: a, y :: b, i, hd, h => by
  have hi : i < B.length := by
   rcases Nat.lt_or_ge i B.length with h | h
   ·exact h
   ·rw [List.drop_of_length_le h] at hd; cases hd
  rw [List.drop_eq_getElem_cons hi] at hd
  injection hd with h1 h2
  rw [findS, zipB, getD_in hi, h1, findS_zip R t B a b (i + 1) h2 (by simpa using h)]
  cases R x y <;> rfl
theorem eqLB_iff {α : Type} {R : α → α → Bool} : ∀ {a b : List α}, (∀ x ∈ a, ∀ y ∈ b, R x y = true ↔ x = y) → (eqLB R a b = true ↔ a = b)
 | [], [], _ => by simp [eqLB, zipB]
 | [], y :: b, _ => by simp [eqLB]
 | x :: a, [], _ => by simp [eqLB]
 | x :: a, y :: b, h => by
  have ih := eqLB_iff (R := R) (a := a) (b := b) fun u hu v hv => h u (by simp [hu]) v (by simp [hv])
  have h0 := h x (by simp) y (by simp)
  unfold eqLB at ih ⊢
  rw [zipB]
  simp only [List.length_cons, Bool.and_eq_true, beq_iff_eq, Nat.add_right_cancel_iff, List.cons.injEq] at ih ⊢
  constructor
  ·rintro ⟨h1, h2, h3⟩; exact ⟨h0.1 h2, ih.1 ⟨h1, h3⟩⟩
  ·rintro ⟨h1, h2⟩; exact ⟨(ih.2 h2).1, h0.2 h1, (ih.2 h2).2⟩
theorem len_beq {α : Type} (a b : List α) : ((a.length : Int) != (b.length : Int)) = !(a.length == b.length) := by
 by_cases h : a.length = b.length
 ·rw [h]; simp
 ·have h2 : ¬ (a.length : Int) = (b.length : Int) := by omega
  have e1 : (a.length == b.length) = false := by simpa using h
  have e2 : ((a.length : Int) == (b.length : Int)) = false := by simpa using h2
  rw [e1, bne, e2]
theorem eq_loop {α : Type} {a b : List α} (ha : a.length ≤ 140737488355328) (R : α → α → Bool) {body : Int → Option (Int ⊕ (Unit ⊕ Bool))} {k : Unit ⊕ Bool → Option Bool} (hk : k (.inl ()) = some true ∧ k (.inr false) = some false) (hab : a.length = b.length)
    (hstep : ∀ (k : Nat) (hk : k < a.length) (hk2 : k < b.length), body (k : Int) = some (outg k (cond (R a[k] b[k]) none (some (.inr false))))) (hend : body (a.length : Int) = some (.inr (.inl ()))) : Option.bind (loopF body FUEL 0) k = some (zipB R a b) := by
  refine (find_loop (l := a) (by omega) (fun i x => cond (R x (b.getD i x)) none (some (.inr false))) (.inl ()) (fun i hi => ?_) hend).trans ?_
  · rw [hstep i hi (by omega), getD_in (show i < b.length by omega)]
  · rw [findS_zip R (Sum.inr false : Unit ⊕ Bool) b a b 0 rfl hab]
    cases zipB R a b
    · exact hk.2
    · exact hk.1
theorem sameStrings_ok (a b : List ByteArray) (ha : a.length ≤ 140737488355328) : ref08_SameStrings a b = some (decide (a = b)) := by
 have hiff : eqLB (fun x y => decide (x = y)) a b = decide (a = b) := by
  have := eqLB_iff (R := fun x y : ByteArray => decide (x = y)) (a := a) (b := b) (fun x _ y _ => by simp)
  cases h : eqLB (fun x y => decide (x = y)) a b
  ·rw [h] at this; exact (decide_eq_false fun e => by have := this.2 e; cases this).symm
  ·exact (decide_eq_true (this.1 h)).symm
 rw [← hiff]
 unfold ref08_SameStrings eqLB
 rw [len_beq]
 cases h : (a.length == b.length)
 ·rfl
 ·simp only [Bool.not_true, cond_false, Bool.true_and]
  refine eq_loop ha _ ⟨rfl, rfl⟩ (eq_of_beq h) (fun k hk hk2 => ?_) (by simp only [dnlt, cond_false])
  simp only [dlt hk, cond_true, idx_nat hk, idx_nat hk2, Option.bind_some, wnext hk (show a.length ≤ 4611686018427387904 by omega)]
  cases decide (a[k] = b[k]) <;> rfl
theorem equalStrings_ok (a b : List ByteArray) (ha : a.length ≤ 140737488355328) : slices_Equal_string_string a b = some (decide (a = b)) := by
 rw [← sameStrings_ok a b ha]; rfl
theorem sameInts_ok (a b : List Int) (ha : a.length ≤ 140737488355328) : ref02_Same a b = some (decide (a = b)) := by
 have hiff : eqLB (fun x y : Int => x == y) a b = decide (a = b) := by
  have := eqLB_iff (R := fun x y : Int => x == y) (a := a) (b := b) (fun x _ y _ => by simp)
  cases h : eqLB (fun x y : Int => x == y) a b
  ·rw [h] at this; exact (decide_eq_false fun e => by have := this.2 e; cases this).symm
  ·exact (decide_eq_true (this.1 h)).symm
 rw [← hiff]
 unfold ref02_Same eqLB
 rw [len_beq]
 cases h : (a.length == b.length)
 ·rfl
 ·simp only [Bool.not_true, cond_false, Bool.true_and]
  refine eq_loop ha _ ⟨rfl, rfl⟩ (eq_of_beq h) (fun k hk hk2 => ?_) (by simp only [dnlt, cond_false])
  simp only [dlt hk, cond_true, idx_nat hk, idx_nat hk2, Option.bind_some, wnext hk (show a.length ≤ 4611686018427387904 by omega), bne]
  cases (a[k] == b[k]) <;> rfl
mutual
def ruleEq : TRule → TRule → Bool
 | ⟨k, d, e, t, m, n, l⟩, ⟨k', d', e', t', m', n', l'⟩ => k == k' && d == d' && t == t' && m == m' && decide (n = n') && decide (e = e') && rulesEq l l'
def rulesEq : List TRule → List TRule → Bool
 | [], [] => true
 | [], _ :: _ => false
 | _ :: _, [] => false
 | a :: l, b :: m => ruleEq a b && rulesEq l m
end
mutual
theorem ruleEq_iff : ∀ a b : TRule, ruleEq a b = true ↔ a = b
 | ⟨k, d, e, t, m, n, l⟩, ⟨k', d', e', t', m', n', l'⟩ => by
  rw [ruleEq]
  simp only [Bool.and_eq_true, beq_iff_eq, decide_eq_true_eq, rulesEq_iff l l', TRule.mk.injEq]
  constructor
  ·rintro ⟨⟨⟨⟨⟨⟨h1, h2⟩, h3⟩, h4⟩, h5⟩, h6⟩, h7⟩; exact ⟨h1, h2, h6, h3, h4, h5, h7⟩
  ·rintro ⟨h1, h2, h6, h3, h4, h5, h7⟩; exact ⟨⟨⟨⟨⟨⟨h1, h2⟩, h3⟩, h4⟩, h5⟩, h6⟩, h7⟩
theorem rulesEq_iff : ∀ a b : List TRule, rulesEq a b = true ↔ a = b
 | [], [] => by simp [rulesEq]
 | [], _ :: _ => by simp [rulesEq]
 | _ :: _, [] => by simp [rulesEq]
 | a :: l, b :: m => by rw [rulesEq, Bool.and_eq_true, ruleEq_iff a b, rulesEq_iff l m, List.cons.injEq]
end
theorem rulesEq_zip : ∀ a b : List TRule, rulesEq a b = eqLB ruleEq a b
 | [], [] => by simp [rulesEq, eqLB, zipB]
 | [], _ :: _ => by simp [rulesEq, eqLB]
 | _ :: _, [] => by simp [rulesEq, eqLB]
 | a :: l, b :: m => by
  rw [rulesEq, rulesEq_zip l m]
  unfold eqLB
  rw [zipB, List.length_cons, List.length_cons]
  have : (l.length + 1 == m.length + 1) = (l.length == m.length) := by
   cases h : (l.length == m.length)
   ·have := (beq_eq_false_iff_ne).1 h; exact beq_eq_false_iff_ne.2 (by omega)
   ·have := eq_of_beq h; rw [this]; simp
  rw [this]
  cases ruleEq a b <;> cases (l.length == m.length) <;> rfl
theorem ruleEq_def (a b : TRule) : ruleEq a b = (a.Kind == b.Kind && a.Digits == b.Digits && a.Tolerance == b.Tolerance && a.Limit == b.Limit && decide (a.Name = b.Name) && decide (a.Except = b.Except) && eqLB ruleEq a.Args b.Args) := by
 cases a; cases b; rw [ruleEq, rulesEq_zip]
theorem sameRule_F (n : Nat) : ∀ (a b : TRule), ROk a → dep a ≤ n → ref12_SameRule_F n a b = some (ruleEq a b) := by
 induction n with
 | zero => intro a b _ hd; rw [dep_eq] at hd; omega
 | succ n ih =>
  intro a b ha hd
  show ref12_SameRule_B (ref12_SameRule_F n) a b = _
  unfold ref12_SameRule_B
  rw [sameStrings_ok _ _ ha.ex.1, ruleEq_def, len_beq]
  simp only [bne]
  have hl := ha.len
  cases (a.Kind == b.Kind)
  ·rfl
  cases (a.Digits == b.Digits)
  ·rfl
  cases (a.Tolerance == b.Tolerance)
  ·rfl
  cases (a.Limit == b.Limit)
  ·rfl
  cases decide (a.Name = b.Name)
  ·rfl
  simp only [Bool.not_true, Bool.or_self, Bool.not_false, gd_tt, Option.bind_some, Bool.false_or, Bool.and_self, Bool.true_and]
  cases decide (a.Except = b.Except)
  ·rfl
  unfold eqLB
  cases h : (a.Args.length == b.Args.length)
  ·rfl
  simp only [Bool.not_true, Bool.or_self, cond_false, Bool.true_and]
  refine eq_loop hl _ ⟨rfl, rfl⟩ (eq_of_beq h) (fun k hk hk2 => ?_) (by simp only [dnlt, cond_false])
  simp only [dlt hk, cond_true, idx_nat hk, idx_nat hk2, Option.bind_some, wnext hk (show a.Args.length ≤ 4611686018427387904 by omega)]
  rw [ih _ _ (ha.arg (List.getElem_mem hk)) (by have := dep_arg (List.getElem_mem hk); omega), Option.bind_some]
  cases ruleEq a.Args[k] b.Args[k] <;> rfl
theorem equalRule_F (n : Nat) : ∀ (a b : TRule), ROk a → dep a ≤ n → cumulation_equalRule_F n a b = some (ruleEq a b) := by
 induction n with
 | zero => intro a b _ hd; rw [dep_eq] at hd; omega
 | succ n ih =>
  intro a b ha hd
  have hl := ha.len
  have hA : slices_EqualFunc_api_Rule_api_Rule_api_Rule_api_Rule a.Args b.Args (fun y4 y5 => cumulation_equalRule_F n y4 y5) = some (eqLB ruleEq a.Args b.Args) := by
   unfold slices_EqualFunc_api_Rule_api_Rule_api_Rule_api_Rule eqLB
   rw [len_beq]
   cases h : (a.Args.length == b.Args.length)
   ·rfl
   simp only [Bool.not_true, cond_false, Bool.true_and]
   refine eq_loop hl _ ⟨rfl, rfl⟩ (eq_of_beq h) (fun k hk hk2 => ?_) (by simp only [dnlt, cond_false])
   simp only [dlt hk, cond_true, idx_nat hk, idx_nat hk2, Option.bind_some, wnext hk (show a.Args.length ≤ 4611686018427387904 by omega)]
   rw [ih _ _ (ha.arg (List.getElem_mem hk)) (by have := dep_arg (List.getElem_mem hk); omega), Option.bind_some]
   cases ruleEq a.Args[k] b.Args[k] <;> rfl
  show cumulation_equalRule_B (cumulation_equalRule_F n) a b = _
  unfold cumulation_equalRule_B
  rw [equalStrings_ok _ _ ha.ex.1, ruleEq_def, hA]
  cases (a.Kind == b.Kind && a.Digits == b.Digits && a.Tolerance == b.Tolerance && a.Limit == b.Limit && decide (a.Name = b.Name))
  ·rfl
  cases decide (a.Except = b.Except)
  ·rfl
  cases eqLB ruleEq a.Args b.Args <;> rfl
def rfEq (x y : TRuleFor) : Bool := decide (x.Prefix = y.Prefix) && ruleEq x.Rule y.Rule
theorem ref_sameRules (a b : List TRuleFor) (ha : a.length ≤ 140737488355328) (hr : ∀ x ∈ a, RFOk x) : ref14_sameRules a b = some (eqLB rfEq a b) := by
 unfold ref14_sameRules eqLB
 rw [len_beq]
 cases h : (a.length == b.length)
 ·rfl
 simp only [Bool.not_true, cond_false, Bool.true_and]
 refine eq_loop ha _ ⟨rfl, rfl⟩ (eq_of_beq h) (fun k hk hk2 => ?_) (by simp only [dnlt, cond_false])
 have hx := hr _ (List.getElem_mem hk)
 simp only [dlt hk, cond_true, idx_nat hk, idx_nat hk2, Option.bind_some, wnext hk (show a.length ≤ 4611686018427387904 by omega), rfEq]
 cases decide (a[k].Prefix = b[k].Prefix)
 ·rfl
 ·have e : ref12_SameRule a[k].Rule b[k].Rule = some (ruleEq a[k].Rule b[k].Rule) := sameRule_F FUEL _ _ hx.rule (by have hf : FUEL = 1267650600228229401496703205376 := rfl; have := hx.deep; omega)
  simp only [Bool.not_true, Bool.not_false, gd_tt, Option.bind_some, e, Bool.false_or, Bool.true_and]
  cases ruleEq a[k].Rule b[k].Rule <;> rfl
theorem prog_sameRules (a b : List TRuleFor) (ha : a.length ≤ 140737488355328) (hr : ∀ x ∈ a, RFOk x) (hv : ∀ x ∈ a, ruleE x.Rule = 0) : cumulation_equalRules a b = some (eqLB rfEq a b) := by
 unfold cumulation_equalRules slices_EqualFunc_api_RuleFor_api_RuleFor_api_RuleFor_api_RuleFor eqLB
 rw [len_beq]
 cases h : (a.length == b.length)
 ·rfl
 simp only [Bool.not_true, cond_false, Bool.true_and]
 rw [eq_loop ha rfEq ⟨rfl, rfl⟩ (eq_of_beq h) (fun k hk hk2 => ?_) (by simp only [dnlt, cond_false])]
 ·rfl
 have hx := hr _ (List.getElem_mem hk)
 have hxv := hv _ (List.getElem_mem hk)
 simp only [dlt hk, cond_true, idx_nat hk, idx_nat hk2, Option.bind_some, wnext hk (show a.length ≤ 4611686018427387904 by omega), rfEq]
 unfold cumulation_equalRules_1
 cases decide (a[k].Prefix = b[k].Prefix)
 ·rfl
 ·have e : cumulation_equalRule a[k].Rule b[k].Rule = some (ruleEq a[k].Rule b[k].Rule) := equalRule_F FUEL _ _ hx.rule (by have hf : FUEL = 1267650600228229401496703205376 := rfl; have := hx.deep; omega)
  simp only [gd_tt, prog_rule _ hx.rule hx.deep, hxv, Option.bind_some, beq_self_eq_true, Bool.and_self, e, Bool.true_and]
  cases ruleEq a[k].Rule b[k].Rule <;> rfl
end SX
end Go.Proofs.YtiijbkaiipjpkaaGreatDoor
set_option maxRecDepth 100000
namespace Go.Proofs.YtiijbkaiipjpkaaGreatDoor
namespace SX
open Go
def Digs (l : List Int) : Prop := ∀ x ∈ l, 48 ≤ x ∧ x ≤ 57
theorem code_Y {p : Tmade_Source} (hp : SOK p) (n : Nat) (hn : n = 6 ∨ n = 8) : Y (made_Source_Code p (n : Int)) (fun r => (∃ l : List Int, r.1 = strOfNums l ∧ l.length = n ∧ Digs l) ∧ SOK r.2) := by
 unfold made_Source_Code
 refine (next_Y hp 2 (by omega) (by omega)).bind fun a ⟨a1, a2, a3⟩ => ?_
 rw [i64s (by omega) (by omega), wrap_u8 (by omega)]
 refine Y.bind (P := fun t : List Int × List Int × Int => t.1.length = n ∧ Digs t.1 ∧ SOK ⟨t.2.1, t.2.2⟩) ?_ fun t ⟨t1, t2, t3⟩ => ?_
 ·refine Y.loop (fun s : List Int × List Int × Int => (s.1.length % 2 = 0 ∧ s.1.length ≤ n) ∧ Digs s.1 ∧ SOK ⟨s.2.1, s.2.2⟩) (fun s => n - s.1.length) ⟨⟨by simp, by simp; omega⟩, fun x hx => by simp at hx; omega, a3⟩ (by dsimp only; omega) fun s hs => ?_
  obtain ⟨l, m, i⟩ := s
  obtain ⟨⟨s0, s1⟩, s2, s3⟩ := hs
  dsimp only at s0 s1 s2 s3 ⊢
  refine Y.cond (fun hc => ?_) (fun hc => Y.ret ⟨by have := of_decide_eq_false hc; dsimp only; omega, s2, s3⟩)
  have hc := of_decide_eq_true hc
  refine (next_Y s3 3 (by omega) (by omega)).bind fun x ⟨x1, x2, x3⟩ => ?_
  rw [app_ok (by simp; omega) (by simp; omega), Option.bind_some, i64s (by omega) (by omega), wrap_u8 (by omega)]
  refine Y.ret ⟨⟨⟨by simp; omega, by simp; omega⟩, fun z hz => ?_, x3⟩, by simp; omega⟩
  rcases List.mem_append.1 hz with hz | hz
  ·exact s2 z hz
  ·simp only [List.mem_cons, List.not_mem_nil, or_false] at hz; omega
 ·obtain ⟨l, m, i⟩ := t
  exact Y.ret ⟨⟨l, rfl, t1, t2⟩, t3⟩
theorem code_lvl {l : List Int} {n : Nat} (hn : n = 6 ∨ n = 8) (h1 : l.length = n) (h2 : Digs l) : level (strOfNums l) = (n : Int) ∧ (strOfNums l).size = n := by
 have hs : (strOfNums l).size = n := by
  unfold strOfNums
  show (Array.mk _).size = n
  simp [h1]
 have hd : allDig (strOfNums l) = true := by
  unfold allDig bl strOfNums
  rw [List.all_eq_true]
  intro c hc
  simp only [List.mem_map] at hc
  obtain ⟨x, hx, rfl⟩ := hc
  have := h2 x hx
  have h3 : (UInt8.ofNat x.toNat).toNat = x.toNat := by
   rw [UInt8.toNat_ofNat']; omega
  simp only [isDig, h3, decide_eq_true_eq]
  omega
 refine ⟨?_, hs⟩
 unfold level
 rw [if_pos ⟨by omega, hd⟩, hs]
def W5 : List ByteArray := [(⟨#[97, 110, 100]⟩ : ByteArray), (⟨#[99, 117, 116]⟩ : ByteArray), (⟨#[111, 114]⟩ : ByteArray), (⟨#[115, 101, 119]⟩ : ByteArray), (⟨#[115, 112, 105, 110]⟩ : ByteArray)]
theorem processes_Y {p : Tmade_Source} (hp : SOK p) : Y (made_Source_processes p) (fun r => r.1.Sublist W5 ∧ SOK r.2) := by
 unfold made_Source_processes
 refine (next_Y hp 32 (by omega) (by omega)).bind fun a ⟨a1, a2, a3⟩ => ?_
 refine Y.bind (P := fun l : List ByteArray => l.Sublist W5) ?_ fun l hl => Y.ret ⟨hl, a3⟩
 refine Y.loop (fun s => ∃ v : Nat, s.2 = (v : Int) ∧ v ≤ 5 ∧ s.1.Sublist (W5.take v)) (fun s => (5 - s.2).toNat) ⟨0, rfl, by omega, List.Sublist.refl _⟩ (by dsimp only; omega) fun s hs => ?_
 obtain ⟨l, i⟩ := s
 obtain ⟨v, rfl, h1, h2⟩ := hs
 dsimp only at h2 ⊢
 have hlen : l.length ≤ 5 := by have := h2.length_le; have h6 : W5.length = 5 := rfl; rw [List.length_take] at this; omega
 refine Y.cond (fun hc => ?_) (fun hc => Y.ret (h2.trans (List.take_sublist _ _)))
 have hv : v < 5 := by have := of_decide_eq_true hc; omega
 have hs := sublist_take h2 (show v < W5.length from hv)
 refine Y.bind (P := fun m : List ByteArray => m.Sublist (W5.take (v + 1))) (Y.eq (ge0_nat v) (Y.cond (fun _ => ?_) fun _ => Y.ret hs.2)) fun m hm => Y.ret ⟨⟨v + 1, ?_, by omega, hm⟩, ?_⟩
 ·refine Y.idx (xs := W5) rfl (show v < W5.length from hv) ?_
  rw [app_ok (by simp; omega) (by simp; omega)]; exact Y.ret hs.1
 ·show IntKind.i64.wrap ((v : Int) + 1) = _; rw [i64s (by omega) (by omega)]; omega
 ·show (5 - IntKind.i64.wrap ((v : Int) + 1)).toNat < (5 - (v : Int)).toNat; rw [i64s (by omega) (by omega)]; omega
theorem codeN {x : Int} (h1 : 0 ≤ x) (h2 : x < 2) : ∃ n : Nat, (n = 6 ∨ n = 8) ∧ IntKind.i64.wrap (6 + IntKind.i64.wrap (2 * x)) = (n : Int) := by
 rw [i64s (r := 2 * x) (by omega) (by omega), i64s (by omega) (by omega)]
 exact ⟨(6 + 2 * x).toNat, by omega, by omega⟩
end SX
end Go.Proofs.YtiijbkaiipjpkaaGreatDoor
set_option maxRecDepth 100000
namespace Go.Proofs.YtiijbkaiipjpkaaGreatDoor
namespace SX
open Go
structure MProd (n : Nat) (i : Nat) (p : TProduct) : Prop where
 id : p.ID = 3 * ((i : Int) + 1)
 lvl : (level p.Code = 6 ∨ level p.Code = 8) ∧ 6 ≤ p.Code.size ∧ p.Code.size ≤ 8
 ctr : p.Country ∈ C6
 price : 1 ≤ p.Price ∧ p.Price ≤ 200
 proc : p.Processes.Sublist W5
 few : p.Inputs.length ≤ 4
 asc : p.Inputs.Pairwise fun a b => a.Product < b.Product
 inp : ∀ x ∈ p.Inputs, (∃ k : Nat, k < n ∧ x.Product = 3 * ((k : Int) + 1)) ∧ 0 ≤ x.Value ∧ x.Value < 100
 obt : p.Obtained = true → p.Inputs = []
structure MPs (l : List TProduct) : Prop where
 len : 1 ≤ l.length ∧ l.length ≤ 10
 all : ∀ (i : Nat) (p : TProduct), l[i]? = some p → MProd l.length i p
theorem plan_Y (p0 : List Int) : Y (made_Plan p0) MPs := by
 unfold made_Plan
 refine (cut_Y p0 300 (by omega) (by omega)).bind fun x1 hx1 => ?_
 refine (next_Y hx1 10 (by omega) (by omega)).bind fun x3 ⟨a1, a2, a3⟩ => ?_
 rw [i64s (r := 1 + x3.1) (by omega) (by omega)]
 obtain ⟨n, hn⟩ : ∃ n : Nat, 1 + x3.1 = (n : Int) := ⟨(1 + x3.1).toNat, by omega⟩
 rw [hn]
 have hn1 : 1 ≤ n ∧ n ≤ 10 := by omega
 refine Y.bind (P := MPs) ?_ fun l hl => Y.ret hl
 refine Y.loop (fun s : List TProduct × Int × List Int × Int => (s.2.1 = (s.1.length : Int) + 1 ∧ s.1.length ≤ n) ∧ SOK ⟨s.2.2.1, s.2.2.2⟩ ∧ ∀ i p, s.1[i]? = some p → MProd n i p) (fun s => n - s.1.length) ⟨⟨rfl, by simp⟩, a3, by simp⟩ (by dsimp only; omega) fun s hs => ?_
 obtain ⟨l5, v8, l9, v10⟩ := s
 obtain ⟨⟨h1, h2⟩, h3, h4⟩ := hs
 dsimp only at h1 h2 h3 h4 ⊢
 refine Y.cond (fun hc => ?_) (fun hc => Y.ret ?_)
 rotate_left
 ·have hc := of_decide_eq_false hc
  have e : l5.length = n := by omega
  exact ⟨by omega, by rw [e]; exact h4⟩
 have hc := of_decide_eq_true hc
 refine (next_Y h3 2 (by omega) (by omega)).bind fun x19 ⟨b1, b2, b3⟩ => ?_
 obtain ⟨w, hw, e⟩ := codeN b1 b2
 rw [e]
 refine (code_Y b3 w hw).bind fun x20 ⟨⟨cl, hc1, hc2, hc3⟩, hx20⟩ => ?_
 have hcode := code_lvl hw hc2 hc3
 refine Y.eq countries_ok ?_
 refine (next_Y hx20 4 (by omega) (by omega)).bind fun x22 ⟨c1, c2, c3⟩ => ?_
 obtain ⟨j, hj⟩ : ∃ j : Nat, x22.1 = (j : Int) := ⟨x22.1.toNat, by omega⟩
 refine Y.idx hj (show j < C6.length by have h6 : C6.length = 6 := rfl; omega) ?_
 refine (next_Y c3 200 (by omega) (by omega)).bind fun x24 ⟨d1, d2, d3⟩ => ?_
 refine (processes_Y d3).bind fun x25 ⟨hpr, hx25⟩ => ?_
 refine (next_Y hx25 4 (by omega) (by omega)).bind fun x26 ⟨_, _, h26⟩ => ?_
 refine (next_Y h26 1024 (by omega) (by omega)).bind fun x28 ⟨_, _, h28⟩ => ?_
 refine Y.bind (P := fun t : List Int × Int × List TIngredient => SOK ⟨t.1, t.2.1⟩ ∧ t.2.2.length ≤ 4 ∧ (t.2.2.Pairwise fun a b => a.Product < b.Product) ∧ (∀ x ∈ t.2.2, (∃ k : Nat, k < n ∧ x.Product = 3 * ((k : Int) + 1)) ∧ 0 ≤ x.Value ∧ x.Value < 100) ∧ ((x26.1 == 1) = true → t.2.2 = [])) ?_ fun t ⟨t1, t2, t3, t4, t5⟩ => ?_
 ·refine Y.loop (fun s : Int × List Int × Int × List TIngredient => ∃ v : Nat, s.1 = (v : Int) + 1 ∧ v ≤ n ∧ SOK ⟨s.2.1, s.2.2.1⟩ ∧ s.2.2.2.length ≤ 4 ∧ (s.2.2.2.Pairwise fun a b => a.Product < b.Product) ∧ (∀ x ∈ s.2.2.2, (∃ k : Nat, k < v ∧ x.Product = 3 * ((k : Int) + 1)) ∧ 0 ≤ x.Value ∧ x.Value < 100) ∧ ((x26.1 == 1) = true → s.2.2.2 = [])) (fun s => (n + 1 - s.1).toNat) ⟨0, rfl, by omega, h28, by simp, List.Pairwise.nil, by simp, fun _ => rfl⟩ (by dsimp only; omega) fun s hs => ?_
  obtain ⟨i, l, k, m⟩ := s
  obtain ⟨v, rfl, s1, s2, s3, s4, s5, s6⟩ := hs
  dsimp only at s2 s3 s4 s5 s6 ⊢
  refine Y.cond (fun hc3 => ?_) (fun hc3 => Y.ret ⟨s2, s3, s4, fun x hx => ?_, s6⟩)
  rotate_left
  ·obtain ⟨⟨k, h5, h6⟩, h7⟩ := s5 x hx; exact ⟨⟨k, by omega, h6⟩, h7⟩
  simp only [Bool.and_eq_true, decide_eq_true_eq, Bool.not_eq_true'] at hc3
  obtain ⟨⟨hc4, hc5⟩, hc6⟩ := hc3
  rw [i64s (r := (v : Int) + 1 - 1) (by omega) (by omega), i64s (r := (v : Int) + 1 + 1) (by omega) (by omega), i64s (r := 3 * ((v : Int) + 1)) (by omega) (by omega)]
  refine Y.bind (P := fun t : List Int × Int × List TIngredient => SOK ⟨t.1, t.2.1⟩ ∧ t.2.2.length ≤ 4 ∧ (t.2.2.Pairwise fun a b => a.Product < b.Product) ∧ (∀ x ∈ t.2.2, (∃ k : Nat, k < v + 1 ∧ x.Product = 3 * ((k : Int) + 1)) ∧ 0 ≤ x.Value ∧ x.Value < 100)) ?_ fun t ⟨t1, t2, t3, t4⟩ => Y.ret ⟨⟨v + 1, by dsimp only; omega, by omega, t1, t2, t3, t4, fun h => by rw [hc6] at h; cases h⟩, by dsimp only; omega⟩
  rw [show (v : Int) + 1 - 1 = (v : Int) by omega]
  refine Y.eq (ge0_nat v) ?_
  refine Y.bind (P := fun r : Int × Tmade_Source => SOK r.2) (Y.gdp (fun _ => (next_Y s2 3 (by omega) (by omega)).mono fun r hr => hr.2.2) fun _ => s2) fun x56 hx56 => ?_
  refine Y.cond (fun _ => ?_) (fun _ => Y.ret ⟨hx56, s3, s4, fun x hx => ?_⟩)
  rotate_left
  ·obtain ⟨⟨k, h5, h6⟩, h7⟩ := s5 x hx; exact ⟨⟨k, by omega, h6⟩, h7⟩
  refine (next_Y hx56 100 (by omega) (by omega)).bind fun x58 ⟨e1, e2, e3⟩ => ?_
  rw [app_ok (by simp; omega) (by simp; omega), Option.bind_some]
  refine Y.ret ⟨e3, by simp; omega, ?_, fun x hx => ?_⟩
  ·rw [List.pairwise_append]
   refine ⟨s4, List.pairwise_singleton _ _, fun a ha b hb => ?_⟩
   rw [List.mem_singleton.1 hb]
   obtain ⟨⟨k, h5, h6⟩, _⟩ := s5 a ha
   dsimp only; omega
  ·rcases List.mem_append.1 hx with hx | hx
   ·obtain ⟨⟨k, h5, h6⟩, h7⟩ := s5 x hx; exact ⟨⟨k, by omega, h6⟩, h7⟩
   ·rw [List.mem_singleton.1 hx]; exact ⟨⟨v, by omega, rfl⟩, e1, e2⟩
 obtain ⟨l37, v38, l42⟩ := t
 dsimp only at t1 t2 t3 t4 t5 ⊢
 rw [app_ok (by simp; omega) (by simp; omega), Option.bind_some, i64s (r := v8 + 1) (by omega) (by omega), i64s (r := 1 + x24.1) (by omega) (by omega), i64s (r := 3 * v8) (by omega) (by omega)]
 refine Y.ret ⟨⟨⟨by simp; omega, by simp; omega⟩, t1, fun i p hp => ?_⟩, by simp; omega⟩
 rw [List.getElem?_append] at hp
 split at hp
 ·exact h4 i p hp
 ·rename_i hi
  have hi0 : i - l5.length = 0 := by have := (List.getElem?_eq_some_iff.1 hp).1; simp at this; omega
  rw [hi0] at hp
  simp only [List.getElem?_cons_zero, Option.some.injEq] at hp
  subst hp
  refine ⟨by dsimp only; omega, ?_, List.getElem_mem _, ⟨by dsimp only; omega, by dsimp only; omega⟩, hpr, t2, t3, t4, t5⟩
  dsimp only; rw [hc1, hcode.1, hcode.2]; omega
structure Sorted (l : List TProduct) : Prop where
 len : l.length ≤ 1000000
 asc : l.Pairwise fun a b => a.ID < b.ID
 small : ∀ p ∈ l, p.Processes.length ≤ 1000000 ∧ p.Inputs.length ≤ 1000000
def findP (l : List TProduct) (id : Int) : Option TProduct := l.find? fun p => p.ID == id
def zProd : TProduct := ⟨0, ByteArray.empty, ByteArray.empty, 0, false, [], []⟩
theorem ref_findP (l : List TProduct) (id : Int) (hl : l.length ≤ 140737488355328) : ref14_Find l id = some (opt2 zProd (findP l id)) := by
 unfold ref14_Find findP
 refine (find_loop (l := l) (by omega) (fun _ x => cond (x.ID == id) (some (.inr (x, true))) none) (.inl ()) (fun k hk => ?_) (by simp only [dnlt, cond_false])).trans ?_
 ·simp only [dlt hk, cond_true, idx_nat hk, Option.bind_some, wnext hk (show l.length ≤ 4611686018427387904 by omega)]
  cases (l[k].ID == id) <;> rfl
 ·rw [findS_find (fun x : TProduct => x.ID == id) (fun x => (Sum.inr (x, true) : Unit ⊕ (TProduct × Bool)))]
  cases l.find? (fun x : TProduct => x.ID == id) <;> rfl
theorem half_u (x : Nat) (h : x ≤ 10000000) : IntKind.i64.wrap (ishr .u64 (IntKind.u64.wrap (IntKind.i64.wrap (x : Int))) 1) = ((x / 2 : Nat) : Int) := by
 rw [i64s (r := (x : Int)) (by omega) (by omega), u64s (by omega) (by omega)]
 have : ishr .u64 (x : Int) 1 = (x : Int) / 2 := Int.fdiv_eq_ediv_of_nonneg _ (by decide)
 rw [this, i64s (by omega) (by omega)]; omega
theorem search_ok (l : List TProduct) (id : Int) (h : Sorted l) : ∃ j : Nat, production_search l id = some ((j : Int), (findP l id).isSome) ∧ (∀ p, findP l id = some p → ∃ hj : j < l.length, l[j] = p) := by
 have hl := h.len
 have cmp : ∀ p : TProduct, production_search_1 p id = some (if p.ID < id then -1 else if id < p.ID then 1 else 0) := fun p => by unfold production_search_1; rw [cmpI]; rfl
 unfold production_search slices_BinarySearchFunc_api_Product_api_Product_int
 have hloop : Y (loopF (S := Int × Int) (T := (Int × Int)) (fun (v1, v2) => cond (decide (v1 < v2)) (lb ((IntKind.i64.wrap (ishr .u64 (IntKind.u64.wrap (IntKind.i64.wrap (v1 + v2))) 1))) (fun w8 => Option.bind (idx l w8) (fun m9 => Option.bind (production_search_1 m9 id) (fun x10 => cond (decide (x10 < 0)) (some (.inl ((IntKind.i64.wrap (w8 + 1)), v2))) (some (.inl (v1, w8))))))) (some (.inr (id, v1)))) FUEL (0, (l.length : Int))) (fun t => t.1 = id ∧ ∃ j : Nat, t.2 = (j : Int) ∧ j ≤ l.length ∧ (∀ (k : Nat) (p : TProduct), l[k]? = some p → k < j → p.ID < id) ∧ (∀ (k : Nat) (p : TProduct), l[k]? = some p → j ≤ k → id ≤ p.ID)) := by
  refine Y.loop (fun s : Int × Int => ∃ i j : Nat, s.1 = (i : Int) ∧ s.2 = (j : Int) ∧ i ≤ j ∧ j ≤ l.length ∧ (∀ (k : Nat) (p : TProduct), l[k]? = some p → k < i → p.ID < id) ∧ (∀ (k : Nat) (p : TProduct), l[k]? = some p → j ≤ k → id ≤ p.ID)) (fun s => (s.2 - s.1).toNat) ⟨0, l.length, rfl, rfl, by omega, by omega, fun k p _ hk => absurd hk (Nat.not_lt_zero _), fun k p hp hk => by have := (List.getElem?_eq_some_iff.1 hp).1; omega⟩ (by dsimp only; omega) fun s hs => ?_
  obtain ⟨a, b⟩ := s
  obtain ⟨i, j, rfl, rfl, h1, h2, h3, h4⟩ := hs
  dsimp only
  refine Y.cond (fun hc => ?_) (fun hc => Y.ret ⟨rfl, i, rfl, by omega, h3, fun k p hp hk => h4 k p hp (by have := of_decide_eq_false hc; omega)⟩)
  have hc : i < j := by have := of_decide_eq_true hc; omega
  unfold lb
  rw [show (i : Int) + (j : Int) = ((i + j : Nat) : Int) by omega, half_u _ (by omega)]
  have hm : (i + j) / 2 < l.length := by omega
  have pw := List.pairwise_iff_getElem.1 h.asc
  refine Y.idx rfl hm (Y.eq (cmp _) ?_)
  by_cases hlt : l[(i + j) / 2].ID < id
  ·rw [if_pos hlt]
   refine Y.ret ⟨⟨(i + j) / 2 + 1, j, ?_, rfl, by omega, h2, fun k p hp hk => ?_, h4⟩, ?_⟩
   ·show IntKind.i64.wrap _ = _; rw [i64s (by omega) (by omega)]; omega
   ·obtain ⟨hk2, rfl⟩ := List.getElem?_eq_some_iff.1 hp
    rcases Nat.lt_or_ge k ((i + j) / 2) with h5 | h5
    ·have := pw k ((i + j) / 2) hk2 hm h5; omega
    ·have e : k = (i + j) / 2 := by omega
     subst e; exact hlt
   ·show ((j : Int) - IntKind.i64.wrap _).toNat < _; rw [i64s (by omega) (by omega)]; omega
  ·rw [if_neg hlt]
   have hd : decide ((if id < l[(i + j) / 2].ID then (1 : Int) else 0) < 0) = false := by split <;> rfl
   rw [hd]
   refine Y.ret ⟨⟨i, (i + j) / 2, rfl, rfl, by omega, by omega, h3, fun k p hp hk => ?_⟩, by dsimp only; omega⟩
   obtain ⟨hk2, rfl⟩ := List.getElem?_eq_some_iff.1 hp
   rcases Nat.lt_or_ge ((i + j) / 2) k with h5 | h5
   ·have := pw ((i + j) / 2) k hm hk2 h5; omega
   ·have e : k = (i + j) / 2 := by omega
    subst e; omega
 obtain ⟨⟨t1, t2⟩, e, rfl, j, hj, h1, h2, h3⟩ := hloop
 dsimp only at hj
 subst hj
 rw [e]
 simp only [Option.bind_some]
 by_cases hjl : j < l.length
 ·rw [decide_eq_true (show (j : Int) < (l.length : Int) by omega), gd_tt, idx_nat hjl, Option.bind_some, gd_tt, cmp, Option.bind_some]
  have h4 := h3 j _ (List.getElem?_eq_getElem hjl) (Nat.le_refl _)
  rw [if_neg (by omega)]
  by_cases heq : t1 < l[j].ID
  ·have hn : findP l t1 = none := by
    unfold findP; rw [List.find?_eq_none]
    intro p hp
    obtain ⟨k, hk, rfl⟩ := List.getElem_of_mem hp
    have : l[k].ID ≠ t1 := by
     rcases Nat.lt_or_ge k j with h5 | h5
     ·have := h2 k _ (List.getElem?_eq_getElem hk) h5; omega
     ·rcases Nat.lt_or_ge j k with h6 | h6
      ·have := List.pairwise_iff_getElem.1 h.asc j k hjl hk h6; omega
      ·have e : k = j := by omega
       subst e; omega
    simpa using this
   rw [if_pos heq, hn]; exact ⟨j, rfl, fun p hp => by cases hp⟩
  ·have hid : l[j].ID = t1 := by omega
   have hs : findP l t1 = some l[j] := by
    unfold findP
    rw [List.find?_eq_some_iff_getElem]
    refine ⟨by simpa using hid, j, hjl, rfl, fun k hk => ?_⟩
    have := h2 k _ (List.getElem?_eq_getElem (by omega)) hk
    have : l[k].ID ≠ t1 := by omega
    simpa using this
   rw [if_neg heq, hs]; exact ⟨j, rfl, fun p hp => by injection hp with hp; exact ⟨hjl, hp⟩⟩
 ·rw [decide_eq_false (show ¬ (j : Int) < (l.length : Int) by omega), gd_ff, Option.bind_some, gd_ff, Option.bind_some]
  have hn : findP l t1 = none := by
   unfold findP; rw [List.find?_eq_none]
   intro p hp
   obtain ⟨k, hk, rfl⟩ := List.getElem_of_mem hp
   have := h2 k _ (List.getElem?_eq_getElem hk) (by omega)
   have : l[k].ID ≠ t1 := by omega
   simpa using this
  rw [hn]; exact ⟨j, rfl, fun p hp => by cases hp⟩
theorem prog_findP (l : List TProduct) (id : Int) (h : Sorted l) : production_Find l id = some (opt2 zProd (findP l id)) := by
 unfold production_Find
 obtain ⟨j, e, hj⟩ := search_ok l id h
 rw [e, Option.bind_some]
 cases hf : findP l id with
 | none => rfl
 | some p =>
  obtain ⟨hjl, rfl⟩ := hj p hf
  have hs := h.small _ (List.getElem_mem hjl)
  simp only [Option.isSome_some, Bool.not_true, cond_false, idx_nat hjl, Option.bind_some]
  unfold slices_Clone_string_string slices_Clone_api_Ingredient_api_Ingredient
  rw [app_nil_ok (by omega) (by omega), Option.bind_some, app_nil_ok (by omega) (by omega), Option.bind_some]; rfl
theorem MPs.sorted {l : List TProduct} (h : MPs l) : Sorted l := by
 refine ⟨by have := h.len; omega, ?_, fun p hp => ?_⟩
 ·rw [List.pairwise_iff_getElem]
  intro i j hi hj hij
  have h1 := (h.all i _ (List.getElem?_eq_getElem hi)).id
  have h2 := (h.all j _ (List.getElem?_eq_getElem hj)).id
  omega
 ·obtain ⟨i, hi, rfl⟩ := List.getElem_of_mem hp
  have hm := h.all i _ (List.getElem?_eq_getElem hi)
  have h1 := hm.proc.length_le; have h2 := hm.few; have h6 : W5.length = 5 := rfl
  omega
end SX
end Go.Proofs.YtiijbkaiipjpkaaGreatDoor
set_option maxRecDepth 100000
namespace Go.Proofs.YtiijbkaiipjpkaaGreatDoor
namespace SX
open Go
theorem find_from {T α β : Type} {l : List α} (hl : l.length ≤ 4611686018427387904) {body : Int → Option (Int ⊕ T)} {k : T → Option β} (s : Nat) (g : Nat → α → Option T) (e : T)
    (hstep : ∀ (j : Nat) (hj : j < l.length), s ≤ j → body (j : Int) = some (outg j (g j l[j]))) (hend : ∀ j : Nat, l.length ≤ j → body (j : Int) = some (.inr e)) : Option.bind (loopF body FUEL (s : Int)) k = k ((findS g (l.drop s) s).getD e) := by
  have main : ∀ (xs : List α) (j N : Nat), l.drop j = xs → s ≤ j → xs.length < N → loopF body N (j : Int) = some ((findS g xs j).getD e) := by
    intro xs
    induction xs with
    | nil =>
      intro j N hd hj hN
      obtain ⟨N, rfl⟩ : ∃ M, N = M + 1 := ⟨N - 1, by omega⟩
      have : l.length ≤ j := by have := congrArg List.length hd; simp at this; omega
      rw [loopF_succ, hend j this]; rfl
    | cons x xs ih =>
      intro j N hd hj hN
      have hj' : j < l.length := by have := congrArg List.length hd; simp at this; omega
      have hx : l[j] = x ∧ l.drop (j + 1) = xs := by
        rw [List.drop_eq_getElem_cons hj'] at hd; injection hd with h1 h2; exact ⟨h1, h2⟩
      obtain ⟨N, rfl⟩ : ∃ M, N = M + 1 := ⟨N - 1, by omega⟩
      rw [loopF_succ, hstep j hj' hj, hx.1, findS]
      cases hg : g j x with
      | none => exact ih (j + 1) N hx.2 (by omega) (by simp at hN; omega)
      | some t => rfl
  exact bnd (main (l.drop s) s FUEL rfl (Nat.le_refl _) (fuel_big (by rw [List.length_drop]; omega)))
structure VAs (l : List TAgreement) : Prop where
 len : l.length ≤ 1000
 all : ∀ a ∈ l, VA a
theorem MAs.vas {l : List TAgreement} (h : MAs l) : VAs l := ⟨by have := h.len; omega, fun a ha => by obtain ⟨i, hi, rfl⟩ := List.getElem_of_mem ha; exact (h.all i _ (List.getElem?_eq_getElem hi)).va⟩
theorem findA_va {l : List TAgreement} (h : VAs l) {id : Int} {a : TAgreement} (ha : findA l id = some a) : VA a ∧ a.ID = id ∧ a ∈ l := by
 have hm := List.mem_of_find?_eq_some ha
 exact ⟨h.all a hm, by have := List.find?_some ha; simpa using this, hm⟩
def hasP (a : TAgreement) (x y : ByteArray) : Bool := hasS a.Parties x && hasS a.Parties y
theorem prog_hasP (a : TAgreement) (x y : ByteArray) (ha : VA a) : cumulation_hasParties a x y = some (hasP a x y) := by
 have := ha.ok.par.1
 unfold cumulation_hasParties hasP
 rw [prog_has _ _ this, prog_has _ _ this, Option.bind_some]
 cases hasS a.Parties x <;> rfl
def admB (p : List TProduct) (l : List TAgreement) (i : ByteArray) (c : TOriginClaim) : Bool := match findP p c.Product, findA l c.Agreement with
 | some q, some a => !decide (q.Country = i) && hasP a q.Country i && (ruleOfS a q.Code).isSome
 | _, _ => false
theorem prog_adm (p : List TProduct) (l : List TAgreement) (i : ByteArray) (c : TOriginClaim) (hp : Sorted p) (hl : VAs l) : cumulation_Admissible p l i c = some (admB p l i c) := by
 unfold cumulation_Admissible admB
 have := hl.len
 rw [prog_findP _ _ hp, Option.bind_some]
 cases findP p c.Product with
 | none => rfl
 | some q =>
  rw [prog_findA _ _ (by omega)]
  simp only [opt2, Bool.not_true, cond_false, Option.bind_some]
  cases ha : findA l c.Agreement with
  | none => rfl
  | some a =>
   have hv := (findA_va hl ha).1
   rw [prog_hasP _ _ _ hv, prog_ruleOf _ _ hv]
   by_cases hq : q.Country = i
   ·simp [hq, gd]
   ·cases h1 : hasP a q.Country i
    ·simp [hq, gd, h1]
    ·cases h2 : ruleOfS a q.Code <;> simp [hq, gd, opt2, h1, h2]
theorem ref_adm (p : List TProduct) (l : List TAgreement) (i : ByteArray) (c : TOriginClaim) (hp : p.length ≤ 140737488355328) (hl : VAs l) : ref14_Admissible p l i c = some (admB p l i c) := by
 unfold ref14_Admissible admB
 have := hl.len
 rw [ref_findP _ _ hp, Option.bind_some, ref_findA _ _ (by omega), Option.bind_some]
 cases ha : findA l c.Agreement with
 | none =>
  rw [ref_ruleOf _ _ (by simp [opt2, zAgr]), Option.bind_some]
  cases findP p c.Product with
  | none => rfl
  | some q => rfl
 | some a =>
  have hv := (findA_va hl ha).1
  rw [show (opt2 zAgr (some a)).1 = a from rfl, ref_ruleOf _ _ hv.ok.len, Option.bind_some, ref_has _ _ hv.ok.par.1, ref_has _ _ hv.ok.par.1]
  cases findP p c.Product with
  | none => rfl
  | some q =>
   unfold hasP
   cases hr : ruleOfS a q.Code with
   | none => simp [opt2, gd, hr]
   | some r =>
    by_cases hq : q.Country = i
    ·simp [opt2, gd, hr, hq]
    ·cases h1 : hasS a.Parties q.Country
     ·simp [opt2, gd, hr, hq, h1]
     ·cases h2 : hasS a.Parties i <;> simp [opt2, gd, hr, hq, h1, h2]
def partner (a : TAgreement) (id : Int) (e i : ByteArray) (b : TAgreement) : Bool := !(b.ID == id) && hasP b e i && eqLB rfEq a.Rules b.Rules
def partnersS (l : List TAgreement) (id : Int) (e i : ByteArray) : List Int := match findA l id with
 | none => []
 | some a => id :: cond (a.Kind == 2) ((l.filter (partner a id e i)).map (·.ID)) []
theorem fold_filter (P : TAgreement → Bool) : ∀ (l : List TAgreement) (acc : List Int), l.foldl (fun acc b => cond (P b) (acc ++ [b.ID]) acc) acc = acc ++ (l.filter P).map (·.ID)
 | [], acc => by simp
 | b :: l, acc => by
  rw [List.foldl_cons, fold_filter P l, List.filter_cons]
  cases P b <;> simp
theorem prog_partners (l : List TAgreement) (id : Int) (e i : ByteArray) (hl : VAs l) : cumulation_Partners l id e i = some (partnersS l id e i) := by
 unfold cumulation_Partners partnersS
 have hlen := hl.len
 rw [prog_findA _ _ (by omega), Option.bind_some]
 cases ha : findA l id with
 | none => rfl
 | some a =>
  have hv := (findA_va hl ha).1
  simp only [opt2, Bool.not_true, cond_false, bne]
  cases hk : (a.Kind == 2)
  ·rfl
  simp only [Bool.not_true, cond_false, cond_true]
  refine (fold_loop (l := l) (by omega) (fun i (a : List Int) => (a, i)) (fun acc b => cond (partner a id e i b) (acc ++ [b.ID]) acc) (fun a => a) (fun k acc => acc.length ≤ k + 1) [id] (by simp) (fun k hk acc hacc => ⟨?_, ?_⟩) (fun acc _ => by simp only [dnlt, cond_false])).1.trans ?_
  ·have hb := hl.all _ (List.getElem_mem hk)
   simp only [dlt hk, cond_true, idx_nat hk, Option.bind_some, wnext hk (show l.length ≤ 4611686018427387904 by omega), partner, bne]
   rw [prog_hasP _ _ _ hb, prog_sameRules _ _ hv.ok.len hv.ok.rules hv.rules]
   cases (l[k].ID == id)
   ·cases hasP l[k] e i
    ·rfl
    ·cases eqLB rfEq a.Rules l[k].Rules
     ·rfl
     ·simp only [Bool.not_false, gd_tt, Option.bind_some, Bool.and_self, cond_true]
      rw [app_ok (by simp; omega) (by simp; omega)]; rfl
   ·rfl
  ·cases partner a id e i l[k] <;> simp <;> omega
  ·rw [fold_filter]; rfl
theorem ref_partners (l : List TAgreement) (id : Int) (e i : ByteArray) (hl : VAs l) : ref14_Partners l id e i = some (partnersS l id e i) := by
 unfold ref14_Partners partnersS
 have hlen := hl.len
 rw [ref_findA _ _ (by omega), Option.bind_some]
 cases ha : findA l id with
 | none => rfl
 | some a =>
  have hv := (findA_va hl ha).1
  simp only [opt2, Bool.not_true, cond_false]
  cases hk : (a.Kind == 2)
  ·refine (fold_loop (l := ([] : List TAgreement)) (by simp) (fun i (a : List Int) => (a, i)) (fun acc b => acc) (fun a => a) (fun k acc => True) [id] trivial (fun k hk acc hacc => by simp at hk) (fun acc _ => by simp only [Bool.and_false, cond_false])).1.trans ?_
   rfl
  simp only [Bool.and_true, cond_true]
  refine (fold_loop (l := l) (by omega) (fun i (a : List Int) => (a, i)) (fun acc b => cond (partner a id e i b) (acc ++ [b.ID]) acc) (fun a => a) (fun k acc => acc.length ≤ k + 1) [id] (by simp) (fun k hk acc hacc => ⟨?_, ?_⟩) (fun acc _ => by simp only [dnlt, cond_false])).1.trans ?_
  ·have hb := hl.all _ (List.getElem_mem hk)
   simp only [dlt hk, cond_true, idx_nat hk, Option.bind_some, wnext hk (show l.length ≤ 4611686018427387904 by omega), partner, bne, hasP]
   rw [ref_has _ _ hb.ok.par.1, ref_has _ _ hb.ok.par.1, ref_sameRules _ _ hv.ok.len hv.ok.rules]
   cases (l[k].ID == id)
   ·cases hasS l[k].Parties e
    ·rfl
    ·cases hasS l[k].Parties i
     ·rfl
     ·cases eqLB rfEq a.Rules l[k].Rules
      ·rfl
      ·simp only [Bool.not_false, gd_tt, Option.bind_some, Bool.and_self, cond_true]
       rw [app_ok (by simp; omega) (by simp; omega)]; rfl
   ·rfl
  ·cases partner a id e i l[k] <;> simp <;> omega
  ·rw [fold_filter]; rfl
theorem rfEq_iff (x y : TRuleFor) : rfEq x y = true ↔ x = y := by
 unfold rfEq
 rw [Bool.and_eq_true, decide_eq_true_eq, ruleEq_iff]
 cases x; cases y; simp
theorem rfs_iff (a b : List TRuleFor) : eqLB rfEq a b = true ↔ a = b := eqLB_iff fun x _ y _ => rfEq_iff x y
theorem ref_in (l : List Int) (n : Int) (hl : l.length ≤ 140737488355328) : ref14_In l n = some (l.any fun x => x == n) := by
 unfold ref14_In
 refine (find_loop (l := l) (by omega) (fun _ x => cond (x == n) (some (.inr true)) none) (.inl ()) (fun k hk => ?_) (by simp only [dnlt, cond_false])).trans ?_
 ·simp only [dlt hk, cond_true, idx_nat hk, Option.bind_some, wnext hk (show l.length ≤ 4611686018427387904 by omega)]
  cases (l[k] == n) <;> rfl
 ·rw [findS_any (fun x => x == n)]
  cases (l.any fun x => x == n) <;> rfl
def AscA (l : List TAgreement) : Prop := l.Pairwise fun a b => a.ID < b.ID
theorem findA_mem {l : List TAgreement} (h : AscA l) {a : TAgreement} (ha : a ∈ l) : findA l a.ID = some a := by
 obtain ⟨i, hi, rfl⟩ := List.getElem_of_mem ha
 unfold findA
 rw [List.find?_eq_some_iff_getElem]
 refine ⟨by simp, i, hi, rfl, fun k hk => ?_⟩
 have := List.pairwise_iff_getElem.1 h k i (by omega) hi hk
 have : l[k].ID ≠ l[i].ID := by omega
 simpa using this
theorem MAs.asc {l : List TAgreement} (h : MAs l) : AscA l := by
 unfold AscA; rw [List.pairwise_iff_getElem]
 intro i j hi hj hij
 have h1 := (h.all i _ (List.getElem?_eq_getElem hi)).id
 have h2 := (h.all j _ (List.getElem?_eq_getElem hj)).id
 omega
theorem partner_sym {l : List TAgreement} (hl : VAs l) (ha : AscA l) {id y : Int} {e i : ByteArray} {k : Nat} (hk : 1 ≤ k) (hy : (partnersS l id e i)[k]? = some y) :
    ∃ a b, findA l id = some a ∧ findA l y = some b ∧ ((b.Kind == 2) = true → hasP a e i = true → id ∈ partnersS l y e i) := by
  unfold partnersS at hy
  cases hf : findA l id with
  | none => rw [hf] at hy; simp at hy
  | some a =>
    rw [hf] at hy
    obtain ⟨k, rfl⟩ : ∃ j, k = j + 1 := ⟨k - 1, by omega⟩
    simp only [List.getElem?_cons_succ] at hy
    cases h2 : (a.Kind == 2)
    · rw [h2] at hy; simp at hy
    · rw [h2, cond_true] at hy
      have hm := List.mem_of_getElem? hy
      obtain ⟨b, hb, rfl⟩ := List.mem_map.1 hm
      obtain ⟨hbl, hp⟩ := List.mem_filter.1 hb
      have hfb := findA_mem ha hbl
      obtain ⟨_, hid, hal⟩ := findA_va hl hf
      refine ⟨a, b, rfl, hfb, fun hk2 hpa => ?_⟩
      unfold partner at hp
      simp only [Bool.and_eq_true, Bool.not_eq_true', beq_eq_false_iff_ne] at hp
      obtain ⟨⟨h3, h4⟩, h5⟩ := hp
      unfold partnersS
      rw [hfb]
      simp only [hk2, cond_true]
      refine List.mem_cons_of_mem _ (List.mem_map.2 ⟨a, List.mem_filter.2 ⟨hal, ?_⟩, hid⟩)
      unfold partner
      simp only [Bool.and_eq_true, Bool.not_eq_true', beq_eq_false_iff_ne]
      exact ⟨⟨by rw [hid]; exact fun h => h3 h.symm, hpa⟩, (rfs_iff _ _).2 ((rfs_iff _ _).1 h5).symm⟩
theorem partners_len (l : List TAgreement) (id : Int) (e i : ByteArray) : (partnersS l id e i).length ≤ l.length + 1 := by
 unfold partnersS
 cases findA l id with
 | none => simp
 | some a => cases h : (a.Kind == 2) <;> simp [h]; exact List.length_filter_le _ _
theorem importer_Y (x : Int) : Y (made_Importer x) (fun s => s ∈ C6) := by
 unfold made_Importer
 refine (within_Y x 8 (by omega) (by omega)).bind fun r ⟨h1, h2⟩ => ?_
 obtain ⟨j, hj⟩ : ∃ j : Nat, r = (j : Int) := ⟨r.toNat, by omega⟩
 refine Y.idx hj (show j < 8 by omega) (Y.ret ?_)
 have hj8 : j < 8 := by omega
 match j, hj8 with
 | 0, _ => exact .tail _ (.head _)
 | 1, _ => exact .tail _ (.head _)
 | 2, _ => exact .tail _ (.head _)
 | 3, _ => exact .head _
 | 4, _ => exact .tail _ (.tail _ (.head _))
 | 5, _ => exact .tail _ (.tail _ (.tail _ (.head _)))
 | 6, _ => exact .tail _ (.tail _ (.tail _ (.tail _ (.head _))))
 | 7, _ => exact .tail _ (.tail _ (.tail _ (.tail _ (.tail _ (.head _)))))
theorem agreementPartners_law (m0 m1 : List Int) (m2 m3 m4 m5 : Int) {κ : Kr} {v0 v1 v2 v3 v4 v5 : List Value} (_ : Rps κ (eL eI m0) v0) (_ : Rps κ (eL eI m1) v1) (_ : Rps κ (eI m2) v2) (_ : Rps κ (eI m3) v3) (_ : Rps κ (eI m4) v4) (_ : Rps κ (eI m5) v5) : law14_AgreementPartners m0 m1 m2 m3 m4 m5 = some true := by
 unfold law14_AgreementPartners
 obtain ⟨p, e1, h1⟩ := plan_Y m0
 obtain ⟨l, e2, h2⟩ := agreements_Y m1
 rw [e1, Option.bind_some, e2, Option.bind_some]
 obtain ⟨x9, e9, _, _⟩ := within_Y m2 12 (by omega) (by omega)
 obtain ⟨x10, e10, _, _⟩ := within_Y m3 5 (by omega) (by omega)
 obtain ⟨imp, e12, _⟩ := importer_Y m4
 obtain ⟨x14, e14, h141, h142⟩ := within_Y m5 6 (by omega) (by omega)
 rw [e9, Option.bind_some, e10, Option.bind_some, e12, Option.bind_some, countries_ok, Option.bind_some, e14, Option.bind_some]
 obtain ⟨j, rfl⟩ : ∃ j : Nat, x14 = (j : Int) := ⟨x14.toNat, by omega⟩
 have hj : j < C6.length := by have h6 : C6.length = 6 := rfl; omega
 rw [idx_nat hj, Option.bind_some]
 generalize C6[j] = ex
 generalize IntKind.i64.wrap (2 + IntKind.i64.wrap (5 * x10)) = id
 have hp := h1.sorted
 have hl := h2.vas
 have hlen := h2.len
 rw [prog_partners _ _ _ _ hl, Option.bind_some, prog_adm _ _ _ _ hp hl, Option.bind_some, ref_adm _ _ _ _ (by have := h1.len; omega) hl, Option.bind_some]
 simp only [bne_self_eq_false, Bool.not_false, gd_tt]
 have hpl := partners_len l id ex imp
 rw [ref_partners _ _ _ _ hl, Option.bind_some, sameInts_ok _ _ (by omega), Option.bind_some, decide_eq_true rfl]
 simp only [Bool.not_true, Bool.or_self, cond_false]
 refine (find_from (l := partnersS l id ex imp) (by omega) 1 (fun _ _ => none) (.inl ()) (fun k hk h1k => ?_) (fun k hk => by rw [decide_eq_false (by omega)]; rfl)).trans ?_
 ·simp only [dlt hk, cond_true, idx_nat hk, Option.bind_some, wnext hk (show (partnersS l id ex imp).length ≤ 4611686018427387904 by omega)]
  obtain ⟨a, b, ha, hb, hab⟩ := partner_sym hl h2.asc h1k (List.getElem?_eq_getElem hk)
  rw [ref_findA _ _ (by omega), Option.bind_some, ref_findA _ _ (by omega), Option.bind_some, ha, hb]
  have hva := (findA_va hl ha).1
  simp only [opt2]
  rw [ref_has _ _ hva.ok.par.1, ref_has _ _ hva.ok.par.1]
  unfold hasP at hab
  cases hk2 : (b.Kind == 2)
  ·rfl
  ·cases he : hasS a.Parties ex
   ·rfl
   ·cases hi : hasS a.Parties imp
    ·rfl
    ·simp only [gd_tt, Option.bind_some, Bool.and_self]
     rw [prog_partners _ _ _ _ hl, Option.bind_some, ref_in _ _ (by have := partners_len l (partnersS l id ex imp)[k] ex imp; omega)]
     have : ((partnersS l (partnersS l id ex imp)[k] ex imp).any fun x => x == id) = true := by
      rw [List.any_eq_true]; exact ⟨id, hab hk2 (by rw [he, hi]; rfl), by simp⟩
     rw [this]; rfl
 ·have : ∀ (m : List Int) (i : Nat), findS (fun (_ : Nat) (_ : Int) => (none : Option (Unit ⊕ Bool))) m i = none := by
   intro m
   induction m with
   | nil => intro i; rfl
   | cons x m ih => intro i; exact ih _
  rw [this]
  simp only [Option.getD_none, awake_ok, Option.bind_some]
end SX
end Go.Proofs.YtiijbkaiipjpkaaGreatDoor
set_option maxRecDepth 100000
namespace Go.Proofs.YtiijbkaiipjpkaaGreatDoor
namespace SX
open Go
theorem op3 {H : Type} {eh : TypeId × Value → H} : Opens eh 3 eI := opens_int rfl
theorem op23 {H : Type} {eh : TypeId × Value → H} : Opens eh 23 (eL eI) := opens_slice rfl rfl rfl rfl op3
end SX
end Go.Proofs.YtiijbkaiipjpkaaGreatDoor
set_option maxRecDepth 100000
namespace Go.Proofs.YtiijbkaiipjpkaaGreatDoor
open Go Go.ChangeShapes Go.WideShapes Go.RowKit
open SX
theorem agreementPartners_lifted (os : Os) (started : os.Started) (H : Type) (enc : TypeId × Value → H) :
    ReturnsInHanded {} Tryz.checked os 6 .any (fun w args => (Rows.agreementPartnersSpec.pre enc Tryz.prog Tryz.f6 [] false w args ∧ laidMetH Tryz.prog laidL w) ∧ sizedMet enc Tryz.prog Tryz.f6 (OpenSpec.ofChange Rows.agreementPartnersSpec) false w args)
      (Rows.agreementPartnersSpec.post enc Tryz.prog Tryz.f6 false true false false) := by
  refine returnsInHanded_of_change_and (C := Tryz.checked) (X := fun w _ => laidMetH Tryz.prog laidL w) (fun _ _ _ hh h => h.of_heap hh) own_ok started (by kernel_rfl) Tryz.func6
    (ChangeSpec.witness_at (enc := enc) (C := Tryz.checked) (os := os) (X := fun w _ => laidMetH Tryz.prog laidL w) false (laidWorld os) #[.slice none 0 0, .slice none 0 0, .int .i64 0, .int .i64 0, .int .i64 0, .int .i64 0] 8 rfl (by kernel_rfl) (by kernel_rfl) (by kernel_rfl) (by kernel_rfl) (by kernel_rfl) (laidWorld_met os _)) ?_
  intro W base args ds gs before hval0 hW _ hwt hL _
  have hval : ∀ (j : Nat) t v, Tryz.f6.params[j]? = some t → args[j]? = some v → Value.okWide Tryz.prog W .any base t v := hval0
  have hW2 := hW
  obtain ⟨p, q, hA0, hV0, rfl, _, _⟩ := hW
  have hA : DataW.TrodAll enc Tryz.prog W 0 (fun _ => true) true [23, 23, 3, 3, 3, 3] args.toList ds p := hA0
  obtain ⟨rfl, rfl⟩ : gs = [] ∧ q = [] := by
    cases gs with
    | nil => exact ⟨rfl, hV0⟩
    | cons g r => exact absurd hV0 (by intro h; cases h)
  generalize hargs : args.toList = vs at hA
  have hval2 : ∀ (j : Nat) t v, [23, 23, 3, 3, 3, 3][j]? = some t → vs[j]? = some v → Value.okWide Tryz.prog W .any base t v := fun j t v h1 h2 => hval j t v (by rw [Tryz.params6]; simpa using h1) (by rw [← hargs] at h2; simpa using h2)
  obtain ⟨v0, vs0, d0, ds0, p0, q0, rfl, rfl, h0, hA⟩ := SX.trodAll_cons hA
  obtain ⟨v1, vs1, d1, ds1, p1, q1, rfl, rfl, h1, hA⟩ := SX.trodAll_cons hA
  obtain ⟨v2, vs2, d2, ds2, p2, q2, rfl, rfl, h2, hA⟩ := SX.trodAll_cons hA
  obtain ⟨v3, vs3, d3, ds3, p3, q3, rfl, rfl, h3, hA⟩ := SX.trodAll_cons hA
  obtain ⟨v4, vs4, d4, ds4, p4, q4, rfl, rfl, h4, hA⟩ := SX.trodAll_cons hA
  obtain ⟨v5, vs5, d5, ds5, p5, q5, rfl, rfl, h5, hA⟩ := SX.trodAll_cons hA
  obtain ⟨rfl, rfl⟩ := SX.trodAll_nil hA
  have hw : (DataW.weightsEach Tryz.prog [23, 23, 3, 3, 3, 3] [d0, d1, d2, d3, d4, d5]).all (· ≤ reachBytes) = true := hwt
  obtain ⟨l0, hw⟩ := SX.light_head hw
  obtain ⟨m0, s0⟩ := arg_one rfl rfl op23 (fun _ => ⟨_, rfl⟩) (hval2 0 23 v0 rfl rfl) h0 l0
  obtain ⟨l1, hw⟩ := SX.light_head hw
  obtain ⟨m1, s1⟩ := arg_one rfl rfl op23 (fun _ => ⟨_, rfl⟩) (hval2 1 23 v1 rfl rfl) h1 l1
  obtain ⟨l2, hw⟩ := SX.light_head hw
  obtain ⟨m2, s2⟩ := arg_one rfl rfl op3 (fun _ => ⟨_, rfl⟩) (hval2 2 3 v2 rfl rfl) h2 l2
  obtain ⟨l3, hw⟩ := SX.light_head hw
  obtain ⟨m3, s3⟩ := arg_one rfl rfl op3 (fun _ => ⟨_, rfl⟩) (hval2 3 3 v3 rfl rfl) h3 l3
  obtain ⟨l4, hw⟩ := SX.light_head hw
  obtain ⟨m4, s4⟩ := arg_one rfl rfl op3 (fun _ => ⟨_, rfl⟩) (hval2 4 3 v4 rfl rfl) h4 l4
  obtain ⟨l5, hw⟩ := SX.light_head hw
  obtain ⟨m5, s5⟩ := arg_one rfl rfl op3 (fun _ => ⟨_, rfl⟩) (hval2 5 3 v5 rfl rfl) h5 l5
  exact row_post (readB (by kernel_rfl)) rfl (und_ok rfl) rfl (by simp [Rows.agreementPartnersSpec]) hW2 (gok_of_laid hL) (by rw [hargs]; exact (s0.app (s1.app (s2.app (s3.app (s4.app s5)))))) (law14_AgreementPartners_ok (agreementPartners_law m0 m1 m2 m3 m4 m5 s0 s1 s2 s3 s4 s5))
theorem agreementPartners_holds : Rows.AgreementPartnersSaid :=
 OpenClaim.holds_of_wide 6 Tryz.f6 rfl rfl rfl rfl rfl rfl rfl ⟨rfl, rfl, rfl, rfl, rfl⟩ rfl rfl rfl rfl rfl (by kernel_rfl) Tryz.func6 (by kernel_rfl)
  (of_decide_eq_true (by kernel_rfl)) (by unfold Func.isWrapper; rw [if_neg (of_decide_eq_false (by kernel_rfl))]; exact ⟨rfl, rfl⟩)
  (fun os started H enc _ => agreementPartners_lifted os started H enc)
theorem agreementPartners_card : Rows.AgreementPartnersCardSaid :=
 Claim7.holds_tied_plain_at .later [] [.data, .data, .pinned] true (true, "daaef14461230708ffb83573f1fcc36e0026bff35fd16ab9288311ad3f1de33f") true
  agreementPartners_holds (fun _ h => by cases h) (by kernel_rfl) (fun _ h => by cases h) agreementPartners_row_tie rfl ⟨rfl, rfl⟩ (by kernel_rfl) rfl
  (fun f fn hf hfn => by
   obtain rfl : f = 6 := Option.some.inj ((show Tryz.prog.funcNamed "customs/customslaw14.AgreementPartners" = some 6 by kernel_rfl).symm.trans hf) |>.symm
   obtain rfl : fn = Tryz.f6 := (Option.some.inj (Tryz.func6.symm.trans hfn)).symm
   exact ⟨by kernel_rfl, fun j t ht => by
    rw [Tryz.params6] at ht
    exact standIns_no (by kernel_rfl) ht⟩)
  (by kernel_rfl)
#print axioms agreementPartners_card
end Go.Proofs.YtiijbkaiipjpkaaGreatDoor
