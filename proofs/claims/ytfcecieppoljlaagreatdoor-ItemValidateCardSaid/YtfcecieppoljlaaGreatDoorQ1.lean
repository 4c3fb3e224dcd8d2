/- Plain laws, first text: loops, what the source of drawn numbers gives, codes and countries. No statement of the seat is proved here. -/
import Derived.Test.YtfcecieppoljlaaGreatDoorW4
import Derived.Test.YtfcecieppoljlaaGreatDoorR2
set_option maxRecDepth 100000
namespace Go.Proofs.YtfcecieppoljlaaGreatDoor
namespace SX
open Go
theorem loopF_run {S T : Type} {body : S → Option (S ⊕ T)} (P : S → Prop) (μ : S → Nat) (Q : T → Prop) (step : ∀ s, P s → (∃ s', body s = some (.inl s') ∧ P s' ∧ μ s' < μ s) ∨ ∃ t, body s = some (.inr t) ∧ Q t) : ∀ (N : Nat) (s : S), P s → μ s < N → ∃ t, loopF body N s = some t ∧ Q t := by
  intro N
  induction N with
  | zero => intro s _ h; exact absurd h (Nat.not_lt_zero _)
  | succ N ih =>
    intro s hp hm
    rw [loopF_succ]
    rcases step s hp with ⟨s', h1, h2, h3⟩ | ⟨t, h1, h2⟩
    · rw [h1]; exact ih s' h2 (by omega)
    · rw [h1]; exact ⟨t, rfl, h2⟩
theorem bnd {α β : Type} {x : Option α} {f : α → Option β} {a : α} (h : x = some a) : x.bind f = f a := by rw [h]; rfl
theorem i64s {r : Int} (h1 : -9223372036854775808 ≤ r) (h2 : r ≤ 9223372036854775807) : IntKind.i64.wrap r = r := wrap_i64 ⟨h1, h2⟩
theorem fuel_big {n : Nat} (h : n ≤ 1267650600228229401496703205000) : n < FUEL := Nat.lt_of_le_of_lt h (by unfold FUEL; omega)
theorem within_ok (a n : Int) (h1 : 1 ≤ n) (h2 : n ≤ 4611686018427387904) : ∃ r, made_Within a n = some r ∧ 0 ≤ r ∧ r < n := by
  have hl := Int.tmod_lt_of_pos a (show 0 < n by omega)
  have hl2 := Int.tmod_lt_of_pos (-a) (show 0 < n by omega)
  rw [Int.neg_tmod] at hl2
  unfold made_Within nz lb
  rw [if_neg (by omega), i64s (by omega) (by omega)]
  exact ⟨_, rfl, Int.tmod_nonneg _ (by omega), Int.tmod_lt_of_pos _ (by omega)⟩
def SOK (p : Tmade_Source) : Prop := 0 ≤ p.I ∧ p.I ≤ p.L.length ∧ p.L.length ≤ 1000000000000000
theorem next_ok {p : Tmade_Source} (hp : SOK p) (n : Int) (h1 : 1 ≤ n) (h2 : n ≤ 4611686018427387904) : ∃ r q, made_Source_Next p n = some (r, q) ∧ 0 ≤ r ∧ r < n ∧ SOK q := by
  obtain ⟨a1, a2, a3⟩ := hp
  unfold made_Source_Next
  by_cases h : (p.L.length : Int) ≤ p.I
  · rw [decide_eq_true h]; exact ⟨_, _, rfl, by omega, by omega, a1, a2, a3⟩
  · rw [decide_eq_false h, i64s (r := p.I + 1) (by omega) (by omega), i64s (by omega) (by omega)]
    simp only [cond_false]
    have e : idx p.L (p.I + 1 - 1) = some (p.L[p.I.toNat]'(by omega)) := by
      unfold idx; rw [if_pos (by omega)]
      have : (p.I + 1 - 1).toNat = p.I.toNat := by omega
      rw [this]; exact List.getElem?_eq_getElem _
    rw [bnd e]
    obtain ⟨r, h3, h4, h5⟩ := within_ok (p.L[p.I.toNat]'(by omega)) n h1 h2
    rw [bnd h3]
    exact ⟨_, _, rfl, h4, h5, by simp only; omega, by simp only; omega, a3⟩
theorem cut_ok (l : List Int) (n : Int) (h : 0 ≤ n) (h2 : n ≤ 1000) : ∃ m, made_Cut l n = some m ∧ (m.length : Int) ≤ n := by
  unfold made_Cut
  by_cases h1 : n < (l.length : Int)
  · rw [decide_eq_true h1]
    have e : sub l 0 n = some ((l.take n.toNat).drop 0) := by unfold sub; rw [if_pos (by omega)]; rfl
    simp only [cond_true]; rw [bnd e]; exact ⟨_, rfl, by simp; omega⟩
  · rw [decide_eq_false h1]; exact ⟨_, rfl, by omega⟩
def Digs (l : List Int) : Prop := ∀ x ∈ l, 48 ≤ x ∧ x ≤ 57
theorem code_ok {p : Tmade_Source} (hp : SOK p) : ∃ l q, made_Source_Code p 8 = some (strOfNums l, q) ∧ l.length = 8 ∧ Digs l ∧ SOK q := by
  unfold made_Source_Code
  obtain ⟨r, q, h1, h2, h3, h4⟩ := next_ok hp 2 (by omega) (by omega)
  rw [bnd h1]
  simp only
  rw [i64s (by omega) (by omega), wrap_u8 (by omega)]
  obtain ⟨t, h5, h6⟩ := loopF_run (body := fun (l5, l8, v9) => cond (decide (((l5.length : Nat) : Int) < 8)) (Option.bind (made_Source_Next (⟨l8, v9⟩ : Tmade_Source) 3) (fun x19 => Option.bind (app 1 l5 [48, (IntKind.u8.wrap (IntKind.i64.wrap (49 + x19.1)))]) (fun l22 => some (.inl (l22, x19.2.L, x19.2.I))))) (some (.inr (l5, l8, v9))))
    (fun s : List Int × List Int × Int => (s.1.length = 2 ∨ s.1.length = 4 ∨ s.1.length = 6 ∨ s.1.length = 8) ∧ Digs s.1 ∧ SOK ⟨s.2.1, s.2.2⟩) (fun s => 8 - s.1.length) (fun t : List Int × List Int × Int => t.1.length = 8 ∧ Digs t.1 ∧ SOK ⟨t.2.1, t.2.2⟩)
    (fun s hs => by
      obtain ⟨l, l8, v9⟩ := s
      obtain ⟨a1, a2, a3⟩ := hs
      simp only at a1 a2 a3 ⊢
      by_cases hl : ((l.length : Nat) : Int) < 8
      · left
        rw [decide_eq_true hl]; simp only [cond_true]
        obtain ⟨r, q, b1, b2, b3, b4⟩ := next_ok a3 3 (by omega) (by omega)
        rw [bnd b1]; simp only
        rw [i64s (by omega) (by omega), wrap_u8 (by omega)]
        have e : app 1 l [48, 49 + r] = some (l ++ [48, 49 + r]) := by unfold app; rw [if_pos]; simp; omega
        rw [bnd e]
        refine ⟨_, rfl, ⟨by simp only [List.length_append, List.length_cons, List.length_nil]; omega, ?_, b4⟩, by simp only [List.length_append, List.length_cons, List.length_nil]; omega⟩
        intro x hx
        simp only [List.mem_append, List.mem_cons, List.not_mem_nil, or_false] at hx
        rcases hx with hx | rfl | rfl
        · exact a2 x hx
        · omega
        · omega
      · right
        rw [decide_eq_false hl]
        exact ⟨_, rfl, by show l.length = 8; omega, a2, a3⟩)
    FUEL ([57, 52 + r], q.L, q.I) ⟨by simp, by intro x hx; simp only [List.mem_cons, List.not_mem_nil, or_false] at hx; omega, h4⟩ (fuel_big (by simp))
  obtain ⟨l, l8, v9⟩ := t
  rw [bnd h5]
  exact ⟨_, _, rfl, h6.1, h6.2.1, h6.2.2⟩
theorem lvl_eight {l : List Int} (h1 : l.length = 8) (h2 : Digs l) : level (strOfNums l) = 8 := by
  have hs : (strOfNums l).size = 8 := by simp [strOfNums, ByteArray.size, h1]
  unfold level
  rw [if_pos, hs]; rfl
  refine ⟨by omega, ?_⟩
  unfold allDig bl strOfNums
  simp only [List.all_eq_true]
  intro c hc
  simp only [List.mem_map] at hc
  obtain ⟨x, hx, rfl⟩ := hc
  have := h2 x hx
  simp [isDig]
  omega
end SX
end Go.Proofs.YtfcecieppoljlaaGreatDoor
