/- Plain laws, second text: the level of a code and a country as the reference tells them, and a made item. No statement of the seat is proved here. -/
import Derived.Test.YtfcecieppoljlaaGreatDoorQ1
set_option maxRecDepth 100000
namespace Go.Proofs.YtfcecieppoljlaaGreatDoor
namespace SX
open Go
theorem idx_nat {α : Type} {xs : List α} {k : Nat} (h : k < xs.length) : idx xs (k : Int) = some xs[k] := by
  unfold idx; rw [if_pos (by omega)]; simp [h]
theorem gd_tt {α : Type} [Inhabited α] {x : Option α} : gd true x = x := rfl
theorem gd_ff {α : Type} [Inhabited α] {x : Option α} : gd false x = some default := rfl
theorem ix0 {α : Type} {a b : α} : idx [a, b] 0 = some a := rfl
theorem ix1 {α : Type} {a b : α} : idx [a, b] 1 = some b := rfl
theorem cond_ex {α : Type} (c : Bool) (x y : α) : ∃ r, cond c (some x) (some y) = some r ∧ cond c (some x) (some y) = some r := by cases c <;> exact ⟨_, rfl, rfl⟩
theorem cap_eq (c : Int) : production_isCapital c = some (decide (65 ≤ c) && decide (c ≤ 90)) := rfl
def ctry (s : ByteArray) : Bool := match s.data.toList with | [a, b] => decide (65 ≤ (a.toNat : Int)) && decide ((a.toNat : Int) ≤ 90) && decide (65 ≤ (b.toNat : Int)) && decide ((b.toNat : Int) ≤ 90) | _ => false
theorem size_two {s : ByteArray} (h : ((s.size : Int) == 2) = true) : ∃ a b, s.data.toList = [a, b] := by
  have h2 : s.data.toList.length = 2 := by
    have := eq_of_beq h
    rw [Array.length_toList]; have e : s.size = s.data.size := rfl; omega
  match hd : s.data.toList, h2 with
  | [a, b], _ => exact ⟨a, b, rfl⟩
theorem not_two {s : ByteArray} (h : ((s.size : Int) == 2) = false) : ctry s = false := by
  unfold ctry
  split
  · rename_i a b hd
    have e : s.size = s.data.toList.length := by rw [Array.length_toList]; rfl
    rw [hd] at e
    have e2 : (s.size : Int) = 2 := by rw [e]; rfl
    rw [e2] at h; cases h
  · rfl
theorem valid_country (s : ByteArray) : production_ValidCountry s = some (ctry s) := by
  unfold production_ValidCountry
  cases h : ((s.size : Int) == 2)
  · rw [not_two h]; rfl
  · obtain ⟨a, b, hd⟩ := size_two h
    simp only [Bool.true_and, gd_tt, cap_eq]
    rw [hd]
    simp only [ctry, hd]
    rw [bnd ix0]
    simp only [Option.bind_some]
    cases h1 : (decide (65 ≤ (a.toNat : Int)) && decide ((a.toNat : Int) ≤ 90))
    · rfl
    · simp only [gd_tt, Bool.true_and]; rw [bnd ix1]; rfl
theorem ref_country (s : ByteArray) : ref06_Country s = some (ctry s) := by
  unfold ref06_Country
  cases h : ((s.size : Int) == 2)
  · rw [not_two h]; rfl
  · obtain ⟨a, b, hd⟩ := size_two h
    simp only [Bool.true_and, gd_tt]
    rw [hd]
    simp only [ctry, hd]
    rw [bnd ix0]
    cases h1 : decide (65 ≤ (a.toNat : Int))
    · rfl
    · simp only [gd_tt, Bool.true_and]; rw [bnd ix0]
      cases h2 : decide ((a.toNat : Int) ≤ 90)
      · rfl
      · simp only [gd_tt, Bool.true_and]; rw [bnd ix1]
        cases h3 : decide (65 ≤ (b.toNat : Int))
        · rfl
        · simp only [gd_tt, Bool.true_and]; rw [bnd ix1]
theorem ref_level (s : ByteArray) (hs : s.size ≤ 140737488355328) : ref08_Level s = some (level s) := by
  have hz : s.size = s.data.toList.length := by rw [Array.length_toList]; rfl
  unfold ref08_Level
  obtain ⟨t, h5, h6⟩ := loopF_run (body := fun v1 => cond (decide (v1 < (s.size : Int))) (Option.bind (idx s.data.toList v1) (fun c5 => Option.bind (gd (!(decide ((c5.toNat : Int) < 48))) (idx s.data.toList v1)) (fun c6 => cond ((decide ((c5.toNat : Int) < 48)) || (decide (57 < (c6.toNat : Int)))) (some (.inr (.inr 0))) (some (.inl (IntKind.i64.wrap (v1 + 1))))))) (some (.inr (.inl ()))))
    (fun v : Int => 0 ≤ v ∧ v ≤ s.size ∧ ∀ j, (h : j < s.data.toList.length) → (j : Int) < v → isDig (s.data.toList[j]).toNat = true) (fun v => (s.size : Int).toNat - v.toNat) (fun t : Unit ⊕ Int => (t = .inl () ∧ allDig s = true) ∨ (t = .inr 0 ∧ allDig s = false))
    (fun v hv => by
      obtain ⟨a1, a2, a3⟩ := hv
      by_cases hl : v < (s.size : Int)
      · rw [decide_eq_true hl]; simp only [cond_true]
        obtain ⟨k, rfl⟩ : ∃ k : Nat, v = (k : Int) := ⟨v.toNat, by omega⟩
        have hk : k < s.data.toList.length := by omega
        rw [bnd (idx_nat hk)]
        by_cases hd : isDig (s.data.toList[k]).toNat = true
        · left
          have hd2 := hd
          simp only [isDig, decide_eq_true_eq] at hd2
          rw [decide_eq_false (show ¬ ((s.data.toList[k].toNat : Nat) : Int) < 48 by omega)]
          simp only [Bool.not_false, gd_tt, Bool.false_or]
          rw [bnd (idx_nat hk), decide_eq_false (show ¬ 57 < ((s.data.toList[k].toNat : Nat) : Int) by omega)]
          simp only [cond_false]
          rw [i64s (by omega) (by omega)]
          refine ⟨_, rfl, ⟨by omega, by omega, fun j h1 h2 => ?_⟩, by omega⟩
          by_cases hj : j = k
          · subst hj; exact hd
          · exact a3 j h1 (by omega)
        · right
          refine ⟨.inr 0, ?_, .inr ⟨rfl, ?_⟩⟩
          · have hd2 := hd
            simp only [isDig, decide_eq_true_eq] at hd2
            by_cases h48 : ((s.data.toList[k].toNat : Nat) : Int) < 48
            · rw [decide_eq_true h48]; rfl
            · rw [decide_eq_false h48]
              simp only [Bool.not_false, gd_tt, Bool.false_or]
              rw [bnd (idx_nat hk), decide_eq_true (show 57 < ((s.data.toList[k].toNat : Nat) : Int) by omega)]; rfl
          · cases ha : allDig s
            · rfl
            · exfalso; apply hd
              unfold allDig bl at ha
              exact List.all_eq_true.1 ha _ (List.getElem_mem hk)
      · right
        rw [decide_eq_false hl]
        refine ⟨.inl (), rfl, .inl ⟨rfl, ?_⟩⟩
        unfold allDig bl
        rw [List.all_eq_true]
        intro c hc
        obtain ⟨j, hj, rfl⟩ := List.getElem_of_mem hc
        exact a3 j hj (by omega))
    FUEL 0 ⟨by omega, by omega, fun j _ h => by omega⟩ (fuel_big (by omega))
  rw [bnd h5]
  unfold level
  rcases h6 with ⟨rfl, h⟩ | ⟨rfl, h⟩
  · simp only [h, and_true]
    by_cases h8 : (8 : Int) < (s.size : Int)
    · rw [decide_eq_true h8, if_neg (by omega)]; rfl
    · rw [decide_eq_false h8]
      simp only [Bool.false_or]
      have e : Int.tmod (s.size : Int) 2 = (s.size : Int) % 2 := Int.tmod_eq_emod_of_nonneg (by omega)
      rw [e]
      by_cases hp : (s.size : Int) % 2 = 1
      · rw [hp, if_neg (by omega)]; rfl
      · have : ((s.size : Int) % 2 == 1) = false := by simpa using hp
        rw [this]
        by_cases h0 : s.size = 0
        · rw [if_neg (by omega), h0]; rfl
        · rw [if_pos (by omega)]; rfl
  · simp [h]
theorem valid_eq (m : TItem) (h : m.Code.size ≤ 140737488355328) : ∃ r, assess_Validate m = some r ∧ ref19_Item m = some r := by
  have e1 : nomenclature_Level m.Code = some (level m.Code) := rfl
  have e : assess_Validate m = ref19_Item m := by
    unfold assess_Validate ref19_Item
    rw [e1, ref_level _ h, valid_country, ref_country]
  rw [e]
  unfold ref19_Item
  rw [bnd (ref_level _ h)]
  have : ∃ b, gd (!(level m.Code != 8)) (ref06_Country m.Origin) = some b := by rw [ref_country]; cases (!(level m.Code != 8)) <;> exact ⟨_, rfl⟩
  obtain ⟨b, hb⟩ := this
  rw [bnd hb]
  cases ((level m.Code != 8) || (!b))
  · simp only [cond_false]
    exact cond_ex _ _ _
  · exact ⟨_, rfl, rfl⟩
structure Good (m : TItem) : Prop where
  code : ∃ l, m.Code = strOfNums l ∧ l.length = 8 ∧ Digs l
  orig : ctry m.Origin = true
  comp : 0 ≤ m.Company ∧ m.Company ≤ 999
  day : 0 ≤ m.Day ∧ m.Day ≤ 36524
  quant : 0 ≤ m.Quantity ∧ m.Quantity ≤ 1000000000
  value : 0 ≤ m.Value ∧ m.Value ≤ 1000000000000
  grant : 0 ≤ m.Granted ∧ m.Granted ≤ m.Quantity
theorem Good.size {m : TItem} (h : Good m) : m.Code.size = 8 := by
  obtain ⟨l, e, h1, _⟩ := h.code
  rw [e]; simp [strOfNums, ByteArray.size, h1]
theorem Good.valid {m : TItem} (h : Good m) : assess_Validate m = some 0 := by
  have e1 : nomenclature_Level m.Code = some 8 := by
    obtain ⟨l, e, h1, h2⟩ := h.code
    rw [e]; show some (level _) = _; rw [lvl_eight h1 h2]
  have := h.comp; have := h.day; have := h.quant; have := h.value; have := h.grant
  unfold assess_Validate
  rw [bnd e1, valid_country, h.orig]
  simp only [bne_self_eq_false, Bool.not_false, gd_tt, Option.bind_some, Bool.not_true, Bool.or_self, cond_false]
  rw [decide_eq_false (by omega), decide_eq_false (by omega), decide_eq_false (by omega), decide_eq_false (by omega), decide_eq_false (by omega), decide_eq_false (by omega), decide_eq_false (by omega), decide_eq_false (by omega), decide_eq_false (by omega), decide_eq_false (by omega)]
  rfl
theorem country_ok {k : Int} (h1 : 0 ≤ k) (h2 : k < 6) {l : List ByteArray} (hl : made_Countries = some l) : ∃ s, idx l k = some s ∧ ctry s = true := by
  have hl := Option.some.inj hl; subst hl
  obtain ⟨n, rfl⟩ : ∃ n : Nat, k = (n : Int) := ⟨k.toNat, by omega⟩
  match n, (show n < 6 by omega) with
  | 0, _ => exact ⟨_, rfl, rfl⟩
  | 1, _ => exact ⟨_, rfl, rfl⟩
  | 2, _ => exact ⟨_, rfl, rfl⟩
  | 3, _ => exact ⟨_, rfl, rfl⟩
  | 4, _ => exact ⟨_, rfl, rfl⟩
  | 5, _ => exact ⟨_, rfl, rfl⟩
theorem item_ok (l : List Int) : ∃ m, made_Item l = some m ∧ Good m := by
  unfold made_Item
  obtain ⟨c, hc, hc2⟩ := cut_ok l 20 (by omega) (by omega)
  rw [bnd hc]
  obtain ⟨cd, q, h1, h2, h3, hq⟩ := code_ok (p := ⟨c, 0⟩) ⟨by simp, by simp, by simp only; omega⟩
  obtain ⟨cl, hcl⟩ : ∃ cl, made_Countries = some cl := ⟨_, rfl⟩
  rw [bnd h1, bnd hcl]
  simp only
  obtain ⟨x6, q6, g6, a6, b6, s6⟩ := next_ok hq 4 (by omega) (by omega)
  rw [bnd g6]; simp only
  obtain ⟨s, hs, hs2⟩ := country_ok a6 (by omega) hcl
  rw [bnd hs]
  obtain ⟨x8, q8, g8, a8, b8, s8⟩ := next_ok s6 2 (by omega) (by omega)
  rw [bnd g8]; simp only
  obtain ⟨x9, q9, g9, a9, b9, s9⟩ := next_ok s8 3 (by omega) (by omega)
  rw [bnd g9]; simp only
  obtain ⟨x10, q10, g10, a10, b10, s10⟩ := next_ok s9 41 (by omega) (by omega)
  rw [bnd g10]; simp only
  obtain ⟨x11, q11, g11, a11, b11, s11⟩ := next_ok s10 1000 (by omega) (by omega)
  rw [bnd g11]; simp only
  obtain ⟨x12, q12, g12, a12, b12, s12⟩ := next_ok s11 1000000 (by omega) (by omega)
  rw [bnd g12]; simp only
  obtain ⟨x14, q14, g14, a14, b14, s14⟩ := next_ok s12 6 (by omega) (by omega)
  rw [bnd g14]; simp only
  have hb : ∃ u v l' i, cond (x14 == 1) (Option.bind (made_Source_Next q14 1000000001) (fun x21 => Option.bind (made_Source_Next x21.2 1000000000001) (fun x22 => some (x21.1, x22.1, x22.2.L, x22.2.I)))) (some (x11, x12, q14.L, q14.I)) = some (u, v, l', i) ∧ SOK ⟨l', i⟩ ∧ 0 ≤ u ∧ u ≤ 1000000000 ∧ 0 ≤ v ∧ v ≤ 1000000000000 := by
    cases (x14 == 1)
    · exact ⟨_, _, _, _, rfl, s14, by omega, by omega, by omega, by omega⟩
    · obtain ⟨y1, r1, e1, c1, d1, t1⟩ := next_ok s14 1000000001 (by omega) (by omega)
      obtain ⟨y2, r2, e2, c2, d2, t2⟩ := next_ok t1 1000000000001 (by omega) (by omega)
      simp only [cond_true]
      rw [bnd e1]; simp only
      rw [bnd e2]
      exact ⟨_, _, _, _, rfl, t2, by omega, by omega, by omega, by omega⟩
  obtain ⟨u, v, l', i, hb1, hb2, hb3, hb4, hb5, hb6⟩ := hb
  rw [bnd hb1]; simp only
  obtain ⟨x23, q23, g23, a23, b23, s23⟩ := next_ok hb2 6 (by omega) (by omega)
  rw [bnd g23]; simp only
  have hw : ∃ w, cond (x23 == 1) (some 0) (some u) = some w ∧ 0 ≤ w ∧ w ≤ 1000000000 := by
    cases (x23 == 1)
    · exact ⟨_, rfl, hb3, hb4⟩
    · exact ⟨_, rfl, by omega, by omega⟩
  obtain ⟨w, hw1, hw2, hw3⟩ := hw
  rw [bnd hw1]
  obtain ⟨x27, q27, g27, a27, b27, s27⟩ := next_ok s23 2 (by omega) (by omega)
  rw [bnd g27]; simp only
  have hz : ∃ z, cond (x27 == 1) (Option.bind (made_Source_Next q27 (IntKind.i64.wrap (w + 1))) (fun x31 => some x31.1)) (some 0) = some z ∧ 0 ≤ z ∧ z ≤ w := by
    cases (x27 == 1)
    · exact ⟨_, rfl, by omega, by omega⟩
    · rw [i64s (by omega) (by omega)]
      obtain ⟨y1, r1, e1, c1, d1, t1⟩ := next_ok s27 (w + 1) (by omega) (by omega)
      simp only [cond_true]
      rw [bnd e1]
      exact ⟨_, rfl, by simp only; omega, by simp only; omega⟩
  obtain ⟨z, hz1, hz2, hz3⟩ := hz
  rw [bnd hz1]
  exact ⟨_, rfl, ⟨⟨cd, rfl, h2, h3⟩, hs2, ⟨a9, by simp only; omega⟩, ⟨a10, by simp only; omega⟩, ⟨hw2, hw3⟩, ⟨hb5, hb6⟩, ⟨hz2, hz3⟩⟩⟩
theorem awake_ok : law20_awake = some true := by kernel_rfl
theorem itemValidate_eq (m : TItem) (h : m.Code.size ≤ 140737488355328) (l : List Int) (a b : Int) : law20_ItemValidate m l a b = some true := by
  unfold law20_ItemValidate
  obtain ⟨x, hx, gx⟩ := item_ok l
  rw [bnd hx]
  obtain ⟨r, h1, h2⟩ := valid_eq m h
  rw [bnd h1, bnd h2]
  simp only [bne_self_eq_false, Bool.not_false, gd_tt]
  rw [bnd gx.valid]
  simp only [bne_self_eq_false, Bool.or_self, cond_false]
  obtain ⟨k, hk, _, _⟩ := within_ok a 7 (by omega) (by omega)
  rw [bnd hk]
  have hxs := gx.size
  have hq := gx.quant
  have key : ∀ y : TItem, y.Code.size ≤ 140737488355328 → Option.bind (assess_Validate y) (fun x25 => Option.bind (ref19_Item y) (fun x26 => Option.bind (gd (x25 == x26) (law20_awake)) (fun x27 => some ((x25 == x26) && x27)))) = some true := by
    intro y hy
    obtain ⟨r, h1, h2⟩ := valid_eq y hy
    rw [bnd h1, bnd h2, beq_self_eq_true, gd_tt, bnd awake_ok]; rfl
  cases (k == 0)
  · cases (k == 1)
    · cases (k == 2)
      · cases (k == 3)
        · cases (k == 4)
          · cases (k == 5)
            · obtain ⟨j, hj, _, _⟩ := within_ok b 3 (by omega) (by omega)
              simp only [cond_false]
              rw [bnd hj]
              exact key ⟨_, _, _, _, _, _, _, _⟩ (by simp only; omega)
            · exact key ⟨_, _, _, _, _, _, _, _⟩ (by simp only; omega)
          · exact key ⟨_, _, _, _, _, _, _, _⟩ (by simp only; omega)
        · exact key ⟨_, _, _, _, _, _, _, _⟩ (by simp only; omega)
      · exact key ⟨_, _, _, _, _, _, _, _⟩ (by simp only; omega)
    · exact key ⟨_, _, _, _, _, _, _, _⟩ (by simp only; omega)
  · exact key ⟨_, _, _, _, _, _, _, _⟩ (by simp only; omega)
theorem itemValidate_law {κ : Kr} {v1 v2 v3 v4 : List Value} (m : TItem) (l : List Int) (a b : Int) (h : Rps κ [.agg (TItem.enc m)] v1) (_ : Rps κ [.slc (List.map eI l)] v2) (_ : Rps κ (eI a) v3) (_ : Rps κ (eI b) v4) : law20_ItemValidate m l a b = some true := by
  obtain ⟨ds, h2⟩ := rps_agg h
  exact itemValidate_eq m (rps_str (k := 0) h2 rfl) l a b
end SX
end Go.Proofs.YtfcecieppoljlaaGreatDoor
