/- Codes and countries: strings.Trim at the ten digits, Level of a code in the program and in the reference, countries. No statement of the seat is proved here. -/
import Derived.Test.YtfcecieppoljlaaGreatDoorSxA
import Derived.Test.YtfcecieppoljlaaGreatDoorFk
set_option maxRecDepth 100000
namespace Go.Proofs.YtfcecieppoljlaaGreatDoor
namespace SX
open Go
abbrev bl (s : ByteArray) : List UInt8 := s.data.toList
theorem bl_hi (s : ByteArray) (k : Nat) : bl (s.extract 0 k) = (bl s).take k := by simp [bl]
theorem bl_lo (s : ByteArray) (k : Nat) : bl (s.extract k s.size) = (bl s).drop k := by
  simp only [bl, ByteArray.data_extract, Array.toList_extract, List.extract_eq_take_drop]
  rw [List.take_of_length_le]; simp
theorem bl_size (s : ByteArray) : s.size = (bl s).length := by simp [bl]
theorem bl_inj {s u : ByteArray} (h : bl s = bl u) : s = u := by
  obtain ⟨⟨x⟩⟩ := s; obtain ⟨⟨y⟩⟩ := u; simp [bl] at h; subst h; rfl
def isDig (n : Nat) : Bool := decide (48 ≤ n ∧ n ≤ 57)
def setCells (p : Nat → Bool) : List Value := (List.range 256).map fun i => .bool (p i)
theorem setCells_len (p : Nat → Bool) : (setCells p).length = 256 := by simp [setCells]
theorem setCells_get (p : Nat → Bool) {j : Nat} (h : j < 256) : (setCells p)[j]? = some (.bool (p j)) := by simp [setCells, h]
theorem setCells_set (p q : Nat → Bool) {j : Nat} (h : ∀ i, q i = (decide (i = j) || p i)) : (setCells p).set j (.bool true) = setCells q := by
  apply List.ext_getElem?
  intro i
  rw [List.getElem?_set]
  simp only [setCells_len]
  rcases Nat.lt_or_ge i 256 with hi | hi
  · rw [setCells_get q hi, setCells_get p hi, h i]
    by_cases e : j = i
    · subst e; simp [hi]
    · rw [if_neg e]; simp [show ¬ i = j from fun h => e h.symm]
  · rw [List.getElem?_eq_none (by rw [setCells_len]; exact hi), List.getElem?_eq_none (by rw [setCells_len]; exact hi)]
    split
    · rw [if_neg (by omega)]
    · rfl
section
variable {o : Oper} {σ : Env} {ρ : List Res} {κ : Kr} {c : Bool} {x y : Operand} {K : Value → List Res → Kr → Prop}
theorem Sh.at1 {b k : Nat} {cs : List Value} {v : Value} (h : Sh κ b 0 cs) (hv : cs[k]? = some v) : Sh κ b (0 + k * 1) [v] := ⟨h.1, fun j u hu => by
  cases j with
  | zero => simp at hu; subst hu; have := h.2 k v hv; simpa using this
  | succ j => simp at hu⟩
theorem oq_load_all {t b T sz by' : Nat} {cs : List Value} {z : Value} {d : TypeDesc} (ho : o.op = .load t x) (hx : Ev σ c x (.pointer (some ⟨b, 0, none⟩))) (hm : Res.b b T cs ∈ ρ) (hd : und t = some d) (ha : isAggD d = true) (hi : inf t = some (z, sz, by')) (hl : cs.length = sz) : OpQ c o σ ρ κ (.agg cs.toArray) := by
  refine oq_load_b ho hx hm ?_
  unfold readAs
  simp only [hd, hi, ha, cond_true, List.drop_zero]
  rw [Nat.ble_eq_true_of_le (by omega)]
  simp [← hl]
end
attribute [local irreducible] WL WC WD OpL OpQ OpG Ev GuardIs seqK blockK retK Call CallP midK loopK Holds upds Sub Pick WS Step Lit Upd SetAt SpliceAt FillR Sh LateRun
theorem contains_ok (κ : Kr) (b : Nat) (p : Nat → Bool) (m : Int) (hs : Sh κ b 0 (setCells p)) (h0 : 0 ≤ m) (h1 : m ≤ 255) : CallP 111 [.pointer (some ⟨b, 0, none⟩), .int .u8 m] κ fun v _ => v = .bool (p m.toNat) := by
  (unfold CallP; apply call_of Tryz.func111 fk111 rfl Tryz.ntmps111 Tryz.results111 rfl)
  repeat (first | (first | (apply wl_q rfl rfl rfl; (focus (first | exact oq_move (v := (.int _ _)) rfl (.p rfl) | exact oq_move (v := (.pointer _)) rfl (.p rfl) | exact oq_assign (v := (.bool _)) rfl (.p rfl) | exact oq_nilCheck rfl (.p rfl)))) | apply wl_nil) | (first | apply wc_seq | apply wc_region | apply k_seq))
  apply wl_q rfl rfl rfl (oq_indexP (j := m.toNat) rfl rfl rfl (.p rfl) (.p rfl) (fun _ => by omega) (fun _ => by omega))
  apply wl_q rfl rfl rfl (oq_load_s rfl (.p rfl) (fun _ => (hs.mono (by (repeat (exact Kle.refl _)))).at1 (setCells_get p (by omega))) rfl)
  repeat (first | (first | (apply wl_q rfl rfl rfl; (focus (exact oq_assign (v := (.bool _)) rfl (.p rfl)))) | apply wl_nil) | (first | apply k_seq | apply wc_ret))
  exact ret_of (rv_t (v := .bool _) rfl) .none ⟨rfl, rfl⟩
def digits10 : ByteArray := ⟨#[48, 49, 50, 51, 52, 53, 54, 55, 56, 57]⟩
theorem digits10_get : ∀ {k : Nat}, k < 10 → ((digits10.data.toList.getD k 0).toNat : Int) = 48 + (k : Int) := by decide
theorem ascii_ok (κ : Kr) : CallP 79 [.string digits10] κ fun v _ => v = .tuple #[.agg (setCells isDig).toArray, .bool true] := by
  (unfold CallP; apply call_of Tryz.func79 fk79 rfl Tryz.ntmps79 Tryz.results79 rfl)
  repeat (first | (first | (apply wl_q rfl rfl rfl; (focus (first | exact oq_assign (v := (.int _ _)) rfl (.p rfl) | exact oq_assign (v := (.bool _)) rfl (.p rfl)))) | (apply wl_l rfl rfl rfl; apply ol_allocA rfl rfl; intro _ _ _) | apply wl_nil) | (first | apply wc_seq | apply wc_region | apply wc_block | apply k_seq))
  rename_i b2 κ1 _
  have e0 : List.replicate 256 (Value.bool false) = setCells (fun i => decide (48 ≤ i ∧ i < 48 + 0)) := by
    apply List.ext_getElem?
    intro i
    rcases Nat.lt_or_ge i 256 with hi | hi
    · rw [setCells_get _ hi, List.getElem?_replicate, if_pos hi]; congr 2; symm; rw [decide_eq_false_iff_not]; omega
    · rw [List.getElem?_eq_none (by simpa using hi), List.getElem?_eq_none (by rw [setCells_len]; exact hi)]
  rw [e0]
  refine wc_loopL (X := Nat) (fun k => [(0, .string digits10), (2, .pointer (some ⟨b2, 0, none⟩)), (4, .int .i64 (k : Int))]) (fun k => [Res.b b2 129 (setCells fun i => decide (48 ≤ i ∧ i < 48 + k))]) (fun k _ => k ≤ 10) (fun k => 10 - k) 0 (by (repeat (first | exact Holds.nil | apply Holds.cons rfl))) (by (repeat (first | exact Sub.nil | (apply Sub.cons; (focus (repeat (exact Pick.h))))))) (by omega) ?_
  intro k τ κ2 _ hk
  simp only [upds]
  repeat (first | (first | (apply wl_q rfl rfl rfl; (focus (first | exact oq_move (v := (.int _ _)) rfl (.p rfl) | exact oq_move (v := (.string _)) rfl (.p rfl) | exact oq_cmp rfl (.p rfl) (.p rfl) rfl | exact oq_lenS rfl rfl (.p rfl)))) | apply wl_nil) | (first | apply wc_seq | apply wc_region | apply k_seq))
  apply wc_dec rfl <;> intro hc
  · have hk10 : k < 10 := by
      have e : (digits10.size : Int) = 10 := rfl
      rw [e] at hc; omega
    repeat (first | (apply wl_q rfl rfl rfl; (focus (first | exact oq_move (v := (.int _ _)) rfl (.p rfl) | exact oq_move (v := (.string _)) rfl (.p rfl)))) | (first | apply wc_seq | apply wc_region | apply wc_block | apply k_seq | apply wc_skip))
    apply wl_q rfl rfl rfl (oq_indexS (s := digits10) (j := k) rfl rfl (.p rfl) (.p rfl) (fun _ => rfl) (fun _ => hk10))
    rw [digits10_get hk10]
    repeat (first | (first | (apply wl_q rfl rfl rfl; (focus (first | exact oq_move (v := (.int _ _)) rfl (.p rfl) | exact oq_assign (v := (.int _ _)) rfl (.p rfl) | exact oq_cmp rfl (.p rfl) (.p rfl) rfl))) | apply wl_nil) | (first | apply wc_seq | apply wc_region | apply k_seq))
    apply wc_condF (by have : ¬ (128 : Int) ≤ 48 + (k : Int) := by omega
                       simp [ev, upd, this])
    repeat (first | (apply wl_q rfl rfl rfl; (focus (exact oq_move (v := (.int _ _)) rfl (.p rfl)))) | (first | apply wc_region | apply k_seq | apply wc_skip))
    apply wl_q rfl rfl rfl (oq_indexP (j := 48 + k) rfl rfl rfl (.p rfl) (.p rfl) (fun _ => by omega) (fun _ => by omega))
    apply wl_l0 rfl rfl
    apply ol_storeI (v := .bool true) rfl rfl rfl rfl rfl rfl (by (repeat (exact Upd.h))) (by rw [setCells_len]; omega)
    intro κ3 _
    have e1 : (setCells fun i => decide (48 ≤ i ∧ i < 48 + k)).set (0 + (48 + k) * 1) (.bool true) = setCells fun i => decide (48 ≤ i ∧ i < 48 + (k + 1)) :=
      setCells_set _ _ fun i => by rw [Bool.eq_iff_iff]; simp; omega
    rw [e1]
    repeat (first | (first | (apply wl_q rfl rfl rfl; (focus (first | exact oq_move (v := (.int _ _)) rfl (.p rfl) | exact oq_assign (v := (.int _ _)) rfl (.p rfl) | exact oq_arith64 rfl (.p rfl) (.p rfl) rfl (fun _ => by omega)))) | apply wl_nil) | (first | apply wc_region | apply k_seq | apply k_block_n))
    exact k_loop (k + 1) (by (repeat (first | exact Holds.nil | apply Holds.cons rfl))) (by (repeat (first | exact Sub.nil | (apply Sub.cons; (focus (repeat (exact Pick.h))))))) (by omega) (by omega)
  · have hk10 : k = 10 := by
      have e : (digits10.size : Int) = 10 := rfl
      rw [e] at hc; omega
    subst hk10
    have e2 : (fun i => decide (48 ≤ i ∧ i < 48 + 10)) = isDig := by funext i; simp only [isDig]; rw [Bool.eq_iff_iff]; simp; omega
    rw [e2]
    apply wc_exit; apply k_seq_exit; apply k_loop_exit; apply k_block_eq rfl; apply k_seq; apply wc_seq; apply wc_region
    apply wl_q rfl rfl rfl (oq_load_all rfl (.p rfl) (by (repeat (exact List.Mem.head _))) rfl rfl rfl (setCells_len _))
    apply wl_l0 rfl rfl
    apply ol_storeA rfl rfl rfl rfl (setCells_len _) (by simp [setCells, Value.oneCell']) (by (repeat (exact Upd.h))) rfl
    intro κ3 _
    repeat (first | (first | (apply wl_q rfl rfl rfl; (focus (exact oq_assign (v := (.bool _)) rfl (.p rfl)))) | apply wl_nil) | (first | apply k_seq | apply wc_ret))
    refine ret_of (rv_2 (RV1.cell rfl (by (repeat (exact List.Mem.head _))) ?_) (rv1_t (v := .bool _) rfl)) .none ⟨rfl, rfl⟩
    unfold readAs
    simp only [show und 129 = some (.array 256 4) from rfl, show inf 129 = some (.agg (List.replicate 256 (.bool false)).toArray, 256, 256) from rfl, isAggD, cond_true, List.drop_zero, setCells_len]
    rw [List.take_of_length_le (by rw [setCells_len]; omega)]; rfl
theorem getD_lt {l : List UInt8} {j : Nat} (h : j < l.length) : l.getD j 0 = l[j] := by simp [List.getD_eq_getElem?_getD, h]
/-- What is cut off at the right: digits; and what stands last then is none. -/
theorem trimRight_ok (κ : Kr) (b : Nat) (s : ByteArray) (hs : Sh κ b 0 (setCells isDig)) (hz : s.size ≤ 1000000000) : CallP 81 [.string s, .pointer (some ⟨b, 0, none⟩)] κ fun v _ => ∃ u k, v = .string u ∧ bl u = (bl s).take k ∧ k ≤ (bl s).length ∧ (∀ c ∈ (bl s).drop k, isDig c.toNat = true) ∧ (∀ c, (bl u).getLast? = some c → isDig c.toNat = false) := by
  (unfold CallP; apply call_of Tryz.func81 fk81 rfl Tryz.ntmps81 Tryz.results81 rfl)
  repeat (first | (first | (apply wl_q rfl rfl rfl; (focus (exact oq_assign (v := (.string _)) rfl (.p rfl)))) | apply wl_nil) | (first | apply wc_seq | apply wc_region | apply wc_block | apply k_seq))
  refine wc_loopL (X := ByteArray × Nat) (fun z => [(0, .string z.1), (1, .pointer (some ⟨b, 0, none⟩))]) (fun _ => []) (fun z _ => bl z.1 = (bl s).take z.2 ∧ z.2 ≤ (bl s).length ∧ ∀ c ∈ (bl s).drop z.2, isDig c.toNat = true) (fun z => z.2) (s, (bl s).length) (by (repeat (first | exact Holds.nil | apply Holds.cons rfl))) (by (repeat (exact Sub.nil))) ⟨(List.take_length).symm, Nat.le_refl _, by rw [List.drop_length]; simp⟩ ?_
  rw [bl_size] at hz
  rintro ⟨u, k⟩ τ κ2 _ ⟨h1, h2, h3⟩
  dsimp only at h1 h2 h3
  have hsz : u.size = k := by rw [bl_size, h1, List.length_take]; omega
  simp only [upds]
  repeat (first | (first | (apply wl_q rfl rfl rfl; (focus (first | exact oq_move (v := (.string _)) rfl (.p rfl) | exact oq_cmp rfl (.p rfl) (.p rfl) rfl | exact oq_lenS rfl rfl (.p rfl)))) | apply wl_nil) | (first | apply wc_seq | apply wc_region | apply k_seq))
  apply wc_dec rfl <;> intro hc
  · have hk0 : 0 < k := by omega
    repeat (first | (apply wl_q rfl rfl rfl; (focus (first | exact oq_move (v := (.pointer _)) rfl (.p rfl) | exact oq_move (v := (.string _)) rfl (.p rfl) | exact oq_arith64 rfl (.p rfl) (.p rfl) rfl (fun _ => by omega) | exact oq_lenS rfl rfl (.p rfl)))) | (first | apply wc_seq | apply wc_region | apply wc_block | apply k_seq | apply wc_skip))
    apply wl_q rfl rfl rfl (oq_indexS (j := k - 1) rfl rfl (.p rfl) (.p rfl) (fun _ => by omega) (fun _ => by omega))
    have hlast : (bl u).getLast? = some ((bl u).getD (k - 1) 0) := by
      rw [List.getLast?_eq_getElem?, ← bl_size, hsz, getD_lt (by rw [← bl_size]; omega), List.getElem?_eq_getElem]
    apply wl_l rfl rfl rfl; apply ol_callP rfl rfl (contains_ok _ b isDig ((u.data.toList.getD (k - 1) 0).toNat : Int) (hs.mono (by (repeat (assumption)))) (by omega) (by have := (u.data.toList.getD (k - 1) 0).toNat_lt; omega))
    rintro v κ3 _ rfl
    repeat (first | (first | (apply wl_q rfl rfl rfl; (focus (exact oq_not rfl (.p rfl)))) | apply wl_nil) | (apply k_seq))
    rw [Int.toNat_natCast]
    apply wc_cond rfl <;> intro hb
    · repeat (first | (first | (apply wl_q rfl rfl rfl; (focus (first | exact oq_move (v := (.string _)) rfl (.p rfl) | exact oq_assign (v := (.string _)) rfl (.p rfl)))) | apply wl_nil) | (first | apply wc_seq | apply wc_region | apply k_seq | apply wc_ret | apply wc_exit | apply k_seq_exit | apply k_block_eq rfl | apply k_block_ne rfl | apply k_loop_exit))
      refine ret_of (rv_t (v := .string _) rfl) .none ⟨rfl, u, k, rfl, h1, h2, h3, fun c hc => ?_⟩
      rw [hlast] at hc; injection hc with hc; subst hc; simpa using hb
    · repeat (first | (apply wl_q rfl rfl rfl; (focus (first | exact oq_move (v := (.string _)) rfl (.p rfl) | exact oq_arith64 rfl (.p rfl) (.p rfl) rfl (fun _ => by omega) | exact oq_lenS rfl rfl (.p rfl)))) | (first | apply wc_region | apply k_seq | apply wc_skip))
      apply wl_q rfl rfl rfl (oq_sliceSHi (h := k - 1) rfl rfl (.p rfl) (.p rfl) (fun _ => by omega) (fun _ => by omega))
      repeat (first | (first | (apply wl_q rfl rfl rfl; (focus (exact oq_assign (v := (.string _)) rfl (.p rfl)))) | apply wl_nil) | (apply k_block_n))
      refine k_loop (u.extract 0 (k - 1), k - 1) (by (repeat (first | exact Holds.nil | apply Holds.cons rfl))) (by (repeat (exact Sub.nil))) ⟨?_, by ((try dsimp only at *) <;> omega), ?_⟩ (by ((try dsimp only at *) <;> omega))
      · rw [bl_hi, h1, List.take_take]; congr 1; omega
      · intro c hc
        rw [List.drop_eq_getElem_cons (by omega)] at hc
        rcases List.mem_cons.1 hc with rfl | hc
        · have e : (bl u).getD (k - 1) 0 = (bl s)[k - 1]'(by omega) := by
            rw [getD_lt (by rw [← bl_size]; omega)]; simp [h1]
          rw [← e]; simpa using hb
        · rw [show k - 1 + 1 = k by omega] at hc; exact h3 c hc
  · repeat (first | (first | (apply wl_q rfl rfl rfl; (focus (first | exact oq_move (v := (.string _)) rfl (.p rfl) | exact oq_assign (v := (.string _)) rfl (.p rfl)))) | apply wl_nil) | (first | apply wc_seq | apply wc_region | apply k_seq | apply wc_ret | apply wc_exit | apply k_seq_exit | apply k_block_eq rfl | apply k_loop_exit))
    refine ret_of (rv_t (v := .string _) rfl) .none ⟨rfl, u, k, rfl, h1, h2, h3, fun c hc' => ?_⟩
    have : bl u = [] := List.eq_nil_of_length_eq_zero (by rw [← bl_size]; omega)
    rw [this] at hc'; cases hc'
end SX
end Go.Proofs.YtfcecieppoljlaaGreatDoor
