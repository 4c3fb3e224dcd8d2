/- Codes and countries, third part: Level of a code in the program and in the reference; countries. No statement of the seat is proved here. -/
import Derived.Test.YtfcecieppoljlaaGreatDoorV2
set_option maxRecDepth 100000
namespace Go.Proofs.YtfcecieppoljlaaGreatDoor
namespace SX
open Go
attribute [local irreducible] WL WC WD OpL OpQ OpG Ev GuardIs seqK blockK retK Call CallP midK loopK Holds upds Sub Pick WS Step Lit Upd SetAt SpliceAt FillR Sh LateRun
def Glob (κ : Kr) : Prop := Sh κ 0 0 [.int .i64 2, .int .i64 4, .int .i64 6, .int .i64 8]
theorem Glob.mono {κ κ' : Kr} (h : Glob κ) (k : Kle κ κ') : Glob κ' := Sh.mono h k
def level (s : ByteArray) : Int := if (s.size = 2 ∨ s.size = 4 ∨ s.size = 6 ∨ s.size = 8) ∧ allDig s = true then (s.size : Int) else 0
theorem gv_some {c : Bool} {v : Value} {P : ByteArray → Prop} (h : c = true → ∃ u, v = .string u ∧ P u) : ∃ u, gv c v = gv c (.string u) ∧ (c = true → P u) := by
  cases c
  · exact ⟨⟨#[]⟩, by rw [gv_false, gv_false], fun h => by cases h⟩
  · obtain ⟨u, rfl, h2⟩ := h rfl; exact ⟨u, rfl, fun _ => h2⟩
theorem level_ok (κ : Kr) (s : ByteArray) (hg : Glob κ) : CallP 30 [.string s] κ fun v _ => v = .int .i64 (level s) := by
  (unfold CallP; apply call_of Tryz.func30 fk30 rfl Tryz.ntmps30 Tryz.results30 rfl)
  repeat (first | (first | (apply wl_q rfl rfl rfl; (focus (exact oq_assign (v := (.int _ _)) rfl (.p rfl)))) | apply wl_nil) | (first | apply wc_seq | apply wc_region | apply k_seq))
  apply wl_q rfl rfl rfl (oq_load_s rfl (.p rfl) (fun _ => hg) rfl)
  repeat (first | (first | (apply wl_q rfl rfl rfl; (focus (exact oq_move (v := (.int _ _)) rfl (.p rfl)))) | apply wl_nil) | (first | apply wc_block | apply k_seq))
  refine wc_loopL (X := Nat) (fun k => [(0, .string s), (5, .agg #[.int .i64 2, .int .i64 4, .int .i64 6, .int .i64 8]), (6, .int .i64 (k : Int))]) (fun _ => []) (fun k _ => k ≤ 4 ∧ ∀ j, j < k → ¬ (s.size = 2 * (j + 1) ∧ allDig s = true)) (fun k => 4 - k) 0 (by (repeat (first | exact Holds.nil | apply Holds.cons rfl))) (by (repeat (exact Sub.nil))) ⟨by omega, by omega⟩ ?_
  rintro k τ κ1 _ ⟨hk, hno⟩
  simp only [upds]
  repeat (first | (first | (apply wl_q rfl rfl rfl; (focus (exact oq_cmp rfl (.p rfl) (.p rfl) rfl))) | apply wl_nil) | (first | apply wc_seq | apply wc_region | apply k_seq))
  apply wc_dec rfl <;> intro hc
  · have hk4 : k < 4 := by omega
    repeat (first | apply wc_seq | apply wc_region | apply wc_block | apply k_seq | apply wc_skip)
    apply wl_q rfl rfl rfl (oq_indexA (cs := [.int .i64 2, .int .i64 4, .int .i64 6, .int .i64 8]) (v := .int .i64 (2 * ((k : Int) + 1))) (j := k) rfl rfl rfl rfl rfl (.p rfl) (.p rfl) (fun _ => rfl) (fun _ => hk4) (fun _ => by
      have : k = 0 ∨ k = 1 ∨ k = 2 ∨ k = 3 := by omega
      rcases this with rfl | rfl | rfl | rfl <;> rfl))
    repeat (first | (first | (apply wl_q rfl rfl rfl; (focus (first | exact oq_move (v := (.int _ _)) rfl (.p rfl) | exact oq_move (v := (.bool _)) rfl (.p rfl) | exact oq_move (v := (.string _)) rfl (.p rfl) | exact oq_assign (v := (.int _ _)) rfl (.p rfl) | exact oq_cmp rfl (.p rfl) (.p rfl) rfl | exact oq_lenS rfl rfl (.p rfl)))) | (apply wl_qg; (focus (exact guard_t rfl rfl rfl)); rfl; rfl; (focus (apply oq_move (v := (.string _)) rfl; (focus (exact Ev.p rfl))))) | apply wl_nil) | (first | apply wc_seq | apply wc_region | apply k_seq))
    apply wl_g; (focus (exact guard_t rfl rfl rfl)); rfl; rfl
    refine og_callP rfl (ar2 (.g rfl) (.p rfl)) (fun hcc => trim_ok _ s (by simp at hcc; omega)) fun v κ2 _ hv => ?_
    obtain ⟨u, hu, hP⟩ := gv_some hv
    rw [hu]
    repeat (first | (first | (apply wl_q rfl rfl rfl; (focus (exact oq_and rfl (.p rfl) (.p rfl) (.g rfl)))) | (apply wl_qg; (focus (exact guard_t rfl rfl rfl)); rfl; rfl; (focus (apply oq_str rfl (by (focus (exact Ev.g rfl))) (by (focus (exact Ev.p rfl))); rfl))) | apply wl_nil) | (apply k_seq))
    apply wc_cond rfl <;> intro hb
    · simp only [Bool.and_eq_true, beq_iff_eq, decide_eq_true_eq] at hb
      have hd : allDig s = true := (hP (by simpa using hb.1)).1 hb.2
      repeat (first | (first | (apply wl_q rfl rfl rfl; (focus (first | exact oq_move (v := (.int _ _)) rfl (.p rfl) | exact oq_assign (v := (.int _ _)) rfl (.p rfl)))) | apply wl_nil) | (first | apply wc_seq | apply wc_region | apply k_seq | apply wc_ret | apply k_seq_ret | apply k_block_ret | apply k_loop_ret))
      refine ret_of (rv_t (v := .int _ _) rfl) .none ⟨rfl, ?_⟩
      show Value.int .i64 (2 * ((k : Int) + 1)) = .int .i64 (level s)
      unfold level
      rw [if_pos ⟨by omega, hd⟩, ← hb.1]
    · repeat (first | (first | (apply wl_q rfl rfl rfl; (focus (first | exact oq_move (v := (.int _ _)) rfl (.p rfl) | exact oq_arith64 rfl (.p rfl) (.p rfl) rfl (fun _ => by omega)))) | apply wl_nil) | (first | apply wc_region | apply k_seq | apply wc_skip | apply k_block_n))
      refine k_loop (k + 1) (by (repeat (first | exact Holds.nil | apply Holds.cons rfl))) (by (repeat (exact Sub.nil))) ⟨by omega, fun j hj => ?_⟩ (by omega)
      rcases Nat.lt_or_ge j k with h | h
      · exact hno j h
      · have : j = k := by omega
        subst this
        rintro ⟨h1, h2⟩
        have hcc : ((s.size : Int) == 2 * ((j : Int) + 1)) = true := by simp; omega
        have := (hP (by simpa using hcc)).2 h2
        subst this
        rw [hcc] at hb; simp at hb
  · repeat (first | (first | (apply wl_q rfl rfl rfl; (focus (exact oq_assign (v := (.int _ _)) rfl (.p rfl)))) | apply wl_nil) | (first | apply wc_seq | apply wc_region | apply k_seq | apply wc_ret | apply wc_exit | apply k_seq_exit | apply k_block_eq rfl | apply k_loop_exit))
    refine ret_of (rv_t (v := .int _ _) rfl) .none ⟨rfl, ?_⟩
    show Value.int .i64 0 = .int .i64 (level s)
    unfold level
    rw [if_neg]
    rintro ⟨h1, h2⟩
    have : k = 4 := by omega
    subst this
    rcases h1 with h1 | h1 | h1 | h1
    · exact hno 0 (by omega) ⟨h1, h2⟩
    · exact hno 1 (by omega) ⟨h1, h2⟩
    · exact hno 2 (by omega) ⟨h1, h2⟩
    · exact hno 3 (by omega) ⟨h1, h2⟩
/-- The byte at a place. -/
def byteAt (s : ByteArray) (j : Nat) : Nat := ((bl s).getD j 0).toNat
theorem byteAt_le (s : ByteArray) (j : Nat) : byteAt s j ≤ 255 := by have := ((bl s).getD j 0).toNat_lt; unfold byteAt; omega
theorem refLevel_ok (κ : Kr) (s : ByteArray) (hz : s.size < 4611686018427387904) : CallP 32 [.string s] κ fun v _ => v = .int .i64 (level s) := by
  (unfold CallP; apply call_of Tryz.func32 fk32 rfl Tryz.ntmps32 Tryz.results32 rfl)
  repeat (first | (first | (apply wl_q rfl rfl rfl; (focus (exact oq_assign (v := (.int _ _)) rfl (.p rfl)))) | apply wl_nil) | (first | apply wc_seq | apply wc_region | apply wc_block | apply k_seq))
  refine wc_loopL (X := Nat) (fun k => [(0, .string s), (3, .int .i64 (k : Int))]) (fun _ => []) (fun k _ => k ≤ s.size ∧ ∀ j, j < k → isDig (byteAt s j) = true) (fun k => s.size - k) 0 (by (repeat (first | exact Holds.nil | apply Holds.cons rfl))) (by (repeat (exact Sub.nil))) ⟨by omega, by omega⟩ ?_
  rintro k τ κ1 _ ⟨hk, hall⟩
  simp only [upds]
  repeat (first | (first | (apply wl_q rfl rfl rfl; (focus (first | exact oq_move (v := (.int _ _)) rfl (.p rfl) | exact oq_move (v := (.string _)) rfl (.p rfl) | exact oq_cmp rfl (.p rfl) (.p rfl) rfl | exact oq_lenS rfl rfl (.p rfl)))) | apply wl_nil) | (first | apply wc_seq | apply wc_region | apply k_seq))
  apply wc_dec rfl <;> intro hc
  · have hk4 : k < s.size := by omega
    repeat (first | (apply wl_q rfl rfl rfl; (focus (first | exact oq_move (v := (.int _ _)) rfl (.p rfl) | exact oq_move (v := (.string _)) rfl (.p rfl)))) | (first | apply wc_seq | apply wc_region | apply wc_block | apply k_seq | apply wc_skip))
    apply wl_q rfl rfl rfl (oq_indexS (j := k) rfl rfl (.p rfl) (.p rfl) (fun _ => rfl) (fun _ => hk4))
    repeat (first | (apply wl_q rfl rfl rfl; (focus (first | exact oq_move (v := (.bool _)) rfl (.p rfl) | exact oq_cmp rfl (.p rfl) (.p rfl) rfl))) | (apply wl_qg; (focus (exact guard_f rfl rfl rfl)); rfl; rfl; (focus (first | (apply oq_move (v := (.int _ _)) rfl; (focus (exact Ev.p rfl))) | (apply oq_move (v := (.string _)) rfl; (focus (exact Ev.p rfl)))))))
    apply wl_qg; (focus (exact guard_f rfl rfl rfl)); rfl; rfl; exact oq_indexS (j := k) rfl rfl (.g rfl) (.g rfl) (fun _ => rfl) (fun _ => hk4)
    repeat (first | (first | (apply wl_q rfl rfl rfl; (focus (exact oq_or rfl (.p rfl) (.p rfl) (.g rfl)))) | (apply wl_qg; (focus (exact guard_f rfl rfl rfl)); rfl; rfl; (focus (apply oq_cmp rfl (by (focus (exact Ev.g rfl))) (by (focus (exact Ev.p rfl))); rfl))) | apply wl_nil) | (apply k_seq))
    apply wc_cond rfl <;> intro hb
    · repeat (first | (first | (apply wl_q rfl rfl rfl; (focus (exact oq_assign (v := (.int _ _)) rfl (.p rfl)))) | apply wl_nil) | (first | apply wc_seq | apply wc_region | apply k_seq | apply wc_ret | apply k_seq_ret | apply k_block_ret | apply k_loop_ret))
      refine ret_of (rv_t (v := .int _ _) rfl) .none ⟨rfl, ?_⟩
      show Value.int .i64 0 = .int .i64 (level s)
      unfold level
      rw [if_neg]
      rintro ⟨_, h2⟩
      have hd := List.all_eq_true.1 h2 ((bl s)[k]'(by rw [← bl_size]; exact hk4)) (List.getElem_mem _)
      have e : s.data.toList.getD k 0 = (bl s)[k]'(by rw [← bl_size]; exact hk4) := getD_lt _
      rw [e] at hb
      simp only [isDig, decide_eq_true_eq] at hd
      simp only [Bool.or_eq_true, decide_eq_true_eq] at hb
      omega
    · repeat (first | (first | (apply wl_q rfl rfl rfl; (focus (first | exact oq_move (v := (.int _ _)) rfl (.p rfl) | exact oq_assign (v := (.int _ _)) rfl (.p rfl) | exact oq_arith64 rfl (.p rfl) (.p rfl) rfl (fun _ => by omega)))) | apply wl_nil) | (first | apply wc_region | apply k_seq | apply wc_skip | apply k_block_n))
      refine k_loop (k + 1) (by (repeat (first | exact Holds.nil | apply Holds.cons rfl))) (by (repeat (exact Sub.nil))) ⟨by omega, fun j hj => ?_⟩ (by omega)
      rcases Nat.lt_or_ge j k with h | h
      · exact hall j h
      · have : j = k := by omega
        subst this
        simp only [Bool.or_eq_false_iff, decide_eq_false_iff_not] at hb
        have h9 : 48 ≤ (s.data.toList.getD j 0).toNat ∧ (s.data.toList.getD j 0).toNat ≤ 57 := by omega
        exact decide_eq_true h9
  · have hks : k = s.size := by omega
    subst hks
    have hd : allDig s = true := by
      unfold allDig
      rw [List.all_eq_true]
      intro c hc'
      obtain ⟨j, hj, rfl⟩ := List.getElem_of_mem hc'
      have := hall j (by rw [bl_size]; exact hj)
      rwa [byteAt, getD_lt hj] at this
    repeat (first | (first | (apply wl_q rfl rfl rfl; (focus (first | exact oq_move (v := (.bool _)) rfl (.p rfl) | exact oq_move (v := (.string _)) rfl (.p rfl) | exact oq_cmp rfl (.p rfl) (.p rfl) rfl | exact oq_lenS rfl rfl (.p rfl) | exact oq_or rfl (.p rfl) (.p rfl) (.g rfl)))) | (apply wl_qg; (focus (exact guard_f rfl rfl rfl)); rfl; rfl; (focus (first | (apply oq_move (v := (.string _)) rfl; (focus (exact Ev.p rfl))) | (apply oq_cmp rfl (by (focus (exact Ev.g rfl))) (by (focus (exact Ev.p rfl))); rfl) | (apply oq_lenS rfl rfl; (focus (exact Ev.g rfl))) | (apply oq_remP rfl (by (focus (exact Ev.g rfl))) (by (focus (exact Ev.p rfl))) (fun _ => by omega) (fun _ => by omega))))) | apply wl_nil) | (first | apply wc_seq | apply wc_region | apply k_seq | apply wc_exit | apply k_seq_exit | apply k_block_eq rfl | apply k_loop_exit))
    apply wc_cond rfl <;> intro hb
    · repeat (first | (first | (apply wl_q rfl rfl rfl; (focus (exact oq_assign (v := (.int _ _)) rfl (.p rfl)))) | apply wl_nil) | (first | apply wc_seq | apply wc_region | apply k_seq | apply wc_ret | apply k_seq_ret))
      refine ret_of (rv_t (v := .int _ _) rfl) .none ⟨rfl, ?_⟩
      show Value.int .i64 0 = .int .i64 (level s)
      unfold level
      rw [if_neg]
      rintro ⟨h1, _⟩
      simp only [Bool.or_eq_true, decide_eq_true_eq, beq_iff_eq] at hb
      omega
    · repeat (first | (first | (apply wl_q rfl rfl rfl; (focus (first | exact oq_move (v := (.string _)) rfl (.p rfl) | exact oq_assign (v := (.int _ _)) rfl (.p rfl) | exact oq_lenS rfl rfl (.p rfl)))) | apply wl_nil) | (first | apply wc_seq | apply wc_region | apply k_seq | apply wc_ret | apply wc_skip))
      refine ret_of (rv_t (v := .int _ _) rfl) .none ⟨rfl, ?_⟩
      show Value.int .i64 (s.size : Int) = .int .i64 (level s)
      unfold level
      simp only [Bool.or_eq_false_iff, decide_eq_false_iff_not, beq_eq_false_iff_ne] at hb
      split
      · rfl
      · rename_i h
        have : ¬ (s.size = 2 ∨ s.size = 4 ∨ s.size = 6 ∨ s.size = 8) := fun h' => h ⟨h', hd⟩
        congr 1; omega
end SX
end Go.Proofs.YtfcecieppoljlaaGreatDoor
