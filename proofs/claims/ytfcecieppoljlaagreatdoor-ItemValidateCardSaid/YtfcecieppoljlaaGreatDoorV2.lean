/- Codes and countries, second part: Trim, Level, countries. No statement of the seat is proved here. -/
import Derived.Test.YtfcecieppoljlaaGreatDoorV1
import Derived.Test.YtfcecieppoljlaaGreatDoorSxB
set_option maxRecDepth 100000
namespace Go.Proofs.YtfcecieppoljlaaGreatDoor
namespace SX
open Go
attribute [local irreducible] WL WC WD OpL OpQ OpG Ev GuardIs seqK blockK retK Call CallP midK loopK Holds upds Sub Pick WS Step Lit Upd SetAt SpliceAt FillR Sh LateRun
theorem trimLeft_ok (κ : Kr) (b : Nat) (s : ByteArray) (hs : Sh κ b 0 (setCells isDig)) : CallP 80 [.string s, .pointer (some ⟨b, 0, none⟩)] κ fun v _ => ∃ u k, v = .string u ∧ bl u = (bl s).drop k ∧ k ≤ (bl s).length ∧ (∀ c ∈ (bl s).take k, isDig c.toNat = true) ∧ (∀ c, (bl u).head? = some c → isDig c.toNat = false) := by
  (unfold CallP; apply call_of Tryz.func80 fk80 rfl Tryz.ntmps80 Tryz.results80 rfl)
  repeat (first | (first | (apply wl_q rfl rfl rfl; (focus (exact oq_assign (v := (.string _)) rfl (.p rfl)))) | apply wl_nil) | (first | apply wc_seq | apply wc_region | apply wc_block | apply k_seq))
  refine wc_loopL (X := ByteArray × Nat) (fun z => [(0, .string z.1), (1, .pointer (some ⟨b, 0, none⟩))]) (fun _ => []) (fun z _ => bl z.1 = (bl s).drop z.2 ∧ z.2 ≤ (bl s).length ∧ ∀ c ∈ (bl s).take z.2, isDig c.toNat = true) (fun z => (bl s).length - z.2) (s, 0) (by (repeat (first | exact Holds.nil | apply Holds.cons rfl))) (by (repeat (exact Sub.nil))) ⟨rfl, Nat.zero_le _, by simp⟩ ?_
  rintro ⟨u, k⟩ τ κ2 _ ⟨h1, h2, h3⟩
  dsimp only at h1 h2 h3
  have hsz : u.size = (bl s).length - k := by rw [bl_size, h1, List.length_drop]
  simp only [upds]
  repeat (first | (first | (apply wl_q rfl rfl rfl; (focus (first | exact oq_move (v := (.string _)) rfl (.p rfl) | exact oq_cmp rfl (.p rfl) (.p rfl) rfl | exact oq_lenS rfl rfl (.p rfl)))) | apply wl_nil) | (first | apply wc_seq | apply wc_region | apply k_seq))
  apply wc_dec rfl <;> intro hc
  · have hk0 : k < (bl s).length := by omega
    have hu0 : 0 < (bl u).length := by rw [← bl_size]; omega
    repeat (first | (apply wl_q rfl rfl rfl; (focus (first | exact oq_move (v := (.pointer _)) rfl (.p rfl) | exact oq_move (v := (.string _)) rfl (.p rfl)))) | (first | apply wc_seq | apply wc_region | apply wc_block | apply k_seq | apply wc_skip))
    apply wl_q rfl rfl rfl (oq_indexS (j := 0) rfl rfl (.p rfl) (.p rfl) (fun _ => by omega) (fun _ => by omega))
    have hhead : (bl u).head? = some ((bl u).getD 0 0) := by
      rw [List.head?_eq_getElem?, getD_lt hu0, List.getElem?_eq_getElem hu0]
    apply wl_l rfl rfl rfl; apply ol_callP rfl rfl (contains_ok _ b isDig ((u.data.toList.getD 0 0).toNat : Int) (hs.mono (by (repeat (assumption)))) (by omega) (by have := (u.data.toList.getD 0 0).toNat_lt; omega))
    rintro v κ3 _ rfl
    repeat (first | (first | (apply wl_q rfl rfl rfl; (focus (exact oq_not rfl (.p rfl)))) | apply wl_nil) | (apply k_seq))
    rw [Int.toNat_natCast]
    apply wc_cond rfl <;> intro hb
    · repeat (first | (first | (apply wl_q rfl rfl rfl; (focus (first | exact oq_move (v := (.string _)) rfl (.p rfl) | exact oq_assign (v := (.string _)) rfl (.p rfl)))) | apply wl_nil) | (first | apply wc_seq | apply wc_region | apply k_seq | apply wc_ret | apply wc_exit | apply k_seq_exit | apply k_block_eq rfl | apply k_block_ne rfl | apply k_loop_exit))
      refine ret_of (rv_t (v := .string _) rfl) .none ⟨rfl, u, k, rfl, h1, h2, h3, fun c hc => ?_⟩
      rw [hhead] at hc; injection hc with hc; subst hc; simpa using hb
    · repeat (first | (apply wl_q rfl rfl rfl; (focus (exact oq_move (v := (.string _)) rfl (.p rfl)))) | (first | apply wc_region | apply k_seq | apply wc_skip))
      apply wl_q rfl rfl rfl (oq_sliceSLo (l := 1) rfl rfl (.p rfl) (.p rfl) (fun _ => by omega) (fun _ => by omega))
      repeat (first | (first | (apply wl_q rfl rfl rfl; (focus (exact oq_assign (v := (.string _)) rfl (.p rfl)))) | apply wl_nil) | (apply k_block_n))
      refine k_loop (u.extract 1 u.size, k + 1) (by (repeat (first | exact Holds.nil | apply Holds.cons rfl))) (by (repeat (exact Sub.nil))) ⟨?_, by ((try dsimp only at *) <;> omega), ?_⟩ (by ((try dsimp only at *) <;> omega))
      · rw [bl_lo, h1, List.drop_drop]
      · intro c hc
        rw [List.take_add_one] at hc
        rcases List.mem_append.1 hc with hc | hc
        · exact h3 c hc
        · have e : (bl u).getD 0 0 = (bl s)[k]'hk0 := by rw [getD_lt hu0]; simp [h1]
          rw [List.getElem?_eq_getElem hk0] at hc
          simp only [Option.toList_some, List.mem_cons, List.not_mem_nil, or_false] at hc
          subst hc; rw [← e]; simpa using hb
  · repeat (first | (first | (apply wl_q rfl rfl rfl; (focus (first | exact oq_move (v := (.string _)) rfl (.p rfl) | exact oq_assign (v := (.string _)) rfl (.p rfl)))) | apply wl_nil) | (first | apply wc_seq | apply wc_region | apply k_seq | apply wc_ret | apply wc_exit | apply k_seq_exit | apply k_block_eq rfl | apply k_loop_exit))
    refine ret_of (rv_t (v := .string _) rfl) .none ⟨rfl, u, k, rfl, h1, h2, h3, fun c hc' => ?_⟩
    have : bl u = [] := List.eq_nil_of_length_eq_zero (by rw [← bl_size]; omega)
    rw [this] at hc'; cases hc'
def allDig (s : ByteArray) : Bool := (bl s).all fun c => isDig c.toNat
theorem size_zero {s : ByteArray} : s = ⟨#[]⟩ ↔ bl s = [] := ⟨fun h => by rw [h], fun h => bl_inj (by rw [h])⟩
theorem trim_ok (κ : Kr) (s : ByteArray) (hz : s.size ≤ 1000000000) : CallP 51 [.string s, .string digits10] κ fun v _ => ∃ u, v = .string u ∧ (u = ⟨#[]⟩ ↔ allDig s = true) := by
  (unfold CallP; apply call_of Tryz.func51 fk51 rfl Tryz.ntmps51 Tryz.results51 rfl)
  repeat (first | (first | (apply wl_q rfl rfl rfl; (focus (first | exact oq_move (v := (.bool _)) rfl (.p rfl) | exact oq_move (v := (.string _)) rfl (.p rfl) | exact oq_assign (v := (.string _)) rfl (.p rfl) | exact oq_or rfl (.p rfl) (.p rfl) (.g rfl) | exact oq_str rfl (.p rfl) (.p rfl) rfl))) | (apply wl_qg; (focus (exact guard_f rfl rfl rfl)); rfl; rfl; (focus (first | (apply oq_move (v := (.string _)) rfl; (focus (exact Ev.p rfl))) | (apply oq_str rfl (by (focus (exact Ev.g rfl))) (by (focus (exact Ev.p rfl))); rfl)))) | apply wl_nil) | (first | apply wc_seq | apply wc_region | apply k_seq))
  apply wc_cond rfl <;> intro hb
  · repeat (first | (first | (apply wl_q rfl rfl rfl; (focus (first | exact oq_move (v := (.string _)) rfl (.p rfl) | exact oq_assign (v := (.string _)) rfl (.p rfl)))) | apply wl_nil) | (first | apply wc_seq | apply wc_region | apply k_seq | apply wc_ret | apply k_seq_ret))
    have : s = ⟨#[]⟩ := by simpa [digits10] using hb
    refine ret_of (rv_t (v := .string _) rfl) .none ⟨rfl, s, rfl, ?_⟩
    subst this; simp [allDig, bl]
  · have hne : ¬ bl s = [] := fun h => by rw [size_zero.2 h] at hb; simp at hb
    repeat (first | (first | (apply wl_q rfl rfl rfl; (focus (first | exact oq_move (v := (.bool _)) rfl (.p rfl) | exact oq_move (v := (.string _)) rfl (.p rfl) | exact oq_cmp rfl (.p rfl) (.p rfl) rfl | exact oq_lenS rfl rfl (.p rfl)))) | (apply wl_qg; (focus (exact guard_t rfl rfl rfl)); rfl; rfl; (focus (apply oq_move (v := (.string _)) rfl; (focus (exact Ev.p rfl)))))) | (first | apply wc_seq | apply wc_region | apply k_seq | apply wc_skip))
    apply wl_qg; (focus (exact guard_t rfl rfl rfl)); rfl; rfl; exact oq_indexS (s := digits10) (j := 0) rfl rfl (.g rfl) (.p rfl) (fun _ => rfl) (fun _ => by decide)
    repeat (first | (first | (apply wl_q rfl rfl rfl; (focus (exact oq_and rfl (.p rfl) (.p rfl) (.g rfl)))) | (apply wl_qg; (focus (exact guard_t rfl rfl rfl)); rfl; rfl; (focus (apply oq_cmp rfl (by (focus (exact Ev.g rfl))) (by (focus (exact Ev.p rfl))); rfl))) | apply wl_nil) | (apply k_seq))
    apply wc_cond rfl <;> intro hb2
    · have e : (digits10.size : Int) = 10 := rfl
      rw [e] at hb2; simp at hb2
    repeat (first | (apply wl_q rfl rfl rfl; (focus (exact oq_move (v := (.string _)) rfl (.p rfl)))) | (first | apply wc_seq | apply wc_region | apply k_seq | apply wc_skip))
    refine wl_fun rfl rfl rfl rfl rfl (ascii_ok _) fun κ1 _ => ?_
    repeat (first | (first | (apply wl_q rfl rfl rfl; (focus (first | exact oq_move (v := (.bool _)) rfl (.p rfl) | exact oq_move (v := (.tuple _)) rfl (.p rfl) | exact oq_assign (v := (.bool _)) rfl (.p rfl) | exact oq_extract rfl (.p rfl) rfl))) | (apply wl_l rfl rfl rfl; apply ol_allocA rfl rfl; intro _ _ _) | (apply wl_l0 rfl rfl; apply ol_storeA rfl rfl rfl rfl rfl rfl; (focus (repeat (exact Upd.h))); rfl; intro _ _) | apply wl_nil) | (first | apply wc_seq | apply wc_region | apply k_seq))
    rename_i b5 _ _ _ _
    apply wc_pub (b := b5) Pick.h rfl; intro κ3 _ hS hsays
    have hset := sh_pub hS hsays
    apply wc_condT rfl
    repeat (first | (apply wl_q rfl rfl rfl; (focus (exact oq_move (v := (.string _)) rfl (.p rfl)))) | (first | apply wc_seq | apply wc_region))
    apply wl_l rfl rfl rfl; apply ol_callP rfl rfl (trimRight_ok _ b5 s (hset.mono (by (repeat (exact Kle.refl _)))) hz)
    rintro v κ4 _ ⟨u, k, rfl, h1, h2, h3, h4⟩
    apply wl_l rfl rfl rfl; apply ol_callP rfl rfl (trimLeft_ok _ b5 u (hset.mono (by (repeat (assumption)))))
    rintro v κ5 _ ⟨u2, k2, rfl, g1, g2, g3, g4⟩
    repeat (first | (first | (apply wl_q rfl rfl rfl; (focus (exact oq_assign (v := (.string _)) rfl (.p rfl)))) | apply wl_nil) | (first | apply k_seq | apply wc_ret | apply k_seq_ret))
    refine ret_of (rv_t (v := .string _) rfl) .none ⟨rfl, u2, rfl, ?_⟩
    rw [size_zero]
    unfold allDig
    rw [List.all_eq_true]
    constructor
    · intro h
      have hk2 : k2 = (bl u).length := by
        have := congrArg List.length (g1.symm.trans h); simp only [List.length_drop, List.length_nil] at this; omega
      intro c hc
      rw [← List.take_append_drop k (bl s)] at hc
      rcases List.mem_append.1 hc with hc | hc
      · rw [← h1] at hc; rw [hk2, List.take_length] at g3; exact g3 c hc
      · exact h3 c hc
    · intro h
      have hu : bl u = [] := by
        rcases List.eq_nil_or_concat (bl u) with hu | ⟨l, c, hu⟩
        · exact hu
        · have hc := h4 c (by rw [hu]; simp)
          have hm : c ∈ bl s := List.mem_of_mem_take (i := k) (by rw [← h1, hu]; simp)
          rw [h c hm] at hc; cases hc
      rw [g1, hu]; simp
end SX
end Go.Proofs.YtfcecieppoljlaaGreatDoor
