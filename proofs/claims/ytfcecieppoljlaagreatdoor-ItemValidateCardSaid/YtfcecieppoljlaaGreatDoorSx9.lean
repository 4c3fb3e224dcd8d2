/- Our calculus, ninth text: regions of drawn order taken step by step, with branches where several operations may come up. No statement of the seat is proved here. -/
import Derived.Test.YtfcecieppoljlaaGreatDoorSx8
set_option maxRecDepth 100000
namespace Go.Proofs.YtfcecieppoljlaaGreatDoor
namespace SX
open Go
/-- The judgement on a region of drawn order of which the operations marked in L have come up. -/
def WS (β : Base) (n : Nat) (ops : Array Oper) (K : Post) (m : Nat) (L : Array Bool) (σ : Env) (ρd ρs : List Res) (κ : Kr) : Prop :=
  Inv β (ρd ++ ρs) κ → ∀ a, Rel n a σ → ∀ Q : Act → World → Prop, (∀ a' σ' ρ' κ', Rel n a' σ' → Inv β ρ' κ' → Kle κ κ' → K σ' ρ' κ' → Q a' κ'.w) → wpAnyH Tryz.prog .any ops (NP Q) (Stab ρs κ) m L a κ.w
section
variable {β : Base} {n m : Nat} {ops : Array Oper} {K : Post} {L : Array Bool} {σ : Env} {ρ ρd ρs : List Res} {κ : Kr} {o : Oper} {i d : Nat} {v : Value}
theorem Stab.of {κ' : Kr} (h : Inv β (ρd ++ ρs) κ') (hk : Kle κ κ') : Stab ρs κ κ'.w := ⟨hk.keep, fun r hr => h.own r (List.mem_append.2 (.inr hr))⟩
theorem ws_start {K : Exit → Post} {id : Nat} {l : List Oper} (hp : ρ.Perm (ρd ++ ρs)) (h : ∀ κ', Kle κ κ' → WS β n l.toArray (K .normal) l.length (Array.replicate l.length false) σ ρd ρs κ') : WC β n (.region id l.toArray true) K σ ρ κ := fun hi a hr Q hq => by
  have hk1 : Kle κ ⟨{ κ.w with drawn := κ.w.drawn + 1 }, κ.S⟩ := ⟨Nat.le_refl _, fun _ h => h, fun _ _ => rfl⟩
  have hs := h _ hk1 (hi.perm hp).drew a hr (fun a w => Q .normal a w) fun a' σ' ρ' κ' g1 g2 g3 g4 => hq _ a' σ' ρ' κ' g1 g2 (hk1.trans g3) g4
  exact wp_mono (wp_region_held mixed (by simpa using hs)) fun e a w h => by rw [h.1]; exact h.2
theorem ws_done (hr : (Region.ready .any ops L).isEmpty = true) (h : K σ (ρd ++ ρs) κ) : WS β n ops K m L σ ρd ρs κ := fun hi a hra Q hq =>
  wpAnyH_done (by simpa using hr) ⟨rfl, hq a σ _ κ hra hi (.refl _) h⟩ m
/-- What quiet operation may come first. -/
def okQ (ops : Array Oper) (L : Array Bool) (i : Nat) : Bool := Region.noSelect ops && Region.free .any ops L i && (Region.ready .any ops L).contains i
theorem ws_q (i : Nat) (hok : okQ ops L i = true) (ho : ops[i]? = some o) (hg : o.guard = none) (hd : o.dst = some d) (hlt : Nat.blt d n = true) (h : OpQ true o σ ρs κ v) (hw : WS β n ops K m (L.setIfInBounds i true) (upd σ d v) ρd ρs κ) : WS β n ops K (m + 1) L σ ρd ρs κ := fun hi a hr Q hq => by
  unfold okQ at hok
  simp only [Bool.and_eq_true] at hok
  refine wpAnyH_take ho hok.1.1 hok.1.2 hok.2 (fun _ _ _ h => by cases h.1) (v := v) (.inl ⟨by simp [Region.wanted, hg], fun w hw' => by rw [hr.eval]; exact h rfl w hw'⟩) (Stab.of hi (.refl _)) ?_
  rw [← updO_some hd] at hw
  exact hw hi _ (hr.put (dst_some hd hlt) v) Q hq
theorem ws_qg (i : Nat) {c : Bool} (hok : okQ ops L i = true) (ho : ops[i]? = some o) (hg : GuardIs ops σ o c) (hd : o.dst = some d) (hlt : Nat.blt d n = true) (h : OpQ c o σ ρs κ v) (hw : WS β n ops K m (L.setIfInBounds i true) (upd σ d (gv c v)) ρd ρs κ) : WS β n ops K (m + 1) L σ ρd ρs κ := fun hi a hr Q hq => by
  unfold okQ at hok
  simp only [Bool.and_eq_true] at hok
  refine wpAnyH_take ho hok.1.1 hok.1.2 hok.2 (fun _ _ _ h => by cases h.1) (v := gv c v) ?_ (Stab.of hi (.refl _)) ?_
  · cases c with
    | true => exact .inl ⟨by rw [wanted_rel hr]; exact hg, fun w hw' => by rw [hr.eval, gv_true]; exact h rfl w hw'⟩
    | false => exact .inr ⟨by rw [wanted_rel hr]; exact hg, gv_false v⟩
  · rw [← updO_some hd] at hw
    exact hw hi _ (hr.put (dst_some hd hlt) _) Q hq
/-- One of those that may come up. -/
def Step (β : Base) (n : Nat) (ops : Array Oper) (K : Post) (m : Nat) (L : Array Bool) (σ : Env) (ρd ρs : List Res) (κ : Kr) (i : Nat) : Prop :=
  ∃ o, ops[i]? = some o ∧ dstOk n o.dst = true ∧ ((o.guard = none ∧ OpL o σ (ρd ++ ρs) κ fun v ρ' κ' => ∃ ρd', ρ' = ρd' ++ ρs ∧ WS β n ops K m (L.setIfInBounds i true) (updO σ o.dst v) ρd' ρs κ') ∨
    (∃ c, GuardIs ops σ o c ∧ OpG c o σ (ρd ++ ρs) κ fun v κ' => WS β n ops K m (L.setIfInBounds i true) (updO σ o.dst (gv c v)) ρd ρs κ'))
theorem step_l (ho : ops[i]? = some o) (hg : o.guard = none) (hd : o.dst = some d) (hlt : Nat.blt d n = true) (h : OpL o σ (ρd ++ ρs) κ fun v ρ' κ' => ∃ ρd', ρ' = ρd' ++ ρs ∧ WS β n ops K m (L.setIfInBounds i true) (upd σ d v) ρd' ρs κ') : Step β n ops K m L σ ρd ρs κ i :=
  ⟨o, ho, dst_some hd hlt, .inl ⟨hg, by simp only [updO_some hd]; exact h⟩⟩
theorem step_l0 (ho : ops[i]? = some o) (hg : o.guard = none) (hd : o.dst = none) (h : OpL o σ (ρd ++ ρs) κ fun _ ρ' κ' => ∃ ρd', ρ' = ρd' ++ ρs ∧ WS β n ops K m (L.setIfInBounds i true) σ ρd' ρs κ') : Step β n ops K m L σ ρd ρs κ i :=
  ⟨o, ho, by rw [hd]; rfl, .inl ⟨hg, by simp only [hd]; exact h⟩⟩
theorem step_g {c : Bool} (ho : ops[i]? = some o) (hg : GuardIs ops σ o c) (hd : o.dst = some d) (hlt : Nat.blt d n = true) (h : OpG c o σ (ρd ++ ρs) κ fun v κ' => WS β n ops K m (L.setIfInBounds i true) (upd σ d (gv c v)) ρd ρs κ') : Step β n ops K m L σ ρd ρs κ i :=
  ⟨o, ho, dst_some hd hlt, .inr ⟨c, hg, by simp only [updO_some hd]; exact h⟩⟩
theorem Step.op (h : Step β n ops K m L σ ρd ρs κ i) (hi : Inv β (ρd ++ ρs) κ) (a : Act) (hr : Rel n a σ) (Q : Act → World → Prop) (hq : ∀ a' σ' ρ' κ', Rel n a' σ' → Inv β ρ' κ' → Kle κ κ' → K σ' ρ' κ' → Q a' κ'.w) :
    wpOp Tryz.prog ops (NP Q) i (fun a' w' => Stab ρs κ w' ∧ wpAnyH Tryz.prog .any ops (NP Q) (Stab ρs κ) m (L.setIfInBounds i true) a' w') a κ.w := by
  obtain ⟨o, ho, hd, h⟩ := h
  unfold wpOp
  simp only [ho]
  have fin : ∀ (σ' : Env) (ρ' : List Res) (κ' : Kr) (a' : Act), Rel n a' σ' → Inv β (ρ' ++ ρs) κ' → Kle κ κ' → WS β n ops K m (L.setIfInBounds i true) σ' ρ' ρs κ' → Stab ρs κ κ'.w ∧ wpAnyH Tryz.prog .any ops (NP Q) (Stab ρs κ) m (L.setIfInBounds i true) a' κ'.w := fun σ' ρ' κ' a' k1 k2 k3 k4 =>
    ⟨Stab.of k2 k3, wpAnyH_weak (fun w hw => ⟨fun b hb => (hw.keep b (k3.sh b hb)).trans (k3.keep b hb), hw.own⟩) _ _ _ _ (k4 k2 a' k1 Q fun a'' σ'' ρ'' κ'' g1 g2 g3 g4 => hq a'' σ'' ρ'' κ'' g1 g2 (k3.trans g3) g4)⟩
  rcases h with ⟨hg, hw⟩ | ⟨c, hg, hw⟩
  · rw [if_pos (by simp [Region.wanted, hg])]
    refine .inl (wp_of_out hr.eval (hw β hi (fun v w => Stab ρs κ w ∧ wpAnyH Tryz.prog .any ops (NP Q) (Stab ρs κ) m (L.setIfInBounds i true) (a.put o.dst v) w) fun v ρ' κ' hi' hle' hw' => ?_) fun _ _ h => h)
    obtain ⟨ρd', rfl, hw'⟩ := hw'
    exact fin _ ρd' κ' _ (hr.put hd v) hi' hle' hw'
  · rw [wanted_rel hr, hg]
    cases c with
    | false =>
      have h2 := hw.2 rfl
      simp only [gv_false] at h2
      exact fin _ ρd κ _ (hr.put hd _) hi (.refl _) h2
    | true =>
      refine .inl (wp_of_out hr.eval ((hw.1 rfl) β hi (fun v w => Stab ρs κ w ∧ wpAnyH Tryz.prog .any ops (NP Q) (Stab ρs κ) m (L.setIfInBounds i true) (a.put o.dst v) w) fun v ρ' κ' hi' hle' hw' => ?_) fun _ _ h => h)
      obtain ⟨rfl, hw'⟩ := hw'
      simp only [gv_true] at hw'
      exact fin _ ρd κ' _ (hr.put hd v) hi' hle' hw'
theorem ws_one (i : Nat) (hr : (Region.ready .any ops L == [i]) = true) (h : Step β n ops K m L σ ρd ρs κ i) : WS β n ops K (m + 1) L σ ρd ρs κ := fun hi a hra Q hq =>
  wpAnyH_all (by simpa using hr) (by simp) fun j hj => by
    simp only [List.mem_cons, List.not_mem_nil, or_false] at hj
    subst hj; exact h.op hi a hra Q hq
theorem ws_two (i j : Nat) (hr : (Region.ready .any ops L == [i, j]) = true) (h : Step β n ops K m L σ ρd ρs κ i) (h2 : Step β n ops K m L σ ρd ρs κ j) : WS β n ops K (m + 1) L σ ρd ρs κ := fun hi a hra Q hq =>
  wpAnyH_all (by simpa using hr) (by simp) fun k hk => by
    simp only [List.mem_cons, List.not_mem_nil, or_false] at hk
    rcases hk with rfl | rfl
    · exact h.op hi a hra Q hq
    · exact h2.op hi a hra Q hq
theorem ws_three (i j k : Nat) (hr : (Region.ready .any ops L == [i, j, k]) = true) (h : Step β n ops K m L σ ρd ρs κ i) (h2 : Step β n ops K m L σ ρd ρs κ j) (h3 : Step β n ops K m L σ ρd ρs κ k) : WS β n ops K (m + 1) L σ ρd ρs κ := fun hi a hra Q hq =>
  wpAnyH_all (by simpa using hr) (by simp) fun q hq' => by
    simp only [List.mem_cons, List.not_mem_nil, or_false] at hq'
    rcases hq' with rfl | rfl | rfl
    · exact h.op hi a hra Q hq
    · exact h2.op hi a hra Q hq
    · exact h3.op hi a hra Q hq
/-- An own block is held still. -/
theorem ws_still {r0 : Res} {ρd' : List Res} (hp : Pick ρd r0 ρd') (h : WS β n ops K m L σ ρd' (r0 :: ρs) κ) : WS β n ops K m L σ ρd ρs κ := fun hi a hr Q hq =>
  wpAnyH_weak (fun _ hw => ⟨hw.keep, fun r hr => hw.own r (List.mem_cons_of_mem _ hr)⟩) _ _ _ _ (h (hi.perm ((List.Perm.append_right ρs hp).trans (by
    simp only [List.cons_append]; exact List.perm_middle.symm))) a hr Q hq)
theorem ws_sub {ρd' : List Res} (hp : Sub ρd' ρd) (h : WS β n ops K m L σ ρd' ρs κ) : WS β n ops K m L σ ρd ρs κ := fun hi => by
  obtain ⟨l, hl⟩ := hp
  have e : (ρd ++ ρs).Perm ((ρd' ++ ρs) ++ l) := (List.Perm.append_right ρs hl).trans (by
    rw [List.append_assoc, List.append_assoc]; exact List.Perm.append_left _ List.perm_append_comm)
  exact h ((hi.perm e).sub (List.sublist_append_left _ _))
end
section
variable {β : Base} {n : Nat} {ops : Array Oper} {K : Post} {o : Oper} {r : List (Nat × Oper)} {σ : Env} {ρd : List Res} {κ : Kr}
/-- The same rules where no own block is held still. -/
theorem wd_ln {d : Nat} (hg : o.guard = none) (hd : o.dst = some d) (hlt : Nat.blt d n = true) (h : ∀ κ1, Kle κ κ1 → OpL o σ ρd κ1 fun v ρ' κ' => WD β n ops K r (upd σ d v) ρ' [] κ') : WD β n ops K ((1, o) :: r) σ ρd [] κ :=
  wd_l hg hd hlt fun κ1 k1 β' hi Nx hk => h κ1 k1 β' (by simpa using hi) Nx fun v ρ' κ' h1 h2 h3 => hk v ρ' κ' h1 h2 ⟨ρ', by simp, h3⟩
theorem wd_l0n (hg : o.guard = none) (hd : o.dst = none) (h : ∀ κ1, Kle κ κ1 → OpL o σ ρd κ1 fun _ ρ' κ' => WD β n ops K r σ ρ' [] κ') : WD β n ops K ((1, o) :: r) σ ρd [] κ :=
  wd_l0 hg hd fun κ1 k1 β' hi Nx hk => h κ1 k1 β' (by simpa using hi) Nx fun v ρ' κ' h1 h2 h3 => hk v ρ' κ' h1 h2 ⟨ρ', by simp, h3⟩
theorem ol_q {K : Value → List Res → Kr → Prop} {v : Value} {ρ : List Res} (h : OpQ true o σ ρ κ v) (hk : K v ρ κ) : OpL o σ ρ κ K := fun _ hi Nx hn => by
  rw [h rfl κ.w hi.stab]
  exact hn v ρ κ hi (.refl _) hk
theorem wd_niln (h : ∀ κ1, Kle κ κ1 → K σ ρd κ1) : WD β n ops K [] σ ρd [] κ := wd_nil fun κ1 hk => by rw [List.append_nil]; exact h κ1 hk
theorem step_ln {m i d : Nat} {L : Array Bool} (ho : ops[i]? = some o) (hg : o.guard = none) (hd : o.dst = some d) (hlt : Nat.blt d n = true) (h : OpL o σ ρd κ fun v ρ' κ' => WS β n ops K m (L.setIfInBounds i true) (upd σ d v) ρ' [] κ') : Step β n ops K m L σ ρd [] κ i :=
  step_l ho hg hd hlt fun β' hi Nx hk => h β' (by simpa using hi) Nx fun v ρ' κ' h1 h2 h3 => hk v ρ' κ' h1 h2 ⟨ρ', by simp, h3⟩
theorem step_l0n {m i : Nat} {L : Array Bool} (ho : ops[i]? = some o) (hg : o.guard = none) (hd : o.dst = none) (h : OpL o σ ρd κ fun _ ρ' κ' => WS β n ops K m (L.setIfInBounds i true) σ ρ' [] κ') : Step β n ops K m L σ ρd [] κ i :=
  step_l0 ho hg hd fun β' hi Nx hk => h β' (by simpa using hi) Nx fun v ρ' κ' h1 h2 h3 => hk v ρ' κ' h1 h2 ⟨ρ', by simp, h3⟩
end
end SX
end Go.Proofs.YtfcecieppoljlaaGreatDoor
