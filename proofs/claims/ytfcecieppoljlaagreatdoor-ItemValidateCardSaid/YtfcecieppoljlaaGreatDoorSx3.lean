/- Our calculus, third text: operations that change memory, calls by contract, regions whose order is drawn, the entry of a function. No statement of the seat is proved here. -/
import Derived.Test.YtfcecieppoljlaaGreatDoorSx2
set_option maxRecDepth 100000
namespace Go.Proofs.YtfcecieppoljlaaGreatDoor
namespace SX
open Go

theorem heap_alloc_lt {w : World} {o : Obj} {b : Nat} (h : b < w.heap.size) : (w.alloc o).heap[b]? = w.heap[b]? := by
  simp only [World.alloc]; rw [Array.getElem?_push_lt h, Array.getElem?_eq_getElem h]
theorem heap_alloc_eq (w : World) (o : Obj) : (w.alloc o).heap[w.heap.size]? = some o := by simp only [World.alloc]; exact Array.getElem?_push_size
theorem mem_mid {α : Type} {s r : α} {l1 l2 : List α} (h : s ∈ l1 ++ r :: l2) (hne : s ≠ r) : s ∈ l1 ++ l2 := by
  rcases List.mem_append.1 h with h | h
  · exact List.mem_append.2 (.inl h)
  · rcases List.mem_cons.1 h with h | h
    · exact absurd h hne
    · exact List.mem_append.2 (.inr h)
theorem mem_mid' {α : Type} {s r : α} {l1 l2 : List α} (h : s ∈ l1 ++ l2) : s ∈ l1 ++ r :: l2 := by
  rcases List.mem_append.1 h with h | h
  · exact List.mem_append.2 (.inl h)
  · exact List.mem_append.2 (.inr (List.mem_cons_of_mem _ h))
theorem Res.holds_of {r : Res} {w w' : World} (h : r.holds w) (hb : ∀ b, r.blk = some b → w'.heap[b]? = w.heap[b]?) : r.holds w' := by
  unfold Res.holds at *
  cases hr : r.blk with
  | none => rw [hr] at h; exact h
  | some b => rw [hr] at h; simp only at h ⊢; rw [hb b hr]; exact h

section
variable {β : Base} {ρ : List Res} {κ : Kr}
theorem kle_alloc (h : ∀ b, κ.S b → b < κ.w.heap.size) (o : Obj) : Kle κ ⟨κ.w.alloc o, κ.S⟩ :=
  ⟨by simp, fun _ h => h, fun b hb => heap_alloc_lt (h b hb)⟩
/-- A new block of the call's own. -/
theorem Inv.alloc (h : Inv β ρ κ) (o : Obj) (r : Res) (hb : r.blk = some κ.w.heap.size) (hs : r.says (some o)) : Inv β (r :: ρ) ⟨κ.w.alloc o, κ.S⟩ := by
  obtain ⟨hle, hfin, hown, hblk, hnd⟩ := h
  refine ⟨⟨hle.kle.trans (kle_alloc hfin o), fun b hb hm => (heap_alloc_lt (Nat.lt_of_lt_of_le hb hle.kle.size)).trans (hle.same b hb hm), hle.shNew, hle.os, hle.tape, hle.output⟩, fun b hb => by have := hfin b hb; simp; omega, ?_, ?_, ?_⟩
  · intro s hs'
    rcases List.mem_cons.1 hs' with rfl | hs'
    · unfold Res.holds; rw [hb]; simp only; rw [heap_alloc_eq]; exact hs
    · exact Res.holds_of (hown s hs') fun b hb => heap_alloc_lt (hblk s hs' b hb).1
  · intro s hs' b hb'
    rcases List.mem_cons.1 hs' with rfl | hs'
    · rw [hb] at hb'; injection hb' with hb'; subst hb'
      exact ⟨by simp, fun hS => absurd (hfin _ hS) (by omega), .inl hle.kle.size⟩
    · obtain ⟨h1, h2, h3⟩ := hblk s hs' b hb'
      exact ⟨by simp; omega, h2, h3⟩
  · refine List.Pairwise.cons ?_ hnd
    intro s hs' b hb' hb''
    rw [hb] at hb'; injection hb' with hb'; subst hb'
    have := (hblk s hs' _ hb'').1; omega
/-- A block of the call's own is turned. -/
theorem Inv.turn (h : Inv β ρ κ) {r r' : Res} {l1 l2 : List Res} {b : Nat} {w' : World} (hρ : ρ = l1 ++ r :: l2) (hb : r.blk = some b) (hb' : r'.blk = some b)
    (hw : ∀ i, i ≠ b → w'.heap[i]? = κ.w.heap[i]?) (hz : w'.heap.size = κ.w.heap.size) (hs : r'.says w'.heap[b]?) (ho : w'.os = κ.w.os) (ht : w'.tape = κ.w.tape) (hu : w'.output = κ.w.output) :
    Inv β (l1 ++ r' :: l2) ⟨w', κ.S⟩ ∧ Kle κ ⟨w', κ.S⟩ := by
  obtain ⟨hle, hfin, hown, hblk, hnd⟩ := h
  have hr : r ∈ ρ := by rw [hρ]; simp
  obtain ⟨hlt, hnS, hbase⟩ := hblk r hr b hb
  have hk : Kle κ ⟨w', κ.S⟩ := ⟨by rw [hz]; exact Nat.le_refl _, fun _ h => h, fun i hi => hw i fun e => hnS (e ▸ hi)⟩
  rw [hρ] at hnd
  have hcross : ∀ s ∈ l1 ++ l2, s.blk ≠ some b := by
    intro s hs' he
    rcases List.mem_append.1 hs' with hs' | hs'
    · exact (List.pairwise_append.1 hnd).2.2 s hs' r (by simp) b he hb
    · exact (List.pairwise_cons.1 (List.pairwise_append.1 hnd).2.1).1 s hs' b hb he
  refine ⟨⟨⟨hle.kle.trans hk, fun i hi hm => (hw i (fun e => by subst e; exact hbase.elim (fun h => absurd hi (by omega)) hm)).trans (hle.same i hi hm), hle.shNew, ho.trans hle.os, ht.trans hle.tape, hu.trans hle.output⟩, fun i hi => by rw [hz]; exact hfin i hi, ?_, ?_, ?_⟩, hk⟩
  · intro s hs'
    by_cases hsr : s = r'
    · subst hsr; unfold Res.holds; rw [hb']; exact hs
    · have hs2 : s ∈ l1 ++ l2 := mem_mid hs' hsr
      have hs3 : s ∈ ρ := by rw [hρ]; exact mem_mid' hs2
      exact Res.holds_of (hown s hs3) fun i hi => hw i fun e => hcross s hs2 (e ▸ hi)
  · intro s hs' i hi
    by_cases hsr : s = r'
    · subst hsr; rw [hb'] at hi; injection hi with hi; subst hi; exact ⟨by rw [hz]; exact hlt, hnS, hbase⟩
    · have hs3 : s ∈ ρ := by rw [hρ]; exact mem_mid' (mem_mid hs' hsr)
      obtain ⟨h1, h2, h3⟩ := hblk s hs3 i hi
      exact ⟨by rw [hz]; exact h1, h2, h3⟩
  · refine List.pairwise_append.2 ⟨(List.pairwise_append.1 hnd).1, List.Pairwise.cons ?_ (List.pairwise_cons.1 (List.pairwise_append.1 hnd).2.1).2, ?_⟩
    · intro s hs' i hi; rw [hb'] at hi; injection hi with hi; subst hi; exact hcross s (by simp [hs'])
    · intro s hs' u hu' i hi
      rcases List.mem_cons.1 hu' with rfl | hu'
      · rw [hb']; intro e; injection e with e; subst e; exact hcross s (by simp [hs']) hi
      · exact (List.pairwise_append.1 hnd).2.2 s hs' u (by simp [hu']) i hi
theorem Inv.perm {ρ' : List Res} (h : Inv β ρ κ) (hp : ρ.Perm ρ') : Inv β ρ' κ :=
  ⟨h.le, h.fin, fun r hr => h.own r (hp.mem_iff.2 hr), fun r hr => h.blk r (hp.mem_iff.2 hr), hp.pairwise h.nd fun hab b hb he => hab b he hb⟩
theorem Inv.sub {ρ' : List Res} (h : Inv β ρ κ) (hp : ρ'.Sublist ρ) : Inv β ρ' κ :=
  ⟨h.le, h.fin, fun r hr => h.own r (hp.subset hr), fun r hr => h.blk r (hp.subset hr), h.nd.sublist hp⟩
theorem Inv.drew (h : Inv β ρ κ) : Inv β ρ ⟨{ κ.w with drawn := κ.w.drawn + 1 }, κ.S⟩ :=
  ⟨⟨⟨h.le.kle.size, h.le.kle.sh, h.le.kle.keep⟩, h.le.same, h.le.shNew, h.le.os, h.le.tape, h.le.output⟩, h.fin, h.own, h.blk, h.nd⟩
/-- An own block becomes shared. -/
theorem Inv.pub {r : Res} {l : List Res} {b : Nat} (h : Inv β (r :: l) κ) (hb : r.blk = some b) : Inv β l ⟨κ.w, fun i => κ.S i ∨ i = b⟩ ∧ Kle κ ⟨κ.w, fun i => κ.S i ∨ i = b⟩ := by
  obtain ⟨hle, hfin, hown, hblk, hnd⟩ := h
  obtain ⟨hlt, hnS, hbase⟩ := hblk r (by simp) b hb
  have hk : Kle κ ⟨κ.w, fun i => κ.S i ∨ i = b⟩ := ⟨Nat.le_refl _, fun _ h => .inl h, fun _ _ => rfl⟩
  refine ⟨⟨⟨hle.kle.trans hk, hle.same, fun i hi => ?_, hle.os, hle.tape, hle.output⟩, fun i hi => ?_, fun s hs => hown s (List.mem_cons_of_mem _ hs), fun s hs i hi => ?_, (List.pairwise_cons.1 hnd).2⟩, hk⟩
  · rcases hi with hi | rfl
    · exact hle.shNew i hi
    · exact .inr hbase
  · rcases hi with hi | rfl
    · exact hfin i hi
    · exact hlt
  · obtain ⟨h1, h2, h3⟩ := hblk s (List.mem_cons_of_mem _ hs) i hi
    refine ⟨h1, fun h => ?_, h3⟩
    rcases h with h | rfl
    · exact h2 h
    · exact (List.pairwise_cons.1 hnd).1 s hs i hb hi

/-! ### Calls by contract -/
def blks (ρ : List Res) : List Nat := ρ.filterMap (·.blk)
theorem mem_blks {r : Res} {b : Nat} {ρ : List Res} (h : r ∈ ρ) (hb : r.blk = some b) : b ∈ blks ρ := List.mem_filterMap.2 ⟨r, h, hb⟩
theorem of_mem_blks {b : Nat} {ρ : List Res} (h : b ∈ blks ρ) : ∃ r ∈ ρ, r.blk = some b := List.mem_filterMap.1 h
theorem Inv.split {ρ1 ρ2 : List Res} (h : Inv β (ρ1 ++ ρ2) κ) : Inv ⟨κ, blks ρ1⟩ ρ1 κ :=
  ⟨.refl _ _, h.fin, fun r hr => h.own r (List.mem_append.2 (.inl hr)), fun r hr b hb =>
    ⟨(h.blk r (List.mem_append.2 (.inl hr)) b hb).1, (h.blk r (List.mem_append.2 (.inl hr)) b hb).2.1, .inr (mem_blks hr hb)⟩, (List.pairwise_append.1 h.nd).1⟩
theorem Inv.join {ρ1 ρ2 ρ1' : List Res} {κ' : Kr} (h : Inv β (ρ1 ++ ρ2) κ) (h' : Inv ⟨κ, blks ρ1⟩ ρ1' κ') : Inv β (ρ1' ++ ρ2) κ' := by
  have hbase : ∀ b, b ∈ blks ρ1 → b < κ.w.heap.size ∧ (β.k0.w.heap.size ≤ b ∨ b ∈ β.M) := fun b hb => by
    obtain ⟨r, hr, hb⟩ := of_mem_blks hb
    have := h.blk r (List.mem_append.2 (.inl hr)) b hb
    exact ⟨this.1, this.2.2⟩
  have hcross : ∀ s ∈ ρ2, ∀ b, s.blk = some b → b ∉ blks ρ1 := fun s hs b hb hm => by
    obtain ⟨r, hr, hrb⟩ := of_mem_blks hm
    exact (List.pairwise_append.1 h.nd).2.2 r hr s hs b hrb hb
  have h2 : ∀ s ∈ ρ2, ∀ b, s.blk = some b → b < κ.w.heap.size ∧ ¬ κ.S b ∧ (β.k0.w.heap.size ≤ b ∨ b ∈ β.M) := fun s hs => h.blk s (List.mem_append.2 (.inr hs))
  have hk := h'.le.kle
  refine ⟨⟨h.le.kle.trans hk, fun b hb hm => ?_, fun b hb => ?_, h'.le.os.trans h.le.os, h'.le.tape.trans h.le.tape, h'.le.output.trans h.le.output⟩, h'.fin, ?_, ?_, ?_⟩
  · have hlt : b < κ.w.heap.size := Nat.lt_of_lt_of_le hb h.le.kle.size
    refine (h'.le.same b hlt fun hx => ?_).trans (h.le.same b hb hm)
    exact (hbase b hx).2.elim (fun h => absurd hb (by omega)) hm
  · rcases h'.le.shNew b hb with hS | hge | hx
    · exact h.le.shNew b hS
    · exact .inr (.inl (Nat.le_trans h.le.kle.size hge))
    · exact .inr (hbase b hx).2
  · intro r hr
    rcases List.mem_append.1 hr with hr | hr
    · exact h'.own r hr
    · exact Res.holds_of (h.own r (List.mem_append.2 (.inr hr))) fun b hb => h'.le.same b (h2 r hr b hb).1 (hcross r hr b hb)
  · intro r hr b hb
    rcases List.mem_append.1 hr with hr | hr
    · obtain ⟨g1, g2, g3⟩ := h'.blk r hr b hb
      refine ⟨g1, g2, ?_⟩
      rcases g3 with g3 | g3
      · exact .inl (Nat.le_trans h.le.kle.size g3)
      · exact (hbase b g3).2
    · obtain ⟨g1, g2, g3⟩ := h2 r hr b hb
      refine ⟨Nat.lt_of_lt_of_le g1 hk.size, fun hS => ?_, g3⟩
      rcases h'.le.shNew b hS with hS | hge | hx
      · exact g2 hS
      · exact absurd g1 (by exact Nat.not_lt.2 hge)
      · exact hcross r hr b hb hx
  · refine List.pairwise_append.2 ⟨h'.nd, (List.pairwise_append.1 h.nd).2.1, fun r hr s hs b hb hb' => ?_⟩
    rcases (h'.blk r hr b hb).2.2 with g | g
    · exact absurd (h2 s hs b hb').1 (by exact Nat.not_lt.2 g)
    · exact hcross s hs b hb' g

def FnOk (f : Nat) : Prop := ∃ fn, Tryz.prog.funcs[f]? = some fn ∧ (fn.name == "runtime.NumGoroutine") = false ∧ fn.body.isNone = false
/-- The contract of a function: called with the resources ρ it returns v, with the resources ρ', and R holds. -/
def Call (f : Nat) (args : List Value) (ρ : List Res) (κ : Kr) (R : Value → List Res → Kr → Prop) : Prop :=
  FnOk f ∧ (Inv ⟨κ, blks ρ⟩ ρ κ → Calls Tryz.prog f args.toArray κ.w fun e w' => ∃ v ρ' κ', e = .returned v ∧ w' = κ'.w ∧ Inv ⟨κ, blks ρ⟩ ρ' κ' ∧ R v ρ' κ')
theorem Call.mono {f : Nat} {args : List Value} {R R' : Value → List Res → Kr → Prop} (h : Call f args ρ κ R) (hr : ∀ v ρ' κ', Kle κ κ' → R v ρ' κ' → R' v ρ' κ') : Call f args ρ κ R' :=
  ⟨h.1, fun hi => (h.2 hi).mono fun _ _ ⟨v, ρ', κ', h1, h2, h3, h4⟩ => ⟨v, ρ', κ', h1, h2, h3, hr v ρ' κ' h3.le.kle h4⟩⟩
/-- The resources that a callee hands back and that nobody wants are dropped. -/
theorem run_callFunc {f : Nat} (h : FnOk f) (args : Array Value) (w : World) : (callFunc f args).run Tryz.prog w = .ok (.enter f args) w := by
  obtain ⟨fn, h1, h2, h3⟩ := h
  simp only [callFunc, Sem.run_bind, run_program, Result.andThen_ok, h1, h2, h3, Bool.false_eq_true, if_false, Sem.run_pure]

section
variable {o : Oper} {σ : Env} {K : Value → List Res → Kr → Prop}
theorem ol_call {f : Nat} {l : List Operand} {ts : Array Nat} {args : List Value} {ρ1 ρ2 : List Res} {R : Value → List Res → Kr → Prop} (ho : o.op = .call { callee := .value (.func f), args := l.toArray, argTypes := ts })
    (ha : l.map (ev σ) = args) (hp : ρ.Perm (ρ1 ++ ρ2)) (hc : Call f args ρ1 κ R) (h : ∀ v ρ' κ', Kle κ κ' → R v ρ' κ' → K v (ρ' ++ ρ2) κ') : OpL o σ ρ κ K := fun β hi Nx hk => by
  have hi2 := hi.perm hp
  unfold execOp
  simp only [ho, ev, resolve, Deferred.ofValue, Sem.run_bind, Sem.run_pure, Result.andThen_ok, invoke, List.map_toArray, ha, run_callFunc hc.1, OutV]
  simp only [Array.append_empty, Array.empty_append]
  exact (hc.2 hi2.split).mono fun e w' ⟨v, ρ', κ', h1, h2, h3, h4⟩ => by
    subst h2
    exact ⟨v, h1, hk v (ρ' ++ ρ2) κ' (hi2.join h3) h3.le.kle (h v ρ' κ' h3.le.kle h4)⟩
/-- A call of a function that takes no resource of ours. -/
theorem ol_call0 {f : Nat} {l : List Operand} {ts : Array Nat} {args : List Value} {R : Value → List Res → Kr → Prop} (ho : o.op = .call { callee := .value (.func f), args := l.toArray, argTypes := ts })
    (ha : l.map (ev σ) = args) (hc : Call f args [] κ R) (h : ∀ v ρ' κ', Kle κ κ' → R v ρ' κ' → K v (ρ' ++ ρ) κ') : OpL o σ ρ κ K :=
  ol_call ho ha (List.Perm.refl _) hc h
/-- A call of a function value. -/
theorem ol_callv {f : Nat} {x : Operand} {l : List Operand} {ts : Array Nat} {first captured args : List Value} {ρ1 ρ2 : List Res} {R : Value → List Res → Kr → Prop} (ho : o.op = .call { callee := .value x, args := l.toArray, argTypes := ts })
    (hx : ev σ x = .func (.func f) first.toArray captured.toArray) (ha : first ++ (l.map (ev σ)) ++ captured = args) (hp : ρ.Perm (ρ1 ++ ρ2)) (hc : Call f args ρ1 κ R) (h : ∀ v ρ' κ', Kle κ κ' → R v ρ' κ' → K v (ρ' ++ ρ2) κ') : OpL o σ ρ κ K := fun β hi Nx hk => by
  have hi2 := hi.perm hp
  unfold execOp
  simp only [ho, hx, resolve, Deferred.ofValue, Sem.run_bind, Sem.run_pure, Result.andThen_ok, invoke, List.map_toArray, List.append_toArray, ha, run_callFunc hc.1, OutV]
  exact (hc.2 hi2.split).mono fun e w' ⟨v, ρ', κ', h1, h2, h3, h4⟩ => by
    subst h2
    exact ⟨v, h1, hk v (ρ' ++ ρ2) κ' (hi2.join h3) h3.le.kle (h v ρ' κ' h3.le.kle h4)⟩

/-! ### New blocks, stores -/
theorem ol_box {t : Nat} {x : Operand} {cs : List Value} (ho : o.op = .box t x) (hx : cellsL (ev σ x) = cs) (h : ∀ b κ', Kle κ κ' → K (.pointer (some ⟨b, 0, none⟩)) (Res.b b t cs :: ρ) κ') : OpL o σ ρ κ K := fun β hi Nx hk => by
  have hcs : (ev σ x).cells = cs.toArray := by rw [← hx, ← cellsL_eq]
  unfold execOp
  simp only [ho, Instr.box, newVar, newRow, Sem.run_bind, run_newObj_alloc, Result.andThen_ok, Sem.run_pure, OutV, hcs]
  exact hk _ _ _ (hi.alloc _ (Res.b κ.w.heap.size t cs) rfl rfl) (kle_alloc hi.fin _) (h _ _ (kle_alloc hi.fin _))
theorem ol_boxA {t : Nat} {x : Operand} {cs : List Value} (ho : o.op = .box t x) (hx : ev σ x = .agg cs.toArray) (h : ∀ b κ', Kle κ κ' → K (.pointer (some ⟨b, 0, none⟩)) (Res.b b t cs :: ρ) κ') : OpL o σ ρ κ K := ol_box ho (by rw [hx]; rfl) h
theorem ol_box1 {t : Nat} {x : Operand} {v : Value} (ho : o.op = .box t x) (hx : ev σ x = v) (h1 : cellsL v = [v]) (h : ∀ b κ', Kle κ κ' → K (.pointer (some ⟨b, 0, none⟩)) (Res.b b t [v] :: ρ) κ') : OpL o σ ρ κ K := ol_box ho (by rw [hx]; exact h1) h
theorem ol_allocA {t : Nat} {cs : List Value} {sz by' : Nat} (ho : o.op = .alloc t) (hz : inf t = some (.agg cs.toArray, sz, by')) (h : ∀ b κ', Kle κ κ' → K (.pointer (some ⟨b, 0, none⟩)) (Res.b b t cs :: ρ) κ') : OpL o σ ρ κ K := fun β hi Nx hk => by
  unfold execOp
  simp only [ho, Instr.alloc, newVar, newRow, Sem.run_bind, run_zeroValue hz, run_newObj_alloc, Result.andThen_ok, Sem.run_pure, OutV, Value.cells]
  exact hk _ _ _ (hi.alloc _ (Res.b κ.w.heap.size t cs) rfl rfl) (kle_alloc hi.fin _) (h _ _ (kle_alloc hi.fin _))
theorem ol_alloc {t : Nat} {z : Value} {sz by' : Nat} {cs : List Value} (ho : o.op = .alloc t) (hz : inf t = some (z, sz, by')) (hx : cellsL z = cs) (h : ∀ b κ', Kle κ κ' → K (.pointer (some ⟨b, 0, none⟩)) (Res.b b t cs :: ρ) κ') : OpL o σ ρ κ K := fun β hi Nx hk => by
  have hcs : z.cells = cs.toArray := by rw [← hx, ← cellsL_eq]
  unfold execOp
  simp only [ho, Instr.alloc, newVar, newRow, Sem.run_bind, run_zeroValue hz, run_newObj_alloc, Result.andThen_ok, Sem.run_pure, OutV, hcs]
  exact hk _ _ _ (hi.alloc _ (Res.b κ.w.heap.size t cs) rfl rfl) (kle_alloc hi.fin _) (h _ _ (kle_alloc hi.fin _))
def Upd (ρ : List Res) (r r' : Res) (ρ' : List Res) : Prop := ∃ l1 l2, ρ = l1 ++ r :: l2 ∧ ρ' = l1 ++ r' :: l2
theorem Upd.h {r r' : Res} {l : List Res} : Upd (r :: l) r r' (r' :: l) := ⟨[], l, rfl, rfl⟩
theorem Upd.t {r r' s : Res} {l l' : List Res} (h : Upd l r r' l') : Upd (s :: l) r r' (s :: l') := by
  obtain ⟨l1, l2, h1, h2⟩ := h
  exact ⟨s :: l1, l2, by rw [h1]; rfl, by rw [h2]; rfl⟩
theorem setRow_other {w : World} {g : Nat} {cs : Array Value} {i : Nat} (h : i ≠ g) : (w.setRow g cs).heap[i]? = w.heap[i]? := by
  simp only [World.setRow]; rw [Array.getElem?_modify, if_neg (fun e => h e.symm)]
/-- Storing the cells vs at ⟨b, off⟩ of an own block. -/
theorem run_store_own {w : World} {b off T : Nat} {cs vs : List Value} (hb : w.heap[b]? = some (.cells cs.toArray T (0, 0))) (hl : off + vs.length ≤ cs.length) (h1 : vs.all Value.oneCell' = true) :
    ∃ w', (storeCells ⟨b, off, none⟩ vs).run Tryz.prog w = .ok () w' ∧ (∀ i, i ≠ b → w'.heap[i]? = w.heap[i]?) ∧ w'.heap.size = w.heap.size ∧ w'.heap[b]? = some (.cells (cs.take off ++ vs ++ cs.drop (off + vs.length)).toArray T (0, 0)) ∧ w'.os = w.os ∧ w'.tape = w.tape ∧ w'.output = w.output := by
  have h := run_storeCells_at Tryz.prog b off T vs 0 cs.toArray w hb (by simpa using hl) (fun v hv => List.all_eq_true.1 h1 v hv)
  simp only [Nat.add_zero] at h
  exact ⟨_, h, fun i hi => setRow_other hi, by simp [World.setRow], setRow_heap w b _ _ T _ hb, rfl, rfl, rfl⟩
theorem ol_store {t : Nat} {x y : Operand} {b off T sz by' : Nat} {z : Value} {cs vs : List Value} {ρ' : List Res} (ho : o.op = .store t x y) (hx : ev σ x = .pointer (some ⟨b, off, none⟩)) (hv : cellsL (ev σ y) = vs)
    (hz : inf t = some (z, sz, by')) (hsz : vs.length = sz) (h1 : vs.all Value.oneCell' = true) (hl : Nat.ble (off + vs.length) cs.length = true) (hu : Upd ρ (Res.b b T cs) (Res.b b T (cs.take off ++ vs ++ cs.drop (off + vs.length))) ρ')
    (h : ∀ κ', Kle κ κ' → K undef ρ' κ') : OpL o σ ρ κ K := fun β hi Nx hk => by
  obtain ⟨l1, l2, hρ, hρ'⟩ := hu
  have hb : κ.w.heap[b]? = some (.cells cs.toArray T (0, 0)) := hi.own (Res.b b T cs) (by rw [hρ]; simp)
  obtain ⟨w', hrun, g1, g2, g3, g4, g5, g6⟩ := run_store_own hb (Nat.le_of_ble_eq_true hl) h1
  have hcs : (ev σ y).cells = vs.toArray := by rw [← hv, ← cellsL_eq]
  have hsz' : vs.toArray.size = sz := by simpa using hsz
  unfold execOp
  simp only [ho, hx, Instr.storeAt, Instr.sureAddr, storeVar, Sem.run_bind, Sem.run_pure, Result.andThen_ok, run_sizeOf hz, hcs, hsz', ne_eq, not_true_eq_false, if_false, hrun, OutV]
  obtain ⟨hi', hk'⟩ := hi.turn (r := Res.b b T cs) (r' := Res.b b T (cs.take off ++ vs ++ cs.drop (off + vs.length))) hρ rfl rfl g1 g2 g3 g4 g5 g6
  rw [← hρ'] at hi'
  exact hk _ _ _ hi' hk' (h _ hk')
def SetAt (cs : List Value) (k : Nat) (v : Value) (cs' : List Value) : Prop := cs' = cs.set k v ∧ k < cs.length
theorem SetAt.h {x v : Value} {l : List Value} : SetAt (x :: l) 0 v (v :: l) := ⟨rfl, by simp⟩
theorem SetAt.t {x v : Value} {l l' : List Value} {k : Nat} (h : SetAt l k v l') : SetAt (x :: l) (k + 1) v (x :: l') := ⟨by rw [h.1]; rfl, by have := h.2; simp; omega⟩
theorem set_eq_take {cs : List Value} {k : Nat} {v : Value} (h : k < cs.length) : cs.set k v = cs.take k ++ [v] ++ cs.drop (k + 1) := by
  rw [List.set_eq_take_append_cons_drop, if_pos h]; simp
theorem ol_store1 {t : Nat} {x y : Operand} {b off T by' : Nat} {z v : Value} {cs cs' : List Value} {ρ' : List Res} (ho : o.op = .store t x y) (hx : ev σ x = .pointer (some ⟨b, off, none⟩)) (hv : ev σ y = v) (hv1 : cellsL v = [v])
    (hz : inf t = some (z, 1, by')) (h1 : v.oneCell' = true) (hu : Upd ρ (Res.b b T cs) (Res.b b T cs') ρ') (hs : SetAt cs off v cs')
    (h : ∀ κ', Kle κ κ' → K undef ρ' κ') : OpL o σ ρ κ K := by
  obtain ⟨h2, h3⟩ := hs
  rw [h2, set_eq_take h3] at hu
  exact ol_store ho hx (by rw [hv]; exact hv1) hz rfl (by simp [h1]) (Nat.ble_eq_true_of_le (by simp only [List.length_cons, List.length_nil]; omega)) hu h
/-- A whole block is stored. -/
theorem ol_storeA {t : Nat} {x y : Operand} {b T sz by' : Nat} {z : Value} {cs vs : List Value} {ρ' : List Res} (ho : o.op = .store t x y) (hx : ev σ x = .pointer (some ⟨b, 0, none⟩)) (hv : ev σ y = .agg vs.toArray)
    (hz : inf t = some (z, sz, by')) (hsz : vs.length = sz) (h1 : vs.all Value.oneCell' = true) (hu : Upd ρ (Res.b b T cs) (Res.b b T vs) ρ') (hl : vs.length = cs.length)
    (h : ∀ κ', Kle κ κ' → K undef ρ' κ') : OpL o σ ρ κ K := by
  refine ol_store (T := T) ho hx (vs := vs) (by rw [hv]; rfl) hz hsz h1 (cs := cs) (Nat.ble_eq_true_of_le (by omega)) ?_ h
  have : cs.take 0 ++ vs ++ cs.drop (0 + vs.length) = vs := by simp [hl]
  rw [this]; exact hu
end

/-! ### A function's entry and its return -/
/-- What a result is, at the end. -/
def RV1 (rv : ResultVar) (σ : Env) (ρ : List Res) (v : Value) : Prop := match rv with
  | .tmp t => σ t = v
  | .cell t T => ∃ b off Tb cs, σ t = .pointer (some ⟨b, off, none⟩) ∧ Res.b b Tb cs ∈ ρ ∧ readAs T (cs.drop off) 0 = some v
theorem RV1.cell {t T b off Tb : Nat} {σ : Env} {cs : List Value} {v : Value} (h1 : σ t = .pointer (some ⟨b, off, none⟩)) (h2 : Res.b b Tb cs ∈ ρ) (h3 : readAs T (cs.drop off) 0 = some v) : RV1 (.cell t T) σ ρ v := ⟨b, off, Tb, cs, h1, h2, h3⟩
def RV (rs : List ResultVar) (σ : Env) (ρ : List Res) (v : Value) : Prop := match rs with
  | [] => v = .tuple #[]
  | [r] => RV1 r σ ρ v
  | [r, s] => ∃ v1 v2, RV1 r σ ρ v1 ∧ RV1 s σ ρ v2 ∧ v = .tuple #[v1, v2]
  | [r, s, t] => ∃ v1 v2 v3, RV1 r σ ρ v1 ∧ RV1 s σ ρ v2 ∧ RV1 t σ ρ v3 ∧ v = .tuple #[v1, v2, v3]
  | _ => False
def rvSem (tmps : Array Value) (rv : ResultVar) : Sem Value := match rv with
  | .tmp t => pure (tmps.getD t undef)
  | .cell x t => do loadVar t (← asAddr (tmps.getD x undef))
theorem run_RV1 {n : Nat} {a : Act} {σ : Env} {rv : ResultVar} {v : Value} (hr : Rel n a σ) (hi : Inv β ρ κ) (h : RV1 rv σ ρ v) :
    (rvSem a.tmps rv).run Tryz.prog κ.w = .ok v κ.w := by
  unfold rvSem
  cases rv with
  | tmp t => simp only [RV1] at h; simp only [hr.2.2, h, Sem.run_pure]
  | cell t T =>
    obtain ⟨b, off, Tb, cs, h1, h2, h3⟩ := h
    have hb : κ.w.heap[b]? = some (.cells cs.toArray Tb (0, 0)) := hi.own _ h2
    have := run_readAs (w := κ.w) (t := T) (b := b) (off := off) (cs := cs.drop off) (v := v) (fun j u hu => by rw [cell_of_cells hb]; rwa [List.getElem?_drop] at hu) h3
    simp only [hr.2.2, h1, asAddr, Sem.run_bind, Sem.run_pure, Result.andThen_ok, this]
theorem run_RV {n : Nat} {a : Act} {σ : Env} {fn : Func} {rs : List ResultVar} {v : Value} (hfn : fn.results = rs.toArray) (hr : Rel n a σ) (hi : Inv β ρ κ) (h : RV rs σ ρ v) : (results fn a.tmps).run Tryz.prog κ.w = .ok v κ.w := by
  have hres : results fn a.tmps = (do let vs ← fn.results.mapM (rvSem a.tmps); pure (if h : vs.size = 1 then vs[0] else .tuple vs)) := rfl
  rw [hres, hfn]
  clear hres
  match rs, h with
  | [], h => simp only [RV] at h; subst h; simp
  | [r], h => have h1 := run_RV1 hr hi h; simp [h1]
  | [r, s], ⟨v1, v2, h1, h2, h3⟩ => have g1 := run_RV1 hr hi h1; have g2 := run_RV1 hr hi h2; subst h3; simp [g1, g2]
  | [r, s, t], ⟨v1, v2, v3, h1, h2, h3, h4⟩ => have g1 := run_RV1 hr hi h1; have g2 := run_RV1 hr hi h2; have g3 := run_RV1 hr hi h3; subst h4; simp [g1, g2, g3]

/-- What is own may be dropped or become shared; the world stays. -/
def Shift (ρ : List Res) (κ : Kr) (ρ' : List Res) (κ' : Kr) : Prop := κ'.w = κ.w ∧ ∀ β, Inv β ρ κ → Inv β ρ' κ' ∧ Kle κ κ'
theorem Shift.drop {ρ' : List Res} (h : ρ'.Sublist ρ) : Shift ρ κ ρ' κ := ⟨rfl, fun _ hi => ⟨hi.sub h, .refl _⟩⟩
theorem Shift.none : Shift ρ κ [] κ := .drop (List.nil_sublist _)
theorem Shift.pub {r : Res} {l : List Res} {b : Nat} (hp : ρ.Perm (r :: l)) (hb : r.blk = some b) : Shift ρ κ l ⟨κ.w, fun i => κ.S i ∨ i = b⟩ := ⟨rfl, fun _ hi => (hi.perm hp).pub hb⟩
theorem Shift.trans {ρ' ρ'' : List Res} {κ' κ'' : Kr} (h : Shift ρ κ ρ' κ') (k : Shift ρ' κ' ρ'' κ'') : Shift ρ κ ρ'' κ'' :=
  ⟨k.1.trans h.1, fun β hi => ⟨(k.2 β (h.2 β hi).1).1, (h.2 β hi).2.trans (k.2 β (h.2 β hi).1).2⟩⟩

def retK (rs : List ResultVar) (R : Value → List Res → Kr → Prop) : Exit → Post := fun e σ ρ κ => match e with
  | .ret | .normal => ∀ β, Inv β ρ κ → ∃ v ρ' κ', RV rs σ ρ v ∧ Shift ρ κ ρ' κ' ∧ R v ρ' κ'
  | _ => False
theorem call_of {f n : Nat} {fn : Func} {c : Code} {args : List Value} {rs : List ResultVar} {R : Value → List Res → Kr → Prop} (hf : Tryz.prog.funcs[f]? = some fn) (hok : FnOk f) (hb : fn.body = some c) (hn : fn.ntmps = n) (hres : fn.results = rs.toArray) (hsz : Nat.ble args.length n = true)
    (h : WC ⟨κ, blks ρ⟩ n c (retK rs R) (env0 args.toArray) ρ κ) : Call f args ρ κ R :=
  ⟨hok, fun hi => calls_of_wp hf hb (by
    have hr := rel_env0 args.toArray n (by simpa using Nat.le_of_ble_eq_true hsz)
    rw [hn]
    refine h hi _ hr _ fun e a' σ' ρ' κ' g1 g2 g3 g4 => ?_
    have key : (∃ v ρ'' κ'', RV rs σ' ρ' v ∧ Shift ρ' κ' ρ'' κ'' ∧ R v ρ'' κ'') → ∃ v, (results fn a'.tmps).run Tryz.prog κ'.w = .ok v κ'.w ∧ (fun e w' => ∃ v ρ' κ', e = Ending.returned v ∧ w' = κ'.w ∧ Inv ⟨κ, blks ρ⟩ ρ' κ' ∧ R v ρ' κ') (.returned v) κ'.w := fun ⟨v, ρ'', κ'', k1, k2, k3⟩ =>
      ⟨v, run_RV hres g1 g2 k1, v, ρ'', κ'', rfl, k2.1.symm, (k2.2 _ g2).1, k3⟩
    cases e with
    | ret => exact ⟨g1.2.1, key (g4 _ g2)⟩
    | normal => exact ⟨g1.2.1, key (g4 _ g2)⟩
    | _ => exact g4.elim)⟩
end
end SX
end Go.Proofs.YtfcecieppoljlaaGreatDoor
