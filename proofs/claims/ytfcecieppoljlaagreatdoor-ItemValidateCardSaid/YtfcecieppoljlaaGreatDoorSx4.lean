/- Our calculus, fourth text: regions whose order is drawn; calls of functions that keep nothing; composite values. No statement of the seat is proved here. -/
import Derived.Test.YtfcecieppoljlaaGreatDoorSx3
set_option maxRecDepth 100000
namespace Go.Proofs.YtfcecieppoljlaaGreatDoor
namespace SX
open Go

/-- The contract of a function that takes no resource and hands none back. -/
def CallP (f : Nat) (args : List Value) (κ : Kr) (R : Value → Kr → Prop) : Prop := Call f args [] κ fun v ρ' κ' => ρ' = [] ∧ R v κ'
theorem CallP.mono {f : Nat} {args : List Value} {κ : Kr} {R R' : Value → Kr → Prop} (h : CallP f args κ R) (hr : ∀ v κ', Kle κ κ' → R v κ' → R' v κ') : CallP f args κ R' :=
  Call.mono h fun v _ κ' hk h => ⟨h.1, hr v κ' hk h.2⟩
/-- One operation under a guard: carried out where c is true, passed over else. -/
def OpG (c : Bool) (o : Oper) (σ : Env) (ρ : List Res) (κ : Kr) (K : Value → Kr → Prop) : Prop :=
  (c = true → OpL o σ ρ κ fun v ρ' κ' => ρ' = ρ ∧ K v κ') ∧ (c = false → K undef κ)
section
variable {β : Base} {n : Nat} {ops : Array Oper} {o : Oper} {σ : Env} {ρ : List Res} {κ : Kr} {c : Bool}
theorem ol_callP {K : Value → List Res → Kr → Prop} {f : Nat} {l : List Operand} {ts : Array Nat} {args : List Value} {R : Value → Kr → Prop} (ho : o.op = .call { callee := .value (.func f), args := l.toArray, argTypes := ts })
    (ha : l.map (ev σ) = args) (hc : CallP f args κ R) (h : ∀ v κ', Kle κ κ' → R v κ' → K v ρ κ') : OpL o σ ρ κ K :=
  ol_call0 ho ha hc fun v ρ' κ' hk hr => by obtain ⟨rfl, hr⟩ := hr; exact h v κ' hk hr
theorem ol_callvP {K : Value → List Res → Kr → Prop} {f : Nat} {x : Operand} {l : List Operand} {ts : Array Nat} {first captured args : List Value} {R : Value → Kr → Prop} (ho : o.op = .call { callee := .value x, args := l.toArray, argTypes := ts })
    (hx : ev σ x = .func (.func f) first.toArray captured.toArray) (ha : first ++ (l.map (ev σ)) ++ captured = args) (hc : CallP f args κ R) (h : ∀ v κ', Kle κ κ' → R v κ' → K v ρ κ') : OpL o σ ρ κ K :=
  ol_callv ho hx ha (List.Perm.refl _) hc fun v ρ' κ' hk hr => by obtain ⟨rfl, hr⟩ := hr; exact h v κ' hk hr
theorem og_callP {K : Value → Kr → Prop} {f : Nat} {l : List Operand} {ts : Array Nat} {args : List Value} {R : Value → Kr → Prop} (ho : o.op = .call { callee := .value (.func f), args := l.toArray, argTypes := ts })
    (ha : c = true → l.map (ev σ) = args) (hc : c = true → CallP f args κ R) (h : ∀ v κ', Kle κ κ' → (c = true → R v κ') → K v κ') : OpG c o σ ρ κ K :=
  ⟨fun hct => ol_callP ho (ha hct) (hc hct) fun v κ' hk hr => ⟨rfl, h v κ' hk fun _ => hr⟩, fun hcf => h undef κ (.refl _) fun h => by rw [hcf] at h; cases h⟩
theorem wl_g {rest : List Oper} {K : Post} {d : Nat} (hg : GuardIs ops σ o c) (hd' : o.dst = some d) (hlt : Nat.blt d n = true) (h : OpG c o σ ρ κ fun v κ' => WL β n ops rest K (upd σ d (gv c v)) ρ κ') : WL β n ops (o :: rest) K σ ρ κ :=
  fun hi a hr Q hk => by
    simp only [← updO_some hd'] at h
    have hd := dst_some hd' hlt
    unfold wpList
    rw [wanted_rel hr, hg]
    cases c with
    | false =>
      have h2 := h.2 rfl
      simp only [gv_false] at h2
      exact h2 hi _ (hr.put hd undef) Q hk
    | true =>
      refine .inl (wp_of_out hr.eval (h.1 rfl β hi (fun v w => wpList Tryz.prog ops Q rest (a.put o.dst v) w) fun v ρ' κ' hi' hle hw => ?_) fun _ _ h => h)
      obtain ⟨rfl, hw⟩ := hw
      simp only [gv_true] at hw
      exact hw hi' _ (hr.put hd v) Q fun a' σ' ρ'' κ'' h1 h2 h3 h4 => hk a' σ' ρ'' κ'' h1 h2 (hle.trans h3) h4
end

/-! ### Regions whose order is drawn -/
theorem OpL.frame {β : Base} {o : Oper} {σ : Env} {ρ ρf : List Res} {κ : Kr} {K : Value → List Res → Kr → Prop} (h : OpL o σ ρ κ K) (hi : Inv β (ρ ++ ρf) κ) (Nx : Value → World → Prop) (hk : ∀ v ρ' κ', Inv β (ρ' ++ ρf) κ' → Kle κ κ' → K v ρ' κ' → Nx v κ'.w) : OutV Nx ((execOp (ev σ) o).run Tryz.prog κ.w) :=
  h ⟨κ, blks ρ⟩ hi.split Nx fun v ρ' κ' hi' hle hK => hk v ρ' κ' (hi.join hi') hle hK

/-! composite values -/
theorem splice_list : ∀ (l : List Value) (k off : Nat) (cells : Array Value), off + k + l.length ≤ cells.size →
    ((l.zipIdx k).foldl (fun (cs : Array Value) (p : Value × Nat) => cs.setIfInBounds (off + p.2) p.1) cells).toList = cells.toList.take (off + k) ++ l ++ cells.toList.drop (off + k + l.length)
  | [], k, off, cells, _ => by simp
  | v :: l, k, off, cells, h => by
    simp only [List.length_cons] at h
    have ih := splice_list l (k + 1) off (cells.setIfInBounds (off + k) v) (by simp; omega)
    simp only [List.zipIdx_cons, List.foldl_cons]
    rw [ih]
    have e := list_seg_step cells.toList (off + k) v l (by simp; omega)
    simp only [Array.toList_setIfInBounds]
    have e1 : off + (k + 1) = off + k + 1 := by omega
    rw [e1]
    simpa [Nat.add_assoc] using e
theorem splice_cells (v : Value) (off : Nat) (cells : Array Value) (h : off + (cellsL v).length ≤ cells.size) :
    (v.cells.zipIdx.foldl (fun (cs : Array Value) (x : Value × Nat) => match x with | (c, j) => cs.setIfInBounds (off + j) c) cells).toList = cells.toList.take off ++ cellsL v ++ cells.toList.drop (off + (cellsL v).length) := by
  have := splice_list (cellsL v) 0 off cells (by simpa using h)
  simp only [Nat.add_zero] at this
  rw [← this, ← cellsL_eq, ← Array.foldl_toList, Array.toList_zipIdx]
theorem fill_cons {place : Nat → Option (Nat × Nat)} {cells : List Value} {i off sz : Nat} {v : Value} {rest : List (Nat × Value)} (hp : place i = some (off, sz)) (hv : (cellsL v).length = sz) (hl : off + sz ≤ cells.length) :
    Instr.fill place cells.toArray ((i, v) :: rest) = Instr.fill place (cells.take off ++ cellsL v ++ cells.drop (off + sz)).toArray rest := by
  have hvs : v.cells.size = sz := by rw [← hv, ← cellsL_eq]; simp
  have h := splice_cells v off cells.toArray (by simp [hv]; omega)
  simp only [hv] at h
  have h2 : v.cells.zipIdx.foldl (fun (cs : Array Value) (x : Value × Nat) => match x with | (c, j) => cs.setIfInBounds (off + j) c) cells.toArray = (cells.take off ++ cellsL v ++ cells.drop (off + sz)).toArray := Array.ext' h
  rw [Instr.fill]
  simp only [hp]
  rw [if_neg (by simp [hvs]; omega), h2]
theorem fill_order {sz : Nat} : ∀ (vs : List Value) (k : Nat) (pre zs : List Value), pre.length = k * sz → zs.length = vs.length * sz → (∀ v ∈ vs, (cellsL v).length = sz) →
    Instr.fill (fun i => some (i * sz, sz)) (pre ++ zs).toArray ((vs.zipIdx k).map fun p => (p.2, p.1)) = some (pre ++ vs.flatMap cellsL).toArray
  | [], k, pre, zs, _, hz, _ => by
    have : zs = [] := List.eq_nil_of_length_eq_zero (by simpa using hz)
    subst this; simp [Instr.fill]
  | v :: vs, k, pre, zs, hp, hz, hw => by
    have hv := hw v (by simp)
    have hz' : zs.length = vs.length * sz + sz := by rw [hz, List.length_cons, Nat.add_mul]; omega
    simp only [List.zipIdx_cons, List.map_cons]
    rw [fill_cons (off := k * sz) (sz := sz) rfl hv (by simp; omega)]
    have e : (pre ++ zs).take (k * sz) ++ cellsL v ++ (pre ++ zs).drop (k * sz + sz) = (pre ++ cellsL v) ++ zs.drop sz := by
      rw [← hp, List.take_left]
      simp [List.drop_append, Nat.add_sub_cancel_left, List.append_assoc]
    rw [e, fill_order vs (k + 1) (pre ++ cellsL v) (zs.drop sz) (by simp [hp, hv, Nat.add_mul]) (by simp; omega) (fun u hu => hw u (by simp [hu]))]
    simp
theorem run_buildSlice {t E sz by' : Nat} {z : Value} (hu : und t = some (.slice E)) (hi : inf E = some (z, sz, by')) (hz : z.cells.size = sz) (vs : List Value) (hw : ∀ v ∈ vs, (cellsL v).length = sz) (hb : vs.length * sz ≤ 16777216) (w : World) :
    (Instr.buildSlice t vs.length ((vs.zipIdx).map fun p => (p.2, p.1)).toArray).run Tryz.prog w = .ok (.slice (some ⟨w.heap.size, 0, none⟩) vs.length vs.length) (w.alloc (.cells (vs.flatMap cellsL).toArray E)) := by
  have hf : ∀ zs : List Value, zs.length = vs.length * sz → Instr.fill (fun i => some (i * sz, sz)) zs.toArray ((vs.zipIdx).map fun p => (p.2, p.1)) = some (vs.flatMap cellsL).toArray := fun zs hzs => by
    have := fill_order vs 0 [] zs (by simp) hzs hw; simpa using this
  simp only [Instr.buildSlice, Sem.run_bind, run_underlying (und_ok hu), Result.andThen_ok, run_sizeOf hi]
  have hb' : ¬ (vs.length * sz > 2 ^ 24) := by simp; omega
  rw [if_neg hb']
  by_cases h0 : vs.length * sz = 0
  · have h1 := hf [] (by simpa using h0.symm)
    have hr0 : Array.range 0 = #[] := by decide
    simp only [h0, if_true, hr0]
    simp [h1, newRow]
  · simp only [h0, if_false, run_zeroValue hi, Sem.run_bind, Sem.run_pure, Result.andThen_ok]
    have h1 := hf (((Array.range (vs.length * sz)).map (z.cells[· % z.cells.size]!)).toList) (by simp)
    simp only [Array.toArray_toList] at h1
    simp [h1, newRow]

/-- An operation that makes a block of known cells, whatever the slots hold. -/
def lateOf (o : Oper) : Option (Nat × List Value × (Nat → Value)) := match o.op with
  | .alloc T => match inf T with
    | some (z, _, _) => some (T, cellsL z, fun b => .pointer (some ⟨b, 0, none⟩))
    | none => none
  | .buildSlice t 0 ps => match ps.toList, und t with
    | [], some (.slice E) => match inf E with
      | some _ => some (E, [], fun b => .slice (some ⟨b, 0, none⟩) 0 0)
      | none => none
    | _, _ => none
  | _ => none
theorem late_run {o : Oper} {T : Nat} {cs : List Value} {mk : Nat → Value} (h : lateOf o = some (T, cs, mk)) (σ : Env) (w : World) : (execOp (ev σ) o).run Tryz.prog w = .ok (.value (mk w.heap.size)) (w.alloc (.cells cs.toArray T)) := by
  unfold lateOf at h
  split at h
  · rename_i T' ho
    split at h
    · rename_i z sz by' hz
      simp only [Option.some.injEq, Prod.mk.injEq] at h
      obtain ⟨rfl, rfl, rfl⟩ := h
      have hcs : z.cells = (cellsL z).toArray := by rw [← cellsL_eq]
      simp only [execOp, ho, Instr.alloc, newVar, newRow, Sem.run_bind, run_zeroValue hz, run_newObj_alloc, Result.andThen_ok, Sem.run_pure, hcs]
    · cases h
  · rename_i t ps ho
    split at h
    · rename_i E hps hu
      split at h
      · rename_i x hz
        obtain ⟨z, sz, by'⟩ := x
        simp only [Option.some.injEq, Prod.mk.injEq] at h
        obtain ⟨rfl, rfl, rfl⟩ := h
        have hps' : ps = #[] := by apply Array.ext'; simpa using hps
        subst hps'
        simp [execOp, ho, Instr.buildSlice, run_underlying (und_ok hu), run_sizeOf hz, newRow, Instr.fill]
        have hr0 : Array.range 0 = #[] := by decide
        rw [hr0]; simp
      · cases h
    · cases h
  · cases h

def pend (ord : List (Nat × Nat)) : List Nat := (ord.filter fun p => Nat.beq p.2 2).map (·.1)
def setAll (L : Array Bool) (ps : List Nat) : Array Bool := ps.foldl (fun L i => L.setIfInBounds i true) L
/-- Operation o makes a block of the cells cs, and yields mk of its number. -/
def LateRun (o : Oper) (σ : Env) (T : Nat) (cs : List Value) (mk : Nat → Value) : Prop := o.guard = none ∧ ∀ w, (execOp (ev σ) o).run Tryz.prog w = .ok (.value (mk w.heap.size)) (w.alloc (.cells cs.toArray T))
theorem LateRun.det {o : Oper} {σ : Env} {T T' : Nat} {cs cs' : List Value} {mk mk' : Nat → Value} (h : LateRun o σ T cs mk) (h' : LateRun o σ T' cs' mk') : T = T' ∧ cs = cs' ∧ mk = mk' := by
  have h1 := (h.2 default).symm.trans (h'.2 default)
  injection h1 with _ h2
  have h3 := congrArg (fun w : World => w.heap[(default : World).heap.size]?) h2
  simp only [heap_alloc_eq, Option.some.injEq] at h3
  injection h3 with h4 h5
  refine ⟨h5, by simpa using h4, funext fun n => ?_⟩
  have g1 := (h.2 { (default : World) with heap := Array.replicate n default }).symm.trans (h'.2 { (default : World) with heap := Array.replicate n default })
  injection g1 with g2 _
  injection g2 with g2
  simpa using g2
/-- The slot of operation p is no slot of o's. -/
def indepOf (ops : Array Oper) (o : Oper) (p : Nat) : Bool := match (ops[p]?).bind (·.dst) with
  | some d => !(o.looksAt ops).contains d && o.dst != some d
  | none => false
/-- o does not write what operation p looks at. -/
def indepW (ops : Array Oper) (o : Oper) (p : Nat) : Bool := match ops[p]?, o.dst with
  | some q, some d => !(q.looksAt ops).contains d
  | some _, none => true
  | none, _ => false
def lateOk (n : Nat) (ops : Array Oper) (p : Nat) : Bool := match ops[p]? with
  | some o => o.guard.isNone && (match o.dst with | some d => Nat.blt d n | none => false)
  | none => false
def lateStatic (ops : Array Oper) (p : Nat) : Bool := match ops[p]? with
  | some o => (lateOf o).isSome && o.guard.isNone
  | none => false
def annOk (ops : Array Oper) (A : List Nat) (o : Oper) (P : List Nat) : Bool := P.all fun p => indepOf ops o p && (!A.contains p || indepW ops o p)
def waits (ops : Array Oper) (L : Array Bool) (A : List Nat) (P : List Nat) : Bool := P.all fun p => A.contains p || !(Region.ready .any ops (setAll L (P.filter fun q => !Nat.beq q p))).contains p
def okOrder (n : Nat) (ops : Array Oper) : Array Bool → List Nat → List (Nat × Nat) → Bool
  | _, _, [] => true
  | L, A, (i, k) :: r => match k, ops[i]? with
      | 0, some o => (Region.ready .any ops L).contains i && Region.free .any ops L i && annOk ops A o (pend r) && okOrder n ops (L.setIfInBounds i true) A r
      | 1, some o => (Region.ready .any ops L).contains i && (Region.ready .any ops (setAll L (pend r)) == [i]) && annOk ops A o (pend r) && waits ops L A (pend r) && okOrder n ops (L.setIfInBounds i true) A r
      | 2, some o => (Region.ready .any ops L).contains i && (Region.ready .any ops (setAll L (pend r)) == [i]) && A.contains i && annOk ops A o (pend r) && waits ops L A (pend r) && okOrder n ops (L.setIfInBounds i true) A r
      | 3, some _ => okOrder n ops L (i :: A) r
      | 4, some _ => okOrder n ops L A r
      | _, _ => false
def pickOps (ops : List Oper) : List (Nat × Nat) → Option (List (Nat × Oper))
  | [] => some []
  | (i, q) :: r => match ops[i]?, pickOps ops r with
    | some o, some l => some ((q, o) :: l)
    | _, _ => none

/-- The judgement on the operations of a drawn region, in an order of ours (0: yields a value; 1: may change the world; 2: makes a block of known cells, at whatever time). ρs: the own blocks that the region reads and does not turn. -/
def WD (β : Base) (n : Nat) (ops : Array Oper) (K : Post) : List (Nat × Oper) → Env → List Res → List Res → Kr → Prop
  | [], σ, ρd, ρs, κ => ∀ κ1, Kle κ κ1 → K σ (ρd ++ ρs) κ1
  | (0, o) :: r, σ, ρd, ρs, κ => dstOk n o.dst = true ∧ ((o.guard = none ∧ ∃ v, OpQ true o σ ρs κ v ∧ WD β n ops K r (updO σ o.dst v) ρd ρs κ) ∨ (∃ c v, GuardIs ops σ o c ∧ OpQ c o σ ρs κ v ∧ WD β n ops K r (updO σ o.dst (gv c v)) ρd ρs κ))
  | (1, o) :: r, σ, ρd, ρs, κ => dstOk n o.dst = true ∧ ((o.guard = none ∧ ∀ κ1, Kle κ κ1 → OpL o σ (ρd ++ ρs) κ1 fun v ρ' κ' => ∃ ρd', ρ' = ρd' ++ ρs ∧ WD β n ops K r (updO σ o.dst v) ρd' ρs κ') ∨
      (∃ c, GuardIs ops σ o c ∧ ∀ κ1, Kle κ κ1 → OpG c o σ (ρd ++ ρs) κ1 fun v κ' => WD β n ops K r (updO σ o.dst (gv c v)) ρd ρs κ'))
  | (2, o) :: r, σ, ρd, ρs, κ => ∃ T cs mk d, LateRun o σ T cs mk ∧ o.dst = some d ∧ ∀ b κ', Kle κ κ' → WD β n ops K r (upd σ d (mk b)) (Res.b b T cs :: ρd) ρs κ'
  | (3, o) :: r, σ, ρd, ρs, κ => (∃ T cs mk, LateRun o σ T cs mk) ∧ WD β n ops K r σ ρd ρs κ
  | (_, _) :: r, σ, ρd, ρs, κ => ∃ r0 ρd', ρd.Perm (r0 :: ρd') ∧ WD β n ops K r σ ρd' (r0 :: ρs) κ

def NP (Q : Act → World → Prop) : Exit → Act → World → Prop := fun e a w => e = .normal ∧ Q a w

/-- What has been made ahead of its place in our order: the operation, its slot, the value, the block. -/
structure Early where
  op : Nat
  slot : Nat
  val : Value
  res : Res
def ov (E : List Early) (σ : Env) : Env := fun t => ((E.find? fun e => Nat.beq e.slot t).map (·.val)).getD (σ t)
theorem ov_nil (σ : Env) : ov [] σ = σ := rfl
theorem ov_not {E : List Early} {σ : Env} {t : Nat} (h : ∀ e ∈ E, e.slot ≠ t) : ov E σ t = σ t := by
  unfold ov
  have : E.find? (fun e => Nat.beq e.slot t) = none := List.find?_eq_none.2 fun e he hb => h e he (Nat.eq_of_beq_eq_true hb)
  rw [this]; rfl
theorem ov_upd {E : List Early} {σ : Env} {d : Nat} {v : Value} (h : ∀ e ∈ E, e.slot ≠ d) : ov E (upd σ d v) = upd (ov E σ) d v := by
  funext t
  by_cases ht : t = d
  · subst ht
    rw [ov_not h]; simp [upd]
  · have hb : Nat.beq t d = false := by cases hb : Nat.beq t d; rfl; exact absurd (Nat.eq_of_beq_eq_true hb) ht
    unfold ov upd
    rw [hb]; rfl
theorem ov_updO {E : List Early} {σ : Env} {d : Option Nat} {v : Value} (h : ∀ e ∈ E, d ≠ some e.slot) : ov E (updO σ d v) = updO (ov E σ) d v := by
  cases d with
  | none => rfl
  | some d => exact ov_upd fun e he h' => h e he (by rw [h'])
theorem ov_cons {E : List Early} {e : Early} {σ : Env} : ov (e :: E) σ = upd (ov E σ) e.slot e.val := by
  funext t
  unfold ov upd
  simp only [List.find?_cons]
  by_cases ht : e.slot = t
  · subst ht; simp
  · have hb : Nat.beq e.slot t = false := by cases hb : Nat.beq e.slot t; rfl; exact absurd (Nat.eq_of_beq_eq_true hb) ht
    have hb' : Nat.beq t e.slot = false := by cases hb : Nat.beq t e.slot; rfl; exact absurd (Nat.eq_of_beq_eq_true hb).symm ht
    rw [hb, hb']; rfl
theorem ov_mid {E1 E2 : List Early} {e : Early} {σ : Env} (h : ∀ f ∈ E1 ++ E2, f.slot ≠ e.slot) : ov (E1 ++ e :: E2) σ = ov (E1 ++ E2) (upd σ e.slot e.val) := by
  induction E1 with
  | nil => rw [List.nil_append, ov_cons, List.nil_append, ov_upd (by simpa using h)]
  | cons f E1 ih =>
    rw [List.cons_append, ov_cons, ih (fun g hg => h g (List.mem_cons_of_mem _ hg)), List.cons_append, ov_cons]
theorem ov_ev {ops : Array Oper} {E : List Early} {σ : Env} {o : Oper} (hs : ∀ cs b, o.op ≠ .select cs b) (h : ∀ e ∈ E, e.slot ∉ o.looksAt ops) : execOp (ev (ov E σ)) o = execOp (ev σ) o :=
  execOp_congr o hs fun x hx => by
    cases x with
    | tmp t => exact ov_not fun e he h' => h e he (List.mem_append_left _ (List.mem_filterMap.2 ⟨.tmp t, by simpa using hx, by rw [h']⟩))
    | _ => rfl
theorem ov_guard {ops : Array Oper} {E : List Early} {σ : Env} {o : Oper} {c : Bool} (h : ∀ e ∈ E, e.slot ∉ o.looksAt ops) (hg : GuardIs ops σ o c) : GuardIs ops (ov E σ) o c := by
  unfold GuardIs Region.wanted at *
  cases hgd : o.guard with
  | none => rw [hgd] at hg; exact hg
  | some jw =>
    obtain ⟨j, want⟩ := jw
    rw [hgd] at hg
    simp only at hg ⊢
    rw [← hg]
    have : yieldedBy ops (ov E σ) j = yieldedBy ops σ j := by
      unfold yieldedBy
      cases hd : (ops[j]?).bind (·.dst) with
      | none => rfl
      | some d =>
        simp only [Option.map_some]
        rw [ov_not fun e he h' => h e he (List.mem_append_right _ (by rw [hgd]; simp [hd, h']))]
    rw [this]
theorem wpAnyH_weak {P : Program} {md : Region.Mode} {ops : Array Oper} {Q : Exit → Act → World → Prop} {S S' : World → Prop} (hS : ∀ w, S' w → S w) : ∀ (fuel : Nat) (listed : Array Bool) (a : Act) (w : World), wpAnyH P md ops Q S' fuel listed a w → wpAnyH P md ops Q S fuel listed a w
  | 0, _, _, _, h => h
  | fuel + 1, _, _, _, h => ⟨h.1, fun i hi => wpOp_mono (fun a' w' h' => ⟨hS w' h'.1, wpAnyH_weak hS fuel _ a' w' h'.2⟩) (h.2 i hi)⟩
theorem getD_false_true {L : Array Bool} {j : Nat} (hj : j < L.size) : L.getD j true = L.getD j false := by
  simp [Array.getD_eq_getD_getElem?, Array.getElem?_eq_getElem hj]
theorem setAll_size (L : Array Bool) : ∀ (ps : List Nat) , (setAll L ps).size = L.size := by
  intro ps
  induction ps generalizing L with
  | nil => rfl
  | cons p ps ih => unfold setAll at *; rw [List.foldl_cons, ih]; simp
theorem setAll_get {L : Array Bool} {j : Nat} : ∀ {ps : List Nat}, (setAll L ps).getD j false = true ↔ L.getD j false = true ∨ (j ∈ ps ∧ j < L.size) := by
  intro ps
  induction ps generalizing L with
  | nil => simp [setAll]
  | cons p ps ih =>
    unfold setAll at *
    rw [List.foldl_cons, ih]
    by_cases hj : p = j
    · subst hj
      by_cases hlt : p < L.size
      · simp [hlt]
      · simp [hlt]
    · rw [getD_set_ne false hj]
      have : j ≠ p := fun e => hj e.symm
      simp [this]

theorem OpQ.mono {c : Bool} {o : Oper} {σ : Env} {ρ : List Res} {κ κ' : Kr} {v : Value} (h : OpQ c o σ ρ κ v) (k : Kle κ κ') : OpQ c o σ ρ κ' v :=
  fun hc w hs => h hc w ⟨fun b hb => (hs.keep b (k.sh b hb)).trans (k.keep b hb), hs.own⟩
theorem WD.mono {β : Base} {n : Nat} {ops : Array Oper} {K : Post} {κ κ' : Kr} (k : Kle κ κ') : ∀ {l : List (Nat × Oper)} {σ : Env} {ρd ρs : List Res}, WD β n ops K l σ ρd ρs κ → WD β n ops K l σ ρd ρs κ'
  | [], _, _, _, h => fun κ1 k1 => h κ1 (k.trans k1)
  | (0, o) :: r, _, _, _, ⟨h1, h2⟩ => ⟨h1, h2.imp (fun ⟨g, v, g1, g2⟩ => ⟨g, v, g1.mono k, WD.mono k g2⟩) (fun ⟨c, v, g, g1, g2⟩ => ⟨c, v, g, g1.mono k, WD.mono k g2⟩)⟩
  | (1, o) :: r, _, _, _, ⟨h1, h2⟩ => ⟨h1, h2.imp (fun ⟨g, g1⟩ => ⟨g, fun κ1 k1 => g1 κ1 (k.trans k1)⟩) (fun ⟨c, g, g1⟩ => ⟨c, g, fun κ1 k1 => g1 κ1 (k.trans k1)⟩)⟩
  | (2, o) :: r, _, _, _, ⟨T, cs, mk, d, h1, h2, h3⟩ => ⟨T, cs, mk, d, h1, h2, fun b κ1 k1 => h3 b κ1 (k.trans k1)⟩
  | (3, o) :: r, _, _, _, ⟨h1, h2⟩ => ⟨h1, WD.mono k h2⟩
  | (_ + 4, o) :: r, _, _, _, ⟨r0, ρd', h1, h2⟩ => ⟨r0, ρd', h1, WD.mono k h2⟩
theorem nodup_len : ∀ (l l' : List Nat), l.Nodup → (∀ x ∈ l, x ∈ l') → l.length ≤ l'.length
  | [], _, _, _ => by simp
  | x :: l, l', hn, hs => by
    have hx := hs x (by simp)
    have h := nodup_len l (l'.erase x) (List.nodup_cons.1 hn).2 fun y hy => (List.mem_erase_of_ne (fun (e : y = x) => (List.nodup_cons.1 hn).1 (by rw [← e]; exact hy))).2 (hs y (List.mem_cons_of_mem _ hy))
    rw [List.length_erase_of_mem hx] at h
    have : 0 < l'.length := List.length_pos_of_mem hx
    simp only [List.length_cons]; omega
section
variable {β : Base} {n : Nat} {ops : Array Oper} {K : Post} {ρs : List Res}
theorem pend_cons {i k : Nat} {r : List (Nat × Nat)} : pend ((i, k) :: r) = if k = 2 then i :: pend r else pend r := by
  unfold pend
  by_cases hk : k = 2
  · subst hk; simp [List.filter_cons]
  · have : Nat.beq k 2 = false := by cases hb : Nat.beq k 2; rfl; exact absurd (Nat.eq_of_beq_eq_true hb) hk
    simp [List.filter_cons, this, hk]
theorem pend_sub {r : List (Nat × Nat)} {p : Nat} (h : p ∈ pend r) : p ∈ r.map (·.1) := by
  obtain ⟨x, hx, rfl⟩ := List.mem_map.1 h
  exact List.mem_map.2 ⟨x, (List.mem_filter.1 hx).1, rfl⟩
theorem LateRun.same {o : Oper} {σ σ' : Env} {T : Nat} {cs : List Value} {mk : Nat → Value} (hs : ∀ cs b, o.op ≠ .select cs b) (h : LateRun o σ T cs mk) (he : ∀ t ∈ o.looksAt ops, σ' t = σ t) : LateRun o σ' T cs mk :=
  ⟨h.1, fun w => by
    rw [← h.2 w, execOp_congr o hs fun x hx => ?_]
    cases x with
    | tmp t => exact he t (List.mem_append_left _ (List.mem_filterMap.2 ⟨.tmp t, by simpa using hx, rfl⟩))
    | _ => rfl⟩
theorem updO_other {σ : Env} {d : Option Nat} {v : Value} {t : Nat} (h : d ≠ some t) : updO σ d v t = σ t := by
  cases d with
  | none => rfl
  | some d =>
    have hb : Nat.beq t d = false := by cases hb : Nat.beq t d; rfl; exact absurd (by rw [Nat.eq_of_beq_eq_true hb]) h
    simp only [updO, upd, hb, cond_false]
/-- What E says of the operations that were carried out ahead of their place. -/
structure EarlyOk (ops : Array Oper) (A P : List Nat) (L LE : Array Bool) (E : List Early) (σ : Env) : Prop where
  sz : L.size = ops.size
  szE : LE.size = ops.size
  get : ∀ j, LE.getD j false = true ↔ L.getD j false = true ∨ ∃ e ∈ E, e.op = j
  pd : ∀ e ∈ E, e.op ∈ P
  is : ∀ e ∈ E, e.op ∈ A ∧ ∃ o T cs mk b, ops[e.op]? = some o ∧ LateRun o σ T cs mk ∧ o.dst = some e.slot ∧ e.val = mk b ∧ e.res = Res.b b T cs
  nd : (E.map (·.op)).Nodup
section
variable {A P : List Nat} {L LE : Array Bool} {E : List Early} {σ : Env}
theorem EarlyOk.free {i : Nat} (h : EarlyOk ops A P L LE E σ) (hf : Region.free .any ops L i = true) : Region.free .any ops LE i = true := by
  unfold Region.free at *
  cases ho : ops[i]? with
  | none => rw [ho] at hf; exact hf
  | some oi =>
    rw [ho] at hf
    simp only [List.all_eq_true, List.mem_range] at hf ⊢
    intro j hj
    have h1 := hf j hj
    simp only [Bool.or_eq_true] at h1 ⊢
    rcases h1 with (h1 | h1) | h1
    · exact .inl (.inl h1)
    · refine .inl (.inr ?_)
      rw [getD_false_true (by rw [h.szE]; exact hj)]
      rw [getD_false_true (by rw [h.sz]; exact hj)] at h1
      exact (h.get j).2 (.inl h1)
    · exact .inr h1
theorem EarlyOk.ready {i : Nat} (h : EarlyOk ops A P L LE E σ) (hi : i ∈ Region.ready .any ops L) (hn : ∀ e ∈ E, e.op ≠ i) : i ∈ Region.ready .any ops LE := by
  rw [mem_ready] at *
  obtain ⟨h0, o, ho, hall⟩ := hi
  have hlt : i < ops.size := (Array.getElem?_eq_some_iff.1 ho).1
  refine ⟨?_, o, ho, fun e he hb => (h.get _).2 (.inl (hall e he hb))⟩
  rw [getD_false_true (by rw [h.szE]; exact hlt)]
  rw [getD_false_true (by rw [h.sz]; exact hlt)] at h0
  cases hc : LE.getD i false with
  | false => rfl
  | true =>
    rcases (h.get i).1 hc with h1 | ⟨e, he, h1⟩
    · rw [h0] at h1; cases h1
    · exact absurd h1 (hn e he)
theorem EarlyOk.ready_all {j : Nat} {P' : List Nat} (h : EarlyOk ops A P L LE E σ) (hP : ∀ e ∈ E, e.op ∈ P') (hj : j ∈ Region.ready .any ops LE) (hn : j ∉ P') : j ∈ Region.ready .any ops (setAll L P') := by
  rw [mem_ready] at *
  obtain ⟨h0, o, ho, hall⟩ := hj
  have hlt : j < ops.size := (Array.getElem?_eq_some_iff.1 ho).1
  refine ⟨?_, o, ho, fun e he hb => ?_⟩
  · rw [getD_false_true (by rw [setAll_size, h.sz]; exact hlt)]
    rw [getD_false_true (by rw [h.szE]; exact hlt)] at h0
    cases hc : (setAll L P').getD j false with
    | false => rfl
    | true =>
      rcases setAll_get.1 hc with h1 | ⟨h1, _⟩
      · rw [(h.get j).2 (.inl h1)] at h0; cases h0
      · exact absurd h1 hn
  · refine setAll_get.2 ?_
    have h1 := hall e he hb
    rcases (h.get _).1 h1 with h2 | ⟨f, hf, h2⟩
    · exact .inl h2
    · refine .inr ⟨h2 ▸ hP f hf, ?_⟩
      rw [h.sz, ← h.szE]
      rcases Nat.lt_or_ge e.on LE.size with h3 | h3
      · exact h3
      · simp [Array.getD_eq_getD_getElem?, Array.getElem?_eq_none h3] at h1
end
theorem get_set {L : Array Bool} {i j : Nat} (hi : i < L.size) : (L.setIfInBounds i true).getD j false = true ↔ L.getD j false = true ∨ i = j := by
  by_cases hij : i = j
  · subst hij; simp [hi]
  · rw [getD_set_ne false hij]; simp [hij]
theorem indep_spec {o : Oper} {p d : Nat} {o' : Oper} (h : indepOf ops o p = true) (ho : ops[p]? = some o') (hd : o'.dst = some d) : d ∉ o.looksAt ops ∧ o.dst ≠ some d := by
  unfold indepOf at h
  rw [ho] at h
  simp only [Option.bind_some, hd, Bool.and_eq_true, Bool.not_eq_true', bne_iff_ne, ne_eq] at h
  exact ⟨by simpa using h.1, h.2⟩
theorem indepW_spec {o : Oper} {p : Nat} {q : Oper} (h : indepW ops o p = true) (hq : ops[p]? = some q) : ∀ t ∈ q.looksAt ops, o.dst ≠ some t := fun t ht hd => by
  unfold indepW at h
  rw [hq, hd] at h
  simp only [Bool.not_eq_true'] at h
  simp [ht] at h
theorem annOk_spec {A P : List Nat} {o : Oper} (h : annOk ops A o P = true) : ∀ p ∈ P, indepOf ops o p = true ∧ (p ∈ A → indepW ops o p = true) := fun p hp => by
  have := List.all_eq_true.1 h p hp
  simp only [Bool.and_eq_true, Bool.or_eq_true, Bool.not_eq_true'] at this
  refine ⟨this.1, fun ha => ?_⟩
  rcases this.2 with h1 | h1
  · simp [ha] at h1
  · exact h1
/-- The slots of what waits differ, and no one that waits looks at another's. -/
def lateApart (ops : Array Oper) (P : List Nat) : Bool := P.all fun p => P.all fun q => Nat.beq p q || (match ops[p]? with | some o => indepOf ops o q | none => false)
theorem lateApart_spec {P : List Nat} (h : lateApart ops P = true) {p q : Nat} {o o' : Oper} {d : Nat} (hp : p ∈ P) (hq : q ∈ P) (hne : p ≠ q) (ho : ops[p]? = some o) (ho' : ops[q]? = some o') (hd : o'.dst = some d) : d ∉ o.looksAt ops ∧ o.dst ≠ some d := by
  have := List.all_eq_true.1 (List.all_eq_true.1 h p hp) q hq
  simp only [Bool.or_eq_true, ho] at this
  rcases this with h1 | h1
  · exact absurd (Nat.eq_of_beq_eq_true h1) hne
  · exact indep_spec h1 ho' hd
end
section
variable {β : Base} {n : Nat} {ops : Array Oper} {K : Post}
theorem EarlyOk.step {A P : List Nat} {L LE : Array Bool} {E : List Early} {σ σ' : Env} {i : Nat} (hsel : Region.noSelect ops = true) (h : EarlyOk ops A P L LE E σ) (hi : i < ops.size) (hσ : ∀ p ∈ P, p ∈ A → ∀ o, ops[p]? = some o → ∀ t ∈ o.looksAt ops, σ' t = σ t) : EarlyOk ops A P (L.setIfInBounds i true) (LE.setIfInBounds i true) E σ' :=
  ⟨by simp [h.sz], by simp [h.szE], fun j => by rw [get_set (by rw [h.szE]; exact hi), get_set (by rw [h.sz]; exact hi), h.get j]; constructor <;> (rintro ((h | h) | h) <;> simp [h]), h.pd, fun e he => by
    obtain ⟨h1, o, T, cs, mk, b, h2, h3, h4⟩ := h.is e he
    exact ⟨h1, o, T, cs, mk, b, h2, h3.same (ops := ops) (fun cs b => Region.noSelect_spec hsel _ o cs b h2) (hσ _ (h.pd e he) h1 o h2), h4⟩, h.nd⟩
theorem lateOk_spec {p : Nat} (h : lateOk n ops p = true) : ∃ o d, ops[p]? = some o ∧ o.guard = none ∧ o.dst = some d ∧ Nat.blt d n = true := by
  unfold lateOk at h
  cases ho : ops[p]? with
  | none => rw [ho] at h; cases h
  | some o =>
    rw [ho] at h
    simp only [Bool.and_eq_true] at h
    obtain ⟨h2, h4⟩ := h
    cases hd : o.dst with
    | none => rw [hd] at h4; cases h4
    | some d =>
      rw [hd] at h4
      exact ⟨o, d, rfl, by simpa using h2, hd, h4⟩

/-- What has come up when all of the order has. -/
def endL : Array Bool → List (Nat × Nat) → Array Bool
  | L, [] => L
  | L, (i, k) :: r => endL (cond (Nat.blt k 3) (L.setIfInBounds i true) L) r
/-- **One walk in our order serves every order.** -/
theorem wd_sound (hsel : Region.noSelect ops = true) (mf : Nat) (Lf : Array Bool) : ∀ (N m : Nat) (ord : List (Nat × Nat)) (l : List (Nat × Oper)) (L LE : Array Bool) (A : List Nat) (E : List Early) (σ : Env) (ρd ρs : List Res) (κ : Kr), N = m + ord.length → (ord.filter fun p => Nat.blt p.2 3).length + mf = m + E.length → endL L ord = Lf →
    EarlyOk ops A (pend ord) L LE E σ → ((ord.filter fun p => Nat.blt p.2 3).map (·.1)).Nodup → (∀ p ∈ pend ord, lateOk n ops p = true) → lateApart ops (pend ord) = true → (∀ p ∈ pend ord, p ∈ A → ∃ o T cs mk, ops[p]? = some o ∧ LateRun o σ T cs mk) →
    okOrder n ops L A ord = true → pickOps ops.toList ord = some l →
    WD β n ops K l σ ρd ρs κ → Inv β (ρd ++ (E.map (·.res) ++ ρs)) κ → ∀ a, Rel n a (ov E σ) → ∀ Q : Act → World → Prop,
    (∀ a' σ' ρd' ρs' κ', Rel n a' σ' → Inv β (ρd' ++ ρs') κ' → Kle κ κ' → K σ' (ρd' ++ ρs') κ' → wpAnyH Tryz.prog .any ops (NP Q) (Stab ρs' κ') mf Lf a' κ'.w) → wpAnyH Tryz.prog .any ops (NP Q) (Stab ρs κ) m LE a κ.w := by
  intro N
  induction N using Nat.strongRecOn with
  | _ N ih =>
  intro m ord l L LE A E σ ρd ρs κ hN hlen hLf hE hnd hlate hapart hann hok hp hw hi a hr Q hk
  have hstab : Stab ρs κ κ.w := ⟨fun _ _ => rfl, fun r hr => hi.own r (by simp [hr])⟩
  -- the early step, for whatever waits
  have early : ∀ (m' : Nat), m = m' + 1 → ∀ j, j ∈ Region.ready .any ops LE → j ∈ pend ord → j ∈ A → wpOp Tryz.prog ops (NP Q) j (fun a' w' => Stab ρs κ w' ∧ wpAnyH Tryz.prog .any ops (NP Q) (Stab ρs κ) m' (LE.setIfInBounds j true) a' w') a κ.w := by
    intro m' hm j hj hjp hjA
    obtain ⟨o, d, ho, hg, hd, hdn⟩ := lateOk_spec (hlate j hjp)
    obtain ⟨o', T, cs, mk, ho', hlo⟩ := hann j hjp hjA
    rw [ho] at ho'; injection ho' with ho'; subst ho'
    have hlt : j < ops.size := (Array.getElem?_eq_some_iff.1 ho).1
    have hs : ∀ cs b, o.op ≠ .select cs b := fun cs b => Region.noSelect_spec hsel j o cs b ho
    have hjE : ∀ e ∈ E, e.op ≠ j := fun e he h => by
      have h1 := (mem_ready.1 hj).1
      rw [getD_false_true (by rw [hE.szE]; exact hlt), (hE.get j).2 (.inr ⟨e, he, h⟩)] at h1
      cases h1
    have hslot : ∀ e ∈ E, e.slot ∉ o.looksAt ops := fun e he => by
      obtain ⟨_, o', T', cs', mk', b', g1, _, g3, _⟩ := hE.is e he
      exact (lateApart_spec hapart hjp (hE.pd e he) (fun h => hjE e he h.symm) ho g1 g3).1
    have hlo' := hlo.same (ops := ops) (σ' := ov E σ) hs fun t ht => ov_not fun e he h => hslot e he (by rw [h]; exact ht)
    unfold wpOp
    simp only [ho]
    rw [if_pos (by simp [Region.wanted, hg])]
    refine .inl ?_
    unfold Oper.wp
    rw [hr.eval, hlo'.2]
    simp only [Oper.upon_value]
    have hkl := kle_alloc hi.fin (.cells cs.toArray T)
    have hi' := hi.alloc (.cells cs.toArray T) (Res.b κ.w.heap.size T cs) rfl rfl
    have hst' : Stab ρs κ (κ.w.alloc (.cells cs.toArray T)) := ⟨hkl.keep, fun r hr => hi'.own r (by simp [hr])⟩
    refine ⟨hst', wpAnyH_weak (fun w hw => ⟨fun b hb => (hw.keep b hb).trans (hkl.keep b hb), hw.own⟩) _ _ _ _ (ih (m' + ord.length) (by omega) m' ord l L (LE.setIfInBounds j true) A (⟨j, d, mk κ.w.heap.size, Res.b κ.w.heap.size T cs⟩ :: E) σ ρd ρs ⟨κ.w.alloc (.cells cs.toArray T), κ.S⟩ rfl (by simp only [List.length_cons]; omega) hLf ?_ hnd hlate hapart hann hok hp (hw.mono hkl) ?_ _ ?_ Q fun a' σ' ρ' ρ'' κ' g1 g2 g3 g4 => hk a' σ' ρ' ρ'' κ' g1 g2 (hkl.trans g3) g4)⟩
    · refine ⟨hE.sz, by simp [hE.szE], fun j' => ?_, ?_, ?_, ?_⟩
      · rw [get_set (by rw [hE.szE]; exact hlt), hE.get j']
        constructor
        · rintro ((h | ⟨e, he, h⟩) | h)
          · exact .inl h
          · exact .inr ⟨e, List.mem_cons_of_mem _ he, h⟩
          · exact .inr ⟨_, List.mem_cons_self, h⟩
        · rintro (h | ⟨e, he, h⟩)
          · exact .inl (.inl h)
          · rcases List.mem_cons.1 he with rfl | he
            · exact .inr h
            · exact .inl (.inr ⟨e, he, h⟩)
      · intro e he
        rcases List.mem_cons.1 he with rfl | he
        · exact hjp
        · exact hE.pd e he
      · intro e he
        rcases List.mem_cons.1 he with rfl | he
        · exact ⟨hjA, o, T, cs, mk, _, ho, hlo, hd, rfl, rfl⟩
        · exact hE.is e he
      · simp only [List.map_cons]
        exact List.nodup_cons.2 ⟨fun h => by obtain ⟨e, he, h⟩ := List.mem_map.1 h; exact hjE e he h, hE.nd⟩
    · refine hi'.perm ?_
      simp only [List.map_cons, List.cons_append]
      exact (List.perm_middle).symm
    · rw [ov_cons]
      have := hr.put (d := o.dst) (dst_some hd hdn) (mk κ.w.heap.size)
      rw [updO_some hd] at this
      exact this
  match ord, hN, hlen, hLf, hE, hnd, hlate, hapart, hann, hok, hp, early with
  | [], hN, hlen, hLf, hE, hnd, hlate, hapart, hann, hok, hp, early =>
    simp only [pickOps, Option.some.injEq] at hp; subst hp
    simp only [List.filter_nil, List.length_nil] at hlen
    have hE0 : E = [] := by
      cases E with
      | nil => rfl
      | cons e E => exact absurd (hE.pd e (by simp)) (by simp [pend])
    subst hE0
    have hm : m = mf := by simp at hlen; omega
    subst hm
    simp only [endL] at hLf
    have hLE : LE = L := by
      apply Array.ext (by rw [hE.szE, hE.sz])
      intro j h1 h2
      have := hE.get j
      simp only [List.not_mem_nil, false_and, exists_false, or_false, Array.getD_eq_getD_getElem?, Array.getElem?_eq_getElem h1, Array.getElem?_eq_getElem h2, Option.getD_some] at this
      exact Bool.eq_iff_iff.2 this
    rw [hLE, hLf]
    exact hk a σ ρd ρs κ (by rw [ov_nil] at hr; exact hr) (by simpa using hi) (.refl _) (hw κ (.refl _))
  | (i, k) :: r, hN, hlen, hLf, hE, hnd, hlate, hapart, hann, hok, hp, early =>
    simp only [pickOps] at hp
    split at hp
    · rename_i o l' ho hl
      have ho : ops[i]? = some o := by simpa using ho
      injection hp with hp; subst hp
      have hlt : i < ops.size := (Array.getElem?_eq_some_iff.1 ho).1
      have hs : ∀ cs b, o.op ≠ .select cs b := fun cs b => Region.noSelect_spec hsel i o cs b ho
      have hpf : (pend r).length ≤ (r.filter fun p => Nat.blt p.2 3).length := by
        unfold pend
        simp only [List.length_map]
        refine List.Sublist.length_le ?_
        have : (r.filter fun p => Nat.beq p.2 2) = ((r.filter fun p => Nat.blt p.2 3).filter fun p => Nat.beq p.2 2) := by
          rw [List.filter_filter]
          apply List.filter_congr
          intro x _
          cases hb : Nat.beq x.2 2
          · rfl
          · rw [Nat.eq_of_beq_eq_true hb]; rfl
        rw [this]
        exact List.filter_sublist
      simp only [List.length_cons] at hN
      -- the step of an operation that is no late one
      have plain : k < 2 → annOk ops A o (pend r) = true → (∀ e ∈ E, e.slot ∉ o.looksAt ops) ∧ (∀ e ∈ E, o.dst ≠ some e.slot) ∧ EarlyOk ops A (pend r) L LE E σ ∧ (∃ m', m = m' + 1 ∧ (r.filter fun p => Nat.blt p.2 3).length + mf = m' + E.length) ∧ (∀ p ∈ pend r, lateOk n ops p = true) ∧ lateApart ops (pend r) = true ∧ ((r.filter fun p => Nat.blt p.2 3).map (·.1)).Nodup ∧ i ∉ pend r ∧
          (∀ v, ∀ p ∈ pend r, p ∈ A → ∀ o', ops[p]? = some o' → ∀ t ∈ o'.looksAt ops, updO σ o.dst v t = σ t) ∧ (∀ v, ∀ p ∈ pend r, p ∈ A → ∃ o' T cs mk, ops[p]? = some o' ∧ LateRun o' (updO σ o.dst v) T cs mk) := by
        intro hk2 hind
        rw [pend_cons, if_neg (by omega)] at hE hlate hapart hann
        have hb3 : Nat.blt k 3 = true := by simp [Nat.blt]; omega
        simp only [List.filter_cons, hb3, if_true, List.length_cons, List.map_cons, List.nodup_cons] at hlen hnd
        have hspec := annOk_spec hind
        have hsame : ∀ v, ∀ p ∈ pend r, p ∈ A → ∀ o', ops[p]? = some o' → ∀ t ∈ o'.looksAt ops, updO σ o.dst v t = σ t := fun v p hp hA o' ho' t ht => updO_other (indepW_spec ((hspec p hp).2 hA) ho' t ht)
        refine ⟨fun e he => ?_, fun e he => ?_, hE, ?_, hlate, hapart, hnd.2, fun h => ?_, hsame, fun v p hp hA => ?_⟩
        · obtain ⟨_, o', T', cs', mk', b', g1, _, g3, _⟩ := hE.is e he
          exact (indep_spec (hspec _ (hE.pd e he)).1 g1 g3).1
        · obtain ⟨_, o', T', cs', mk', b', g1, _, g3, _⟩ := hE.is e he
          exact (indep_spec (hspec _ (hE.pd e he)).1 g1 g3).2
        · have := nodup_len (E.map (·.op)) (pend r) hE.nd fun x hx => by obtain ⟨e, he, rfl⟩ := List.mem_map.1 hx; exact hE.pd e he
          simp only [List.length_map] at this
          exact ⟨m - 1, by omega, by omega⟩
        · refine hnd.1 ?_
          obtain ⟨x, hx, hxi⟩ := List.mem_map.1 h
          obtain ⟨hx1, hx2⟩ := List.mem_filter.1 hx
          refine List.mem_map.2 ⟨x, List.mem_filter.2 ⟨hx1, ?_⟩, hxi⟩
          rw [Nat.eq_of_beq_eq_true hx2]; rfl
        · obtain ⟨o', T, cs, mk, h1, h2⟩ := hann p hp hA
          exact ⟨o', T, cs, mk, h1, h2.same (ops := ops) (fun cs b => Region.noSelect_spec hsel _ o' cs b h1) (hsame v p hp hA o' h1)⟩
      -- whatever waits and may come up has been told
      have waitsA : ∀ {P' : List Nat}, waits ops L A P' = true → (∀ e ∈ E, e.op ∈ P') → ∀ j ∈ P', j ∈ Region.ready .any ops LE → j ∈ A := by
        intro P' hwt hEP j hj hrd
        have := List.all_eq_true.1 hwt j hj
        simp only [Bool.or_eq_true, Bool.not_eq_true'] at this
        rcases this with h | h
        · simpa using h
        · exfalso
          have hjE : ∀ e ∈ E, e.op ≠ j := fun e he he' => by
            obtain ⟨h0, o', ho', _⟩ := mem_ready.1 hrd
            rw [getD_false_true (by rw [hE.szE]; exact (Array.getElem?_eq_some_iff.1 ho').1), (hE.get j).2 (.inr ⟨e, he, he'⟩)] at h0
            cases h0
          have hr2 := hE.ready_all (P' := P'.filter fun q => !Nat.beq q j) (fun e he => List.mem_filter.2 ⟨hEP e he, by
            have hb : Nat.beq e.op j = false := by cases hb : Nat.beq e.op j; rfl; exact absurd (Nat.eq_of_beq_eq_true hb) (hjE e he)
            rw [hb]; rfl⟩) hrd (fun hm => by have := (List.mem_filter.1 hm).2; simp at this)
          simp [hr2] at h
      match k, hok, hw, early, hE, hlate, hapart, hann, hnd, hlen, hLf, plain with
      | 0, hok, hw, early, hE, hlate, hapart, hann, hnd, hlen, hLf, plain =>
        simp only [okOrder, ho, Bool.and_eq_true] at hok
        obtain ⟨⟨⟨h1, h2⟩, h3⟩, hok2⟩ := hok
        obtain ⟨g1, g2, g3, ⟨m', rfl, glen⟩, g5, g6, g7, hir, g8, g9⟩ := plain (by omega) h3
        have hrdy : (Region.ready .any ops LE).contains i = true := by simpa using g3.ready (by simpa using h1) (fun e he (h : e.op = i) => hir (by rw [← h]; exact g3.pd e he))
        obtain ⟨hd, hw⟩ := hw
        rcases hw with ⟨hg, v, hv, hw⟩ | ⟨c, v, hg, hv, hw⟩
        · refine wpAnyH_take ho hsel (g3.free h2) hrdy (fun _ _ _ h => by cases h.1) (v := v) (.inl ⟨by simp [Region.wanted, hg], fun w hw' => by rw [hr.eval, ov_ev hs g1]; exact hv rfl w hw'⟩) hstab ?_
          exact ih (m' + r.length) (by omega) m' r l' _ _ A E _ ρd ρs κ rfl glen hLf (g3.step hsel hlt (g8 v)) g7 g5 g6 (g9 v) hok2 hl hw hi _ (by rw [ov_updO g2]; exact hr.put hd v) Q hk
        · refine wpAnyH_take ho hsel (g3.free h2) hrdy (fun _ _ _ h => by cases h.1) (v := gv c v) ?_ hstab (ih (m' + r.length) (by omega) m' r l' _ _ A E _ ρd ρs κ rfl glen hLf (g3.step hsel hlt (g8 _)) g7 g5 g6 (g9 _) hok2 hl hw hi _ (by rw [ov_updO g2]; exact hr.put hd _) Q hk)
          have hg' := ov_guard g1 hg
          cases c with
          | true => exact .inl ⟨by rw [wanted_rel hr]; exact hg', fun w hw' => by rw [hr.eval, gv_true, ov_ev hs g1]; exact hv rfl w hw'⟩
          | false => exact .inr ⟨by rw [wanted_rel hr]; exact hg', gv_false v⟩
      | 1, hok, hw, early, hE, hlate, hapart, hann, hnd, hlen, hLf, plain =>
        simp only [okOrder, ho, Bool.and_eq_true, beq_iff_eq] at hok
        obtain ⟨⟨⟨⟨h1, h2⟩, h3⟩, h4⟩, hok2⟩ := hok
        obtain ⟨g1, g2, g3, ⟨m', rfl, glen⟩, g5, g6, g7, hir, g8, g9⟩ := plain (by omega) h3
        have hrdy := g3.ready (by simpa using h1) (fun e he (h : e.op = i) => hir (by rw [← h]; exact g3.pd e he))
        have hperm : (ρd ++ (E.map (·.res) ++ ρs)).Perm ((ρd ++ ρs) ++ E.map (·.res)) := by
          rw [List.append_assoc]; exact List.Perm.append_left ρd List.perm_append_comm
        have hperm2 : ∀ ρ' : List Res, ((ρ' ++ ρs) ++ E.map (·.res)).Perm (ρ' ++ (E.map (·.res) ++ ρs)) := fun ρ' => by
          rw [List.append_assoc]; exact List.Perm.append_left ρ' List.perm_append_comm
        refine wpAnyH_all rfl (fun h => by rw [h] at hrdy; cases hrdy) fun j hj => ?_
        by_cases hjp : j ∈ pend r
        · exact early m' rfl j hj (by rw [pend_cons, if_neg (by omega)]; exact hjp) (waitsA h4 g3.pd j hjp hj)
        · have hji : j = i := by have := g3.ready_all g3.pd hj hjp; rw [h2] at this; simpa using this
          subst hji
          unfold wpOp
          simp only [ho]
          obtain ⟨hd, hw⟩ := hw
          rcases hw with ⟨hg, hw⟩ | ⟨c, hg, hw⟩
          · rw [if_pos (by simp [Region.wanted, hg])]
            have hout := (hw κ (.refl _)).frame (hi.perm hperm) (fun v w => Stab ρs κ w ∧ wpAnyH Tryz.prog .any ops (NP Q) (Stab ρs κ) m' (LE.setIfInBounds j true) (a.put o.dst v) w) fun v ρ' κ' hi' hle' hw' => by
              obtain ⟨ρd', rfl, hw'⟩ := hw'
              have hi2 := hi'.perm (hperm2 ρd')
              exact ⟨⟨hle'.keep, fun r hr => hi2.own r (by simp [hr])⟩, wpAnyH_weak (fun w hw => ⟨fun b hb => (hw.keep b (hle'.sh b hb)).trans (hle'.keep b hb), hw.own⟩) _ _ _ _ (ih (m' + r.length) (by omega) m' r l' _ _ A E _ ρd' ρs κ' rfl glen hLf (g3.step hsel hlt (g8 v)) g7 g5 g6 (g9 v) hok2 hl hw' hi2 _ (by rw [ov_updO g2]; exact hr.put hd v) Q fun a' σ' ρ'' ρ3 κ'' h1 h2 h3 h4 => hk a' σ' ρ'' ρ3 κ'' h1 h2 (hle'.trans h3) h4)⟩
            rw [← ov_ev hs g1] at hout
            exact .inl (wp_of_out hr.eval hout fun _ _ h => h)
          · have hg' := ov_guard g1 hg
            rw [wanted_rel hr, hg']
            have hw0 := hw κ (.refl _)
            cases c with
            | false =>
              have h2 := hw0.2 rfl
              simp only [gv_false] at h2
              exact ⟨hstab, ih (m' + r.length) (by omega) m' r l' _ _ A E _ ρd ρs κ rfl glen hLf (g3.step hsel hlt (g8 _)) g7 g5 g6 (g9 _) hok2 hl h2 hi _ (by rw [ov_updO g2]; exact hr.put hd _) Q hk⟩
            | true =>
              have hout := (hw0.1 rfl).frame (hi.perm hperm) (fun v w => Stab ρs κ w ∧ wpAnyH Tryz.prog .any ops (NP Q) (Stab ρs κ) m' (LE.setIfInBounds j true) (a.put o.dst v) w) fun v ρ' κ' hi' hle' hw' => by
                obtain ⟨rfl, hw'⟩ := hw'
                simp only [gv_true] at hw'
                have hi2 := hi'.perm (hperm2 ρd)
                exact ⟨⟨hle'.keep, fun r hr => hi2.own r (by simp [hr])⟩, wpAnyH_weak (fun w hw => ⟨fun b hb => (hw.keep b (hle'.sh b hb)).trans (hle'.keep b hb), hw.own⟩) _ _ _ _ (ih (m' + r.length) (by omega) m' r l' _ _ A E _ ρd ρs κ' rfl glen hLf (g3.step hsel hlt (g8 v)) g7 g5 g6 (g9 v) hok2 hl hw' hi2 _ (by rw [ov_updO g2]; exact hr.put hd v) Q fun a' σ' ρ'' ρ3 κ'' h1 h2 h3 h4 => hk a' σ' ρ'' ρ3 κ'' h1 h2 (hle'.trans h3) h4)⟩
              rw [← ov_ev hs g1] at hout
              exact .inl (wp_of_out hr.eval hout fun _ _ h => h)
      | 2, hok, hw, early, hE, hlate, hapart, hann, hnd, hlen, hLf, plain =>
        simp only [okOrder, ho, Bool.and_eq_true] at hok
        obtain ⟨⟨⟨⟨⟨h1, h2⟩, hiA⟩, h3⟩, h4⟩, hok2⟩ := hok
        have hpc : pend ((i, 2) :: r) = i :: pend r := by rw [pend_cons, if_pos rfl]
        have hf : ((i, 2) :: r).filter (fun p => Nat.blt p.2 3) = (i, 2) :: r.filter (fun p => Nat.blt p.2 3) := by simp [List.filter_cons, Nat.blt]
        rw [hf] at hlen hnd
        simp only [List.length_cons, List.map_cons, List.nodup_cons] at hlen hnd
        have hspec := annOk_spec h3
        by_cases hiE : ∃ e ∈ E, e.op = i
        · obtain ⟨e, he, hei⟩ := hiE
          obtain ⟨E1, E2, rfl⟩ := List.append_of_mem he
          obtain ⟨_, o', T, cs, mk, b, q1, q2, q3, q4, q5⟩ := hE.is e he
          rw [hei, ho] at q1; injection q1 with q1; subst q1
          obtain ⟨T2, cs2, mk2, d, w1, w2, w3⟩ := hw
          obtain ⟨rfl, rfl, rfl⟩ := q2.det w1
          rw [q3] at w2; injection w2 with w2; subst w2
          have hne : ∀ f ∈ E1 ++ E2, f.op ≠ i := fun f hf h => by
            have hnd' := hE.nd
            simp only [List.map_append, List.map_cons] at hnd'
            have := (List.nodup_append.1 hnd')
            rcases List.mem_append.1 hf with hf | hf
            · exact this.2.2 f.op (List.mem_map_of_mem hf) e.op (by simp) (by rw [h, hei])
            · exact (List.nodup_cons.1 this.2.1).1 (by rw [hei, ← h]; exact List.mem_map_of_mem hf)
          have hmem : ∀ f ∈ E1 ++ E2, f ∈ E1 ++ e :: E2 := fun f hf => mem_mid' hf
          have hpd : ∀ f ∈ E1 ++ E2, f.op ∈ pend r := fun f hf => by
            have := hE.pd f (hmem f hf)
            rw [hpc] at this
            rcases List.mem_cons.1 this with h | h
            · exact absurd h (hne f hf)
            · exact h
          have hsl : ∀ f ∈ E1 ++ E2, f.slot ≠ e.slot := fun f hf h => by
            obtain ⟨_, o', T', cs', mk', b', g1, _, g3, _⟩ := hE.is f (hmem f hf)
            exact (indep_spec (hspec _ (hpd f hf)).1 g1 g3).2 (by rw [q3, h])
          have hsame : ∀ v, ∀ p ∈ pend r, p ∈ A → ∀ o', ops[p]? = some o' → ∀ t ∈ o'.looksAt ops, upd σ e.slot v t = σ t := fun v p hp hA o' ho' t ht => by
            have := updO_other (σ := σ) (v := v) (indepW_spec ((hspec p hp).2 hA) ho' t ht)
            rwa [updO_some q3] at this
          refine ih (m + r.length) (by omega) m r l' (L.setIfInBounds i true) LE A (E1 ++ E2) _ _ ρs κ rfl (by simp only [List.length_append, List.length_cons] at hlen ⊢; omega) hLf ?_ hnd.2 (fun p hp => hlate p (by rw [hpc]; exact List.mem_cons_of_mem _ hp)) ?_ (fun p hp hA => ?_) hok2 hl (w3 b κ (.refl _)) ?_ a ?_ Q hk
          · refine ⟨by simp [hE.sz], hE.szE, fun j => ?_, hpd, fun f hf => ?_, ?_⟩
            · rw [get_set (by rw [hE.sz]; exact hlt), hE.get j]
              constructor
              · rintro (h | ⟨f, hf, h⟩)
                · exact .inl (.inl h)
                · by_cases hfe : f = e
                  · subst hfe; exact .inl (.inr (by rw [← hei]; exact h))
                  · exact .inr ⟨f, mem_mid hf hfe, h⟩
              · rintro ((h | h) | ⟨f, hf, h⟩)
                · exact .inl h
                · exact .inr ⟨e, he, by rw [hei]; exact h⟩
                · exact .inr ⟨f, hmem f hf, h⟩
            · obtain ⟨k1, o', T', cs', mk', b', k2, k3, k4⟩ := hE.is f (hmem f hf)
              exact ⟨k1, o', T', cs', mk', b', k2, k3.same (ops := ops) (fun cs b => Region.noSelect_spec hsel _ o' cs b k2) (hsame _ _ (hpd f hf) k1 o' k2), k4⟩
            · have hnd' := hE.nd
              simp only [List.map_append, List.map_cons] at hnd' ⊢
              exact List.Nodup.sublist (List.Sublist.append_left (List.sublist_cons_self _ _) _) hnd'
          · rw [hpc] at hapart
            unfold lateApart at *
            refine List.all_eq_true.2 fun p hp => List.all_eq_true.2 fun q hq => ?_
            exact List.all_eq_true.1 (List.all_eq_true.1 hapart p (List.mem_cons_of_mem _ hp)) q (List.mem_cons_of_mem _ hq)
          · obtain ⟨o', T', cs', mk', k1, k2⟩ := hann p (by rw [hpc]; exact List.mem_cons_of_mem _ hp) hA
            exact ⟨o', T', cs', mk', k1, k2.same (ops := ops) (fun cs b => Region.noSelect_spec hsel _ o' cs b k1) (hsame _ p hp hA o' k1)⟩
          · refine hi.perm ?_
            rw [← q5]
            simp only [List.map_append, List.map_cons, List.append_assoc, List.cons_append]
            refine (List.Perm.append_left ρd (List.perm_middle)).trans ?_
            exact List.perm_middle
          · rw [ov_mid hsl, q4] at hr
            exact hr
        · have hsub : ∀ x ∈ E.map (·.op), x ∈ pend r := fun x hx => by
              obtain ⟨e, he, rfl⟩ := List.mem_map.1 hx
              have := hE.pd e he
              rw [hpc] at this
              rcases List.mem_cons.1 this with h | h
              · exact absurd ⟨e, he, h⟩ hiE
              · exact h
          have hsub' : ∀ e ∈ E, e.op ∈ pend r := fun e he => hsub _ (List.mem_map_of_mem he)
          obtain ⟨m', rfl⟩ : ∃ m', m = m' + 1 := by
            have := nodup_len (E.map (·.op)) (pend r) hE.nd hsub
            simp only [List.length_map] at this
            exact ⟨m - 1, by omega⟩
          have hirdy := hE.ready (by simpa using h1) (fun e he h => hiE ⟨e, he, h⟩)
          refine wpAnyH_all rfl (fun h => by rw [h] at hirdy; cases hirdy) fun j hj => ?_
          by_cases hjp : j ∈ pend r
          · exact early m' rfl j hj (by rw [hpc]; exact List.mem_cons_of_mem _ hjp) (waitsA h4 hsub' j hjp hj)
          · have := hE.ready_all hsub' hj hjp
            have h2' : Region.ready .any ops (setAll L (pend r)) = [i] := by simpa using h2
            rw [h2'] at this
            have hji : j = i := by simpa using this
            subst hji
            exact early m' rfl j hj (by rw [hpc]; exact List.mem_cons_self) (by simpa using hiA)
      | 3, hok, hw, early, hE, hlate, hapart, hann, hnd, hlen, hLf, plain =>
        simp only [okOrder, ho] at hok
        have hpc : pend ((i, 3) :: r) = pend r := by rw [pend_cons, if_neg (by omega)]
        have hf : ((i, 3) :: r).filter (fun p => Nat.blt p.2 3) = r.filter (fun p => Nat.blt p.2 3) := by simp [List.filter_cons, Nat.blt]
        rw [hf] at hlen hnd
        rw [hpc] at hE hlate hapart hann
        obtain ⟨⟨T, cs, mk, hlr⟩, hw⟩ := hw
        refine ih (m + r.length) (by omega) m r l' L LE (i :: A) E σ ρd ρs κ rfl hlen hLf ⟨hE.sz, hE.szE, hE.get, hE.pd, fun e he => ⟨List.mem_cons_of_mem _ (hE.is e he).1, (hE.is e he).2⟩, hE.nd⟩ hnd hlate hapart (fun p hp hA => ?_) hok hl hw hi a hr Q hk
        rcases List.mem_cons.1 hA with rfl | hA
        · exact ⟨o, T, cs, mk, ho, hlr⟩
        · exact hann p hp hA
      | 4, hok, hw, early, hE, hlate, hapart, hann, hnd, hlen, hLf, plain =>
        simp only [okOrder, ho] at hok
        have hpc : pend ((i, 4) :: r) = pend r := by rw [pend_cons, if_neg (by omega)]
        have hf : ((i, 4) :: r).filter (fun p => Nat.blt p.2 3) = r.filter (fun p => Nat.blt p.2 3) := by simp [List.filter_cons, Nat.blt]
        rw [hf] at hlen hnd
        rw [hpc] at hE hlate hapart hann
        obtain ⟨r0, ρd', hpk, hw⟩ := hw
        have hperm : (ρd ++ (E.map (·.res) ++ ρs)).Perm (ρd' ++ (E.map (·.res) ++ (r0 :: ρs))) := by
          refine (hpk.append_right _).trans ?_
          rw [List.cons_append, ← List.append_assoc, ← List.append_assoc]
          exact (List.perm_middle).symm
        refine wpAnyH_weak (fun w hw => ⟨hw.keep, fun r hr => hw.own r (List.mem_cons_of_mem _ hr)⟩) _ _ _ _ (ih (m + r.length) (by omega) m r l' L LE A E σ ρd' (r0 :: ρs) κ rfl hlen hLf hE hnd hlate hapart hann hok hl hw (hi.perm hperm) a hr Q hk)
      | (k' + 5), hok, hw, early, hE, hlate, hapart, hann, hnd, hlen, hLf, plain => simp only [okOrder, Bool.false_eq_true] at hok
    · cases hp
theorem mixed : Tryz.prog.follows .mixedOrders = true := by kernel_rfl
def statics (ops : Array Oper) (ord : List (Nat × Nat)) : List Nat := (pend ord).filter (lateStatic ops)
def okPart (n : Nat) (l : List Oper) (L : Array Bool) (ord : List (Nat × Nat)) : Bool :=
  decide (((ord.filter fun p => Nat.blt p.2 3).map (·.1)).Nodup) && (pend ord).all (lateOk n l.toArray) && lateApart l.toArray (pend ord) && okOrder n l.toArray L (statics l.toArray ord) ord
def okAll (n : Nat) (l : List Oper) (ord : List (Nat × Nat)) : Bool :=
  Region.noSelect l.toArray && Nat.beq (ord.filter fun p => Nat.blt p.2 3).length l.length && okPart n l (Array.replicate l.length false) ord && (Region.ready .any l.toArray (endL (Array.replicate l.length false) ord)).isEmpty
theorem late_static {ops : Array Oper} {p : Nat} (h : lateStatic ops p = true) (σ : Env) : ∃ o T cs mk, ops[p]? = some o ∧ LateRun o σ T cs mk := by
  unfold lateStatic at h
  cases ho : ops[p]? with
  | none => rw [ho] at h; cases h
  | some o =>
    rw [ho] at h
    simp only [Bool.and_eq_true] at h
    obtain ⟨⟨T, cs, mk⟩, hx⟩ := Option.isSome_iff_exists.1 h.1
    exact ⟨o, T, cs, mk, rfl, by simpa using h.2, late_run hx σ⟩
theorem wd_part {mf : Nat} {l : List Oper} {σ : Env} {ρd ρs : List Res} {κ : Kr} {L : Array Bool} {ord : List (Nat × Nat)} {lo : List (Nat × Oper)} (hsel : Region.noSelect l.toArray = true) (hL : L.size = l.length) (hok : okPart n l L ord = true) (hl : pickOps l ord = some lo)
    (h : WD β n l.toArray K lo σ ρd ρs κ) (hi : Inv β (ρd ++ ρs) κ) (a : Act) (hr : Rel n a σ) (Q : Act → World → Prop) (hk : ∀ a' σ' ρd' ρs' κ', Rel n a' σ' → Inv β (ρd' ++ ρs') κ' → Kle κ κ' → K σ' (ρd' ++ ρs') κ' → wpAnyH Tryz.prog .any l.toArray (NP Q) (Stab ρs' κ') mf (endL L ord) a' κ'.w) :
    wpAnyH Tryz.prog .any l.toArray (NP Q) (Stab ρs κ) ((ord.filter fun p => Nat.blt p.2 3).length + mf) L a κ.w := by
  unfold okPart at hok
  simp only [Bool.and_eq_true] at hok
  obtain ⟨⟨⟨h3, h4⟩, h4'⟩, h5⟩ := hok
  exact wd_sound hsel mf (endL L ord) _ ((ord.filter fun p => Nat.blt p.2 3).length + mf) ord lo L L (statics l.toArray ord) [] σ ρd ρs κ rfl (by simp) rfl ⟨by simpa using hL, by simpa using hL, fun j => by simp, by simp, by simp, by simp⟩ (by simpa using h3) (fun p hp => List.all_eq_true.1 h4 p hp) h4' (fun p _ hA => late_static (List.mem_filter.1 hA).2 σ) h5 (by simpa using hl) h (by simpa using hi) a (by rw [ov_nil]; exact hr) Q hk
theorem wc_draw {K : Exit → Post} {id : Nat} {l : List Oper} {σ : Env} {ρ ρd : List Res} {κ : Kr} (ord : List (Nat × Nat)) {lo : List (Nat × Oper)} (ρs : List Res) (hp : ρ.Perm (ρd ++ ρs)) (hok : okAll n l ord = true)
    (hl : pickOps l ord = some lo) (h : ∀ κ', Kle κ κ' → WD β n l.toArray (K .normal) lo σ ρd ρs κ') : WC β n (.region id l.toArray true) K σ ρ κ := fun hi a hr Q hq => by
  unfold okAll at hok
  simp only [Bool.and_eq_true] at hok
  obtain ⟨⟨⟨h1, h2⟩, h3⟩, h4⟩ := hok
  have hlen := Nat.eq_of_beq_eq_true h2
  have hk1 : Kle κ ⟨{ κ.w with drawn := κ.w.drawn + 1 }, κ.S⟩ := ⟨Nat.le_refl _, fun _ h => h, fun _ _ => rfl⟩
  have hs := wd_part (mf := 0) h1 (by simp) h3 hl (h _ hk1) (hi.perm hp).drew a hr (fun a w => Q .normal a w) fun a' σ' ρd' ρs' κ' g1 g2 g3 g4 => ⟨by simpa using h4, rfl, hq _ a' σ' _ κ' g1 g2 (hk1.trans g3) g4⟩
  have h6 := wpAny_of_held _ _ _ _ hs
  have hsz : l.toArray.size = l.length := by simp
  rw [hlen, Nat.add_zero, ← hsz] at h6
  exact wp_mono (wp_region_any mixed (by simpa using h6)) fun e a w h => by rw [h.1]; exact h.2
/-- A region with one place at which two operations may come up, neither of which merely yields a value: an order for each. -/
def okFork (n : Nat) (l : List Oper) (pre r1 r2 : List (Nat × Nat)) (i1 i2 : Nat) : Bool :=
  Region.noSelect l.toArray && okPart n l (Array.replicate l.length false) pre && (Region.ready .any l.toArray (endL (Array.replicate l.length false) pre) == [i1, i2]) &&
  Nat.beq ((pre.filter fun p => Nat.blt p.2 3).length + (r1.filter fun p => Nat.blt p.2 3).length + 1) l.length && Nat.beq ((pre.filter fun p => Nat.blt p.2 3).length + (r2.filter fun p => Nat.blt p.2 3).length + 1) l.length &&
  Nat.beq (endL (Array.replicate l.length false) pre).size l.length &&
  okPart n l ((endL (Array.replicate l.length false) pre).setIfInBounds i1 true) r1 && (Region.ready .any l.toArray (endL ((endL (Array.replicate l.length false) pre).setIfInBounds i1 true) r1)).isEmpty &&
  okPart n l ((endL (Array.replicate l.length false) pre).setIfInBounds i2 true) r2 && (Region.ready .any l.toArray (endL ((endL (Array.replicate l.length false) pre).setIfInBounds i2 true) r2)).isEmpty
/-- What one of the two leaves. -/
def ForkTo (β : Base) (n : Nat) (ops : Array Oper) (K : Post) (o : Oper) (lo : List (Nat × Oper)) (σ : Env) (ρd ρs : List Res) (κ : Kr) : Prop :=
  WD β n ops K ((1, o) :: lo) σ ρd ρs κ
theorem wc_fork {K : Exit → Post} {id : Nat} {l : List Oper} {σ : Env} {ρ ρd : List Res} {κ : Kr} (pre r1 r2 : List (Nat × Nat)) (i1 i2 : Nat) {lo lo1 lo2 : List (Nat × Oper)} {o1 o2 : Oper} (ρs : List Res) (hp : ρ.Perm (ρd ++ ρs)) (hok : okFork n l pre r1 r2 i1 i2 = true)
    (hl : pickOps l pre = some lo) (ho1 : l[i1]? = some o1) (ho2 : l[i2]? = some o2) (hl1 : pickOps l r1 = some lo1) (hl2 : pickOps l r2 = some lo2)
    (h : ∀ κ', Kle κ κ' → WD β n l.toArray (fun σ' ρ' κ'' => ∀ ρd' ρs', ρ' = ρd' ++ ρs' → WD β n l.toArray (K .normal) ((1, o1) :: lo1) σ' ρd' ρs' κ'' ∧ WD β n l.toArray (K .normal) ((1, o2) :: lo2) σ' ρd' ρs' κ'') lo σ ρd ρs κ') : WC β n (.region id l.toArray true) K σ ρ κ := fun hi a hr Q hq => by
  unfold okFork at hok
  simp only [Bool.and_eq_true] at hok
  obtain ⟨⟨⟨⟨⟨⟨⟨⟨⟨h1, h2⟩, h3⟩, h4⟩, h5⟩, hsz⟩, h6⟩, h7⟩, h8⟩, h9⟩ := hok
  have hk1 : Kle κ ⟨{ κ.w with drawn := κ.w.drawn + 1 }, κ.S⟩ := ⟨Nat.le_refl _, fun _ h => h, fun _ _ => rfl⟩
  have e1 := Nat.eq_of_beq_eq_true h4
  have e2 := Nat.eq_of_beq_eq_true h5
  have esz := Nat.eq_of_beq_eq_true hsz
  have one : ∀ (i : Nat) (o : Oper) (r : List (Nat × Nat)) (lr : List (Nat × Oper)), l[i]? = some o → pickOps l r = some lr → (pre.filter fun p => Nat.blt p.2 3).length + (r.filter fun p => Nat.blt p.2 3).length + 1 = l.length → okPart n l ((endL (Array.replicate l.length false) pre).setIfInBounds i true) r = true → (Region.ready .any l.toArray (endL ((endL (Array.replicate l.length false) pre).setIfInBounds i true) r)).isEmpty = true →
      ∀ a' σ' ρd' ρs' κ', Rel n a' σ' → Inv β (ρd' ++ ρs') κ' → Kle κ κ' → WD β n l.toArray (K .normal) ((1, o) :: lr) σ' ρd' ρs' κ' →
      wpOp Tryz.prog l.toArray (NP fun a w => Q .normal a w) i (fun a'' w' => Stab ρs' κ' w' ∧ wpAnyH Tryz.prog .any l.toArray (NP fun a w => Q .normal a w) (Stab ρs' κ') (r.filter fun p => Nat.blt p.2 3).length ((endL (Array.replicate l.length false) pre).setIfInBounds i true) a'' w') a' κ'.w := by
    intro i o r lr hoi hlr hlen hokr hend a' σ' ρd' ρs' κ' g1 g2 g3 hw
    have hoi' : l.toArray[i]? = some o := by simpa using hoi
    have hstab : Stab ρs' κ' κ'.w := ⟨fun _ _ => rfl, fun r hr => g2.own r (by simp [hr])⟩
    unfold wpOp
    simp only [hoi']
    obtain ⟨hd, hw⟩ := hw
    have fin : ∀ (σ'' : Env) (ρ'' : List Res) (κ'' : Kr) (a'' : Act), Rel n a'' σ'' → Inv β (ρ'' ++ ρs') κ'' → Kle κ' κ'' → WD β n l.toArray (K .normal) lr σ'' ρ'' ρs' κ'' → wpAnyH Tryz.prog .any l.toArray (NP fun a w => Q .normal a w) (Stab ρs' κ') (r.filter fun p => Nat.blt p.2 3).length ((endL (Array.replicate l.length false) pre).setIfInBounds i true) a'' κ''.w := by
      intro σ'' ρ'' κ'' a'' k1 k2 k3 k4
      have := wd_part (mf := 0) h1 (by simp [esz]) hokr hlr k4 k2 a'' k1 (fun a w => Q .normal a w) fun a3 σ3 ρd3 ρs3 κ3 q1 q2 q3 q4 => ⟨by simpa using hend, rfl, hq _ a3 σ3 _ κ3 q1 q2 (g3.trans (k3.trans q3)) q4⟩
      exact wpAnyH_weak (fun w hw => ⟨fun b hb => (hw.keep b (k3.sh b hb)).trans (k3.keep b hb), hw.own⟩) _ _ _ _ this
    rcases hw with ⟨hg, hw⟩ | ⟨c, hg, hw⟩
    · rw [if_pos (by simp [Region.wanted, hg])]
      refine .inl (wp_of_out g1.eval ((hw κ' (.refl _)) β g2 (fun v w => Stab ρs' κ' w ∧ wpAnyH Tryz.prog .any l.toArray (NP fun a w => Q .normal a w) (Stab ρs' κ') (r.filter fun p => Nat.blt p.2 3).length ((endL (Array.replicate l.length false) pre).setIfInBounds i true) (a'.put o.dst v) w) fun v ρ' κ'' hi' hle' hw' => ?_) fun _ _ h => h)
      obtain ⟨ρd'', rfl, hw'⟩ := hw'
      exact ⟨⟨hle'.keep, fun r hr => hi'.own r (by simp [hr])⟩, fin _ ρd'' κ'' _ (g1.put hd v) hi' hle' hw'⟩
    · rw [wanted_rel g1, hg]
      have hw0 := hw κ' (.refl _)
      cases c with
      | false =>
        have h2 := hw0.2 rfl
        simp only [gv_false] at h2
        exact ⟨hstab, fin _ ρd' κ' _ (g1.put hd _) g2 (.refl _) h2⟩
      | true =>
        refine .inl (wp_of_out g1.eval ((hw0.1 rfl) β g2 (fun v w => Stab ρs' κ' w ∧ wpAnyH Tryz.prog .any l.toArray (NP fun a w => Q .normal a w) (Stab ρs' κ') (r.filter fun p => Nat.blt p.2 3).length ((endL (Array.replicate l.length false) pre).setIfInBounds i true) (a'.put o.dst v) w) fun v ρ' κ'' hi' hle' hw' => ?_) fun _ _ h => h)
        obtain ⟨rfl, hw'⟩ := hw'
        simp only [gv_true] at hw'
        exact ⟨⟨hle'.keep, fun r hr => hi'.own r (by simp [hr])⟩, fin _ ρd' κ'' _ (g1.put hd v) hi' hle' hw'⟩
  have hs := wd_part (mf := (r1.filter fun p => Nat.blt p.2 3).length + 1) h1 (by simp) h2 hl (h _ hk1) (hi.perm hp).drew a hr (fun a w => Q .normal a w) fun a' σ' ρd' ρs' κ' g1 g2 g3 g4 => by
    obtain ⟨w1, w2⟩ := g4 ρd' ρs' rfl
    refine wpAnyH_all (rs := [i1, i2]) (by simpa using h3) (by simp) fun j hj => ?_
    simp only [List.mem_cons, List.not_mem_nil, or_false] at hj
    rcases hj with rfl | rfl
    · exact one j o1 r1 lo1 ho1 hl1 e1 h6 h7 a' σ' ρd' ρs' κ' g1 g2 (hk1.trans g3) w1
    · have := one j o2 r2 lo2 ho2 hl2 e2 h8 h9 a' σ' ρd' ρs' κ' g1 g2 (hk1.trans g3) w2
      have e3 : (r2.filter fun p => Nat.blt p.2 3).length = (r1.filter fun p => Nat.blt p.2 3).length := by omega
      rw [e3] at this
      exact this
  have h6 := wpAny_of_held _ _ _ _ hs
  have hszl : l.toArray.size = l.length := by simp
  rw [← Nat.add_assoc, e1, ← hszl] at h6
  exact wp_mono (wp_region_any mixed (by simpa using h6)) fun e a w h => by rw [h.1]; exact h.2
end
section
variable {β : Base} {n : Nat} {ops : Array Oper} {K : Post} {ρs : List Res} {o : Oper} {r : List (Nat × Oper)} {σ : Env} {ρd : List Res} {κ : Kr}
theorem wd_nil (h : ∀ κ1, Kle κ κ1 → K σ (ρd ++ ρs) κ1) : WD β n ops K [] σ ρd ρs κ := h
theorem wd_q {v : Value} {d : Nat} (hg : o.guard = none) (hd : o.dst = some d) (hlt : Nat.blt d n = true) (h : OpQ true o σ ρs κ v) (hw : WD β n ops K r (upd σ d v) ρd ρs κ) : WD β n ops K ((0, o) :: r) σ ρd ρs κ := ⟨dst_some hd hlt, .inl ⟨hg, v, h, by rw [updO_some hd]; exact hw⟩⟩
theorem wd_qg {v : Value} {c : Bool} {d : Nat} (hg : GuardIs ops σ o c) (hd : o.dst = some d) (hlt : Nat.blt d n = true) (h : OpQ c o σ ρs κ v) (hw : WD β n ops K r (upd σ d (gv c v)) ρd ρs κ) : WD β n ops K ((0, o) :: r) σ ρd ρs κ := ⟨dst_some hd hlt, .inr ⟨c, v, hg, h, by rw [updO_some hd]; exact hw⟩⟩
theorem wd_l {d : Nat} (hg : o.guard = none) (hd : o.dst = some d) (hlt : Nat.blt d n = true) (h : ∀ κ1, Kle κ κ1 → OpL o σ (ρd ++ ρs) κ1 fun v ρ' κ' => ∃ ρd', ρ' = ρd' ++ ρs ∧ WD β n ops K r (upd σ d v) ρd' ρs κ') : WD β n ops K ((1, o) :: r) σ ρd ρs κ := ⟨dst_some hd hlt, .inl ⟨hg, by simp only [updO_some hd]; exact h⟩⟩
theorem wd_l0 (hg : o.guard = none) (hd : o.dst = none) (h : ∀ κ1, Kle κ κ1 → OpL o σ (ρd ++ ρs) κ1 fun _ ρ' κ' => ∃ ρd', ρ' = ρd' ++ ρs ∧ WD β n ops K r σ ρd' ρs κ') : WD β n ops K ((1, o) :: r) σ ρd ρs κ := ⟨by rw [hd]; rfl, .inl ⟨hg, by simp only [hd]; exact h⟩⟩
theorem wd_g {c : Bool} {d : Nat} (hg : GuardIs ops σ o c) (hd : o.dst = some d) (hlt : Nat.blt d n = true) (h : ∀ κ1, Kle κ κ1 → OpG c o σ (ρd ++ ρs) κ1 fun v κ' => WD β n ops K r (upd σ d (gv c v)) ρd ρs κ') : WD β n ops K ((1, o) :: r) σ ρd ρs κ := ⟨dst_some hd hlt, .inr ⟨c, hg, by simp only [updO_some hd]; exact h⟩⟩
theorem wd_late {T : Nat} {cs : List Value} {mk : Nat → Value} {d : Nat} (hlo : LateRun o σ T cs mk) (hd : o.dst = some d) (h : ∀ b κ', Kle κ κ' → WD β n ops K r (upd σ d (mk b)) (Res.b b T cs :: ρd) ρs κ') : WD β n ops K ((2, o) :: r) σ ρd ρs κ := ⟨T, cs, mk, d, hlo, hd, h⟩
theorem wd_tell {T : Nat} {cs : List Value} {mk : Nat → Value} (hlo : LateRun o σ T cs mk) (h : WD β n ops K r σ ρd ρs κ) : WD β n ops K ((3, o) :: r) σ ρd ρs κ := ⟨⟨T, cs, mk, hlo⟩, h⟩
/-- From here on the region does not turn this block. -/
theorem wd_still {r0 : Res} {ρd' : List Res} (hp : ρd.Perm (r0 :: ρd')) (h : WD β n ops K r σ ρd' (r0 :: ρs) κ) : WD β n ops K ((4, o) :: r) σ ρd ρs κ := ⟨r0, ρd', hp, h⟩
/-- An operation that yields a value, taken at its own time. -/
theorem wd_lq {v : Value} {d : Nat} (hg : o.guard = none) (hd : o.dst = some d) (hlt : Nat.blt d n = true) (h : ∀ κ1, Kle κ κ1 → OpQ true o σ (ρd ++ ρs) κ1 v) (hw : WD β n ops K r (upd σ d v) ρd ρs κ) : WD β n ops K ((1, o) :: r) σ ρd ρs κ :=
  wd_l hg hd hlt fun κ1 k1 β' hi Nx hk => by
    rw [h κ1 k1 rfl κ1.w hi.stab]
    exact hk v _ κ1 hi (.refl _) ⟨ρd, rfl, hw.mono k1⟩
theorem wd_callP {d f : Nat} {l : List Operand} {ts : Array Nat} {args : List Value} {R : Value → Kr → Prop} (hg : o.guard = none) (hd : o.dst = some d) (hlt : Nat.blt d n = true) (ho : o.op = .call { callee := .value (.func f), args := l.toArray, argTypes := ts })
    (ha : l.map (ev σ) = args) (hc : ∀ κ1, Kle κ κ1 → CallP f args κ1 R) (h : ∀ v κ', Kle κ κ' → R v κ' → WD β n ops K r (upd σ d v) ρd ρs κ') : WD β n ops K ((1, o) :: r) σ ρd ρs κ :=
  wd_l hg hd hlt fun κ1 k1 => ol_callP ho ha (hc κ1 k1) fun v κ' hk hr => ⟨ρd, rfl, h v κ' (k1.trans hk) hr⟩
theorem wd_callPg {c : Bool} {d f : Nat} {l : List Operand} {ts : Array Nat} {args : List Value} {R : Value → Kr → Prop} (hg : GuardIs ops σ o c) (hd : o.dst = some d) (hlt : Nat.blt d n = true) (ho : o.op = .call { callee := .value (.func f), args := l.toArray, argTypes := ts })
    (ha : c = true → l.map (ev σ) = args) (hc : c = true → ∀ κ1, Kle κ κ1 → CallP f args κ1 R) (h : ∀ v κ', Kle κ κ' → (c = true → R v κ') → WD β n ops K r (upd σ d (gv c v)) ρd ρs κ') : WD β n ops K ((1, o) :: r) σ ρd ρs κ :=
  wd_g hg hd hlt fun κ1 k1 => og_callP ho ha (fun hc' => hc hc' κ1 k1) fun v κ' hk hr => h v κ' (k1.trans hk) hr
end

/-! ### What stands behind a piece of code -/
section
variable {β : Base} {n : Nat} {y : Code} {K : Exit → Post} {σ : Env} {ρ : List Res} {κ : Kr} {id id' : Nat}
theorem k_seq (h : WC β n y K σ ρ κ) : seqK β n y K .normal σ ρ κ := h
theorem k_seq_ret (h : K .ret σ ρ κ) : seqK β n y K .ret σ ρ κ := h
theorem k_seq_exit (h : K (.exit id) σ ρ κ) : seqK β n y K (.exit id) σ ρ κ := h
theorem k_block_n (h : K .normal σ ρ κ) : blockK id K .normal σ ρ κ := h
theorem k_block_ret (h : K .ret σ ρ κ) : blockK id K .ret σ ρ κ := h
theorem k_block_eq (he : Nat.beq id' id = true) (h : K .normal σ ρ κ) : blockK id K (.exit id') σ ρ κ := by simp only [blockK, he]; exact h
theorem k_block_ne (he : Nat.beq id' id = false) (h : K (.exit id') σ ρ κ) : blockK id K (.exit id') σ ρ κ := by simp only [blockK, he]; exact h
end
end SX
end Go.Proofs.YtfcecieppoljlaaGreatDoor
