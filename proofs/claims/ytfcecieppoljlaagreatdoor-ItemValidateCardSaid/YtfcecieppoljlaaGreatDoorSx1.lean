/- A small calculus of our own for walking through the translated Go code: slots as a function, the call's own blocks as a list of resources, all other memory as shared blocks that do not change. This text: the notions, and that each rule is sound for the kit's own wp. No statement of the seat is proved here. -/
import Derived.Test.YtfcecieppoljlaaGreatDoorTab
import Derived.WalkKit
import Derived.OrdersHeld
set_option maxRecDepth 100000
namespace Go.Proofs.YtfcecieppoljlaaGreatDoor
namespace SX
open Go

/-! ### Slots -/
abbrev Env := Nat → Value
def upd (σ : Env) (d : Nat) (v : Value) : Env := fun t => cond (Nat.beq t d) v (σ t)
def updO (σ : Env) (d : Option Nat) (v : Value) : Env := match d with | none => σ | some d => upd σ d v
def upds (σ : Env) : List (Nat × Value) → Env
  | [] => σ
  | (d, v) :: l => upd (upds σ l) d v
def ev (σ : Env) : Operand → Value
  | .tmp t => σ t
  | .const v => v
  | .global g => .pointer (some ⟨g, 0, none⟩)
  | .func f => .func (.func f) #[] #[]
def env0 (args : Array Value) : Env := fun t => args.toList.getD t undef
def dstOk (n : Nat) : Option Nat → Bool
  | none => true
  | some d => Nat.blt d n

def Rel (n : Nat) (a : Act) (σ : Env) : Prop := a.tmps.size = n ∧ a.defers = [] ∧ ∀ t, a.tmps.getD t undef = σ t

theorem upd_self {σ : Env} {d : Nat} {v : Value} (h : σ d = v) : upd σ d v = σ := by
  funext t; unfold upd; cases e : Nat.beq t d
  · rfl
  · rw [Nat.eq_of_beq_eq_true e, h]; rfl
theorem Rel.put {n : Nat} {a : Act} {σ : Env} (h : Rel n a σ) {d : Option Nat} (hd : dstOk n d = true) (v : Value) : Rel n (a.put d v) (updO σ d v) := by
  obtain ⟨h1, h2, h3⟩ := h
  cases d with
  | none => exact ⟨h1, h2, h3⟩
  | some d =>
    have hlt : d < n := by have h := hd; simp [dstOk, Nat.blt] at h; omega
    refine ⟨by simp [Act.put, h1], h2, fun t => ?_⟩
    simp only [Act.put, updO, upd]
    rw [← h3 t]
    cases e : Nat.beq t d
    · have hne : t ≠ d := fun h => by rw [h] at e; simp at e
      simp only [cond_false, Array.getD_eq_getD_getElem?]
      rw [Array.getElem?_setIfInBounds_ne (by omega)]
    · have := Nat.eq_of_beq_eq_true e; subst this
      simp only [cond_true, Array.getD_eq_getD_getElem?]
      rw [Array.getElem?_setIfInBounds_self_of_lt (by omega)]; rfl
theorem Rel.eval {n : Nat} {a : Act} {σ : Env} (h : Rel n a σ) : a.eval = ev σ := by
  funext x; cases x <;> simp [Act.eval, ev, h.2.2]
theorem rel_env0 (args : Array Value) (n : Nat) (h : args.size ≤ n) : Rel n { tmps := args ++ Array.replicate (n - args.size) undef, defers := [] } (env0 args) := by
  refine ⟨by simp; omega, rfl, fun t => ?_⟩
  simp only [env0, Array.getD_eq_getD_getElem?, List.getD_eq_getElem?_getD, Array.getElem?_toList]
  rcases Nat.lt_or_ge t args.size with ht | ht
  · rw [Array.getElem?_append_left ht]
  · rw [Array.getElem?_append_right ht, Array.getElem?_eq_none ht]
    rcases Nat.lt_or_ge (t - args.size) (n - args.size) with h2 | h2
    · simp [h2]
    · rw [Array.getElem?_eq_none (by simpa using h2)]

/-! ### Memory: shared blocks, own blocks -/
structure Kr where
  w : World
  S : Nat → Prop

structure Kle (κ κ' : Kr) : Prop where
  size : κ.w.heap.size ≤ κ'.w.heap.size
  sh : ∀ b, κ.S b → κ'.S b
  keep : ∀ b, κ.S b → κ'.w.heap[b]? = κ.w.heap[b]?
theorem Kle.refl (κ : Kr) : Kle κ κ := ⟨Nat.le_refl _, fun _ h => h, fun _ _ => rfl⟩
theorem Kle.trans {a b c : Kr} (h : Kle a b) (k : Kle b c) : Kle a c :=
  ⟨Nat.le_trans h.size k.size, fun x hx => k.sh x (h.sh x hx), fun x hx => (k.keep x (h.sh x hx)).trans (h.keep x hx)⟩

structure Res where
  blk : Option Nat
  says : Option Obj → Prop
def Res.holds (r : Res) (w : World) : Prop := match r.blk with | none => r.says none | some b => r.says w.heap[b]?

structure Base where
  k0 : Kr
  M : List Nat

structure Le (M : List Nat) (κ κ' : Kr) : Prop where
  kle : Kle κ κ'
  same : ∀ b, b < κ.w.heap.size → b ∉ M → κ'.w.heap[b]? = κ.w.heap[b]?
  shNew : ∀ b, κ'.S b → κ.S b ∨ κ.w.heap.size ≤ b ∨ b ∈ M
  os : κ'.w.os = κ.w.os
  tape : κ'.w.tape = κ.w.tape
  output : κ'.w.output = κ.w.output
theorem Le.refl (M : List Nat) (κ : Kr) : Le M κ κ := ⟨.refl _, fun _ _ _ => rfl, fun _ h => .inl h, rfl, rfl, rfl⟩

structure Inv (β : Base) (ρ : List Res) (κ : Kr) : Prop where
  le : Le β.M β.k0 κ
  fin : ∀ b, κ.S b → b < κ.w.heap.size
  own : ∀ r ∈ ρ, r.holds κ.w
  blk : ∀ r ∈ ρ, ∀ b, r.blk = some b → b < κ.w.heap.size ∧ ¬ κ.S b ∧ (β.k0.w.heap.size ≤ b ∨ b ∈ β.M)
  nd : ρ.Pairwise fun r s => ∀ b, r.blk = some b → s.blk ≠ some b

abbrev Post := Env → List Res → Kr → Prop

/-- The judgement on a list of operations of a plain region. -/
def WL (β : Base) (n : Nat) (ops : Array Oper) (l : List Oper) (K : Post) (σ : Env) (ρ : List Res) (κ : Kr) : Prop :=
  Inv β ρ κ → ∀ a, Rel n a σ → ∀ Q : Exit → Act → World → Prop,
    (∀ a' σ' ρ' κ', Rel n a' σ' → Inv β ρ' κ' → Kle κ κ' → K σ' ρ' κ' → Q .normal a' κ'.w) → wpList Tryz.prog ops Q l a κ.w

/-- The judgement on code. -/
def WC (β : Base) (n : Nat) (c : Code) (K : Exit → Post) (σ : Env) (ρ : List Res) (κ : Kr) : Prop :=
  Inv β ρ κ → ∀ a, Rel n a σ → ∀ Q : Exit → Act → World → Prop,
    (∀ e a' σ' ρ' κ', Rel n a' σ' → Inv β ρ' κ' → Kle κ κ' → K e σ' ρ' κ' → Q e a' κ'.w) → c.wp Tryz.prog Q a κ.w

/-- What is asked of the outcome of one operation: a value and a world. -/
def OutV (Nx : Value → World → Prop) : Result Next → Prop
  | .ok (.value v) w => Nx v w
  | .ok .skip w => Nx undef w
  | .ok (.enter f args) w => Calls Tryz.prog f args w fun e w' => ∃ v, e = .returned v ∧ Nx v w'
  | _ => False
theorem OutV.mono {Nx Nx' : Value → World → Prop} {r : Result Next} (h : OutV Nx r) (hm : ∀ v w, Nx v w → Nx' v w) : OutV Nx' r := by
  cases r with
  | ok n w =>
    cases n with
    | value v => exact hm _ _ h
    | skip => exact hm _ _ h
    | enter f args => exact Calls.mono h fun e w' ⟨v, h1, h2⟩ => ⟨v, h1, hm _ _ h2⟩
    | _ => exact h.elim
  | halt x w => exact h.elim
theorem wp_of_out {o : Oper} {a : Act} {w : World} {ρ : Operand → Value} {Nx : Value → World → Prop} {next : Act → World → Prop} {Q : Exit → Act → World → Prop} (he : a.eval = ρ) (h : OutV Nx ((execOp ρ o).run Tryz.prog w)) (hn : ∀ v w, Nx v w → next (a.put o.dst v) w) : o.wp Tryz.prog a w next Q := by
  unfold Oper.wp
  rw [he]
  generalize (execOp ρ o).run Tryz.prog w = r at *
  cases r with
  | ok n w =>
    cases n with
    | value v => exact hn _ _ h
    | skip => exact hn _ _ h
    | enter f args => exact Calls.mono h fun e w' ⟨v, h1, h2⟩ => by subst h1; exact hn _ _ h2
    | _ => exact h.elim
  | halt x w => exact h.elim
/-- One operation that may change the world. -/
def OpL (o : Oper) (σ : Env) (ρ : List Res) (κ : Kr) (K : Value → List Res → Kr → Prop) : Prop :=
  ∀ β, Inv β ρ κ → ∀ Nx : Value → World → Prop, (∀ v ρ' κ', Inv β ρ' κ' → Kle κ κ' → K v ρ' κ' → Nx v κ'.w) → OutV Nx ((execOp (ev σ) o).run Tryz.prog κ.w)

/-- Worlds in which all that is known still stands. -/
structure Stab (ρ : List Res) (κ : Kr) (w : World) : Prop where
  keep : ∀ b, κ.S b → w.heap[b]? = κ.w.heap[b]?
  own : ∀ r ∈ ρ, r.holds w
theorem Inv.stab {β : Base} {ρ : List Res} {κ : Kr} (h : Inv β ρ κ) : Stab ρ κ κ.w := ⟨fun _ _ => rfl, h.own⟩

/-- One operation that yields a value (where c is true) and leaves the world alone, in every world in which all that is known stands. -/
def OpQ (c : Bool) (o : Oper) (σ : Env) (ρ : List Res) (κ : Kr) (v : Value) : Prop :=
  c = true → ∀ w, Stab ρ κ w → (execOp (ev σ) o).run Tryz.prog w = .ok (.value v) w

@[irreducible] def gv (c : Bool) (v : Value) : Value := cond c v undef
theorem gv_true (v : Value) : gv true v = v := by unfold gv; rfl
theorem gv_false (v : Value) : gv false v = undef := by unfold gv; rfl

def yieldedBy (ops : Array Oper) (σ : Env) (j : Nat) : Option Bool :=
  match ((ops[j]?).bind (·.dst)).map σ with
  | some (.bool b) => some b
  | _ => none
theorem yielded_rel {n : Nat} {a : Act} {σ : Env} (h : Rel n a σ) (ops : Array Oper) (j : Nat) : yielded ops a.tmps j = yieldedBy ops σ j := by
  unfold yielded yieldedBy
  cases (ops[j]?).bind (·.dst) with
  | none => rfl
  | some d =>
    have h3 := h.2.2 d
    simp only [Option.bind_some, Option.map_some]
    rw [Array.getD_eq_getD_getElem?] at h3
    cases e : a.tmps[d]? with
    | none => rw [e] at h3; simp only [Option.getD_none] at h3; rw [← h3]; rfl
    | some v => rw [e] at h3; simp only [Option.getD_some] at h3; rw [h3]; rfl
theorem wanted_rel {n : Nat} {a : Act} {σ : Env} (h : Rel n a σ) (ops : Array Oper) (o : Oper) : Region.wanted o (yielded ops a.tmps) = Region.wanted o (yieldedBy ops σ) := by
  rw [show yielded ops a.tmps = yieldedBy ops σ from funext fun j => yielded_rel h ops j]

/-- When a guarded operation is carried out. -/
def GuardIs (ops : Array Oper) (σ : Env) (o : Oper) (c : Bool) : Prop := Region.wanted o (yieldedBy ops σ) = c
section
variable {ops : Array Oper} {σ : Env} {o : Oper} {j d : Nat} {p c : Bool}
theorem guard_none (h : o.guard = none) : GuardIs ops σ o true := by simp [GuardIs, Region.wanted, h]
theorem guard_t (h : o.guard = some (j, true)) (hd : (ops[j]?).bind (·.dst) = some d) (hs : σ d = .bool p) : GuardIs ops σ o p := by
  simp [GuardIs, Region.wanted, h, yieldedBy, hd, hs]
theorem guard_f (h : o.guard = some (j, false)) (hd : (ops[j]?).bind (·.dst) = some d) (hs : σ d = .bool p) : GuardIs ops σ o (!p) := by
  simp [GuardIs, Region.wanted, h, yieldedBy, hd, hs]
theorem guard_gt (h : o.guard = some (j, true)) (hd : (ops[j]?).bind (·.dst) = some d) (hs : σ d = gv c (.bool p)) : GuardIs ops σ o (c && p) := by
  simp only [GuardIs, Region.wanted, h, yieldedBy, hd, Option.map_some, hs]
  cases c
  · rw [gv_false]; rfl
  · rw [gv_true]; cases p <;> rfl
theorem guard_gf (h : o.guard = some (j, false)) (hd : (ops[j]?).bind (·.dst) = some d) (hs : σ d = gv c (.bool p)) : GuardIs ops σ o (c && !p) := by
  simp only [GuardIs, Region.wanted, h, yieldedBy, hd, Option.map_some, hs]
  cases c
  · rw [gv_false]; rfl
  · rw [gv_true]; cases p <;> rfl
end

/-- Under the condition c operand x is v. -/
def Ev (σ : Env) (c : Bool) (x : Operand) (v : Value) : Prop := c = true → ev σ x = v
theorem Ev.p {σ : Env} {c : Bool} {x : Operand} {v : Value} (h : ev σ x = v) : Ev σ c x v := fun _ => h
theorem Ev.g {σ : Env} {c : Bool} {x : Operand} {v : Value} (h : ev σ x = gv c v) : Ev σ c x v := fun hc => by rw [h, hc, gv_true]
theorem Ev.gg {σ : Env} {c c' : Bool} {x : Operand} {v : Value} (h : ev σ x = gv c v) : Ev σ (c && c') x v := fun hc => by
  have : c = true := by cases c <;> simp_all
  rw [h, this, gv_true]

/-! ### The rules on lists of operations -/
section
variable {β : Base} {n : Nat} {ops : Array Oper} {o : Oper} {rest : List Oper} {K : Post} {σ : Env} {ρ : List Res} {κ : Kr}
theorem wl_nil (h : K σ ρ κ) : WL β n ops [] K σ ρ κ := fun hi a hr _ hk => wpList_nil (hk a σ ρ κ hr hi (.refl _) h)
theorem dst_some {n : Nat} {d : Option Nat} {t : Nat} (h : d = some t) (hlt : Nat.blt t n = true) : dstOk n d = true := by rw [h]; exact hlt
theorem updO_some {σ : Env} {d : Option Nat} {t : Nat} {v : Value} (h : d = some t) : updO σ d v = upd σ t v := by rw [h]; rfl
theorem wl_lO (hg : o.guard = none) (hd : dstOk n o.dst = true) (h : OpL o σ ρ κ fun v ρ' κ' => WL β n ops rest K (updO σ o.dst v) ρ' κ') : WL β n ops (o :: rest) K σ ρ κ :=
  fun hi a hr Q hk => wpList_plain hg fun _ hK => wp_of_out hr.eval (h β hi (fun v w => wpList Tryz.prog ops Q rest (a.put o.dst v) w) fun v _ _ hi' hle hw =>
    hw hi' _ (hr.put hd v) Q fun a' σ' ρ'' κ'' h1 h2 h3 h4 => hk a' σ' ρ'' κ'' h1 h2 (hle.trans h3) h4) fun _ _ h => hK _ _ h
theorem wl_l {d : Nat} (hg : o.guard = none) (hd : o.dst = some d) (hlt : Nat.blt d n = true) (h : OpL o σ ρ κ fun v ρ' κ' => WL β n ops rest K (upd σ d v) ρ' κ') : WL β n ops (o :: rest) K σ ρ κ :=
  wl_lO hg (dst_some hd hlt) (by simp only [updO_some hd]; exact h)
theorem wl_l0 (hg : o.guard = none) (hd : o.dst = none) (h : OpL o σ ρ κ fun _ ρ' κ' => WL β n ops rest K σ ρ' κ') : WL β n ops (o :: rest) K σ ρ κ :=
  wl_lO hg (by rw [hd]; rfl) (by rw [hd]; exact h)
theorem wl_q {v : Value} {d : Nat} (hg : o.guard = none) (hd : o.dst = some d) (hlt : Nat.blt d n = true) (h : OpQ true o σ ρ κ v) (hw : WL β n ops rest K (upd σ d v) ρ κ) : WL β n ops (o :: rest) K σ ρ κ :=
  fun hi a hr Q hk => wpList_plain hg fun _ hK => by
    unfold Oper.wp; rw [hr.eval, h rfl κ.w hi.stab]
    rw [← updO_some hd] at hw
    exact hK _ _ (hw hi _ (hr.put (dst_some hd hlt) v) Q hk)
theorem wl_qg {v : Value} {c : Bool} {d : Nat} (hg : GuardIs ops σ o c) (hd : o.dst = some d) (hlt : Nat.blt d n = true) (h : OpQ c o σ ρ κ v) (hw : WL β n ops rest K (upd σ d (gv c v)) ρ κ) : WL β n ops (o :: rest) K σ ρ κ :=
  fun hi a hr Q hk => by
    rw [← updO_some hd] at hw
    unfold wpList
    rw [wanted_rel hr, hg]
    cases c with
    | false =>
      rw [gv_false] at hw
      exact hw hi _ (hr.put (dst_some hd hlt) undef) Q hk
    | true =>
      rw [gv_true] at hw
      refine .inl ?_
      unfold Oper.wp; rw [hr.eval, h rfl κ.w hi.stab]
      exact hw hi _ (hr.put (dst_some hd hlt) v) Q hk
end

/-! ### The rules on code -/
def seqK (β : Base) (n : Nat) (y : Code) (K : Exit → Post) : Exit → Post := fun e σ ρ κ => match e with | .normal => WC β n y K σ ρ κ | e => K e σ ρ κ
def blockK (id : Nat) (K : Exit → Post) : Exit → Post := fun e σ ρ κ => match e with | .exit id' => cond (Nat.beq id' id) (K .normal σ ρ κ) (K (.exit id') σ ρ κ) | e => K e σ ρ κ
section
variable {β : Base} {n : Nat} {x y : Code} {K : Exit → Post} {σ : Env} {ρ : List Res} {κ : Kr}
theorem wc_mono {K' : Exit → Post} (h : WC β n x K σ ρ κ) (hk : ∀ e σ' ρ' κ', Kle κ κ' → K e σ' ρ' κ' → K' e σ' ρ' κ') : WC β n x K' σ ρ κ :=
  fun hi a hr Q hq => h hi a hr Q fun e a' σ' ρ' κ' h1 h2 h3 h4 => hq e a' σ' ρ' κ' h1 h2 h3 (hk e σ' ρ' κ' h3 h4)
theorem wc_seq (h : WC β n x (seqK β n y K) σ ρ κ) : WC β n (.seq x y) K σ ρ κ :=
  fun hi a hr Q hq => wp_seq (h hi a hr _ fun e a' σ' ρ' κ' h1 h2 h3 h4 => by
    cases e with
    | normal => exact h4 h2 a' h1 Q fun e a'' σ'' ρ'' κ'' g1 g2 g3 g4 => hq e a'' σ'' ρ'' κ'' g1 g2 (h3.trans g3) g4
    | _ => exact hq _ a' σ' ρ' κ' h1 h2 h3 h4)
theorem wc_skip (h : K .normal σ ρ κ) : WC β n .skip K σ ρ κ := fun hi a hr _ hq => wp_skip (hq _ a σ ρ κ hr hi (.refl _) h)
theorem wc_ret (h : K .ret σ ρ κ) : WC β n .ret K σ ρ κ := fun hi a hr _ hq => wp_ret (hq _ a σ ρ κ hr hi (.refl _) h)
theorem wc_exit {id : Nat} (h : K (.exit id) σ ρ κ) : WC β n (.exit id) K σ ρ κ := fun hi a hr _ hq => wp_exit (hq _ a σ ρ κ hr hi (.refl _) h)
theorem wc_block {id : Nat} (h : WC β n x (blockK id K) σ ρ κ) : WC β n (.block id x) K σ ρ κ :=
  fun hi a hr Q hq => wp_block (h hi a hr _ fun e a' σ' ρ' κ' h1 h2 h3 h4 => by
    cases e with
    | exit id' =>
      simp only [blockK] at h4
      simp only [Exit.inBlock]
      cases hb : Nat.beq id' id
      · have hne : id' ≠ id := fun h => by rw [h] at hb; simp at hb
        rw [hb] at h4; rw [if_neg hne]; exact hq _ a' σ' ρ' κ' h1 h2 h3 h4
      · have he := Nat.eq_of_beq_eq_true hb
        rw [hb] at h4; rw [if_pos he]; exact hq _ a' σ' ρ' κ' h1 h2 h3 h4
    | _ => exact hq _ a' σ' ρ' κ' h1 h2 h3 h4)
theorem wc_cond {c : Operand} {p : Bool} (hc : ev σ c = .bool p) (ht : p = true → WC β n x K σ ρ κ) (hf : p = false → WC β n y K σ ρ κ) : WC β n (.cond c x y) K σ ρ κ :=
  fun hi a hr Q hq => wp_cond_split (t := p) (by rw [hr.eval, hc]) (fun h => ht h hi a hr Q hq) (fun h => hf h hi a hr Q hq)
theorem wc_condT {c : Operand} (hc : ev σ c = .bool true) (h : WC β n x K σ ρ κ) : WC β n (.cond c x y) K σ ρ κ := wc_cond hc (fun _ => h) (fun h => by cases h)
theorem wc_condF {c : Operand} (hc : ev σ c = .bool false) (h : WC β n y K σ ρ κ) : WC β n (.cond c x y) K σ ρ κ := wc_cond hc (fun h => by cases h) (fun _ => h)
theorem wc_region {id : Nat} {l : List Oper} (h : WL β n l.toArray l (K .normal) σ ρ κ) : WC β n (.region id l.toArray false) K σ ρ κ :=
  fun hi a hr Q hq => wp_region_lit (h hi a hr Q fun a' σ' ρ' κ' h1 h2 h3 h4 => hq _ a' σ' ρ' κ' h1 h2 h3 h4)
/-- A loop: the state at its head is a family over X. -/
theorem wc_loop {X : Type} (J : X → Env → List Res → Kr → Prop) (μ : X → Nat) (x0 : X) (h0 : J x0 σ ρ κ)
    (round : ∀ z σ' ρ' κ', Kle κ κ' → J z σ' ρ' κ' → WC β n x (fun e σ'' ρ'' κ'' => match e with | .normal => ∃ z', J z' σ'' ρ'' κ'' ∧ μ z' < μ z | e => K e σ'' ρ'' κ'') σ' ρ' κ') : WC β n (.loop x) K σ ρ κ :=
  fun hi a hr Q hq b k cs => by
    have key : ∀ (m : Nat) (z : X) (a : Act) (σ' : Env) (ρ' : List Res) (κ' : Kr), μ z = m → Rel n a σ' → Inv β ρ' κ' → Kle κ κ' → J z σ' ρ' κ' →
        ∃ e a' w', Q e a' w' ∧ Arrives Tryz.prog (lone (b.at a (.code x :: .inLoop x :: k)) cs κ'.w) b k cs e a' w' := by
      intro m
      induction m using Nat.strongRecOn with
      | _ m ih =>
        intro z a σ' ρ' κ' hm hr' hi' hle hJ
        obtain ⟨e, a₁, w₁, hq₁, harr⟩ := round z σ' ρ' κ' hle hJ hi' a hr' (fun e a w => match e with | .normal => ∃ z' σ'' ρ'' κ'', w = κ''.w ∧ Rel n a σ'' ∧ Inv β ρ'' κ'' ∧ Kle κ κ'' ∧ J z' σ'' ρ'' κ'' ∧ μ z' < μ z | e => Q e a w)
          (fun e a'' σ'' ρ'' κ'' g1 g2 g3 g4 => by
            cases e with
            | normal => obtain ⟨z', hz, hlt⟩ := g4; exact ⟨z', σ'', ρ'', κ'', rfl, g1, g2, hle.trans g3, hz, hlt⟩
            | _ => exact hq _ a'' σ'' ρ'' κ'' g1 g2 (hle.trans g3) g4) b (.inLoop x :: k) cs
        cases e with
        | normal =>
          obtain ⟨z', σ'', ρ'', κ'', rfl, g1, g2, g3, g4, hlt⟩ := hq₁
          obtain ⟨e₂, a₂, w₂, hq₂, harr₂⟩ := ih (μ z') (hm ▸ hlt) z' a₁ σ'' ρ'' κ'' rfl g1 g2 g3 g4
          exact ⟨e₂, a₂, w₂, hq₂, .of_steps (Steps.trans harr (.one step_inLoop)) harr₂⟩
        | exit id => exact ⟨_, a₁, w₁, hq₁, .pass (x := .inLoop x) rfl (fun _ _ => .inl (by simp)) harr⟩
        | goto l => exact ⟨_, a₁, w₁, hq₁, .pass (x := .inLoop x) rfl (fun _ _ => .inl (by simp)) harr⟩
        | ret => exact ⟨_, a₁, w₁, hq₁, .pass (x := .inLoop x) rfl (fun _ _ => .inl (by simp)) harr⟩
        | panic ch => exact ⟨_, a₁, w₁, hq₁, .pass (x := .inLoop x) rfl (fun _ _ => .inl (by simp)) harr⟩
        | outgrown => exact ⟨_, a₁, w₁, hq₁, .pass (x := .inLoop x) rfl (fun _ _ => .inl (by simp)) harr⟩
    obtain ⟨e, a', w', hq', harr⟩ := key _ x0 a σ ρ κ rfl hr hi (.refl _) h0
    exact ⟨e, a', w', hq', .of_steps (.one step_loop) harr⟩
end
end SX
end Go.Proofs.YtfcecieppoljlaaGreatDoor
