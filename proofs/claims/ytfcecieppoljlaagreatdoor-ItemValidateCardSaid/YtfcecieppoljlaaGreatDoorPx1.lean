/- Our calculus over pure values, first text: values without addresses, what stands for them in memory, the judgements and the rules on code. No statement of the seat is proved here. -/
import Derived.Test.YtfcecieppoljlaaGreatDoorG0
set_option maxRecDepth 100000
namespace Go.Proofs.YtfcecieppoljlaaGreatDoor
namespace SX
open Go

def okb : Value → Bool
  | .string s => Nat.ble s.size 140737488355328
  | _ => true
/-- Values without addresses: what is shared is told by its content. -/
inductive PV where
  | any : PV
  | v (x : Value) : PV
  | agg (cs : List PV) : PV
  | slc (xs : List (List PV)) : PV
  | tup (vs : List PV) : PV
  | ref (cs : List PV) (off : Nat) : PV
  | fn (f : Nat) (caps : List PV) : PV
def One (ds : List Value) : Prop := ∀ u ∈ ds, u.oneCell' = true
def Ones (dss : List (List Value)) : Prop := ∀ ds ∈ dss, One ds
mutual
inductive Rp (κ : Kr) : PV → Value → Prop
  | any {x : Value} : Rp κ .any x
  | v {x : Value} (h : okb x = true) : Rp κ (.v x) x
  | agg {cs : List PV} {ds : List Value} (h1 : One ds) (h : Rps κ cs ds) : Rp κ (.agg cs) (.agg ds.toArray)
  | slc {xs : List (List PV)} {a : Option Addr} {n c sz : Nat} {css : List (List Value)} (h : Sl κ a n c sz css) (hb : n ≤ 140737488355328) (h1 : Ones css) (hs : Rpss κ xs css) : Rp κ (.slc xs) (.slice a n c)
  | tup {vs : List PV} {ws : List Value} (h : Rps κ vs ws) : Rp κ (.tup vs) (.tuple ws.toArray)
  | ref {cs : List PV} {ds : List Value} {b off k : Nat} (h : Sh κ b off ds) (h1 : One ds) (hs : Rps κ cs ds) : Rp κ (.ref cs k) (.pointer (some ⟨b, off + k, none⟩))
  | fn {f : Nat} {caps : List PV} {ds : List Value} (h : Rps κ caps ds) : Rp κ (.fn f caps) (.func (.func f) #[] ds.toArray)
inductive Rps (κ : Kr) : List PV → List Value → Prop
  | nil : Rps κ [] []
  | cons {p : PV} {v : Value} {ps : List PV} {vs : List Value} (h : Rp κ p v) (hs : Rps κ ps vs) : Rps κ (p :: ps) (v :: vs)
inductive Rpss (κ : Kr) : List (List PV) → List (List Value) → Prop
  | nil : Rpss κ [] []
  | cons {p : List PV} {v : List Value} {ps : List (List PV)} {vs : List (List Value)} (h : Rps κ p v) (hs : Rpss κ ps vs) : Rpss κ (p :: ps) (v :: vs)
end
mutual
theorem Rp.mono {κ κ' : Kr} (k : Kle κ κ') : ∀ {p : PV} {v : Value}, Rp κ p v → Rp κ' p v
  | _, _, .any => .any
  | _, _, .v h => .v h
  | _, _, .agg h1 h => .agg h1 (Rps.mono k h)
  | _, _, .slc h hb h1 hs => .slc (h.mono k) hb h1 (Rpss.mono k hs)
  | _, _, .tup h => .tup (Rps.mono k h)
  | _, _, .ref h h1 hs => .ref (h.mono k) h1 (Rps.mono k hs)
  | _, _, .fn h => .fn (Rps.mono k h)
theorem Rps.mono {κ κ' : Kr} (k : Kle κ κ') : ∀ {p : List PV} {v : List Value}, Rps κ p v → Rps κ' p v
  | _, _, .nil => .nil
  | _, _, .cons h hs => .cons (Rp.mono k h) (Rps.mono k hs)
theorem Rpss.mono {κ κ' : Kr} (k : Kle κ κ') : ∀ {p : List (List PV)} {v : List (List Value)}, Rpss κ p v → Rpss κ' p v
  | _, _, .nil => .nil
  | _, _, .cons h hs => .cons (Rps.mono k h) (Rpss.mono k hs)
end
section
variable {κ : Kr}
theorem Rp.val {x v : Value} (h : Rp κ (.v x) v) : v = x := by cases h; rfl
theorem Rp.ok {x v : Value} (h : Rp κ (.v x) v) : okb x = true := by cases h; assumption
theorem Rps.len : ∀ {ps : List PV} {vs : List Value}, Rps κ ps vs → ps.length = vs.length
  | _, _, .nil => rfl
  | _, _, .cons _ hs => by simp [hs.len]
theorem Rpss.len : ∀ {ps : List (List PV)} {vs : List (List Value)}, Rpss κ ps vs → ps.length = vs.length
  | _, _, .nil => rfl
  | _, _, .cons _ hs => by simp [hs.len]
theorem Rps.get : ∀ {ps : List PV} {vs : List Value} {k : Nat} {p : PV}, Rps κ ps vs → ps[k]? = some p → ∃ v, vs[k]? = some v ∧ Rp κ p v
  | _, _, 0, _, .cons h _, e => by simp only [List.getElem?_cons_zero, Option.some.injEq] at e; subst e; exact ⟨_, rfl, h⟩
  | _, _, _ + 1, _, .cons _ hs, e => by simp only [List.getElem?_cons_succ] at e ⊢; exact hs.get e
theorem Rpss.get : ∀ {ps : List (List PV)} {vs : List (List Value)} {k : Nat} {p : List PV}, Rpss κ ps vs → ps[k]? = some p → ∃ v, vs[k]? = some v ∧ Rps κ p v
  | _, _, 0, _, .cons h _, e => by simp only [List.getElem?_cons_zero, Option.some.injEq] at e; subst e; exact ⟨_, rfl, h⟩
  | _, _, _ + 1, _, .cons _ hs, e => by simp only [List.getElem?_cons_succ] at e ⊢; exact hs.get e
theorem Rps.app : ∀ {ps qs : List PV} {vs ws : List Value}, Rps κ ps vs → Rps κ qs ws → Rps κ (ps ++ qs) (vs ++ ws)
  | _, _, _, _, .nil, h => h
  | _, _, _, _, .cons h hs, g => .cons h (hs.app g)
theorem Rpss.app : ∀ {ps qs : List (List PV)} {vs ws : List (List Value)}, Rpss κ ps vs → Rpss κ qs ws → Rpss κ (ps ++ qs) (vs ++ ws)
  | _, _, _, _, .nil, h => h
  | _, _, _, _, .cons h hs, g => .cons h (hs.app g)
theorem Rps.drop : ∀ {ps : List PV} {vs : List Value} (k : Nat), Rps κ ps vs → Rps κ (ps.drop k) (vs.drop k)
  | _, _, 0, h => h
  | _, _, _ + 1, .nil => .nil
  | _, _, k + 1, .cons _ hs => hs.drop k
theorem Rps.take : ∀ {ps : List PV} {vs : List Value} (k : Nat), Rps κ ps vs → Rps κ (ps.take k) (vs.take k)
  | _, _, 0, _ => .nil
  | _, _, _ + 1, .nil => .nil
  | _, _, k + 1, .cons h hs => .cons h (hs.take k)
theorem Rpss.drop : ∀ {ps : List (List PV)} {vs : List (List Value)} (k : Nat), Rpss κ ps vs → Rpss κ (ps.drop k) (vs.drop k)
  | _, _, 0, h => h
  | _, _, _ + 1, .nil => .nil
  | _, _, k + 1, .cons _ hs => hs.drop k
theorem Rpss.take : ∀ {ps : List (List PV)} {vs : List (List Value)} (k : Nat), Rpss κ ps vs → Rpss κ (ps.take k) (vs.take k)
  | _, _, 0, _ => .nil
  | _, _, _ + 1, .nil => .nil
  | _, _, k + 1, .cons h hs => .cons h (hs.take k)
theorem Rps.set : ∀ {ps : List PV} {vs : List Value} {k : Nat} {p : PV} {v : Value}, Rps κ ps vs → Rp κ p v → Rps κ (ps.set k p) (vs.set k v)
  | _, _, _, _, _, .nil, _ => .nil
  | _, _, 0, _, _, .cons _ hs, g => .cons g hs
  | _, _, _ + 1, _, _, .cons h hs, g => .cons h (hs.set g)
theorem Rpss.set : ∀ {ps : List (List PV)} {vs : List (List Value)} {k : Nat} {p : List PV} {v : List Value}, Rpss κ ps vs → Rps κ p v → Rpss κ (ps.set k p) (vs.set k v)
  | _, _, _, _, _, .nil, _ => .nil
  | _, _, 0, _, _, .cons _ hs, g => .cons g hs
  | _, _, _ + 1, _, _, .cons h hs, g => .cons h (hs.set g)
theorem Rpss.flat : ∀ {ps : List (List PV)} {vs : List (List Value)}, Rpss κ ps vs → Rps κ ps.flatten vs.flatten
  | _, _, .nil => .nil
  | _, _, .cons h hs => by simp only [List.flatten_cons]; exact h.app hs.flat
theorem Rps.nil_inv {vs : List Value} (h : Rps κ [] vs) : vs = [] := by cases h; rfl
theorem Rpss.nil_inv {vs : List (List Value)} (h : Rpss κ [] vs) : vs = [] := by cases h; rfl
theorem Rps.cons_inv {p : PV} {ps : List PV} {vs : List Value} (h : Rps κ (p :: ps) vs) : ∃ v ws, vs = v :: ws ∧ Rp κ p v ∧ Rps κ ps ws := by cases h; exact ⟨_, _, rfl, by assumption, by assumption⟩
theorem Rpss.cons_inv {p : List PV} {ps : List (List PV)} {vs : List (List Value)} (h : Rpss κ (p :: ps) vs) : ∃ v ws, vs = v :: ws ∧ Rps κ p v ∧ Rpss κ ps ws := by cases h; exact ⟨_, _, rfl, by assumption, by assumption⟩
end
def oc : PV → Bool
  | .v x => x.oneCell'
  | .slc _ | .ref _ _ | .fn _ _ => true
  | _ => false
theorem Rp.one {κ : Kr} {p : PV} {v : Value} (h : Rp κ p v) (ho : oc p = true) : v.oneCell' = true := by
  cases h with
  | v _ => exact ho
  | slc => rfl
  | ref => rfl
  | fn => rfl
  | _ => cases ho
theorem Rps.one {κ : Kr} : ∀ {ps : List PV} {vs : List Value}, Rps κ ps vs → ps.all oc = true → One vs
  | _, _, .nil, _ => fun _ h => by cases h
  | _, _, .cons h hs, ho => by
    simp only [List.all_cons, Bool.and_eq_true] at ho
    intro u hu
    rcases List.mem_cons.1 hu with rfl | hu
    · exact h.one ho.1
    · exact hs.one ho.2 u hu
/-- The cells of a value. -/
def cellsP : PV → Option (List PV)
  | .agg cs => some cs
  | .v x => cond (x.oneCell') (some [.v x]) none
  | .slc xs => some [.slc xs]
  | .ref cs k => some [.ref cs k]
  | .fn f cs => some [.fn f cs]
  | _ => none
theorem Rp.cells {κ : Kr} {p : PV} {v : Value} {cs : List PV} (h : Rp κ p v) (hc : cellsP p = some cs) : ∃ ds, cellsL v = ds ∧ Rps κ cs ds ∧ One ds := by
  cases h with
  | any => cases hc
  | v hx =>
    simp only [cellsP] at hc
    cases ho : v.oneCell' with
    | false => rw [ho] at hc; cases hc
    | true =>
      rw [ho] at hc; simp only [cond_true, Option.some.injEq] at hc; subst hc
      refine ⟨[v], ?_, .cons (.v hx) .nil, ?_⟩
      · cases v <;> first | rfl | cases ho
      · intro u hu; rw [List.mem_singleton.1 hu]; exact ho
  | agg h1 h => simp only [cellsP, Option.some.injEq] at hc; subst hc; exact ⟨_, rfl, h, h1⟩
  | slc h hb h1 hs => simp only [cellsP, Option.some.injEq] at hc; subst hc; exact ⟨_, rfl, .cons (.slc h hb h1 hs) .nil, fun u hu => by have e := List.mem_singleton.1 hu; rw [e]; rfl⟩
  | tup => cases hc
  | ref h h1 hs => simp only [cellsP, Option.some.injEq] at hc; subst hc; exact ⟨_, rfl, .cons (.ref h h1 hs) .nil, fun u hu => by have e := List.mem_singleton.1 hu; rw [e]; rfl⟩
  | fn h => simp only [cellsP, Option.some.injEq] at hc; subst hc; exact ⟨_, rfl, .cons (.fn h) .nil, fun u hu => by have e := List.mem_singleton.1 hu; rw [e]; rfl⟩
/-- What a load of type t reads. -/
def preadAs (t : Nat) (cs : List PV) : Option PV :=
  match und t, inf t with
  | some d, some (_, sz, _) => cond (isAggD d) (cond (Nat.ble sz cs.length) (some (.agg (cs.take sz))) none) cs[0]?
  | _, _ => none
theorem pread {κ : Kr} {t : Nat} {cs : List PV} {ds : List Value} {pv : PV} (h : Rps κ cs ds) (h1 : One ds) (hr : preadAs t cs = some pv) : ∃ v, readAs t ds 0 = some v ∧ Rp κ pv v := by
  unfold preadAs at hr; unfold readAs
  split at hr
  · rename_i d z sz b hd hi
    rw [hd, hi]
    simp only
    cases hag : isAggD d
    · rw [hag] at hr; simp only [cond_false] at hr ⊢
      obtain ⟨v, hv, hp⟩ := h.get hr
      exact ⟨v, hv, hp⟩
    · rw [hag] at hr; simp only [cond_true] at hr ⊢
      cases hle : Nat.ble sz cs.length
      · rw [hle] at hr; cases hr
      · rw [hle] at hr; simp only [cond_true, Option.some.injEq] at hr; subst hr
        have hl := h.len
        rw [Nat.zero_add, ← hl, hle]
        simp only [cond_true, List.drop_zero]
        exact ⟨_, rfl, .agg (fun u hu => h1 u (List.mem_of_mem_take hu)) (h.take sz)⟩
  · cases hr

/-! ### Slots -/
abbrev PEnv := Nat → PV
def pupd (σ : PEnv) (d : Nat) (v : PV) : PEnv := fun t => cond (Nat.beq t d) v (σ t)
def pupds (σ : PEnv) : List (Nat × PV) → PEnv
  | [] => σ
  | (d, v) :: l => pupd (pupds σ l) d v
def pc (x : Value) : PV := match x with
  | .agg cs => .agg (cs.toList.map fun x => cond (okb x) (.v x) .any)
  | x => cond (okb x) (.v x) .any
def pev (σ : PEnv) : Operand → PV
  | .tmp t => σ t
  | .const x => pc x
  | .global g => .v (.pointer (some ⟨g, 0, none⟩))
  | .func f => .fn f []
def penv0 (args : List PV) : PEnv := fun t => args.getD t .any
def Sim (κ : Kr) (σp : PEnv) (σ : Env) : Prop := ∀ t, Rp κ (σp t) (σ t)
section
variable {κ κ' : Kr} {σp : PEnv} {σ : Env}
theorem Sim.mono (h : Sim κ σp σ) (k : Kle κ κ') : Sim κ' σp σ := fun t => (h t).mono k
theorem Sim.upd {d : Nat} {p : PV} {v : Value} (h : Sim κ σp σ) (hp : Rp κ p v) : Sim κ (pupd σp d p) (upd σ d v) := fun t => by
  unfold pupd SX.upd; cases Nat.beq t d
  · exact h t
  · exact hp
theorem pupd_self {d : Nat} {v : PV} (h : σp d = v) : pupd σp d v = σp := by
  funext t; unfold pupd; cases e : Nat.beq t d
  · rfl
  · rw [Nat.eq_of_beq_eq_true e, h]; rfl
theorem rp_cond {x : Value} : Rp κ (cond (okb x) (.v x) .any) x := by cases e : okb x; exact .any; exact .v e
theorem rps_const : ∀ (l : List Value), Rps κ (l.map fun x => cond (okb x) (.v x) .any) l
  | [] => .nil
  | _ :: l => .cons rp_cond (rps_const l)
theorem rp_any (p : PV) (x : Value) (h : p = .any) : Rp κ p x := by subst h; exact .any
end
/-- Constants of one cell in a struct. -/
def constOk : Value → Bool
  | .agg cs => cs.toList.all Value.oneCell'
  | _ => true
def pc' (x : Value) : PV := cond (constOk x) (pc x) .any
theorem rp_pc {κ : Kr} (x : Value) : Rp κ (pc' x) x := by
  unfold pc'
  cases e : constOk x
  · exact .any
  · simp only [cond_true]
    unfold pc
    split
    · rename_i cs
      have h := rps_const (κ := κ) cs.toList
      have : (Value.agg cs) = .agg cs.toList.toArray := by simp
      rw [this]
      refine .agg (fun u hu => ?_) (by simpa using h)
      simp only [constOk] at e
      exact List.all_eq_true.1 e u (by simpa using hu)
    · exact rp_cond
def pevc (σ : PEnv) : Operand → PV
  | .tmp t => σ t
  | .const x => pc' x
  | .global g => .v (.pointer (some ⟨g, 0, none⟩))
  | .func f => .fn f []
theorem Sim.ev {κ : Kr} {σp : PEnv} {σ : Env} (h : Sim κ σp σ) (x : Operand) : Rp κ (pevc σp x) (ev σ x) := by
  cases x with
  | tmp t => exact h t
  | const x => exact rp_pc x
  | global g => exact .v rfl
  | func f => exact .fn (ds := []) .nil
theorem rps_args {κ : Kr} {σp : PEnv} {σ : Env} (h : Sim κ σp σ) : ∀ (l : List Operand), Rps κ (l.map (pevc σp)) (l.map (SX.ev σ))
  | [] => .nil
  | x :: l => .cons (h.ev x) (rps_args h l)
theorem sim0 {κ : Kr} {pargs : List PV} {args : List Value} (h : Rps κ pargs args) : Sim κ (penv0 pargs) (env0 args.toArray) := fun t => by
  unfold penv0 env0
  simp only [List.getD_eq_getElem?_getD]
  cases e : pargs[t]? with
  | none => exact .any
  | some p =>
    obtain ⟨v, hv, hp⟩ := h.get e
    simp only [hv, Option.getD_some]; exact hp

/-! ### Own blocks -/
inductive PRes where
  | b (b T : Nat) (cs : List PV) : PRes
  | row (a : Option Addr) (n c T sz : Nat) (css : List (List PV)) : PRes
  | frz (a : Option Addr) (n c : Nat) (css : List (List PV)) : PRes
  | frb (b : Nat) (cs : List PV) : PRes
  | raw (r : Res) : PRes
def noRes : Res := ⟨none, fun _ => True⟩
inductive RRel (κ : Kr) : PRes → Res → Prop
  | b {b T : Nat} {cs : List PV} {ds : List Value} (h1 : One ds) (h : Rps κ cs ds) : RRel κ (.b b T cs) (Res.b b T ds)
  | row {a : Option Addr} {n c T sz : Nat} {css : List (List PV)} {dss : List (List Value)} (hb : n ≤ 140737488355328) (h1 : Ones dss) (h : Rpss κ css dss) : RRel κ (.row a n c T sz css) (Res.row a n c T sz dss)
  | frz {a : Option Addr} {n c sz : Nat} {css : List (List PV)} {dss : List (List Value)} (hs : Sl κ a n c sz dss) (hb : n ≤ 140737488355328) (h1 : Ones dss) (h : Rpss κ css dss) : RRel κ (.frz a n c css) noRes
  | frb {b : Nat} {cs : List PV} {ds : List Value} (hs : Sh κ b 0 ds) (h1 : One ds) (h : Rps κ cs ds) : RRel κ (.frb b cs) noRes
  | raw {r : Res} : RRel κ (.raw r) r
inductive RRels (κ : Kr) : List PRes → List Res → Prop
  | nil : RRels κ [] []
  | cons {p : PRes} {r : Res} {ps : List PRes} {rs : List Res} (h : RRel κ p r) (hs : RRels κ ps rs) : RRels κ (p :: ps) (r :: rs)
section
variable {κ κ' : Kr}
theorem RRel.mono {p : PRes} {r : Res} (h : RRel κ p r) (k : Kle κ κ') : RRel κ' p r := by
  cases h with
  | b h1 h => exact .b h1 (h.mono k)
  | row hb h1 h => exact .row hb h1 (h.mono k)
  | frz hs hb h1 h => exact .frz (hs.mono k) hb h1 (h.mono k)
  | frb hs h1 h => exact .frb (hs.mono k) h1 (h.mono k)
  | raw => exact .raw
theorem RRels.mono (k : Kle κ κ') : ∀ {ps : List PRes} {rs : List Res}, RRels κ ps rs → RRels κ' ps rs
  | _, _, .nil => .nil
  | _, _, .cons h hs => .cons (h.mono k) (hs.mono k)
theorem RRels.app : ∀ {ps qs : List PRes} {vs ws : List Res}, RRels κ ps vs → RRels κ qs ws → RRels κ (ps ++ qs) (vs ++ ws)
  | _, _, _, _, .nil, h => h
  | _, _, _, _, .cons h hs, g => .cons h (hs.app g)
theorem RRels.split : ∀ {ps qs : List PRes} {rs : List Res}, RRels κ (ps ++ qs) rs → ∃ r1 r2, rs = r1 ++ r2 ∧ RRels κ ps r1 ∧ RRels κ qs r2
  | [], _, rs, h => ⟨[], rs, rfl, .nil, h⟩
  | _ :: ps, _, _, .cons h hs => by
    obtain ⟨r1, r2, rfl, h1, h2⟩ := RRels.split (ps := ps) hs
    exact ⟨_ :: r1, r2, rfl, .cons h h1, h2⟩
theorem RRels.perm {ps qs : List PRes} (hp : ps.Perm qs) : ∀ {rs : List Res}, RRels κ ps rs → ∃ rs', rs.Perm rs' ∧ RRels κ qs rs' := by
  induction hp with
  | nil => exact fun h => ⟨_, List.Perm.refl _, h⟩
  | cons x _ ih =>
    intro rs h; cases h with
    | cons h hs => obtain ⟨rs', h1, h2⟩ := ih hs; exact ⟨_ :: rs', List.Perm.cons _ h1, .cons h h2⟩
  | swap x y l =>
    intro rs h; cases h with
    | cons h hs => cases hs with
      | cons h' hs => exact ⟨_, List.Perm.swap _ _ _, .cons h' (.cons h hs)⟩
  | trans _ _ ih1 ih2 =>
    intro rs h
    obtain ⟨r1, h1, h2⟩ := ih1 h
    obtain ⟨r2, h3, h4⟩ := ih2 h2
    exact ⟨r2, h1.trans h3, h4⟩
theorem RRels.mem : ∀ {ps : List PRes} {rs : List Res} {p : PRes}, RRels κ ps rs → p ∈ ps → ∃ r ∈ rs, RRel κ p r
  | _, _, _, .cons h hs, hm => by
    rcases List.mem_cons.1 hm with rfl | hm
    · exact ⟨_, by simp, h⟩
    · obtain ⟨r, h1, h2⟩ := hs.mem hm; exact ⟨r, by simp [h1], h2⟩
theorem RRels.nil_inv {rs : List Res} (h : RRels κ [] rs) : rs = [] := by cases h; rfl
theorem RRels.cons_inv {p : PRes} {ps : List PRes} {rs : List Res} (h : RRels κ (p :: ps) rs) : ∃ r rs', rs = r :: rs' ∧ RRel κ p r ∧ RRels κ ps rs' := by cases h; exact ⟨_, _, rfl, by assumption, by assumption⟩
end
def PPick (ρ : List PRes) (r : PRes) (l : List PRes) : Prop := ρ.Perm (r :: l)
theorem PPick.h {r : PRes} {l : List PRes} : PPick (r :: l) r l := List.Perm.refl _
theorem PPick.t {r s : PRes} {l l' : List PRes} (h : PPick l r l') : PPick (s :: l) r (s :: l') := (List.Perm.cons s h).trans (List.Perm.swap r s l')
def PSub (ρ' ρ : List PRes) : Prop := ∃ l, ρ.Perm (ρ' ++ l)
theorem PSub.nil {ρ : List PRes} : PSub [] ρ := ⟨ρ, List.Perm.refl _⟩
theorem PSub.refl {ρ : List PRes} : PSub ρ ρ := ⟨[], by simp⟩
theorem PSub.cons {r : PRes} {ρ ρ' l : List PRes} (h : PPick ρ r l) (h' : PSub ρ' l) : PSub (r :: ρ') ρ := by
  obtain ⟨m, hm⟩ := h'
  exact ⟨m, h.trans (List.Perm.cons r hm)⟩
theorem RRels.pick {κ : Kr} {ps l : List PRes} {p : PRes} {rs : List Res} (h : RRels κ ps rs) (hp : PPick ps p l) : ∃ r l', Pick rs r l' ∧ RRel κ p r ∧ RRels κ l l' := by
  obtain ⟨rs', h1, h2⟩ := h.perm hp
  obtain ⟨r, l', rfl, h3, h4⟩ := h2.cons_inv
  exact ⟨r, l', h1, h3, h4⟩
theorem RRels.sub {κ : Kr} {ps ps' : List PRes} {rs : List Res} (h : RRels κ ps rs) (hp : PSub ps' ps) : ∃ rs', Sub rs' rs ∧ RRels κ ps' rs' := by
  obtain ⟨l, hl⟩ := hp
  obtain ⟨rs', h1, h2⟩ := h.perm hl
  obtain ⟨r1, r2, rfl, h3, h4⟩ := h2.split
  exact ⟨r1, ⟨r2, h1⟩, h3⟩
theorem PSub.trans {a b c : List PRes} (h : PSub a b) (k : PSub b c) : PSub a c := by
  obtain ⟨l, hl⟩ := h; obtain ⟨m, hm⟩ := k
  exact ⟨l ++ m, hm.trans (by rw [← List.append_assoc]; exact List.Perm.append_right m hl)⟩
def PUpd (ρ : List PRes) (r r' : PRes) (ρ' : List PRes) : Prop := ∃ l1 l2, ρ = l1 ++ r :: l2 ∧ ρ' = l1 ++ r' :: l2
theorem PUpd.h {r r' : PRes} {l : List PRes} : PUpd (r :: l) r r' (r' :: l) := ⟨[], l, rfl, rfl⟩
theorem PUpd.t {r r' s : PRes} {l l' : List PRes} (h : PUpd l r r' l') : PUpd (s :: l) r r' (s :: l') := by
  obtain ⟨l1, l2, h1, h2⟩ := h
  exact ⟨s :: l1, l2, by rw [h1]; rfl, by rw [h2]; rfl⟩
theorem RRels.upd {κ : Kr} {ps ps' : List PRes} {p p' : PRes} {rs : List Res} (h : RRels κ ps rs) (hu : PUpd ps p p' ps') : ∃ r l1 l2, rs = l1 ++ r :: l2 ∧ RRel κ p r ∧ ∀ κ' r', Kle κ κ' → RRel κ' p' r' → RRels κ' ps' (l1 ++ r' :: l2) := by
  obtain ⟨m1, m2, rfl, rfl⟩ := hu
  obtain ⟨r1, r2, rfl, h1, h2⟩ := h.split
  obtain ⟨r, r3, rfl, h3, h4⟩ := h2.cons_inv
  exact ⟨r, r1, r3, rfl, h3, fun κ' r' k hr => (h1.mono k).app (.cons hr (h4.mono k))⟩

/-! ### The judgements -/
abbrev PPost := PEnv → List PRes → Prop
def lft (K : PPost) : Post := fun σ ρ κ => ∃ σp ρp, Sim κ σp σ ∧ RRels κ ρp ρ ∧ K σp ρp
def PWL (n : Nat) (ops : Array Oper) (l : List Oper) (K : PPost) (σp : PEnv) (ρp : List PRes) : Prop :=
  ∀ β κ σ ρ, GOK κ → Sim κ σp σ → RRels κ ρp ρ → WL β n ops l (lft K) σ ρ κ
def PWC (n : Nat) (c : Code) (K : Exit → PPost) (σp : PEnv) (ρp : List PRes) : Prop :=
  ∀ β κ σ ρ, GOK κ → Sim κ σp σ → RRels κ ρp ρ → WC β n c (fun e => lft (K e)) σ ρ κ
def PWD (n : Nat) (ops : Array Oper) (K : PPost) (lo : List (Nat × Oper)) (σp : PEnv) (ρd ρs : List PRes) : Prop :=
  ∀ β κ σ rd rs, GOK κ → Sim κ σp σ → RRels κ ρd rd → RRels κ ρs rs → WD β n ops (lft K) lo σ rd rs κ
def POpL (o : Oper) (σp : PEnv) (ρp : List PRes) (K : PV → List PRes → Prop) : Prop :=
  ∀ κ σ ρ, GOK κ → Sim κ σp σ → RRels κ ρp ρ → OpL o σ ρ κ fun v ρ' κ' => ∃ pv ρp', Rp κ' pv v ∧ RRels κ' ρp' ρ' ∧ K pv ρp'
def POpQ (c : Bool) (o : Oper) (σp : PEnv) (ρp : List PRes) (pv : PV) : Prop :=
  ∀ κ σ ρ, GOK κ → Sim κ σp σ → RRels κ ρp ρ → ∃ v, (c = true → Rp κ pv v) ∧ OpQ c o σ ρ κ v
@[irreducible] def pgv (c : Bool) (p : PV) : PV := cond c p (.v undef)
theorem pgv_true (p : PV) : pgv true p = p := by unfold pgv; rfl
theorem pgv_false (p : PV) : pgv false p = .v undef := by unfold pgv; rfl
theorem rp_gv {κ : Kr} {c : Bool} {p : PV} {v : Value} (h : c = true → Rp κ p v) : Rp κ (pgv c p) (gv c v) := by
  cases c
  · rw [pgv_false, gv_false]; exact .v rfl
  · rw [pgv_true, gv_true]; exact h rfl
def PGuardIs (ops : Array Oper) (σp : PEnv) (o : Oper) (c : Bool) : Prop := ∀ κ σ, Sim κ σp σ → GuardIs ops σ o c
section
variable {ops : Array Oper} {σ : PEnv} {o : Oper} {j d : Nat} {p c : Bool}
theorem pguard_t (h : o.guard = some (j, true)) (hd : (ops[j]?).bind (·.dst) = some d) (hs : σ d = .v (.bool p)) : PGuardIs ops σ o p := fun κ σ' hm => guard_t h hd (by have := hm d; rw [hs] at this; exact this.val)
theorem pguard_f (h : o.guard = some (j, false)) (hd : (ops[j]?).bind (·.dst) = some d) (hs : σ d = .v (.bool p)) : PGuardIs ops σ o (!p) := fun κ σ' hm => guard_f h hd (by have := hm d; rw [hs] at this; exact this.val)
theorem gv_val {κ : Kr} {x w : Value} (h : Rp κ (pgv c (.v x)) w) : w = gv c x := by
  cases c
  · rw [pgv_false] at h; rw [gv_false]; exact h.val
  · rw [pgv_true] at h; rw [gv_true]; exact h.val
theorem pguard_gt (h : o.guard = some (j, true)) (hd : (ops[j]?).bind (·.dst) = some d) (hs : σ d = pgv c (.v (.bool p))) : PGuardIs ops σ o (c && p) := fun κ σ' hm => guard_gt h hd (by have := hm d; rw [hs] at this; exact gv_val this)
theorem pguard_gf (h : o.guard = some (j, false)) (hd : (ops[j]?).bind (·.dst) = some d) (hs : σ d = pgv c (.v (.bool p))) : PGuardIs ops σ o (c && !p) := fun κ σ' hm => guard_gf h hd (by have := hm d; rw [hs] at this; exact gv_val this)
end
/-- Under the condition c operand x is p. -/
def PEv (σ : PEnv) (c : Bool) (x : Operand) (p : PV) : Prop := c = true → pevc σ x = p
theorem PEv.p {σ : PEnv} {c : Bool} {x : Operand} {v : PV} (h : pevc σ x = v) : PEv σ c x v := fun _ => h
theorem PEv.g {σ : PEnv} {c : Bool} {x : Operand} {v : PV} (h : pevc σ x = pgv c v) : PEv σ c x v := fun hc => by rw [h, hc, pgv_true]
theorem PEv.gg {σ : PEnv} {c c' : Bool} {x : Operand} {v : PV} (h : pevc σ x = pgv c v) : PEv σ (c && c') x v := fun hc => by
  have : c = true := by cases c <;> simp_all
  rw [h, this, pgv_true]
theorem Sim.pe {κ : Kr} {σp : PEnv} {σ : Env} {c : Bool} {x : Operand} {p : PV} (h : Sim κ σp σ) (hx : PEv σp c x p) : c = true → Rp κ p (SX.ev σ x) := fun hc => by have := h.ev x; rwa [hx hc] at this
theorem Sim.ve {κ : Kr} {σp : PEnv} {σ : Env} {c : Bool} {x : Operand} {y : Value} (h : Sim κ σp σ) (hx : PEv σp c x (.v y)) : Ev σ c x y := fun hc => (h.pe hx hc).val
theorem Sim.v1 {κ : Kr} {σp : PEnv} {σ : Env} {x : Operand} {y : Value} (h : Sim κ σp σ) (hx : pevc σp x = .v y) : SX.ev σ x = y := by have := h.ev x; rw [hx] at this; exact this.val
theorem OpL.mono {o : Oper} {σ : Env} {ρ : List Res} {κ : Kr} {K K' : Value → List Res → Kr → Prop} (h : OpL o σ ρ κ K) (hk : ∀ v ρ' κ', Kle κ κ' → K v ρ' κ' → K' v ρ' κ') : OpL o σ ρ κ K' :=
  fun β hi Nx hn => h β hi Nx fun v ρ' κ' h1 h2 h3 => hn v ρ' κ' h1 h2 (hk v ρ' κ' h2 h3)

section
variable {n : Nat} {ops : Array Oper} {o : Oper} {rest : List Oper} {K : PPost} {σ : PEnv} {ρ : List PRes} {d : Nat} {p : PV} {c : Bool}
theorem pwl_nil (h : K σ ρ) : PWL n ops [] K σ ρ := fun _ _ _ _ _ hs hr => wl_nil ⟨σ, ρ, hs, hr, h⟩
theorem pwl_q (hg : o.guard = none) (hd : o.dst = some d) (hlt : Nat.blt d n = true) (h : POpQ true o σ ρ p) (hw : PWL n ops rest K (pupd σ d p) ρ) : PWL n ops (o :: rest) K σ ρ := fun β κ σ' ρ' g hs hr => by
  obtain ⟨v, h1, h2⟩ := h κ σ' ρ' g hs hr
  exact wl_q hg hd hlt h2 (hw β κ _ _ g (hs.upd (h1 rfl)) hr)
theorem pwl_qg (hg : PGuardIs ops σ o c) (hd : o.dst = some d) (hlt : Nat.blt d n = true) (h : POpQ c o σ ρ p) (hw : PWL n ops rest K (pupd σ d (pgv c p)) ρ) : PWL n ops (o :: rest) K σ ρ := fun β κ σ' ρ' g hs hr => by
  obtain ⟨v, h1, h2⟩ := h κ σ' ρ' g hs hr
  exact wl_qg (hg κ σ' hs) hd hlt h2 (hw β κ _ _ g (hs.upd (rp_gv h1)) hr)
theorem pwl_l (hg : o.guard = none) (hd : o.dst = some d) (hlt : Nat.blt d n = true) (h : POpL o σ ρ fun p ρ' => PWL n ops rest K (pupd σ d p) ρ') : PWL n ops (o :: rest) K σ ρ := fun β κ σ' ρ' g hs hr =>
  wl_l hg hd hlt ((h κ σ' ρ' g hs hr).mono fun v ρ1 κ1 hk ⟨pv, ρp, h1, h2, h3⟩ => h3 β κ1 _ _ (g.mono hk) ((hs.mono hk).upd h1) h2)
theorem pwl_l0 (hg : o.guard = none) (hd : o.dst = none) (h : POpL o σ ρ fun _ ρ' => PWL n ops rest K σ ρ') : PWL n ops (o :: rest) K σ ρ := fun β κ σ' ρ' g hs hr =>
  wl_l0 hg hd ((h κ σ' ρ' g hs hr).mono fun v ρ1 κ1 hk ⟨pv, ρp, h1, h2, h3⟩ => h3 β κ1 _ _ (g.mono hk) (hs.mono hk) h2)
end

/-! ### Calls -/
def PCall (f : Nat) (pargs : List PV) (ρp : List PRes) (R : PV → List PRes → Prop) : Prop :=
  ∀ κ args ρ, GOK κ → Rps κ pargs args → RRels κ ρp ρ → Call f args ρ κ fun v ρ' κ' => ∃ pv ρp', Rp κ' pv v ∧ RRels κ' ρp' ρ' ∧ R pv ρp'
/-- The contract of a function that computes r. -/
def PF (f : Nat) (pargs : List PV) (r : PV) : Prop := ∀ κ args, GOK κ → Rps κ pargs args → CallP f args κ fun v κ' => Rp κ' r v
theorem pf_of {f : Nat} {pargs : List PV} {r : PV} (h : PCall f pargs [] fun pv ρ => pv = r ∧ ρ = []) : PF f pargs r := fun κ args g ha =>
  Call.mono (h κ args [] g ha .nil) fun v ρ' κ' _ ⟨pv, ρp', h1, h2, h3, h4⟩ => by subst h3; subst h4; exact ⟨h2.nil_inv, h1⟩
theorem pcall_of {f : Nat} {pargs : List PV} {r : PV} (h : PF f pargs r) : PCall f pargs [] fun pv ρ => pv = r ∧ ρ = [] := fun κ args ρ g ha hr => by
  rw [hr.nil_inv]
  exact Call.mono (h κ args g ha) fun v ρ' κ' _ ⟨h1, h2⟩ => ⟨r, [], h2, by rw [h1]; exact .nil, rfl, rfl⟩
/-- The contract of a function value. -/
def PFV (pf : PV) (pargs : List PV) (r : PV) : Prop := ∀ κ fv args, GOK κ → Rp κ pf fv → Rps κ pargs args → ∃ f first cap, fv = .func (.func f) (List.toArray first) (List.toArray cap) ∧ CallP f (first ++ args ++ cap) κ fun v κ' => Rp κ' r v
theorem pfv_of {f : Nat} {caps pargs : List PV} {r : PV} (h : PF f (pargs ++ caps) r) : PFV (.fn f caps) pargs r := fun κ fv args g hf ha => by
  cases hf with
  | fn hc => exact ⟨f, [], _, rfl, h κ _ g (ha.app hc)⟩
section
variable {n : Nat} {ops : Array Oper} {o : Oper} {rest : List Oper} {K : PPost} {σ : PEnv} {ρ : List PRes} {d f : Nat} {c : Bool} {l : List Operand} {ts : Array Nat} {pargs : List PV} {r : PV} {x : Operand} {KV : PV → List PRes → Prop}
theorem pl_call (ho : o.op = .call { callee := .value (.func f), args := l.toArray, argTypes := ts }) (ha : l.map (pevc σ) = pargs) (hc : PF f pargs r) (h : KV r ρ) : POpL o σ ρ KV := fun κ σ' ρ' g hs hr =>
  ol_callP ho rfl (hc κ _ g (by rw [← ha]; exact rps_args hs l)) fun v κ' hk hv => ⟨r, ρ, hv, hr.mono hk, h⟩
theorem pl_callv (ho : o.op = .call { callee := .value x, args := l.toArray, argTypes := ts }) (ha : l.map (pevc σ) = pargs) (hc : PFV (pevc σ x) pargs r) (h : KV r ρ) : POpL o σ ρ KV := fun κ σ' ρ' g hs hr => by
  obtain ⟨f, first, cap, h1, h2⟩ := hc κ _ _ g (hs.ev x) (by rw [← ha]; exact rps_args hs l)
  exact ol_callvP ho h1 rfl h2 fun v κ' hk hv => ⟨r, ρ, hv, hr.mono hk, h⟩
theorem pwl_call (hg : o.guard = none) (hd : o.dst = some d) (hlt : Nat.blt d n = true) (ho : o.op = .call { callee := .value (.func f), args := l.toArray, argTypes := ts }) (ha : l.map (pevc σ) = pargs) (hc : PF f pargs r) (h : PWL n ops rest K (pupd σ d r) ρ) : PWL n ops (o :: rest) K σ ρ :=
  pwl_l hg hd hlt (pl_call ho ha hc h)
theorem pwl_callv (hg : o.guard = none) (hd : o.dst = some d) (hlt : Nat.blt d n = true) (ho : o.op = .call { callee := .value x, args := l.toArray, argTypes := ts }) (ha : l.map (pevc σ) = pargs) (hc : PFV (pevc σ x) pargs r) (h : PWL n ops rest K (pupd σ d r) ρ) : PWL n ops (o :: rest) K σ ρ :=
  pwl_l hg hd hlt (pl_callv ho ha hc h)
theorem pwl_callg (hg : PGuardIs ops σ o c) (hd : o.dst = some d) (hlt : Nat.blt d n = true) (ho : o.op = .call { callee := .value (.func f), args := l.toArray, argTypes := ts }) (ha : c = true → l.map (pevc σ) = pargs) (hc : c = true → PF f pargs r) (h : PWL n ops rest K (pupd σ d (pgv c r)) ρ) : PWL n ops (o :: rest) K σ ρ := fun β κ σ' ρ' g hs hr =>
  wl_g (hg κ σ' hs) hd hlt (og_callP ho (fun _ => rfl) (fun hct => hc hct κ _ g (by rw [← ha hct]; exact rps_args hs l)) fun v κ' hk hv => h β κ' _ _ (g.mono hk) ((hs.mono hk).upd (rp_gv hv)) (hr.mono hk))
/-- A call that takes own blocks. -/
theorem pl_callR {R : PV → List PRes → Prop} {ρ1 ρ2 : List PRes} (ho : o.op = .call { callee := .value (.func f), args := l.toArray, argTypes := ts }) (ha : l.map (pevc σ) = pargs) (hp : ρ.Perm (ρ1 ++ ρ2)) (hc : PCall f pargs ρ1 R) (h : ∀ pv ρ', R pv ρ' → KV pv (ρ' ++ ρ2)) : POpL o σ ρ KV := fun κ σ' ρ' g hs hr => by
  obtain ⟨rs, h1, h2⟩ := hr.perm hp
  obtain ⟨r1, r2, rfl, h3, h4⟩ := h2.split
  exact ol_call ho rfl h1 (hc κ _ r1 g (by rw [← ha]; exact rps_args hs l) h3) fun v ρ'' κ' hk ⟨pv, ρp, g1, g2, g3⟩ => ⟨pv, ρp ++ ρ2, g1, g2.app (h4.mono hk), h pv ρp g3⟩
end

/-! ### The rules on code -/
def pseqK (n : Nat) (y : Code) (K : Exit → PPost) : Exit → PPost := fun e σ ρ => match e with | .normal => PWC n y K σ ρ | e => K e σ ρ
def pblockK (id : Nat) (K : Exit → PPost) : Exit → PPost := fun e σ ρ => match e with | .exit id' => cond (Nat.beq id' id) (K .normal σ ρ) (K (.exit id') σ ρ) | e => K e σ ρ
section
variable {n : Nat} {x y : Code} {K : Exit → PPost} {σ : PEnv} {ρ : List PRes}
theorem pwc_mono {K' : Exit → PPost} (h : PWC n x K σ ρ) (hk : ∀ e σ ρ, K e σ ρ → K' e σ ρ) : PWC n x K' σ ρ := fun β κ σ' ρ' g hs hr =>
  wc_mono (h β κ σ' ρ' g hs hr) fun e _ _ _ _ ⟨σp, ρp, h1, h2, h3⟩ => ⟨σp, ρp, h1, h2, hk e _ _ h3⟩
theorem pwc_seq (h : PWC n x (pseqK n y K) σ ρ) : PWC n (.seq x y) K σ ρ := fun β κ σ' ρ' g hs hr =>
  wc_seq (wc_mono (h β κ σ' ρ' g hs hr) fun e σ1 ρ1 κ1 hk ⟨σp, ρp, h1, h2, h3⟩ => by
    cases e with
    | normal => exact h3 β κ1 σ1 ρ1 (g.mono hk) h1 h2
    | _ => exact ⟨σp, ρp, h1, h2, h3⟩)
theorem pwc_skip (h : K .normal σ ρ) : PWC n .skip K σ ρ := fun _ _ _ _ _ hs hr => wc_skip ⟨σ, ρ, hs, hr, h⟩
theorem pwc_ret (h : K .ret σ ρ) : PWC n .ret K σ ρ := fun _ _ _ _ _ hs hr => wc_ret ⟨σ, ρ, hs, hr, h⟩
theorem pwc_exit {id : Nat} (h : K (.exit id) σ ρ) : PWC n (.exit id) K σ ρ := fun _ _ _ _ _ hs hr => wc_exit ⟨σ, ρ, hs, hr, h⟩
theorem pwc_block {id : Nat} (h : PWC n x (pblockK id K) σ ρ) : PWC n (.block id x) K σ ρ := fun β κ σ' ρ' g hs hr =>
  wc_block (wc_mono (h β κ σ' ρ' g hs hr) fun e σ1 ρ1 κ1 hk ⟨σp, ρp, h1, h2, h3⟩ => by
    cases e with
    | exit id' =>
      simp only [pblockK] at h3
      simp only [blockK]
      cases hb : Nat.beq id' id
      · rw [hb] at h3; exact ⟨σp, ρp, h1, h2, h3⟩
      · rw [hb] at h3; exact ⟨σp, ρp, h1, h2, h3⟩
    | _ => exact ⟨σp, ρp, h1, h2, h3⟩)
theorem pwc_cond {c : Operand} {p : Bool} (hc : pevc σ c = .v (.bool p)) (ht : p = true → PWC n x K σ ρ) (hf : p = false → PWC n y K σ ρ) : PWC n (.cond c x y) K σ ρ := fun β κ σ' ρ' g hs hr =>
  wc_cond (hs.v1 hc) (fun h => ht h β κ σ' ρ' g hs hr) (fun h => hf h β κ σ' ρ' g hs hr)
theorem pwc_region {id : Nat} {l : List Oper} (h : PWL n l.toArray l (K .normal) σ ρ) : PWC n (.region id l.toArray false) K σ ρ := fun β κ σ' ρ' g hs hr => wc_region (h β κ σ' ρ' g hs hr)
theorem pwc_draw {id : Nat} {l : List Oper} {ρd : List PRes} (ord : List (Nat × Nat)) {lo : List (Nat × Oper)} (ρs : List PRes) (hp : ρ.Perm (ρd ++ ρs)) (hok : okAll n l ord = true) (hl : pickOps l ord = some lo) (h : PWD n l.toArray (K .normal) lo σ ρd ρs) : PWC n (.region id l.toArray true) K σ ρ := fun β κ σ' ρ' g hs hr => by
  obtain ⟨rs', h1, h2⟩ := hr.perm hp
  obtain ⟨r1, r2, rfl, h3, h4⟩ := h2.split
  exact wc_draw ord r2 h1 hok hl fun κ1 hk => h β κ1 σ' r1 r2 (g.mono hk) (hs.mono hk) (h3.mono hk) (h4.mono hk)
theorem pwc_sub {ρ' : List PRes} (hs : PSub ρ' ρ) (h : PWC n x K σ ρ') : PWC n x K σ ρ := fun β κ σ' r g hm hr => by
  obtain ⟨r', h1, h2⟩ := hr.sub hs
  exact wc_sub h1 (h β κ σ' r' g hm h2)
def PHolds (σ : PEnv) : List (Nat × PV) → Prop
  | [] => True
  | (d, v) :: l => σ d = v ∧ PHolds σ l
theorem PHolds.nil : PHolds σ [] := trivial
theorem PHolds.cons {d : Nat} {v : PV} {l : List (Nat × PV)} (h : σ d = v) (h' : PHolds σ l) : PHolds σ ((d, v) :: l) := ⟨h, h'⟩
theorem pupds_self : ∀ {L : List (Nat × PV)}, PHolds σ L → pupds σ L = σ
  | [], _ => rfl
  | (d, v) :: l, ⟨h1, h2⟩ => by rw [pupds, pupds_self h2, pupd_self h1]
variable {Y S T : Type}
/-- What may be walked from the second state may be walked from the first. -/
def Cov (σ : PEnv) (ρ : List PRes) (σ' : PEnv) (ρ' : List PRes) : Prop := ∀ n y K, PWC n y K σ' ρ' → PWC n y K σ ρ
def pmidK (L : Y → List (Nat × PV)) (R : Y → List PRes) (J : Y → Prop) (K : Exit → PPost) : Exit → PPost := fun e σ ρ => match e with
  | .normal => ∃ z σ' ρ', Cov σ ρ σ' ρ' ∧ PHolds σ' (L z) ∧ PSub (R z) ρ' ∧ J z
  | e => K e σ ρ
def pcutK (L : Y → List (Nat × PV)) (R : Y → List PRes) (J : Y → Prop) (K : Exit → PPost) : Exit → PPost := fun e σ ρ => match e with
  | .normal => ∃ z, PHolds σ (L z) ∧ PSub (R z) ρ ∧ J z
  | e => K e σ ρ
/-- A cut behind a piece of code. -/
theorem pwc_join (L : Y → List (Nat × PV)) (R : Y → List PRes) (J : Y → Prop) (h : PWC n x (pmidK L R J K) σ ρ) (h2 : ∀ z τ, J z → PWC n y K (pupds τ (L z)) (R z)) : PWC n x (pseqK n y K) σ ρ :=
  pwc_mono h fun e σ' ρ' g => by
    cases e with
    | normal =>
      obtain ⟨z, σ1, ρ1, hc, h3, h4, h5⟩ := g
      exact hc _ _ _ (pwc_sub h4 (by have := h2 z σ1 h5; rwa [pupds_self h3] at this))
    | _ => exact g
/-- A cut behind a piece of code, whatever follows. -/
theorem pwc_cutK (L : Y → List (Nat × PV)) (R : Y → List PRes) (J : Y → Prop) (h : PWC n x (pcutK L R J K) σ ρ) (h2 : ∀ z τ ρ', PSub (R z) ρ' → J z → K .normal (pupds τ (L z)) ρ') : PWC n x K σ ρ :=
  pwc_mono h fun e σ' ρ' g => by
    cases e with
    | normal =>
      obtain ⟨z, h3, h4, h5⟩ := g
      have := h2 z σ' ρ' h4 h5; rwa [pupds_self h3] at this
    | _ => exact g
theorem pk_mid {L : Y → List (Nat × PV)} {R : Y → List PRes} {J : Y → Prop} (z : Y) (h1 : PHolds σ (L z)) (h2 : PSub (R z) ρ) (h3 : J z) : pmidK L R J K .normal σ ρ := ⟨z, σ, ρ, fun _ _ _ h => h, h1, h2, h3⟩
theorem pk_cut {L : Y → List (Nat × PV)} {R : Y → List PRes} {J : Y → Prop} (z : Y) (h1 : PHolds σ (L z)) (h2 : PSub (R z) ρ) (h3 : J z) : pcutK L R J K .normal σ ρ := ⟨z, h1, h2, h3⟩
theorem pk_mid_cov {L : Y → List (Nat × PV)} {R : Y → List PRes} {J : Y → Prop} {σ1 : PEnv} {ρ1 : List PRes} (hc : Cov σ ρ σ1 ρ1) (h : pmidK L R J K .normal σ1 ρ1) : pmidK L R J K .normal σ ρ := by
  obtain ⟨z, σ2, ρ2, g1, g2⟩ := h
  exact ⟨z, σ2, ρ2, fun n y K k => hc n y K (g1 n y K k), g2⟩
theorem pk_mid_ret {L : Y → List (Nat × PV)} {R : Y → List PRes} {J : Y → Prop} (h : K .ret σ ρ) : pmidK L R J K .ret σ ρ := h
theorem pk_mid_exit {L : Y → List (Nat × PV)} {R : Y → List PRes} {J : Y → Prop} {id : Nat} (h : K (.exit id) σ ρ) : pmidK L R J K (.exit id) σ ρ := h
theorem pk_cut_ret {L : Y → List (Nat × PV)} {R : Y → List PRes} {J : Y → Prop} (h : K .ret σ ρ) : pcutK L R J K .ret σ ρ := h
theorem pk_cut_exit {L : Y → List (Nat × PV)} {R : Y → List PRes} {J : Y → Prop} {id : Nat} (h : K (.exit id) σ ρ) : pcutK L R J K (.exit id) σ ρ := h
theorem pk_seq (h : PWC n y K σ ρ) : pseqK n y K .normal σ ρ := h
theorem pk_seq_ret (h : K .ret σ ρ) : pseqK n y K .ret σ ρ := h
theorem pk_seq_exit {id : Nat} (h : K (.exit id) σ ρ) : pseqK n y K (.exit id) σ ρ := h
theorem pk_block_n {id : Nat} (h : K .normal σ ρ) : pblockK id K .normal σ ρ := h
theorem pk_block_ret {id : Nat} (h : K .ret σ ρ) : pblockK id K .ret σ ρ := h
theorem pk_block_eq {id id' : Nat} (he : Nat.beq id' id = true) (h : K .normal σ ρ) : pblockK id K (.exit id') σ ρ := by simp only [pblockK, he]; exact h
theorem pk_block_ne {id id' : Nat} (he : Nat.beq id' id = false) (h : K (.exit id') σ ρ) : pblockK id K (.exit id') σ ρ := by simp only [pblockK, he]; exact h
end
/-! ### Loops -/
/-- A loop over pure states: at most N rounds. -/
def loopF {S T : Type} (body : S → Option (S ⊕ T)) (N : Nat) : S → Option T :=
  Nat.rec (motive := fun _ => S → Option T) (fun _ => none) (fun _ ih s => match body s with | none => none | some (.inl s') => ih s' | some (.inr t) => some t) N
theorem loopF_succ {S T : Type} (body : S → Option (S ⊕ T)) (N : Nat) (s : S) : loopF body (N + 1) s = match body s with | none => none | some (.inl s') => loopF body N s' | some (.inr t) => some t := rfl
def FUEL : Nat := 1267650600228229401496703205376
section
variable {n : Nat} {x : Code} {K : Exit → PPost} {σ : PEnv} {ρ : List PRes} {Y S T : Type}
def ploopK (L : Y → S → List (Nat × PV)) (R : Y → S → List PRes) (t : T) (o : S ⊕ T) (K : Exit → PPost) : Exit → PPost := fun e σ ρ => match e with
  | .normal => ∃ y s σ' ρ', Cov σ ρ σ' ρ' ∧ o = .inl s ∧ PHolds σ' (L y s) ∧ PSub (R y s) ρ'
  | e => ∃ t', o = .inr t' ∧ (t' = t → K e σ ρ)
theorem pk_loop {L : Y → S → List (Nat × PV)} {R : Y → S → List PRes} {t : T} {o : S ⊕ T} {s : S} (h : some (Sum.inl s) = some o) (y : Y) (h1 : PHolds σ (L y s)) (h2 : PSub (R y s) ρ) : ploopK L R t o K .normal σ ρ := ⟨y, s, σ, ρ, fun _ _ _ h => h, (Option.some.inj h).symm, h1, h2⟩
theorem pk_loop_cov {L : Y → S → List (Nat × PV)} {R : Y → S → List PRes} {t : T} {o : S ⊕ T} {σ1 : PEnv} {ρ1 : List PRes} (hc : Cov σ ρ σ1 ρ1) (h : ploopK L R t o K .normal σ1 ρ1) : ploopK L R t o K .normal σ ρ := by
  obtain ⟨y, s, σ2, ρ2, g1, g2⟩ := h
  exact ⟨y, s, σ2, ρ2, fun n y K k => hc n y K (g1 n y K k), g2⟩
theorem pk_loop_ret {L : Y → S → List (Nat × PV)} {R : Y → S → List PRes} {t t' : T} {o : S ⊕ T} (h : some (Sum.inr t') = some o) (hk : t' = t → K .ret σ ρ) : ploopK L R t o K .ret σ ρ := ⟨t', (Option.some.inj h).symm, hk⟩
theorem pk_loop_exit {L : Y → S → List (Nat × PV)} {R : Y → S → List PRes} {t t' : T} {o : S ⊕ T} {id : Nat} (h : some (Sum.inr t') = some o) (hk : t' = t → K (.exit id) σ ρ) : ploopK L R t o K (.exit id) σ ρ := ⟨t', (Option.some.inj h).symm, hk⟩
theorem pwc_loopF (body : S → Option (S ⊕ T)) {N : Nat} {t : T} {s0 : S} (h0 : loopF body N s0 = some t) (L : Y → S → List (Nat × PV)) (R : Y → S → List PRes) (y0 : Y) (h1 : PHolds σ (L y0 s0)) (h2 : PSub (R y0 s0) ρ)
    (round : ∀ y s o τ, body s = some o → PWC n x (ploopK L R t o K) (pupds τ (L y s)) (R y s)) : PWC n (.loop x) K σ ρ := fun β κ σ' ρ' g hs hr =>
  wc_loop (fun (z : Nat) σ1 ρ1 κ1 => ∃ y s σp ρp σq ρq, loopF body z s = some t ∧ GOK κ1 ∧ Sim κ1 σp σ1 ∧ RRels κ1 ρp ρ1 ∧ Cov σp ρp σq ρq ∧ PHolds σq (L y s) ∧ PSub (R y s) ρq) id N ⟨y0, s0, σ, ρ, σ, ρ, h0, g, hs, hr, fun _ _ _ h => h, h1, h2⟩ fun z σ1 ρ1 κ1 _ ⟨y, s, σp, ρp, σq, ρq, k1, k2, k3, k4, kc, k5, k6⟩ => by
    cases z with
    | zero => cases k1
    | succ z =>
      rw [loopF_succ] at k1
      cases hb : body s with
      | none => rw [hb] at k1; cases k1
      | some o =>
        rw [hb] at k1
        have hrd := kc _ _ _ (pwc_sub k6 (by have := round y s o σq hb; rwa [pupds_self k5] at this)) β κ1 σ1 ρ1 k2 k3 k4
        refine wc_mono hrd fun e σ2 ρ2 κ2 hk ⟨σp2, ρp2, m1, m2, m3⟩ => ?_
        cases e with
        | normal =>
          obtain ⟨y', s', σ3, ρ3, mc, rfl, m4, m5⟩ := m3
          exact ⟨z, ⟨y', s', σp2, ρp2, σ3, ρ3, k1, k2.mono hk, m1, m2, mc, m4, m5⟩, Nat.lt_succ_self z⟩
        | _ =>
          obtain ⟨t', rfl, m3⟩ := m3
          simp only [Option.some.injEq] at k1
          exact ⟨σp2, ρp2, m1, m2, m3 k1⟩
end
end SX
end Go.Proofs.YtfcecieppoljlaaGreatDoor
