/- A part of the proof: texts of the walk and of the plain laws, merged. No condition. -/
import Derived.Test.YtfcecieppoljlaaGreatDoorM1
import Derived.Test.YtfcecieppoljlaaGreatDoorChecked
import Derived.KernelRfl
import Derived.WalkKit
import Derived.OrdersHeld
import Derived.Laws.CopyRow
import Derived.Laws.StructEq
import Derived.Maps.AppendAt
import Derived.Laws.MakeOwn
import Derived.Laws.BytesArg
import Derived.Laws.Externs
import Derived.Laws.Cover3
import Derived.ChangeArms
import Derived.DataReads
import GoSem.ClaimJoined
import Derived.Test.YtfcecieppoljlaaGreatDoorRows
import Derived.ChangeSame
import Derived.ChangeVars
import Derived.JoinedOf
import Derived.RowKit
import Derived.RowKitTokens
import Derived.LaidLaws
import Derived.LaidHandle
import Derived.Carry
import Derived.Handed
import Derived.ChangeOld
import Derived.SevenTiedAt
import Derived.Test.YtfcecieppoljlaaGreatDoorCards
import Derived.Test.YtfcecieppoljlaaGreatDoorTie
set_option linter.unusedVariables false
set_option linter.unusedSimpArgs false
set_option maxRecDepth 100000
namespace Go.Proofs.YtfcecieppoljlaaGreatDoor
namespace SX
open Go
def okb : Value → Bool
 | .string s => Nat.ble s.size 140737488355328
 | _ => true
inductive PV where
 | any : PV
 | v (x : Value) : PV
 | agg (cs : List PV) : PV
 | slc (xs : List (List PV)) : PV
 | tup (vs : List PV) : PV
 | ref (cs : List PV) (off : Nat) : PV
 | fn (f : Nat) (caps : List PV) : PV
def One (ds : List Value) : Prop := ∀ u ∈ ds, u.oneCell' = true
def Ones (dss : List (List Value)) : Prop := ∀ ds ∈ dss, One ds
mutual
inductive Rp (κ : Kr) : PV → Value → Prop
 | any {x : Value} : Rp κ .any x
 | v {x : Value} (h : okb x = true) : Rp κ (.v x) x
 | agg {cs : List PV} {ds : List Value} (h1 : One ds) (h : Rps κ cs ds) : Rp κ (.agg cs) (.agg ds.toArray)
 | slc {xs : List (List PV)} {a : Option Addr} {n c sz : Nat} {css : List (List Value)} (h : Sl κ a n c sz css) (hb : n ≤ 140737488355328) (h1 : Ones css) (hs : Rpss κ xs css) : Rp κ (.slc xs) (.slice a n c)
 | tup {vs : List PV} {ws : List Value} (h : Rps κ vs ws) : Rp κ (.tup vs) (.tuple ws.toArray)
 | ref {cs : List PV} {ds : List Value} {b off k : Nat} (h : Sh κ b off ds) (h1 : One ds) (hs : Rps κ cs ds) : Rp κ (.ref cs k) (.pointer (some ⟨b, off + k, none⟩))
 | fn {f : Nat} {caps : List PV} {ds : List Value} (h : Rps κ caps ds) : Rp κ (.fn f caps) (.func (.func f) #[] ds.toArray)
inductive Rps (κ : Kr) : List PV → List Value → Prop
 | nil : Rps κ [] []
 | cons {p : PV} {v : Value} {ps : List PV} {vs : List Value} (h : Rp κ p v) (hs : Rps κ ps vs) : Rps κ (p :: ps) (v :: vs)
inductive Rpss (κ : Kr) : List (List PV) → List (List Value) → Prop
 | nil : Rpss κ [] []
 | cons {p : List PV} {v : List Value} {ps : List (List PV)} {vs : List (List Value)} (h : Rps κ p v) (hs : Rpss κ ps vs) : Rpss κ (p :: ps) (v :: vs)
end
mutual
theorem Rp.mono {κ κ' : Kr} (k : Kle κ κ') : ∀ {p : PV} {v : Value}, Rp κ p v → Rp κ' p v
 | _, _, .any => .any
 | _, _, .v h => .v h
 | _, _, .agg h1 h => .agg h1 (Rps.mono k h)
 | _, _, .slc h hb h1 hs => .slc (h.mono k) hb h1 (Rpss.mono k hs)
 | _, _, .tup h => .tup (Rps.mono k h)
 | _, _, .ref h h1 hs => .ref (h.mono k) h1 (Rps.mono k hs)
 | _, _, .fn h => .fn (Rps.mono k h)
theorem Rps.mono {κ κ' : Kr} (k : Kle κ κ') : ∀ {p : List PV} {v : List Value}, Rps κ p v → Rps κ' p v
 | _, _, .nil => .nil
 | _, _, .cons h hs => .cons (Rp.mono k h) (Rps.mono k hs)
theorem Rpss.mono {κ κ' : Kr} (k : Kle κ κ') : ∀ {p : List (List PV)} {v : List (List Value)}, Rpss κ p v → Rpss κ' p v
 | _, _, .nil => .nil
 | _, _, .cons h hs => .cons (Rps.mono k h) (Rpss.mono k hs)
end
section
variable {κ : Kr}
theorem Rp.val {x v : Value} (h : Rp κ (.v x) v) : v = x := by cases h; rfl
theorem Rp.ok {x v : Value} (h : Rp κ (.v x) v) : okb x = true := by cases h; assumption
theorem Rps.len : ∀ {ps : List PV} {vs : List Value}, Rps κ ps vs → ps.length = vs.length
 | _, _, .nil => rfl
 | _, _, .cons _ hs => by simp [hs.len]
theorem Rpss.len : ∀ {ps : List (List PV)} {vs : List (List Value)}, Rpss κ ps vs → ps.length = vs.length
 | _, _, .nil => rfl
 | _, _, .cons _ hs => by simp [hs.len]
theorem Rps.get : ∀ {ps : List PV} {vs : List Value} {k : Nat} {p : PV}, Rps κ ps vs → ps[k]? = some p → ∃ v, vs[k]? = some v ∧ Rp κ p v
 | _, _, 0, _, .cons h _, e => by simp only [List.getElem?_cons_zero, Option.some.injEq] at e; subst e; exact ⟨_, rfl, h⟩
 | _, _, _ + 1, _, .cons _ hs, e => by simp only [List.getElem?_cons_succ] at e ⊢; exact hs.get e
theorem Rpss.get : ∀ {ps : List (List PV)} {vs : List (List Value)} {k : Nat} {p : List PV}, Rpss κ ps vs → ps[k]? = some p → ∃ v, vs[k]? = some v ∧ Rps κ p v
 | _, _, 0, _, .cons h _, e => by simp only [List.getElem?_cons_zero, Option.some.injEq] at e; subst e; exact ⟨_, rfl, h⟩
 | _, _, _ + 1, _, .cons _ hs, e => by simp only [List.getElem?_cons_succ] at e ⊢; exact hs.get e
theorem Rps.app : ∀ {ps qs : List PV} {vs ws : List Value}, Rps κ ps vs → Rps κ qs ws → Rps κ (ps ++ qs) (vs ++ ws)
 | _, _, _, _, .nil, h => h
 | _, _, _, _, .cons h hs, g => .cons h (hs.app g)
theorem Rpss.app : ∀ {ps qs : List (List PV)} {vs ws : List (List Value)}, Rpss κ ps vs → Rpss κ qs ws → Rpss κ (ps ++ qs) (vs ++ ws)
 | _, _, _, _, .nil, h => h
 | _, _, _, _, .cons h hs, g => .cons h (hs.app g)
theorem Rps.drop : ∀ {ps : List PV} {vs : List Value} (k : Nat), Rps κ ps vs → Rps κ (ps.drop k) (vs.drop k)
 | _, _, 0, h => h
 | _, _, _ + 1, .nil => .nil
 | _, _, k + 1, .cons _ hs => hs.drop k
theorem Rps.take : ∀ {ps : List PV} {vs : List Value} (k : Nat), Rps κ ps vs → Rps κ (ps.take k) (vs.take k)
 | _, _, 0, _ => .nil
 | _, _, _ + 1, .nil => .nil
 | _, _, k + 1, .cons h hs => .cons h (hs.take k)
theorem Rpss.drop : ∀ {ps : List (List PV)} {vs : List (List Value)} (k : Nat), Rpss κ ps vs → Rpss κ (ps.drop k) (vs.drop k)
 | _, _, 0, h => h
 | _, _, _ + 1, .nil => .nil
 | _, _, k + 1, .cons _ hs => hs.drop k
theorem Rpss.take : ∀ {ps : List (List PV)} {vs : List (List Value)} (k : Nat), Rpss κ ps vs → Rpss κ (ps.take k) (vs.take k)
 | _, _, 0, _ => .nil
 | _, _, _ + 1, .nil => .nil
 | _, _, k + 1, .cons h hs => .cons h (hs.take k)
theorem Rps.set : ∀ {ps : List PV} {vs : List Value} {k : Nat} {p : PV} {v : Value}, Rps κ ps vs → Rp κ p v → Rps κ (ps.set k p) (vs.set k v)
 | _, _, _, _, _, .nil, _ => .nil
 | _, _, 0, _, _, .cons _ hs, g => .cons g hs
 | _, _, _ + 1, _, _, .cons h hs, g => .cons h (hs.set g)
theorem Rpss.set : ∀ {ps : List (List PV)} {vs : List (List Value)} {k : Nat} {p : List PV} {v : List Value}, Rpss κ ps vs → Rps κ p v → Rpss κ (ps.set k p) (vs.set k v)
 | _, _, _, _, _, .nil, _ => .nil
 | _, _, 0, _, _, .cons _ hs, g => .cons g hs
 | _, _, _ + 1, _, _, .cons h hs, g => .cons h (hs.set g)
theorem Rpss.flat : ∀ {ps : List (List PV)} {vs : List (List Value)}, Rpss κ ps vs → Rps κ ps.flatten vs.flatten
 | _, _, .nil => .nil
 | _, _, .cons h hs => by simp only [List.flatten_cons]; exact h.app hs.flat
theorem Rps.nil_inv {vs : List Value} (h : Rps κ [] vs) : vs = [] := by cases h; rfl
theorem Rpss.nil_inv {vs : List (List Value)} (h : Rpss κ [] vs) : vs = [] := by cases h; rfl
theorem Rps.cons_inv {p : PV} {ps : List PV} {vs : List Value} (h : Rps κ (p :: ps) vs) : ∃ v ws, vs = v :: ws ∧ Rp κ p v ∧ Rps κ ps ws := by cases h; exact ⟨_, _, rfl, by assumption, by assumption⟩
theorem Rpss.cons_inv {p : List PV} {ps : List (List PV)} {vs : List (List Value)} (h : Rpss κ (p :: ps) vs) : ∃ v ws, vs = v :: ws ∧ Rps κ p v ∧ Rpss κ ps ws := by cases h; exact ⟨_, _, rfl, by assumption, by assumption⟩
end
def oc : PV → Bool
 | .v x => x.oneCell'
 | .slc _ | .ref _ _ | .fn _ _ => true
 | _ => false
theorem Rp.one {κ : Kr} {p : PV} {v : Value} (h : Rp κ p v) (ho : oc p = true) : v.oneCell' = true := by
 cases h with
 | v _ => exact ho
 | slc => rfl
 | ref => rfl
 | fn => rfl
 | _ => cases ho
theorem Rps.one {κ : Kr} : ∀ {ps : List PV} {vs : List Value}, Rps κ ps vs → ps.all oc = true → One vs
 | _, _, .nil, _ => fun _ h => by cases h
 | _, _, .cons h hs, ho => by
  simp only [List.all_cons, Bool.and_eq_true] at ho
  intro u hu
  rcases List.mem_cons.1 hu with rfl | hu
  ·exact h.one ho.1
  ·exact hs.one ho.2 u hu
def cellsP : PV → Option (List PV)
 | .agg cs => some cs
 | .v x => cond (x.oneCell') (some [.v x]) none
 | .slc xs => some [.slc xs]
 | .ref cs k => some [.ref cs k]
 | .fn f cs => some [.fn f cs]
 | _ => none
theorem Rp.cells {κ : Kr} {p : PV} {v : Value} {cs : List PV} (h : Rp κ p v) (hc : cellsP p = some cs) : ∃ ds, cellsL v = ds ∧ Rps κ cs ds ∧ One ds := by
 cases h with
 | any => cases hc
 | v hx =>
  simp only [cellsP] at hc
  cases ho : v.oneCell' with
  | false => rw [ho] at hc; cases hc
  | true =>
   rw [ho] at hc; simp only [cond_true, Option.some.injEq] at hc; subst hc
   refine ⟨[v], ?_, .cons (.v hx) .nil, ?_⟩
   ·cases v <;> first | rfl | cases ho
   ·intro u hu; rw [List.mem_singleton.1 hu]; exact ho
 | agg h1 h => simp only [cellsP, Option.some.injEq] at hc; subst hc; exact ⟨_, rfl, h, h1⟩
 | slc h hb h1 hs => simp only [cellsP, Option.some.injEq] at hc; subst hc; exact ⟨_, rfl, .cons (.slc h hb h1 hs) .nil, fun u hu => by have e := List.mem_singleton.1 hu; rw [e]; rfl⟩
 | tup => cases hc
 | ref h h1 hs => simp only [cellsP, Option.some.injEq] at hc; subst hc; exact ⟨_, rfl, .cons (.ref h h1 hs) .nil, fun u hu => by have e := List.mem_singleton.1 hu; rw [e]; rfl⟩
 | fn h => simp only [cellsP, Option.some.injEq] at hc; subst hc; exact ⟨_, rfl, .cons (.fn h) .nil, fun u hu => by have e := List.mem_singleton.1 hu; rw [e]; rfl⟩
def preadAs (t : Nat) (cs : List PV) : Option PV :=
 match und t, inf t with
 | some d, some (_, sz, _) => cond (isAggD d) (cond (Nat.ble sz cs.length) (some (.agg (cs.take sz))) none) cs[0]?
 | _, _ => none
theorem pread {κ : Kr} {t : Nat} {cs : List PV} {ds : List Value} {pv : PV} (h : Rps κ cs ds) (h1 : One ds) (hr : preadAs t cs = some pv) : ∃ v, readAs t ds 0 = some v ∧ Rp κ pv v := by
 unfold preadAs at hr; unfold readAs
 split at hr
 ·rename_i d z sz b hd hi
  rw [hd, hi]
  simp only
  cases hag : isAggD d
  ·rw [hag] at hr; simp only [cond_false] at hr ⊢
   obtain ⟨v, hv, hp⟩ := h.get hr
   exact ⟨v, hv, hp⟩
  ·rw [hag] at hr; simp only [cond_true] at hr ⊢
   cases hle : Nat.ble sz cs.length
   ·rw [hle] at hr; cases hr
   ·rw [hle] at hr; simp only [cond_true, Option.some.injEq] at hr; subst hr
    have hl := h.len
    rw [Nat.zero_add, ← hl, hle]
    simp only [cond_true, List.drop_zero]
    exact ⟨_, rfl, .agg (fun u hu => h1 u (List.mem_of_mem_take hu)) (h.take sz)⟩
 ·cases hr
abbrev PEnv := Nat → PV
def pupd (σ : PEnv) (d : Nat) (v : PV) : PEnv := fun t => cond (Nat.beq t d) v (σ t)
def pupds (σ : PEnv) : List (Nat × PV) → PEnv
 | [] => σ
 | (d, v) :: l => pupd (pupds σ l) d v
def pc (x : Value) : PV := match x with
 | .agg cs => .agg (cs.toList.map fun x => cond (okb x) (.v x) .any)
 | x => cond (okb x) (.v x) .any
def penv0 (args : List PV) : PEnv := fun t => args.getD t .any
def Sim (κ : Kr) (σp : PEnv) (σ : Env) : Prop := ∀ t, Rp κ (σp t) (σ t)
section
variable {κ κ' : Kr} {σp : PEnv} {σ : Env}
theorem Sim.mono (h : Sim κ σp σ) (k : Kle κ κ') : Sim κ' σp σ := fun t => (h t).mono k
theorem Sim.upd {d : Nat} {p : PV} {v : Value} (h : Sim κ σp σ) (hp : Rp κ p v) : Sim κ (pupd σp d p) (upd σ d v) := fun t => by
 unfold pupd SX.upd; cases Nat.beq t d
 ·exact h t
 ·exact hp
theorem pupd_self {d : Nat} {v : PV} (h : σp d = v) : pupd σp d v = σp := by
 funext t; unfold pupd; cases e : Nat.beq t d
 ·rfl
 ·rw [Nat.eq_of_beq_eq_true e, h]; rfl
theorem rp_cond {x : Value} : Rp κ (cond (okb x) (.v x) .any) x := by cases e : okb x; exact .any; exact .v e
theorem rps_const : ∀ (l : List Value), Rps κ (l.map fun x => cond (okb x) (.v x) .any) l
 | [] => .nil
 | _ :: l => .cons rp_cond (rps_const l)
end
def constOk : Value → Bool
 | .agg cs => cs.toList.all Value.oneCell'
 | _ => true
def pc' (x : Value) : PV := cond (constOk x) (pc x) .any
theorem rp_pc {κ : Kr} (x : Value) : Rp κ (pc' x) x := by
 unfold pc'
 cases e : constOk x
 ·exact .any
 ·simp only [cond_true]
  unfold pc
  split
  ·rename_i cs
   have h := rps_const (κ := κ) cs.toList
   have : (Value.agg cs) = .agg cs.toList.toArray := by simp
   rw [this]
   refine .agg (fun u hu => ?_) (by simpa using h)
   simp only [constOk] at e
   exact List.all_eq_true.1 e u (by simpa using hu)
  ·exact rp_cond
def pevc (σ : PEnv) : Operand → PV
 | .tmp t => σ t
 | .const x => pc' x
 | .global g => .v (.pointer (some ⟨g, 0, none⟩))
 | .func f => .fn f []
theorem Sim.ev {κ : Kr} {σp : PEnv} {σ : Env} (h : Sim κ σp σ) (x : Operand) : Rp κ (pevc σp x) (ev σ x) := by
 cases x with
 | tmp t => exact h t
 | const x => exact rp_pc x
 | global g => exact .v rfl
 | func f => exact .fn (ds := []) .nil
theorem rps_args {κ : Kr} {σp : PEnv} {σ : Env} (h : Sim κ σp σ) : ∀ (l : List Operand), Rps κ (l.map (pevc σp)) (l.map (SX.ev σ))
 | [] => .nil
 | x :: l => .cons (h.ev x) (rps_args h l)
theorem sim0 {κ : Kr} {pargs : List PV} {args : List Value} (h : Rps κ pargs args) : Sim κ (penv0 pargs) (env0 args.toArray) := fun t => by
 unfold penv0 env0
 simp only [List.getD_eq_getElem?_getD]
 cases e : pargs[t]? with
 | none => exact .any
 | some p =>
  obtain ⟨v, hv, hp⟩ := h.get e
  simp only [hv, Option.getD_some]; exact hp
inductive PRes where
 | b (b T : Nat) (cs : List PV) : PRes
 | row (a : Option Addr) (n c T sz : Nat) (css : List (List PV)) : PRes
 | frz (a : Option Addr) (n c : Nat) (css : List (List PV)) : PRes
 | frb (b : Nat) (cs : List PV) : PRes
 | raw (r : Res) : PRes
def noRes : Res := ⟨none, fun _ => True⟩
inductive RRel (κ : Kr) : PRes → Res → Prop
 | b {b T : Nat} {cs : List PV} {ds : List Value} (h1 : One ds) (h : Rps κ cs ds) : RRel κ (.b b T cs) (Res.b b T ds)
 | row {a : Option Addr} {n c T sz : Nat} {css : List (List PV)} {dss : List (List Value)} (hb : n ≤ 140737488355328) (h1 : Ones dss) (h : Rpss κ css dss) : RRel κ (.row a n c T sz css) (Res.row a n c T sz dss)
 | frz {a : Option Addr} {n c sz : Nat} {css : List (List PV)} {dss : List (List Value)} (hs : Sl κ a n c sz dss) (hb : n ≤ 140737488355328) (h1 : Ones dss) (h : Rpss κ css dss) : RRel κ (.frz a n c css) noRes
 | frb {b : Nat} {cs : List PV} {ds : List Value} (hs : Sh κ b 0 ds) (h1 : One ds) (h : Rps κ cs ds) : RRel κ (.frb b cs) noRes
 | raw {r : Res} : RRel κ (.raw r) r
inductive RRels (κ : Kr) : List PRes → List Res → Prop
 | nil : RRels κ [] []
 | cons {p : PRes} {r : Res} {ps : List PRes} {rs : List Res} (h : RRel κ p r) (hs : RRels κ ps rs) : RRels κ (p :: ps) (r :: rs)
section
variable {κ κ' : Kr}
theorem RRel.mono {p : PRes} {r : Res} (h : RRel κ p r) (k : Kle κ κ') : RRel κ' p r := by
 cases h with
 | b h1 h => exact .b h1 (h.mono k)
 | row hb h1 h => exact .row hb h1 (h.mono k)
 | frz hs hb h1 h => exact .frz (hs.mono k) hb h1 (h.mono k)
 | frb hs h1 h => exact .frb (hs.mono k) h1 (h.mono k)
 | raw => exact .raw
theorem RRels.mono (k : Kle κ κ') : ∀ {ps : List PRes} {rs : List Res}, RRels κ ps rs → RRels κ' ps rs
 | _, _, .nil => .nil
 | _, _, .cons h hs => .cons (h.mono k) (hs.mono k)
theorem RRels.app : ∀ {ps qs : List PRes} {vs ws : List Res}, RRels κ ps vs → RRels κ qs ws → RRels κ (ps ++ qs) (vs ++ ws)
 | _, _, _, _, .nil, h => h
 | _, _, _, _, .cons h hs, g => .cons h (hs.app g)
theorem RRels.split : ∀ {ps qs : List PRes} {rs : List Res}, RRels κ (ps ++ qs) rs → ∃ r1 r2, rs = r1 ++ r2 ∧ RRels κ ps r1 ∧ RRels κ qs r2
 | [], _, rs, h => ⟨[], rs, rfl, .nil, h⟩
 | _ :: ps, _, _, .cons h hs => by
  obtain ⟨r1, r2, rfl, h1, h2⟩ := RRels.split (ps := ps) hs
  exact ⟨_ :: r1, r2, rfl, .cons h h1, h2⟩
theorem RRels.perm {ps qs : List PRes} (hp : ps.Perm qs) : ∀ {rs : List Res}, RRels κ ps rs → ∃ rs', rs.Perm rs' ∧ RRels κ qs rs' := by
 induction hp with
 | nil => exact fun h => ⟨_, List.Perm.refl _, h⟩
 | cons x _ ih =>
  intro rs h; cases h with
  | cons h hs => obtain ⟨rs', h1, h2⟩ := ih hs; exact ⟨_ :: rs', List.Perm.cons _ h1, .cons h h2⟩
 | swap x y l =>
  intro rs h; cases h with
  | cons h hs => cases hs with
   | cons h' hs => exact ⟨_, List.Perm.swap _ _ _, .cons h' (.cons h hs)⟩
 | trans _ _ ih1 ih2 =>
  intro rs h
  obtain ⟨r1, h1, h2⟩ := ih1 h
  obtain ⟨r2, h3, h4⟩ := ih2 h2
  exact ⟨r2, h1.trans h3, h4⟩
theorem RRels.mem : ∀ {ps : List PRes} {rs : List Res} {p : PRes}, RRels κ ps rs → p ∈ ps → ∃ r ∈ rs, RRel κ p r
 | _, _, _, .cons h hs, hm => by
  rcases List.mem_cons.1 hm with rfl | hm
  ·exact ⟨_, by simp, h⟩
  ·obtain ⟨r, h1, h2⟩ := hs.mem hm; exact ⟨r, by simp [h1], h2⟩
theorem RRels.nil_inv {rs : List Res} (h : RRels κ [] rs) : rs = [] := by cases h; rfl
theorem RRels.cons_inv {p : PRes} {ps : List PRes} {rs : List Res} (h : RRels κ (p :: ps) rs) : ∃ r rs', rs = r :: rs' ∧ RRel κ p r ∧ RRels κ ps rs' := by cases h; exact ⟨_, _, rfl, by assumption, by assumption⟩
end
def PPick (ρ : List PRes) (r : PRes) (l : List PRes) : Prop := ρ.Perm (r :: l)
theorem zph {r : PRes} {l : List PRes} : PPick (r :: l) r l := List.Perm.refl _
theorem zpt {r s : PRes} {l l' : List PRes} (h : PPick l r l') : PPick (s :: l) r (s :: l') := (List.Perm.cons s h).trans (List.Perm.swap r s l')
def PSub (ρ' ρ : List PRes) : Prop := ∃ l, ρ.Perm (ρ' ++ l)
theorem zsn {ρ : List PRes} : PSub [] ρ := ⟨ρ, List.Perm.refl _⟩
theorem PSub.refl {ρ : List PRes} : PSub ρ ρ := ⟨[], by simp⟩
theorem zsc {r : PRes} {ρ ρ' l : List PRes} (h : PPick ρ r l) (h' : PSub ρ' l) : PSub (r :: ρ') ρ := by
 obtain ⟨m, hm⟩ := h'
 exact ⟨m, h.trans (List.Perm.cons r hm)⟩
theorem RRels.pick {κ : Kr} {ps l : List PRes} {p : PRes} {rs : List Res} (h : RRels κ ps rs) (hp : PPick ps p l) : ∃ r l', Pick rs r l' ∧ RRel κ p r ∧ RRels κ l l' := by
 obtain ⟨rs', h1, h2⟩ := h.perm hp
 obtain ⟨r, l', rfl, h3, h4⟩ := h2.cons_inv
 exact ⟨r, l', h1, h3, h4⟩
theorem RRels.sub {κ : Kr} {ps ps' : List PRes} {rs : List Res} (h : RRels κ ps rs) (hp : PSub ps' ps) : ∃ rs', Sub rs' rs ∧ RRels κ ps' rs' := by
 obtain ⟨l, hl⟩ := hp
 obtain ⟨rs', h1, h2⟩ := h.perm hl
 obtain ⟨r1, r2, rfl, h3, h4⟩ := h2.split
 exact ⟨r1, ⟨r2, h1⟩, h3⟩
theorem PSub.trans {a b c : List PRes} (h : PSub a b) (k : PSub b c) : PSub a c := by
 obtain ⟨l, hl⟩ := h; obtain ⟨m, hm⟩ := k
 exact ⟨l ++ m, hm.trans (by rw [← List.append_assoc]; exact List.Perm.append_right m hl)⟩
def PUpd (ρ : List PRes) (r r' : PRes) (ρ' : List PRes) : Prop := ∃ l1 l2, ρ = l1 ++ r :: l2 ∧ ρ' = l1 ++ r' :: l2
theorem zuh {r r' : PRes} {l : List PRes} : PUpd (r :: l) r r' (r' :: l) := ⟨[], l, rfl, rfl⟩
theorem zut {r r' s : PRes} {l l' : List PRes} (h : PUpd l r r' l') : PUpd (s :: l) r r' (s :: l') := by
 obtain ⟨l1, l2, h1, h2⟩ := h
 exact ⟨s :: l1, l2, by rw [h1]; rfl, by rw [h2]; rfl⟩
theorem RRels.upd {κ : Kr} {ps ps' : List PRes} {p p' : PRes} {rs : List Res} (h : RRels κ ps rs) (hu : PUpd ps p p' ps') : ∃ r l1 l2, rs = l1 ++ r :: l2 ∧ RRel κ p r ∧ ∀ κ' r', Kle κ κ' → RRel κ' p' r' → RRels κ' ps' (l1 ++ r' :: l2) := by
 obtain ⟨m1, m2, rfl, rfl⟩ := hu
 obtain ⟨r1, r2, rfl, h1, h2⟩ := h.split
 obtain ⟨r, r3, rfl, h3, h4⟩ := h2.cons_inv
 exact ⟨r, r1, r3, rfl, h3, fun κ' r' k hr => (h1.mono k).app (.cons hr (h4.mono k))⟩
abbrev PPost := PEnv → List PRes → Prop
def lft (K : PPost) : Post := fun σ ρ κ => ∃ σp ρp, Sim κ σp σ ∧ RRels κ ρp ρ ∧ K σp ρp
def PWL (n : Nat) (ops : Array Oper) (l : List Oper) (K : PPost) (σp : PEnv) (ρp : List PRes) : Prop :=
 ∀ β κ σ ρ, GOK κ → Sim κ σp σ → RRels κ ρp ρ → WL β n ops l (lft K) σ ρ κ
def PWC (n : Nat) (c : Code) (K : Exit → PPost) (σp : PEnv) (ρp : List PRes) : Prop :=
 ∀ β κ σ ρ, GOK κ → Sim κ σp σ → RRels κ ρp ρ → WC β n c (fun e => lft (K e)) σ ρ κ
def PWD (n : Nat) (ops : Array Oper) (K : PPost) (lo : List (Nat × Oper)) (σp : PEnv) (ρd ρs : List PRes) : Prop :=
 ∀ β κ σ rd rs, GOK κ → Sim κ σp σ → RRels κ ρd rd → RRels κ ρs rs → WD β n ops (lft K) lo σ rd rs κ
def POpL (o : Oper) (σp : PEnv) (ρp : List PRes) (K : PV → List PRes → Prop) : Prop :=
 ∀ κ σ ρ, GOK κ → Sim κ σp σ → RRels κ ρp ρ → OpL o σ ρ κ fun v ρ' κ' => ∃ pv ρp', Rp κ' pv v ∧ RRels κ' ρp' ρ' ∧ K pv ρp'
def POpQ (c : Bool) (o : Oper) (σp : PEnv) (ρp : List PRes) (pv : PV) : Prop :=
 ∀ κ σ ρ, GOK κ → Sim κ σp σ → RRels κ ρp ρ → ∃ v, (c = true → Rp κ pv v) ∧ OpQ c o σ ρ κ v
@[irreducible] def pgv (c : Bool) (p : PV) : PV := cond c p (.v undef)
theorem pgv_true (p : PV) : pgv true p = p := by unfold pgv; rfl
theorem pgv_false (p : PV) : pgv false p = .v undef := by unfold pgv; rfl
theorem rp_gv {κ : Kr} {c : Bool} {p : PV} {v : Value} (h : c = true → Rp κ p v) : Rp κ (pgv c p) (gv c v) := by
 cases c
 ·rw [pgv_false, gv_false]; exact .v rfl
 ·rw [pgv_true, gv_true]; exact h rfl
def PGuardIs (ops : Array Oper) (σp : PEnv) (o : Oper) (c : Bool) : Prop := ∀ κ σ, Sim κ σp σ → GuardIs ops σ o c
section
variable {ops : Array Oper} {σ : PEnv} {o : Oper} {j d : Nat} {p c : Bool}
theorem yan (h : o.guard = some (j, true)) (hd : (ops[j]?).bind (·.dst) = some d) (hs : σ d = .v (.bool p)) : PGuardIs ops σ o p := fun κ σ' hm => guard_t h hd (by have := hm d; rw [hs] at this; exact this.val)
theorem yai (h : o.guard = some (j, false)) (hd : (ops[j]?).bind (·.dst) = some d) (hs : σ d = .v (.bool p)) : PGuardIs ops σ o (!p) := fun κ σ' hm => guard_f h hd (by have := hm d; rw [hs] at this; exact this.val)
theorem gv_val {κ : Kr} {x w : Value} (h : Rp κ (pgv c (.v x)) w) : w = gv c x := by
 cases c
 ·rw [pgv_false] at h; rw [gv_false]; exact h.val
 ·rw [pgv_true] at h; rw [gv_true]; exact h.val
theorem yay (h : o.guard = some (j, true)) (hd : (ops[j]?).bind (·.dst) = some d) (hs : σ d = pgv c (.v (.bool p))) : PGuardIs ops σ o (c && p) := fun κ σ' hm => guard_gt h hd (by have := hm d; rw [hs] at this; exact gv_val this)
theorem pguard_gf (h : o.guard = some (j, false)) (hd : (ops[j]?).bind (·.dst) = some d) (hs : σ d = pgv c (.v (.bool p))) : PGuardIs ops σ o (c && !p) := fun κ σ' hm => guard_gf h hd (by have := hm d; rw [hs] at this; exact gv_val this)
end
def PEv (σ : PEnv) (c : Bool) (x : Operand) (p : PV) : Prop := c = true → pevc σ x = p
theorem PEv.p {σ : PEnv} {c : Bool} {x : Operand} {v : PV} (h : pevc σ x = v) : PEv σ c x v := fun _ => h
theorem PEv.g {σ : PEnv} {c : Bool} {x : Operand} {v : PV} (h : pevc σ x = pgv c v) : PEv σ c x v := fun hc => by rw [h, hc, pgv_true]
theorem Sim.pe {κ : Kr} {σp : PEnv} {σ : Env} {c : Bool} {x : Operand} {p : PV} (h : Sim κ σp σ) (hx : PEv σp c x p) : c = true → Rp κ p (SX.ev σ x) := fun hc => by have := h.ev x; rwa [hx hc] at this
theorem Sim.ve {κ : Kr} {σp : PEnv} {σ : Env} {c : Bool} {x : Operand} {y : Value} (h : Sim κ σp σ) (hx : PEv σp c x (.v y)) : Ev σ c x y := fun hc => (h.pe hx hc).val
theorem Sim.v1 {κ : Kr} {σp : PEnv} {σ : Env} {x : Operand} {y : Value} (h : Sim κ σp σ) (hx : pevc σp x = .v y) : SX.ev σ x = y := by have := h.ev x; rw [hx] at this; exact this.val
theorem OpL.mono {o : Oper} {σ : Env} {ρ : List Res} {κ : Kr} {K K' : Value → List Res → Kr → Prop} (h : OpL o σ ρ κ K) (hk : ∀ v ρ' κ', Kle κ κ' → K v ρ' κ' → K' v ρ' κ') : OpL o σ ρ κ K' :=
 fun β hi Nx hn => h β hi Nx fun v ρ' κ' h1 h2 h3 => hn v ρ' κ' h1 h2 (hk v ρ' κ' h2 h3)
section
variable {n : Nat} {ops : Array Oper} {o : Oper} {rest : List Oper} {K : PPost} {σ : PEnv} {ρ : List PRes} {d : Nat} {p : PV} {c : Bool}
theorem yad (h : K σ ρ) : PWL n ops [] K σ ρ := fun _ _ _ _ _ hs hr => wl_nil ⟨σ, ρ, hs, hr, h⟩
theorem yah (hg : o.guard = none) (hd : o.dst = some d) (hlt : Nat.blt d n = true) (h : POpQ true o σ ρ p) (hw : PWL n ops rest K (pupd σ d p) ρ) : PWL n ops (o :: rest) K σ ρ := fun β κ σ' ρ' g hs hr => by
 obtain ⟨v, h1, h2⟩ := h κ σ' ρ' g hs hr
 exact wl_q hg hd hlt h2 (hw β κ _ _ g (hs.upd (h1 rfl)) hr)
theorem yaj (hg : PGuardIs ops σ o c) (hd : o.dst = some d) (hlt : Nat.blt d n = true) (h : POpQ c o σ ρ p) (hw : PWL n ops rest K (pupd σ d (pgv c p)) ρ) : PWL n ops (o :: rest) K σ ρ := fun β κ σ' ρ' g hs hr => by
 obtain ⟨v, h1, h2⟩ := h κ σ' ρ' g hs hr
 exact wl_qg (hg κ σ' hs) hd hlt h2 (hw β κ _ _ g (hs.upd (rp_gv h1)) hr)
theorem ybl (hg : o.guard = none) (hd : o.dst = some d) (hlt : Nat.blt d n = true) (h : POpL o σ ρ fun p ρ' => PWL n ops rest K (pupd σ d p) ρ') : PWL n ops (o :: rest) K σ ρ := fun β κ σ' ρ' g hs hr =>
 wl_l hg hd hlt ((h κ σ' ρ' g hs hr).mono fun v ρ1 κ1 hk ⟨pv, ρp, h1, h2, h3⟩ => h3 β κ1 _ _ (g.mono hk) ((hs.mono hk).upd h1) h2)
theorem pwl_l0 (hg : o.guard = none) (hd : o.dst = none) (h : POpL o σ ρ fun _ ρ' => PWL n ops rest K σ ρ') : PWL n ops (o :: rest) K σ ρ := fun β κ σ' ρ' g hs hr =>
 wl_l0 hg hd ((h κ σ' ρ' g hs hr).mono fun v ρ1 κ1 hk ⟨pv, ρp, h1, h2, h3⟩ => h3 β κ1 _ _ (g.mono hk) (hs.mono hk) h2)
end
def PCall (f : Nat) (pargs : List PV) (ρp : List PRes) (R : PV → List PRes → Prop) : Prop :=
 ∀ κ args ρ, GOK κ → Rps κ pargs args → RRels κ ρp ρ → Call f args ρ κ fun v ρ' κ' => ∃ pv ρp', Rp κ' pv v ∧ RRels κ' ρp' ρ' ∧ R pv ρp'
def PF (f : Nat) (pargs : List PV) (r : PV) : Prop := ∀ κ args, GOK κ → Rps κ pargs args → CallP f args κ fun v κ' => Rp κ' r v
theorem pf_of {f : Nat} {pargs : List PV} {r : PV} (h : PCall f pargs [] fun pv ρ => pv = r ∧ ρ = []) : PF f pargs r := fun κ args g ha =>
 Call.mono (h κ args [] g ha .nil) fun v ρ' κ' _ ⟨pv, ρp', h1, h2, h3, h4⟩ => by subst h3; subst h4; exact ⟨h2.nil_inv, h1⟩
def PFV (pf : PV) (pargs : List PV) (r : PV) : Prop := ∀ κ fv args, GOK κ → Rp κ pf fv → Rps κ pargs args → ∃ f first cap, fv = .func (.func f) (List.toArray first) (List.toArray cap) ∧ CallP f (first ++ args ++ cap) κ fun v κ' => Rp κ' r v
theorem pfv_of {f : Nat} {caps pargs : List PV} {r : PV} (h : PF f (pargs ++ caps) r) : PFV (.fn f caps) pargs r := fun κ fv args g hf ha => by
 cases hf with
 | fn hc => exact ⟨f, [], _, rfl, h κ _ g (ha.app hc)⟩
section
variable {n : Nat} {ops : Array Oper} {o : Oper} {rest : List Oper} {K : PPost} {σ : PEnv} {ρ : List PRes} {d f : Nat} {c : Bool} {l : List Operand} {ts : Array Nat} {pargs : List PV} {r : PV} {x : Operand} {KV : PV → List PRes → Prop}
theorem pl_call (ho : o.op = .call { callee := .value (.func f), args := l.toArray, argTypes := ts }) (ha : l.map (pevc σ) = pargs) (hc : PF f pargs r) (h : KV r ρ) : POpL o σ ρ KV := fun κ σ' ρ' g hs hr =>
 ol_callP ho rfl (hc κ _ g (by rw [← ha]; exact rps_args hs l)) fun v κ' hk hv => ⟨r, ρ, hv, hr.mono hk, h⟩
theorem pl_callv (ho : o.op = .call { callee := .value x, args := l.toArray, argTypes := ts }) (ha : l.map (pevc σ) = pargs) (hc : PFV (pevc σ x) pargs r) (h : KV r ρ) : POpL o σ ρ KV := fun κ σ' ρ' g hs hr => by
 obtain ⟨f, first, cap, h1, h2⟩ := hc κ _ _ g (hs.ev x) (by rw [← ha]; exact rps_args hs l)
 exact ol_callvP ho h1 rfl h2 fun v κ' hk hv => ⟨r, ρ, hv, hr.mono hk, h⟩
theorem ybd (hg : o.guard = none) (hd : o.dst = some d) (hlt : Nat.blt d n = true) (ho : o.op = .call { callee := .value (.func f), args := l.toArray, argTypes := ts }) (ha : l.map (pevc σ) = pargs) (hc : PF f pargs r) (h : PWL n ops rest K (pupd σ d r) ρ) : PWL n ops (o :: rest) K σ ρ :=
 ybl hg hd hlt (pl_call ho ha hc h)
theorem pwl_callv (hg : o.guard = none) (hd : o.dst = some d) (hlt : Nat.blt d n = true) (ho : o.op = .call { callee := .value x, args := l.toArray, argTypes := ts }) (ha : l.map (pevc σ) = pargs) (hc : PFV (pevc σ x) pargs r) (h : PWL n ops rest K (pupd σ d r) ρ) : PWL n ops (o :: rest) K σ ρ :=
 ybl hg hd hlt (pl_callv ho ha hc h)
theorem pwl_callg (hg : PGuardIs ops σ o c) (hd : o.dst = some d) (hlt : Nat.blt d n = true) (ho : o.op = .call { callee := .value (.func f), args := l.toArray, argTypes := ts }) (ha : c = true → l.map (pevc σ) = pargs) (hc : c = true → PF f pargs r) (h : PWL n ops rest K (pupd σ d (pgv c r)) ρ) : PWL n ops (o :: rest) K σ ρ := fun β κ σ' ρ' g hs hr =>
 wl_g (hg κ σ' hs) hd hlt (og_callP ho (fun _ => rfl) (fun hct => hc hct κ _ g (by rw [← ha hct]; exact rps_args hs l)) fun v κ' hk hv => h β κ' _ _ (g.mono hk) ((hs.mono hk).upd (rp_gv hv)) (hr.mono hk))
theorem pl_callR {R : PV → List PRes → Prop} {ρ1 ρ2 : List PRes} (ho : o.op = .call { callee := .value (.func f), args := l.toArray, argTypes := ts }) (ha : l.map (pevc σ) = pargs) (hp : ρ.Perm (ρ1 ++ ρ2)) (hc : PCall f pargs ρ1 R) (h : ∀ pv ρ', R pv ρ' → KV pv (ρ' ++ ρ2)) : POpL o σ ρ KV := fun κ σ' ρ' g hs hr => by
 obtain ⟨rs, h1, h2⟩ := hr.perm hp
 obtain ⟨r1, r2, rfl, h3, h4⟩ := h2.split
 exact ol_call ho rfl h1 (hc κ _ r1 g (by rw [← ha]; exact rps_args hs l) h3) fun v ρ'' κ' hk ⟨pv, ρp, g1, g2, g3⟩ => ⟨pv, ρp ++ ρ2, g1, g2.app (h4.mono hk), h pv ρp g3⟩
end
def pseqK (n : Nat) (y : Code) (K : Exit → PPost) : Exit → PPost := fun e σ ρ => match e with | .normal => PWC n y K σ ρ | e => K e σ ρ
def pblockK (id : Nat) (K : Exit → PPost) : Exit → PPost := fun e σ ρ => match e with | .exit id' => cond (Nat.beq id' id) (K .normal σ ρ) (K (.exit id') σ ρ) | e => K e σ ρ
section
variable {n : Nat} {x y : Code} {K : Exit → PPost} {σ : PEnv} {ρ : List PRes}
theorem pwc_mono {K' : Exit → PPost} (h : PWC n x K σ ρ) (hk : ∀ e σ ρ, K e σ ρ → K' e σ ρ) : PWC n x K' σ ρ := fun β κ σ' ρ' g hs hr =>
 wc_mono (h β κ σ' ρ' g hs hr) fun e _ _ _ _ ⟨σp, ρp, h1, h2, h3⟩ => ⟨σp, ρp, h1, h2, hk e _ _ h3⟩
theorem yab (h : PWC n x (pseqK n y K) σ ρ) : PWC n (.seq x y) K σ ρ := fun β κ σ' ρ' g hs hr =>
 wc_seq (wc_mono (h β κ σ' ρ' g hs hr) fun e σ1 ρ1 κ1 hk ⟨σp, ρp, h1, h2, h3⟩ => by
  cases e with
  | normal => exact h3 β κ1 σ1 ρ1 (g.mono hk) h1 h2
  | _ => exact ⟨σp, ρp, h1, h2, h3⟩)
theorem yao (h : K .normal σ ρ) : PWC n .skip K σ ρ := fun _ _ _ _ _ hs hr => wc_skip ⟨σ, ρ, hs, hr, h⟩
theorem yaq (h : K .ret σ ρ) : PWC n .ret K σ ρ := fun _ _ _ _ _ hs hr => wc_ret ⟨σ, ρ, hs, hr, h⟩
theorem pwc_exit {id : Nat} (h : K (.exit id) σ ρ) : PWC n (.exit id) K σ ρ := fun _ _ _ _ _ hs hr => wc_exit ⟨σ, ρ, hs, hr, h⟩
theorem yaz {id : Nat} (h : PWC n x (pblockK id K) σ ρ) : PWC n (.block id x) K σ ρ := fun β κ σ' ρ' g hs hr =>
 wc_block (wc_mono (h β κ σ' ρ' g hs hr) fun e σ1 ρ1 κ1 hk ⟨σp, ρp, h1, h2, h3⟩ => by
  cases e with
  | exit id' =>
   simp only [pblockK] at h3
   simp only [blockK]
   cases hb : Nat.beq id' id
   ·rw [hb] at h3; exact ⟨σp, ρp, h1, h2, h3⟩
   ·rw [hb] at h3; exact ⟨σp, ρp, h1, h2, h3⟩
  | _ => exact ⟨σp, ρp, h1, h2, h3⟩)
theorem yal {c : Operand} {p : Bool} (hc : pevc σ c = .v (.bool p)) (ht : p = true → PWC n x K σ ρ) (hf : p = false → PWC n y K σ ρ) : PWC n (.cond c x y) K σ ρ := fun β κ σ' ρ' g hs hr =>
 wc_cond (hs.v1 hc) (fun h => ht h β κ σ' ρ' g hs hr) (fun h => hf h β κ σ' ρ' g hs hr)
theorem yaa {id : Nat} {l : List Oper} (h : PWL n l.toArray l (K .normal) σ ρ) : PWC n (.region id l.toArray false) K σ ρ := fun β κ σ' ρ' g hs hr => wc_region (h β κ σ' ρ' g hs hr)
theorem pwc_draw {id : Nat} {l : List Oper} {ρd : List PRes} (ord : List (Nat × Nat)) {lo : List (Nat × Oper)} (ρs : List PRes) (hp : ρ.Perm (ρd ++ ρs)) (hok : okAll n l ord = true) (hl : pickOps l ord = some lo) (h : PWD n l.toArray (K .normal) lo σ ρd ρs) : PWC n (.region id l.toArray true) K σ ρ := fun β κ σ' ρ' g hs hr => by
 obtain ⟨rs', h1, h2⟩ := hr.perm hp
 obtain ⟨r1, r2, rfl, h3, h4⟩ := h2.split
 exact wc_draw ord r2 h1 hok hl fun κ1 hk => h β κ1 σ' r1 r2 (g.mono hk) (hs.mono hk) (h3.mono hk) (h4.mono hk)
theorem pwc_sub {ρ' : List PRes} (hs : PSub ρ' ρ) (h : PWC n x K σ ρ') : PWC n x K σ ρ := fun β κ σ' r g hm hr => by
 obtain ⟨r', h1, h2⟩ := hr.sub hs
 exact wc_sub h1 (h β κ σ' r' g hm h2)
def PHolds (σ : PEnv) : List (Nat × PV) → Prop
 | [] => True
 | (d, v) :: l => σ d = v ∧ PHolds σ l
theorem zhn : PHolds σ [] := trivial
theorem zhc {d : Nat} {v : PV} {l : List (Nat × PV)} (h : σ d = v) (h' : PHolds σ l) : PHolds σ ((d, v) :: l) := ⟨h, h'⟩
theorem pupds_self : ∀ {L : List (Nat × PV)}, PHolds σ L → pupds σ L = σ
 | [], _ => rfl
 | (d, v) :: l, ⟨h1, h2⟩ => by rw [pupds, pupds_self h2, pupd_self h1]
variable {Y S T : Type}
def Cov (σ : PEnv) (ρ : List PRes) (σ' : PEnv) (ρ' : List PRes) : Prop := ∀ n y K, PWC n y K σ' ρ' → PWC n y K σ ρ
def pmidK (L : Y → List (Nat × PV)) (R : Y → List PRes) (J : Y → Prop) (K : Exit → PPost) : Exit → PPost := fun e σ ρ => match e with
 | .normal => ∃ z σ' ρ', Cov σ ρ σ' ρ' ∧ PHolds σ' (L z) ∧ PSub (R z) ρ' ∧ J z
 | e => K e σ ρ
def pcutK (L : Y → List (Nat × PV)) (R : Y → List PRes) (J : Y → Prop) (K : Exit → PPost) : Exit → PPost := fun e σ ρ => match e with
 | .normal => ∃ z, PHolds σ (L z) ∧ PSub (R z) ρ ∧ J z
 | e => K e σ ρ
theorem ybe (L : Y → List (Nat × PV)) (R : Y → List PRes) (J : Y → Prop) (h : PWC n x (pmidK L R J K) σ ρ) (h2 : ∀ z τ, J z → PWC n y K (pupds τ (L z)) (R z)) : PWC n x (pseqK n y K) σ ρ :=
 pwc_mono h fun e σ' ρ' g => by
  cases e with
  | normal =>
   obtain ⟨z, σ1, ρ1, hc, h3, h4, h5⟩ := g
   exact hc _ _ _ (pwc_sub h4 (by have := h2 z σ1 h5; rwa [pupds_self h3] at this))
  | _ => exact g
theorem pwc_cutK (L : Y → List (Nat × PV)) (R : Y → List PRes) (J : Y → Prop) (h : PWC n x (pcutK L R J K) σ ρ) (h2 : ∀ z τ ρ', PSub (R z) ρ' → J z → K .normal (pupds τ (L z)) ρ') : PWC n x K σ ρ :=
 pwc_mono h fun e σ' ρ' g => by
  cases e with
  | normal =>
   obtain ⟨z, h3, h4, h5⟩ := g
   have := h2 z σ' ρ' h4 h5; rwa [pupds_self h3] at this
  | _ => exact g
theorem ybb {L : Y → List (Nat × PV)} {R : Y → List PRes} {J : Y → Prop} (z : Y) (h1 : PHolds σ (L z)) (h2 : PSub (R z) ρ) (h3 : J z) : pmidK L R J K .normal σ ρ := ⟨z, σ, ρ, fun _ _ _ h => h, h1, h2, h3⟩
theorem pk_cut {L : Y → List (Nat × PV)} {R : Y → List PRes} {J : Y → Prop} (z : Y) (h1 : PHolds σ (L z)) (h2 : PSub (R z) ρ) (h3 : J z) : pcutK L R J K .normal σ ρ := ⟨z, h1, h2, h3⟩
theorem pk_mid_cov {L : Y → List (Nat × PV)} {R : Y → List PRes} {J : Y → Prop} {σ1 : PEnv} {ρ1 : List PRes} (hc : Cov σ ρ σ1 ρ1) (h : pmidK L R J K .normal σ1 ρ1) : pmidK L R J K .normal σ ρ := by
 obtain ⟨z, σ2, ρ2, g1, g2⟩ := h
 exact ⟨z, σ2, ρ2, fun n y K k => hc n y K (g1 n y K k), g2⟩
theorem pk_mid_ret {L : Y → List (Nat × PV)} {R : Y → List PRes} {J : Y → Prop} (h : K .ret σ ρ) : pmidK L R J K .ret σ ρ := h
theorem pk_cut_ret {L : Y → List (Nat × PV)} {R : Y → List PRes} {J : Y → Prop} (h : K .ret σ ρ) : pcutK L R J K .ret σ ρ := h
theorem yae (h : PWC n y K σ ρ) : pseqK n y K .normal σ ρ := h
theorem yap (h : K .ret σ ρ) : pseqK n y K .ret σ ρ := h
theorem ybm {id : Nat} (h : K (.exit id) σ ρ) : pseqK n y K (.exit id) σ ρ := h
theorem ybc {id : Nat} (h : K .normal σ ρ) : pblockK id K .normal σ ρ := h
theorem yba {id : Nat} (h : K .ret σ ρ) : pblockK id K .ret σ ρ := h
theorem ybj {id id' : Nat} (he : Nat.beq id' id = true) (h : K .normal σ ρ) : pblockK id K (.exit id') σ ρ := by simp only [pblockK, he]; exact h
theorem pk_block_ne {id id' : Nat} (he : Nat.beq id' id = false) (h : K (.exit id') σ ρ) : pblockK id K (.exit id') σ ρ := by simp only [pblockK, he]; exact h
end
def loopF {S T : Type} (body : S → Option (S ⊕ T)) (N : Nat) : S → Option T :=
 Nat.rec (motive := fun _ => S → Option T) (fun _ => none) (fun _ ih s => match body s with | none => none | some (.inl s') => ih s' | some (.inr t) => some t) N
theorem loopF_succ {S T : Type} (body : S → Option (S ⊕ T)) (N : Nat) (s : S) : loopF body (N + 1) s = match body s with | none => none | some (.inl s') => loopF body N s' | some (.inr t) => some t := rfl
def FUEL : Nat := 1267650600228229401496703205376
section
variable {n : Nat} {x : Code} {K : Exit → PPost} {σ : PEnv} {ρ : List PRes} {Y S T : Type}
def ploopK (L : Y → S → List (Nat × PV)) (R : Y → S → List PRes) (t : T) (o : S ⊕ T) (K : Exit → PPost) : Exit → PPost := fun e σ ρ => match e with
 | .normal => ∃ y s σ' ρ', Cov σ ρ σ' ρ' ∧ o = .inl s ∧ PHolds σ' (L y s) ∧ PSub (R y s) ρ'
 | e => ∃ t', o = .inr t' ∧ (t' = t → K e σ ρ)
theorem pk_loop {L : Y → S → List (Nat × PV)} {R : Y → S → List PRes} {t : T} {o : S ⊕ T} {s : S} (h : some (Sum.inl s) = some o) (y : Y) (h1 : PHolds σ (L y s)) (h2 : PSub (R y s) ρ) : ploopK L R t o K .normal σ ρ := ⟨y, s, σ, ρ, fun _ _ _ h => h, (Option.some.inj h).symm, h1, h2⟩
theorem pk_loop_ret {L : Y → S → List (Nat × PV)} {R : Y → S → List PRes} {t t' : T} {o : S ⊕ T} (h : some (Sum.inr t') = some o) (hk : t' = t → K .ret σ ρ) : ploopK L R t o K .ret σ ρ := ⟨t', (Option.some.inj h).symm, hk⟩
theorem ybh {L : Y → S → List (Nat × PV)} {R : Y → S → List PRes} {t t' : T} {o : S ⊕ T} {id : Nat} (h : some (Sum.inr t') = some o) (hk : t' = t → K (.exit id) σ ρ) : ploopK L R t o K (.exit id) σ ρ := ⟨t', (Option.some.inj h).symm, hk⟩
theorem pwc_loopF (body : S → Option (S ⊕ T)) {N : Nat} {t : T} {s0 : S} (h0 : loopF body N s0 = some t) (L : Y → S → List (Nat × PV)) (R : Y → S → List PRes) (y0 : Y) (h1 : PHolds σ (L y0 s0)) (h2 : PSub (R y0 s0) ρ)
    (round : ∀ y s o τ, body s = some o → PWC n x (ploopK L R t o K) (pupds τ (L y s)) (R y s)) : PWC n (.loop x) K σ ρ := fun β κ σ' ρ' g hs hr =>
  wc_loop (fun (z : Nat) σ1 ρ1 κ1 => ∃ y s σp ρp σq ρq, loopF body z s = some t ∧ GOK κ1 ∧ Sim κ1 σp σ1 ∧ RRels κ1 ρp ρ1 ∧ Cov σp ρp σq ρq ∧ PHolds σq (L y s) ∧ PSub (R y s) ρq) id N ⟨y0, s0, σ, ρ, σ, ρ, h0, g, hs, hr, fun _ _ _ h => h, h1, h2⟩ fun z σ1 ρ1 κ1 _ ⟨y, s, σp, ρp, σq, ρq, k1, k2, k3, k4, kc, k5, k6⟩ => by
    cases z with
    | zero => cases k1
    | succ z =>
      rw [loopF_succ] at k1
      cases hb : body s with
      | none => rw [hb] at k1; cases k1
      | some o =>
        rw [hb] at k1
        have hrd := kc _ _ _ (pwc_sub k6 (by have := round y s o σq hb; rwa [pupds_self k5] at this)) β κ1 σ1 ρ1 k2 k3 k4
        refine wc_mono hrd fun e σ2 ρ2 κ2 hk ⟨σp2, ρp2, m1, m2, m3⟩ => ?_
        cases e with
        | normal =>
          obtain ⟨y', s', σ3, ρ3, mc, rfl, m4, m5⟩ := m3
          exact ⟨z, ⟨y', s', σp2, ρp2, σ3, ρ3, k1, k2.mono hk, m1, m2, mc, m4, m5⟩, Nat.lt_succ_self z⟩
        | _ =>
          obtain ⟨t', rfl, m3⟩ := m3
          simp only [Option.some.injEq] at k1
          exact ⟨σp2, ρp2, m1, m2, m3 k1⟩
end
end SX
end Go.Proofs.YtfcecieppoljlaaGreatDoor
set_option maxRecDepth 100000
namespace Go.Proofs.YtfcecieppoljlaaGreatDoor
namespace SX
open Go
def PRV1 (rv : ResultVar) (σ : PEnv) (ρ : List PRes) (p : PV) : Prop := match rv with
 | .tmp t => σ t = p
 | .cell t T => ∃ b off Tb cs, σ t = .v (.pointer (some ⟨b, off, none⟩)) ∧ PRes.b b Tb cs ∈ ρ ∧ preadAs T (cs.drop off) = some p
def PRV (rs : List ResultVar) (σ : PEnv) (ρ : List PRes) (p : PV) : Prop := match rs with
 | [] => p = .tup []
 | [r] => PRV1 r σ ρ p
 | [r, s] => ∃ v1 v2, PRV1 r σ ρ v1 ∧ PRV1 s σ ρ v2 ∧ p = .tup [v1, v2]
 | [r, s, t] => ∃ v1 v2 v3, PRV1 r σ ρ v1 ∧ PRV1 s σ ρ v2 ∧ PRV1 t σ ρ v3 ∧ p = .tup [v1, v2, v3]
 | _ => False
theorem yat {t : Nat} {σ : PEnv} {ρ : List PRes} {p : PV} (h : σ t = p) : PRV1 (.tmp t) σ ρ p := h
theorem prv1_c {t T b off Tb : Nat} {σ : PEnv} {ρ : List PRes} {cs : List PV} {p : PV} (h1 : σ t = .v (.pointer (some ⟨b, off, none⟩))) (h2 : PRes.b b Tb cs ∈ ρ) (h3 : preadAs T (cs.drop off) = some p) : PRV1 (.cell t T) σ ρ p := ⟨b, off, Tb, cs, h1, h2, h3⟩
theorem prv_1 {r : ResultVar} {σ : PEnv} {ρ : List PRes} {p : PV} (h : PRV1 r σ ρ p) : PRV [r] σ ρ p := h
theorem prv_2 {r s : ResultVar} {σ : PEnv} {ρ : List PRes} {p q : PV} (h : PRV1 r σ ρ p) (h2 : PRV1 s σ ρ q) : PRV [r, s] σ ρ (.tup [p, q]) := ⟨p, q, h, h2, rfl⟩
theorem prv_3 {r s t : ResultVar} {σ : PEnv} {ρ : List PRes} {p q w : PV} (h : PRV1 r σ ρ p) (h2 : PRV1 s σ ρ q) (h3 : PRV1 t σ ρ w) : PRV [r, s, t] σ ρ (.tup [p, q, w]) := ⟨p, q, w, h, h2, h3, rfl⟩
section
variable {κ : Kr} {σ : PEnv} {σ' : Env} {ρ : List PRes} {ρ' : List Res}
theorem prv1 {rv : ResultVar} {p : PV} (hs : Sim κ σ σ') (hr : RRels κ ρ ρ') (h : PRV1 rv σ ρ p) : ∃ v, RV1 rv σ' ρ' v ∧ Rp κ p v := by
 cases rv with
 | tmp t => exact ⟨σ' t, rfl, by have := hs t; rwa [show σ t = p from h] at this⟩
 | cell t T =>
  obtain ⟨b, off, Tb, cs, h1, h2, h3⟩ := h
  obtain ⟨r, hm, hrel⟩ := hr.mem h2
  cases hrel with
  | b ho hcs =>
   obtain ⟨v, h4, h5⟩ := pread (hcs.drop off) (fun u hu => ho u (List.mem_of_mem_drop hu)) h3
   exact ⟨v, RV1.cell (by have := hs t; rw [h1] at this; exact this.val) hm h4, h5⟩
theorem prv {rs : List ResultVar} {p : PV} (hs : Sim κ σ σ') (hr : RRels κ ρ ρ') (h : PRV rs σ ρ p) : ∃ v, RV rs σ' ρ' v ∧ Rp κ p v := by
 match rs, h with
 | [], h => simp only [PRV] at h; subst h; exact ⟨_, rfl, .tup (ws := []) .nil⟩
 | [r], h => exact prv1 hs hr h
 | [r, s], ⟨v1, v2, h1, h2, h3⟩ =>
  obtain ⟨w1, a1, b1⟩ := prv1 hs hr h1
  obtain ⟨w2, a2, b2⟩ := prv1 hs hr h2
  subst h3; exact ⟨_, ⟨w1, w2, a1, a2, rfl⟩, .tup (ws := [w1, w2]) (.cons b1 (.cons b2 .nil))⟩
 | [r, s, t], ⟨v1, v2, v3, h1, h2, h3, h4⟩ =>
  obtain ⟨w1, a1, b1⟩ := prv1 hs hr h1
  obtain ⟨w2, a2, b2⟩ := prv1 hs hr h2
  obtain ⟨w3, a3, b3⟩ := prv1 hs hr h3
  subst h4; exact ⟨_, ⟨w1, w2, w3, a1, a2, a3, rfl⟩, .tup (ws := [w1, w2, w3]) (.cons b1 (.cons b2 (.cons b3 .nil)))⟩
end
def pretK (rs : List ResultVar) (R : PV → List PRes → Prop) : Exit → PPost := fun e σ ρ => match e with
 | .ret | .normal => ∃ p ρ', PRV rs σ ρ p ∧ PSub ρ' ρ ∧ R p ρ'
 | _ => False
theorem yar {rs : List ResultVar} {R : PV → List PRes → Prop} {σ : PEnv} {ρ ρ' : List PRes} {p : PV} (hv : PRV rs σ ρ p) (hs : PSub ρ' ρ) (h : R p ρ') : pretK rs R .ret σ ρ := ⟨p, ρ', hv, hs, h⟩
theorem pret_ofN {rs : List ResultVar} {R : PV → List PRes → Prop} {σ : PEnv} {ρ ρ' : List PRes} {p : PV} (hv : PRV rs σ ρ p) (hs : PSub ρ' ρ) (h : R p ρ') : pretK rs R .normal σ ρ := ⟨p, ρ', hv, hs, h⟩
theorem penter {f n : Nat} {fn : Func} {c : Code} {pargs : List PV} {rs : List ResultVar} {ρp : List PRes} {R : PV → List PRes → Prop} (hf : Tryz.prog.funcs[f]? = some fn) (hok : FnOk f) (hb : fn.body = some c) (hn : fn.ntmps = n) (hres : fn.results = rs.toArray) (hsz : Nat.ble pargs.length n = true)
    (h : PWC n c (pretK rs R) (penv0 pargs) ρp) : PCall f pargs ρp R := fun κ args ρ g ha hr =>
  call_of hf hok hb hn hres (by rw [← ha.len]; exact hsz) (wc_mono (h _ κ _ ρ g (sim0 ha) hr) fun e σ1 ρ1 κ1 hk ⟨σp, ρ2, h1, h2, h3⟩ => by
    have key : (∃ p ρ', PRV rs σp ρ2 p ∧ PSub ρ' ρ2 ∧ R p ρ') → ∀ β, Inv β ρ1 κ1 → ∃ v ρ' κ', RV rs σ1 ρ1 v ∧ Shift ρ1 κ1 ρ' κ' ∧ ∃ pv ρp', Rp κ' pv v ∧ RRels κ' ρp' ρ' ∧ R pv ρp' := fun ⟨p, ρ', k1, k2, k3⟩ _ _ => by
      obtain ⟨v, j1, j2⟩ := prv h1 h2 k1
      obtain ⟨r', j3, j4⟩ := h2.sub k2
      exact ⟨v, r', κ1, j1, .sub j3, p, ρ', j2, j4, k3⟩
    cases e with
    | ret => exact key h3
    | normal => exact key h3
    | _ => exact h3.elim)
theorem Inv.nores {β : Base} {ρ : List Res} {κ : Kr} (h : Inv β ρ κ) : Inv β (noRes :: ρ) κ :=
 ⟨h.le, h.fin, fun r hr => by rcases List.mem_cons.1 hr with rfl | hr; exact trivial; exact h.own r hr, fun r hr => by rcases List.mem_cons.1 hr with rfl | hr; (intro b hb; cases hb); exact h.blk r hr, List.Pairwise.cons (fun _ _ b hb => by cases hb) h.nd⟩
theorem wc_nores {β : Base} {n : Nat} {x : Code} {K : Exit → Post} {σ : Env} {ρ : List Res} {κ : Kr} (h : WC β n x K σ (noRes :: ρ) κ) : WC β n x K σ ρ κ := fun hi => h hi.nores
theorem wl_nores {β : Base} {n : Nat} {ops : Array Oper} {lo : List Oper} {K : Post} {σ : Env} {ρ : List Res} {κ : Kr} (h : WL β n ops lo K σ (noRes :: ρ) κ) : WL β n ops lo K σ ρ κ := fun hi => h hi.nores
theorem wl_nilrow {β : Base} {n : Nat} {ops : Array Oper} {lo : List Oper} {K : Post} {σ : Env} {ρ : List Res} {κ : Kr} (T sz : Nat) (h : WL β n ops lo K σ (Res.row none 0 0 T sz [] :: ρ) κ) : WL β n ops lo K σ ρ κ := fun hi => h (hi.nilrow T sz)
section
variable {n : Nat} {x : Code} {K : Exit → PPost} {KL : PPost} {σ : PEnv} {ρ l : List PRes} {ops : Array Oper} {lo : List Oper} {a : Option Addr} {m c T sz t b k : Nat} {css : List (List PV)} {cs : List PV}
theorem pwc_frz (hp : PPick ρ (.row a m c T sz css) l) (h : PWC n x K σ (.frz a m c css :: l)) : PWC n x K σ ρ := fun β κ σ' ρ' g hs hr => by
 obtain ⟨r, l', h1, h2, h3⟩ := hr.pick hp
 cases h2 with
 | row hb ho hc => exact wc_pubrow h1 fun κ' hk hsl => wc_nores (h β κ' σ' _ (g.mono hk) (hs.mono hk) (.cons (.frz hsl hb ho (hc.mono hk)) (h3.mono hk)))
theorem pwl_frz (hp : PPick ρ (.row a m c T sz css) l) (h : PWL n ops lo KL σ (.frz a m c css :: l)) : PWL n ops lo KL σ ρ := fun β κ σ' ρ' g hs hr => by
 obtain ⟨r, l', h1, h2, h3⟩ := hr.pick hp
 cases h2 with
 | row hb ho hc => exact wl_pubrow h1 fun κ' hk hsl => wl_nores (h β κ' σ' _ (g.mono hk) (hs.mono hk) (.cons (.frz hsl hb ho (hc.mono hk)) (h3.mono hk)))
theorem sim_view {κ : Kr} {σ' : Env} {p : PV} (hs : Sim κ σ σ') (h : Rp κ p (σ' t)) : Sim κ (pupd σ t p) σ' := fun u => by
 unfold pupd; cases e : Nat.beq u t
 ·exact hs u
 ·rw [Nat.eq_of_beq_eq_true e]; exact h
theorem frz_rp {κ : Kr} {r : Res} {w : Value} (h : RRel κ (.frz a m c css) r) (hw : w = .slice a m c) : Rp κ (.slc css) w := by
 subst hw; cases h with
 | frz hs hb h1 hc => exact .slc hs hb h1 hc
theorem frb_rp {κ : Kr} {r : Res} {w : Value} (h : RRel κ (.frb b cs) r) (hw : w = .pointer (some ⟨b, k, none⟩)) : Rp κ (.ref cs k) w := by
 subst hw; cases h with
 | frb hs h1 hc => have := Rp.ref (k := k) hs h1 hc; rwa [Nat.zero_add] at this
theorem pwc_view (t : Nat) (ht : σ t = .v (.slice a m c)) (hm : PRes.frz a m c css ∈ ρ) (h : PWC n x K (pupd σ t (.slc css)) ρ) : PWC n x K σ ρ := fun β κ σ' ρ' g hs hr => by
 obtain ⟨r, _, h2⟩ := hr.mem hm
 exact h β κ σ' ρ' g (sim_view hs (frz_rp h2 (by have := hs t; rw [ht] at this; exact this.val))) hr
theorem pwl_view (t : Nat) (ht : σ t = .v (.slice a m c)) (hm : PRes.frz a m c css ∈ ρ) (h : PWL n ops lo KL (pupd σ t (.slc css)) ρ) : PWL n ops lo KL σ ρ := fun β κ σ' ρ' g hs hr => by
 obtain ⟨r, _, h2⟩ := hr.mem hm
 exact h β κ σ' ρ' g (sim_view hs (frz_rp h2 (by have := hs t; rw [ht] at this; exact this.val))) hr
theorem pwc_frzt (t : Nat) (ht : σ t = .v (.slice a m c)) (hp : PPick ρ (.row a m c T sz css) l) (h : PWC n x K (pupd σ t (.slc css)) (.frz a m c css :: l)) : PWC n x K σ ρ := pwc_frz hp (pwc_view t ht (List.Mem.head _) h)
theorem pwl_frzt (t : Nat) (ht : σ t = .v (.slice a m c)) (hp : PPick ρ (.row a m c T sz css) l) (h : PWL n ops lo KL (pupd σ t (.slc css)) (.frz a m c css :: l)) : PWL n ops lo KL σ ρ := pwl_frz hp (pwl_view t ht (List.Mem.head _) h)
theorem rp_nil {κ : Kr} : Rp κ (.slc []) (.slice none 0 0) := .slc (sz := 0) Sl.nil (by omega) (fun _ h => by cases h) .nil
theorem pwc_nil (t : Nat) (ht : σ t = .v (.slice none 0 0)) (h : PWC n x K (pupd σ t (.slc [])) ρ) : PWC n x K σ ρ := fun β κ σ' ρ' g hs hr => h β κ σ' ρ' g (sim_view hs (by have := hs t; rw [ht] at this; rw [this.val]; exact rp_nil)) hr
theorem pwc_nilrow (T sz : Nat) (h : PWC n x K σ (.row none 0 0 T sz [] :: ρ)) : PWC n x K σ ρ := fun β κ σ' ρ' g hs hr => wc_nilrow T sz (h β κ σ' _ g hs (.cons (.row (by omega) (fun _ h => by cases h) .nil) hr))
theorem pwl_nilrow (T sz : Nat) (h : PWL n ops lo KL σ (.row none 0 0 T sz [] :: ρ)) : PWL n ops lo KL σ ρ := fun β κ σ' ρ' g hs hr => wl_nilrow T sz (h β κ σ' _ g hs (.cons (.row (by omega) (fun _ h => by cases h) .nil) hr))
theorem pwl_viewb {ρ' : List PRes} (hk : cs[k]? = some (.v (.slice a m c))) (hm : PRes.frz a m c css ∈ ρ) (hu : PUpd ρ (.b b T cs) (.b b T (cs.set k (.slc css))) ρ') (h : PWL n ops lo KL σ ρ') : PWL n ops lo KL σ ρ := fun β κ σ' r g hs hr => by
 obtain ⟨rf, _, h2⟩ := hr.mem hm
 obtain ⟨r0, l1, l2, rfl, h3, h4⟩ := hr.upd hu
 cases h3 with
 | b ho hc =>
  obtain ⟨v, hv, hp⟩ := hc.get hk
  have e := hp.val
  have hset := hc.set (k := k) (frz_rp h2 e)
  have : ∀ (l : List Value) (k : Nat) (v : Value), l[k]? = some v → l.set k v = l := fun l k v h => by
   apply List.ext_getElem?; intro i; rw [List.getElem?_set]; split
   ·rename_i hik; subst hik; rw [h]; have := (List.getElem?_eq_some_iff.1 h).1; simp [this]
   ·rfl
  rw [this _ _ _ hv] at hset
  exact h β κ σ' _ g hs (h4 κ _ (.refl _) (.b ho hset))
theorem pwl_frb (t : Nat) (ht : σ t = .v (.pointer (some ⟨b, k, none⟩))) (hp : PPick ρ (.b b T cs) l) (h : PWL n ops lo KL (pupd σ t (.ref cs k)) (.frb b cs :: l)) : PWL n ops lo KL σ ρ := fun β κ σ' ρ' g hs hr => by
  obtain ⟨r, l', h1, h2, h3⟩ := hr.pick hp
  cases h2 with
  | b ho hc => exact wl_pub h1 rfl fun κ' hk hS hsay => wl_nores (by
      have hfr : RRel κ' (.frb b cs) noRes := .frb (sh_pub hS hsay) ho (hc.mono hk)
      exact h β κ' σ' _ (g.mono hk) (sim_view (hs.mono hk) (frb_rp hfr (by have := hs t; rw [ht] at this; exact this.val))) (.cons hfr (h3.mono hk)))
end
theorem noq {p : PV} {o : Oper} {κ : Kr} {σ' : Env} {ρ' : List Res} : ∃ v, (false = true → Rp κ p v) ∧ OpQ false o σ' ρ' κ v := ⟨undef, fun h => (by cases h), fun h => (by cases h)⟩
section
variable {o : Oper} {σ : PEnv} {ρ : List PRes} {c : Bool} {x y y2 : Operand}
theorem yam {p : PV} (ho : o.op = .move x) (hx : PEv σ c x p) : POpQ c o σ ρ p := fun κ σ' ρ' g hs hr => ⟨_, hs.pe hx, oq_move ho (.p rfl)⟩
theorem pq_assign {p : PV} (ho : o.op = .assign x) (hx : PEv σ c x p) : POpQ c o σ ρ p := fun κ σ' ρ' g hs hr => ⟨_, hs.pe hx, oq_assign ho (.p rfl)⟩
theorem pq_or {cc a b : Operand} {p q : Bool} (ho : o.op = .pick cc a b) (h1 : PEv σ c cc (.v (.bool p))) (h2 : PEv σ c a (.v (.bool true))) (h3 : PEv σ (c && !p) b (.v (.bool q))) : POpQ c o σ ρ (.v (.bool (p || q))) := fun κ σ' ρ' g hs hr => ⟨_, fun _ => .v rfl, oq_or ho (hs.ve h1) (hs.ve h2) (hs.ve h3)⟩
theorem pq_and {cc a b : Operand} {p q : Bool} (ho : o.op = .pick cc a b) (h1 : PEv σ c cc (.v (.bool p))) (h2 : PEv σ c b (.v (.bool false))) (h3 : PEv σ (c && p) a (.v (.bool q))) : POpQ c o σ ρ (.v (.bool (p && q))) := fun κ σ' ρ' g hs hr => ⟨_, fun _ => .v rfl, oq_and ho (hs.ve h1) (hs.ve h2) (hs.ve h3)⟩
variable {t t' : Nat} {k : IntKind} {a b : Int}
theorem yak {op : BinOp} {r : Bool} (ho : o.op = .binOp op t x y t') (hx : PEv σ c x (.v (.int k a))) (hy : PEv σ c y (.v (.int k b)))
    (hr : (match op with | .eql => some (a == b) | .neq => some (a != b) | .lss => some (decide (a < b)) | .leq => some (decide (a ≤ b)) | .gtr => some (decide (b < a)) | .geq => some (decide (b ≤ a)) | _ => none) = some r) : POpQ c o σ ρ (.v (.bool r)) := fun κ σ' ρ' g hs _ => ⟨_, fun _ => .v rfl, oq_cmp ho (hs.ve hx) (hs.ve hy) hr⟩
theorem yas {op : BinOp} {r : Int} (ho : o.op = .binOp op t x y t') (hx : PEv σ c x (.v (.int k a))) (hy : PEv σ c y (.v (.int k b)))
    (hr : (match op with | .add => some (a + b) | .sub => some (a - b) | .mul => some (a * b) | _ => none) = some r) : POpQ c o σ ρ (.v (.int k (k.wrap r))) := fun κ σ' ρ' g hs _ => ⟨_, fun _ => .v rfl, oq_arith ho (hs.ve hx) (hs.ve hy) hr⟩
theorem pq_quo (ho : o.op = .binOp .quo t x y t') (hx : PEv σ c x (.v (.int k a))) (hy : PEv σ c y (.v (.int k b))) (hb : c = true → b ≠ 0) : POpQ c o σ ρ (.v (.int k (k.wrap (a.tdiv b)))) := fun κ σ' ρ' g hs _ => ⟨_, fun _ => .v rfl, oq_quo ho (hs.ve hx) (hs.ve hy) hb rfl⟩
theorem pq_rem (ho : o.op = .binOp .rem t x y t') (hx : PEv σ c x (.v (.int k a))) (hy : PEv σ c y (.v (.int k b))) (hb : c = true → b ≠ 0) : POpQ c o σ ρ (.v (.int k (a.tmod b))) := fun κ σ' ρ' g hs _ => ⟨_, fun _ => .v rfl, oq_rem ho (hs.ve hx) (hs.ve hy) hb rfl⟩
def iand (k : IntKind) (a b : Int) : Int := k.wrap ((BitVec.ofInt k.bits a &&& BitVec.ofInt k.bits b).toNat : Int)
def ior (k : IntKind) (a b : Int) : Int := k.wrap ((BitVec.ofInt k.bits a ||| BitVec.ofInt k.bits b).toNat : Int)
def ixor (k : IntKind) (a b : Int) : Int := k.wrap ((BitVec.ofInt k.bits a ^^^ BitVec.ofInt k.bits b).toNat : Int)
theorem pq_bits {op : BinOp} {r : Int} (ho : o.op = .binOp op t x y t') (hx : PEv σ c x (.v (.int k a))) (hy : PEv σ c y (.v (.int k b)))
    (hr : (match op with | .and => some (iand k a b) | .or => some (ior k a b) | .xor => some (ixor k a b) | _ => none) = some r) : POpQ c o σ ρ (.v (.int k r)) := fun κ σ' ρ' g hs _ => ⟨_, fun _ => .v rfl, oq_bits ho (hs.ve hx) (hs.ve hy) (by cases op <;> exact hr)⟩
def ishl (k : IntKind) (a b : Int) : Int := k.wrap (a * 2 ^ min b.toNat k.bits)
def ishr (k : IntKind) (a b : Int) : Int := a.fdiv (2 ^ min b.toNat k.bits)
theorem pq_shift {op : BinOp} {k' : IntKind} {r : Int} (ho : o.op = .binOp op t x y t') (hx : PEv σ c x (.v (.int k a))) (hy : PEv σ c y (.v (.int k' b))) (h0 : c = true → 0 ≤ b)
    (hr : (match op with | .shl => some (ishl k a b) | .shr => some (ishr k a b) | _ => none) = some r) : POpQ c o σ ρ (.v (.int k r)) := fun κ σ' ρ' g hs _ => ⟨_, fun _ => .v rfl, oq_shift ho (hs.ve hx) (hs.ve hy) h0 (by cases op <;> exact hr)⟩
theorem pq_conv {k' : IntKind} {s d : Nat} {ds : TypeDesc} (ho : o.op = .convert s d x) (h1 : und s = some ds) (h2 : und d = some (.int k')) (hx : PEv σ c x (.v (.int k a))) : POpQ c o σ ρ (.v (.int k' (k'.wrap a))) := fun κ σ' ρ' g hs _ => ⟨_, fun _ => .v rfl, oq_conv ho h1 h2 (hs.ve hx) rfl⟩
theorem pq_not {p : Bool} {ty : Nat} (ho : o.op = .unOp .not ty x) (hx : PEv σ c x (.v (.bool p))) : POpQ c o σ ρ (.v (.bool !p)) := fun κ σ' ρ' g hs _ => ⟨_, fun _ => .v rfl, oq_not ho (hs.ve hx)⟩
theorem pq_eqB {op : BinOp} {p q r : Bool} (ho : o.op = .binOp op t x y t') (hu : und t = some .bool) (hx : PEv σ c x (.v (.bool p))) (hy : PEv σ c y (.v (.bool q)))
    (hr : (match op with | .eql => some (p == q) | .neq => some (p != q) | _ => none) = some r) : POpQ c o σ ρ (.v (.bool r)) := fun κ σ' ρ' g hs _ => ⟨_, fun _ => .v rfl, oq_eqB ho hu (hs.ve hx) (hs.ve hy) hr⟩
theorem pq_str {op : BinOp} {s u : ByteArray} {r : Bool} (ho : o.op = .binOp op t x y t') (hx : PEv σ c x (.v (.string s))) (hy : PEv σ c y (.v (.string u)))
    (hr : (match op with | .eql => some (decide (s = u)) | .neq => some (!decide (s = u)) | .lss => some (Op.bytesLess s.toList u.toList) | .leq => some (Op.bytesLess s.toList u.toList || decide (s = u)) | .gtr => some (!(Op.bytesLess s.toList u.toList || decide (s = u))) | .geq => some (!Op.bytesLess s.toList u.toList) | _ => none) = some r) : POpQ c o σ ρ (.v (.bool r)) := fun κ σ' ρ' g hs _ => ⟨_, fun _ => .v rfl, oq_str ho (hs.ve hx) (hs.ve hy) hr⟩
theorem pq_nilCheck {ad : Addr} (ho : o.op = .nilCheck x) (hx : PEv σ c x (.v (.pointer (some ad)))) : POpQ c o σ ρ (.v (.pointer (some ad))) := fun κ σ' ρ' g hs _ => ⟨_, fun _ => .v rfl, oq_nilCheck ho (hs.ve hx)⟩
theorem yac {s f bb off kk ty : Nat} {l : List (Nat × Nat)} {z : Value} {sz by' : Nat} (ho : o.op = .fieldAddr s x f) (h1 : fldL s = some l) (h2 : l[f]? = some (kk, ty)) (hi : inf ty = some (z, sz, by')) (h0 : Nat.blt 0 sz = true)
    (hx : PEv σ c x (.v (.pointer (some ⟨bb, off, none⟩)))) : POpQ c o σ ρ (.v (.pointer (some ⟨bb, off + kk, none⟩))) := fun κ σ' ρ' g hs _ => ⟨_, fun _ => .v rfl, oq_fieldAddr ho h1 h2 hi h0 (hs.ve hx)⟩
theorem pq_fieldAddrR {s f off kk ty : Nat} {l : List (Nat × Nat)} {z : Value} {sz by' : Nat} {cs : List PV} (ho : o.op = .fieldAddr s x f) (h1 : fldL s = some l) (h2 : l[f]? = some (kk, ty)) (hi : inf ty = some (z, sz, by')) (h0 : Nat.blt 0 sz = true)
    (hx : PEv σ c x (.ref cs off)) : POpQ c o σ ρ (.ref cs (off + kk)) := fun κ σ' ρ' g hs _ => by
  cases c with
  | false => exact noq
  | true =>
    have h := hs.pe hx rfl
    generalize he : ev σ' x = w at h
    cases h with
    | ref h ho1 hss =>
      rename_i ds bb o0
      exact ⟨_, fun _ => .ref h ho1 hss, by have := oq_fieldAddr (c := true) (ρ := ρ') (κ := κ) ho h1 h2 hi h0 (.p he); rwa [Nat.add_assoc] at this⟩
theorem yag {bb off T : Nat} {cs : List PV} {p : PV} (ho : o.op = .load t x) (hx : PEv σ c x (.v (.pointer (some ⟨bb, off, none⟩)))) (hm : PRes.b bb T cs ∈ ρ) (hr : preadAs t (cs.drop off) = some p) : POpQ c o σ ρ p := fun κ σ' ρ' g hs hrr => by
 obtain ⟨r, hr1, hr2⟩ := hrr.mem hm
 cases hr2 with
 | b h1 hc =>
  obtain ⟨v, h4, h5⟩ := pread (hc.drop off) (fun u hu => h1 u (List.mem_of_mem_drop hu)) hr
  exact ⟨v, fun _ => h5, oq_load_b ho (hs.ve hx) hr1 h4⟩
theorem Sh.drop {κ : Kr} {b off : Nat} {ds : List Value} (h : Sh κ b off ds) (k : Nat) : Sh κ b (off + k) (ds.drop k) := ⟨h.1, fun j u hu => by rw [Nat.add_assoc]; exact h.2 (k + j) u (by rwa [List.getElem?_drop] at hu)⟩
theorem pq_load_r {off : Nat} {cs : List PV} {p : PV} (ho : o.op = .load t x) (hx : PEv σ c x (.ref cs off)) (hr : preadAs t (cs.drop off) = some p) : POpQ c o σ ρ p := fun κ σ' ρ' g hs hrr => by
 cases c with
 | false => exact noq
 | true =>
  have h := hs.pe hx rfl
  generalize he : ev σ' x = w at h
  cases h with
  | ref h h1 hss =>
   obtain ⟨v, h4, h5⟩ := pread (hss.drop off) (fun u hu => h1 u (List.mem_of_mem_drop hu)) hr
   exact ⟨v, fun _ => h5, oq_load_s ho (.p he) (fun _ => h.drop off) h4⟩
theorem pq_extract {i : Nat} {vs : List PV} {p : PV} (ho : o.op = .extract x i) (hx : PEv σ c x (.tup vs)) (hr : vs[i]? = some p) : POpQ c o σ ρ p := fun κ σ' ρ' g hs hrr => by
 cases c with
 | false => exact noq
 | true =>
  have h := hs.pe hx rfl
  generalize he : ev σ' x = w at h
  cases h with
  | tup hss =>
   obtain ⟨v, h4, h5⟩ := hss.get hr
   exact ⟨v, fun _ => h5, oq_extract ho (.p he) h4⟩
theorem pq_len {E : Nat} {xs : List (List PV)} (ho : o.op = .call { callee := .builtin .len, args := #[x], argTypes := #[t] }) (hu : und t = some (.slice E)) (hx : PEv σ c x (.slc xs)) : POpQ c o σ ρ (.v (.int .i64 (xs.length : Int))) := fun κ σ' ρ' g hs hrr => by
 cases c with
 | false => exact noq
 | true =>
  have h := hs.pe hx rfl
  generalize he : ev σ' x = w at h
  cases h with
  | slc hsl hb h1 hss => exact ⟨_, fun _ => .v rfl, by have := oq_len (c := true) (ρ := ρ') (κ := κ) ho hu (.p he); rwa [← hsl.len, ← hss.len] at this⟩
theorem pq_lenO {E nn cp : Nat} {ad : Option Addr} (ho : o.op = .call { callee := .builtin .len, args := #[x], argTypes := #[t] }) (hu : und t = some (.slice E)) (hx : PEv σ c x (.v (.slice ad nn cp))) : POpQ c o σ ρ (.v (.int .i64 (nn : Int))) := fun κ σ' ρ' g hs hrr => ⟨_, fun _ => .v rfl, oq_len ho hu (hs.ve hx)⟩
theorem pq_lenS {s : ByteArray} (ho : o.op = .call { callee := .builtin .len, args := #[x], argTypes := #[t] }) (hu : und t = some .string) (hx : PEv σ c x (.v (.string s))) : POpQ c o σ ρ (.v (.int .i64 (s.size : Int))) := fun κ σ' ρ' g hs hrr => ⟨_, fun _ => .v rfl, oq_lenS ho hu (hs.ve hx)⟩
def imin (a b : Int) : Int := if b < a then b else a
def imax (a b : Int) : Int := if a < b then b else a
theorem pq_min {ts : List Nat} (ho : o.op = .call { callee := .builtin .min, args := #[x, y], argTypes := ts.toArray }) (hx : PEv σ c x (.v (.int k a))) (hy : PEv σ c y (.v (.int k b))) : POpQ c o σ ρ (.v (.int k (imin a b))) := fun κ σ' ρ' g hs hrr => ⟨_, fun _ => .v rfl, oq_min ho (hs.ve hx) (hs.ve hy)⟩
theorem pq_max {ts : List Nat} (ho : o.op = .call { callee := .builtin .max, args := #[x, y], argTypes := ts.toArray }) (hx : PEv σ c x (.v (.int k a))) (hy : PEv σ c y (.v (.int k b))) : POpQ c o σ ρ (.v (.int k (imax a b))) := fun κ σ' ρ' g hs hrr => ⟨_, fun _ => .v rfl, oq_max ho (hs.ve hx) (hs.ve hy)⟩
def idx {α : Type} (xs : List α) (i : Int) : Option α := if 0 ≤ i then xs[i.toNat]? else none
theorem idx_some {α : Type} {xs : List α} {i : Int} {m : α} (h : idx xs i = some m) : 0 ≤ i ∧ xs[i.toNat]? = some m := by
 unfold idx at h; split at h
 ·exact ⟨by assumption, h⟩
 ·cases h
theorem pq_index {α : Type} {E sz by' : Nat} {z : Value} {enc : α → List PV} {xs : List α} {m : α} (ho : o.op = .indexAddr t x y) (hu : und t = some (.slice E)) (hi : inf E = some (z, sz, by')) (hw : ∀ m, Nat.beq (enc m).length sz = true)
    (hx : PEv σ c x (.slc (xs.map enc))) (hy : PEv σ c y (.v (.int k a))) (hm : c = true → idx xs a = some m) : POpQ c o σ ρ (.ref (enc m) 0) := fun κ σ' ρ' g hs hrr => by
  cases c with
  | false => exact noq
  | true =>
    obtain ⟨h0, hmm⟩ := idx_some (hm rfl)
    have h := hs.pe hx rfl
    generalize he : ev σ' x = w at h
    cases h with
    | slc hsl hb h1 hss =>
      rename_i ad nn cp sz' css
      have hcs : (xs.map enc)[a.toNat]? = some (enc m) := by rw [List.getElem?_map, hmm]; rfl
      obtain ⟨ds, hd, hds⟩ := hss.get hcs
      have hlt : a.toNat < nn := by rw [← hsl.len]; exact (List.getElem?_eq_some_iff.1 hd).1
      obtain ⟨bb, off, ha, hsh⟩ := hsl.at_ (by omega)
      have hwid : sz' = sz := by
        have e1 := hsl.wid ds (List.mem_of_getElem? hd)
        have e2 := hds.len
        have e3 := Nat.eq_of_beq_eq_true (hw m)
        omega
      subst hwid
      have h2 := oq_index (c := true) (ρ := ρ') (κ := κ) (j := a.toNat) ho hu hi (.p (by rw [he, ha])) (hs.ve hy) (fun _ => by omega) (fun _ => hlt)
      exact ⟨_, fun _ => by have := Rp.ref (k := 0) (hsh _ _ hd) (h1 ds (List.mem_of_getElem? hd)) hds; rwa [Nat.add_zero] at this, h2⟩
theorem pq_indexS {s : ByteArray} {u : UInt8} (ho : o.op = .index t x y) (hu : und t = some .string) (hx : PEv σ c x (.v (.string s))) (hy : PEv σ c y (.v (.int k a))) (hm : c = true → idx s.data.toList a = some u) : POpQ c o σ ρ (.v (.int .u8 (u.toNat : Int))) := fun κ σ' ρ' g hs hrr => by
 refine ⟨_, fun _ => .v rfl, fun hc => ?_⟩
 obtain ⟨h0, hmm⟩ := idx_some (hm hc)
 have hlt := (List.getElem?_eq_some_iff.1 hmm).1
 have h := oq_indexS (c := true) (ρ := ρ') (κ := κ) (j := a.toNat) ho hu (fun _ => hs.ve hx hc) (fun _ => hs.ve hy hc) (fun _ => by omega) (fun _ => by simpa using hlt) rfl
 rwa [List.getD_eq_getElem?_getD, hmm] at h
end
end SX
end Go.Proofs.YtfcecieppoljlaaGreatDoor
set_option maxRecDepth 100000
namespace Go.Proofs.YtfcecieppoljlaaGreatDoor
namespace SX
open Go
def PSplice (cs : List PV) (k : Nat) (vs cs' : List PV) : Prop := cs' = cs.take k ++ vs ++ cs.drop (k + vs.length) ∧ k + vs.length ≤ cs.length
theorem zln {cs : List PV} : PSplice cs 0 [] cs := ⟨by simp, by simp⟩
theorem zlc {x v : PV} {l l' vs : List PV} (h : PSplice l 0 vs l') : PSplice (x :: l) 0 (v :: vs) (v :: l') := by
 obtain ⟨h1, h2⟩ := h
 refine ⟨?_, by simp at h2 ⊢; omega⟩
 rw [h1]; simp [Nat.add_comm]
theorem zlt {x : PV} {l l' vs : List PV} {k : Nat} (h : PSplice l k vs l') : PSplice (x :: l) (k + 1) vs (x :: l') := by
 obtain ⟨h1, h2⟩ := h
 refine ⟨?_, by simp at h2 ⊢; omega⟩
 rw [h1, show k + 1 + vs.length = (k + vs.length) + 1 by omega]; simp
section
variable {o : Oper} {σ : PEnv} {ρ : List PRes} {x y : Operand} {t : Nat} {K : PV → List PRes → Prop}
theorem pl_q {p : PV} (h : POpQ true o σ ρ p) (hk : K p ρ) : POpL o σ ρ K := fun κ σ' ρ' g hs hr => by
 obtain ⟨v, h1, h2⟩ := h κ σ' ρ' g hs hr
 exact ol_q h2 ⟨p, ρ, h1 rfl, hr, hk⟩
theorem pl_box {cs : List PV} (ho : o.op = .box t x) (hx : cellsP (pevc σ x) = some cs) (h : ∀ b, K (.v (.pointer (some ⟨b, 0, none⟩))) (.b b t cs :: ρ)) : POpL o σ ρ K := fun κ σ' ρ' g hs hr => by
 obtain ⟨ds, h1, h2, h3⟩ := (hs.ev x).cells hx
 exact ol_box ho h1 fun b κ' hk => ⟨_, _, .v rfl, .cons (.b h3 (h2.mono hk)) (hr.mono hk), h b⟩
def zcells (z : Value) : List PV := (cellsL z).map fun x => cond (okb x) (.v x) .any
theorem pl_alloc {z : Value} {sz by' : Nat} {cs : List PV} (ho : o.op = .alloc t) (hz : inf t = some (z, sz, by')) (hc : zcells z = cs) (h1 : (cellsL z).all Value.oneCell' = true) (h : ∀ b, K (.v (.pointer (some ⟨b, 0, none⟩))) (.b b t cs :: ρ)) : POpL o σ ρ K := fun κ σ' ρ' g hs hr =>
 ol_alloc ho hz rfl fun b κ' hk => ⟨_, _, .v rfl, .cons (.b (fun u hu => List.all_eq_true.1 h1 u hu) (by rw [← hc]; exact rps_const _)) (hr.mono hk), h b⟩
theorem splice_rps {κ : Kr} {cs vs : List PV} {ds ws : List Value} {off : Nat} (h : Rps κ cs ds) (hv : Rps κ vs ws) : Rps κ (cs.take off ++ vs ++ cs.drop (off + vs.length)) (ds.take off ++ ws ++ ds.drop (off + ws.length)) := by
 rw [hv.len]; exact ((h.take off).app hv).app (h.drop _)
theorem splice_one {ds ws : List Value} {off k : Nat} (h : One ds) (hw : One ws) : One (ds.take off ++ ws ++ ds.drop k) := fun u hu => by
 rcases List.mem_append.1 hu with hu | hu
 ·rcases List.mem_append.1 hu with hu | hu
  ·exact h u (List.mem_of_mem_take hu)
  ·exact hw u hu
 ·exact h u (List.mem_of_mem_drop hu)
theorem yax {b off T sz by' : Nat} {z : Value} {cs vs cs' : List PV} {ρ' : List PRes} (ho : o.op = .store t x y) (hx : pevc σ x = .v (.pointer (some ⟨b, off, none⟩))) (hv : cellsP (pevc σ y) = some vs)
    (hz : inf t = some (z, sz, by')) (hsz : Nat.beq vs.length sz = true) (hu : PUpd ρ (.b b T cs) (.b b T cs') ρ') (hsp : PSplice cs off vs cs') (h : K (.v undef) ρ') : POpL o σ ρ K := fun κ σ' r g hs hr => by
  obtain ⟨ws, h1, h2, h3⟩ := (hs.ev y).cells hv
  obtain ⟨r0, l1, l2, rfl, h4, h5⟩ := hr.upd hu
  obtain ⟨rfl, hl⟩ := hsp
  cases h4 with
  | b ho1 hc =>
    rename_i ds
    have hsz' := Nat.eq_of_beq_eq_true hsz
    have e1 := h2.len; have e2 := hc.len
    refine ol_store (T := T) (cs := ds) ho (hs.v1 hx) h1 hz (by omega) (List.all_eq_true.2 h3) (Nat.ble_eq_true_of_le (by omega)) ⟨l1, l2, rfl, rfl⟩ fun κ' hk => ⟨.v undef, ρ', .v rfl, h5 κ' _ hk (.b (splice_one ho1 h3) ((splice_rps hc h2).mono hk)), h⟩
def PFill (σ : PEnv) (fl : List (Nat × Nat)) : List PV → List (Nat × Operand) → List PV → Prop
 | zs, [], cs => zs = cs
 | zs, (i, x) :: r, cs => ∃ k ty vs zs' z by', fl[i]? = some (k, ty) ∧ inf ty = some (z, vs.length, by') ∧ cellsP (pevc σ x) = some vs ∧ PSplice zs k vs zs' ∧ PFill σ fl zs' r cs
theorem zfn {fl : List (Nat × Nat)} {zs : List PV} : PFill σ fl zs [] zs := rfl
theorem zfc {fl : List (Nat × Nat)} {zs zs' cs vs : List PV} {i k ty sz by' : Nat} {z : Value} {x : Operand} {r : List (Nat × Operand)} (h1 : fl[i]? = some (k, ty)) (h2 : inf ty = some (z, sz, by')) (h3 : cellsP (pevc σ x) = some vs) (h4 : Nat.beq vs.length sz = true) (h5 : PSplice zs k vs zs') (h6 : PFill σ fl zs' r cs) : PFill σ fl zs ((i, x) :: r) cs :=
 ⟨k, ty, vs, zs', z, by', h1, by rw [Nat.eq_of_beq_eq_true h4]; exact h2, h3, h5, h6⟩
theorem PFill.real {κ : Kr} {σ' : Env} (hs : Sim κ σ σ') {fl : List (Nat × Nat)} : ∀ {parts : List (Nat × Operand)} {zs cs : List PV} {zv : List Value}, PFill σ fl zs parts cs → Rps κ zs zv → One zv → ∃ cv, FillR σ' fl zv parts cv ∧ Rps κ cs cv ∧ One cv
 | [], zs, cs, zv, h, hr, h1 => by cases h; exact ⟨zv, rfl, hr, h1⟩
 | (i, x) :: r, zs, cs, zv, ⟨k, ty, vs, zs', z, by', g1, g2, g3, g4, g5⟩, hr, h1 => by
  obtain ⟨ws, k1, k2, k3⟩ := (hs.ev x).cells g3
  obtain ⟨rfl, hl⟩ := g4
  obtain ⟨cv, j1, j2, j3⟩ := PFill.real hs g5 (splice_rps hr k2) (splice_one h1 k3)
  have e1 := k2.len; have e2 := hr.len
  exact ⟨cv, ⟨k, ty, ws, _, z, by', g1, by rw [← e1]; exact g2, k1, ⟨rfl, by omega⟩, j1⟩, j2, j3⟩
theorem pq_build {c : Bool} {sz by' : Nat} {parts : List (Nat × Operand)} {fl : List (Nat × Nat)} {zs : List Value} {zp cs : List PV} (hc : c = true) (ho : o.op = .build t parts.toArray) (hz : inf t = some (.agg zs.toArray, sz, by')) (hf : fldL t = some fl) (hall : (fl.all fun p => (inf p.2).isSome) = true) (hzp : (zs.map fun x => cond (okb x) (.v x) .any) = zp) (hz1 : zs.all Value.oneCell' = true) (h : PFill σ fl zp parts cs) : POpQ c o σ ρ (.agg cs) := fun κ σ' ρ' g hs hr => by
 subst hc
 obtain ⟨cv, h1, h2, h3⟩ := h.real hs (zv := zs) (by rw [← hzp]; exact rps_const zs) (fun u hu => List.all_eq_true.1 hz1 u hu)
 exact ⟨_, fun _ => .agg h3 h2, oq_build ho hz hf hall h1⟩
def PLit (σ : PEnv) : Nat → List (Nat × Operand) → List (List PV) → Prop
 | _, [], css => css = []
 | k, (i, x) :: r, css => ∃ cs css', css = cs :: css' ∧ i = k ∧ cellsP (pevc σ x) = some cs ∧ PLit σ (k + 1) r css'
theorem zin {k : Nat} : PLit σ k [] [] := rfl
theorem zic {k : Nat} {x : Operand} {cs : List PV} {r : List (Nat × Operand)} {css : List (List PV)} (h1 : cellsP (pevc σ x) = some cs) (h : PLit σ (k + 1) r css) : PLit σ k ((k, x) :: r) (cs :: css) := ⟨_, _, rfl, rfl, h1, h⟩
theorem PLit.real {κ : Kr} {σ' : Env} (hs : Sim κ σ σ') : ∀ {k : Nat} {parts : List (Nat × Operand)} {css : List (List PV)}, PLit σ k parts css → ∃ dss, Lit σ' k parts dss ∧ Rpss κ css dss ∧ Ones dss
 | _, [], _, h => by cases h; exact ⟨[], rfl, .nil, fun _ h => by cases h⟩
 | k, (i, x) :: r, _, ⟨cs, css', e1, e2, h1, h2⟩ => by
  subst e1; subst e2
  obtain ⟨ds, k1, k2, k3⟩ := (hs.ev x).cells h1
  obtain ⟨dss, j1, j2, j3⟩ := h2.real hs
  exact ⟨ds :: dss, ⟨_, _, rfl, rfl, k1, j1⟩, .cons k2 j2, fun d hd => by rcases List.mem_cons.1 hd with rfl | hd; exact k3; exact j3 d hd⟩
theorem rpss_wid {κ : Kr} {sz : Nat} : ∀ {css : List (List PV)} {dss : List (List Value)}, Rpss κ css dss → (css.all fun cs => Nat.beq cs.length sz) = true → (dss.all fun cs => Nat.beq cs.length sz) = true
 | _, _, .nil, _ => rfl
 | _, _, .cons h hs, hw => by
  simp only [List.all_cons, Bool.and_eq_true] at hw ⊢
  exact ⟨by rw [← h.len]; exact hw.1, rpss_wid hs hw.2⟩
theorem pl_lit {E len sz by' : Nat} {z : Value} {parts : List (Nat × Operand)} {css : List (List PV)} (hg : o.guard = none) (ho : o.op = .buildSlice t len parts.toArray) (hu : und t = some (.slice E)) (hi : inf E = some (z, sz, by')) (hz : Nat.beq z.cells.size sz = true)
    (hp : PLit σ 0 parts css) (hl : Nat.beq css.length len = true) (hw : (css.all fun cs => Nat.beq cs.length sz) = true) (hb : Nat.ble (len * sz) 16777216 = true) (hb2 : Nat.ble len 16777216 = true) (h : ∀ b, K (.v (.slice (some ⟨b, 0, none⟩) len len)) (.row (some ⟨b, 0, none⟩) len len E sz css :: ρ)) : POpL o σ ρ K := fun κ σ' ρ' g hs hr => by
  obtain ⟨dss, h1, h2, h3⟩ := hp.real hs
  exact ol_lit hg ho hu hi hz h1 (by rw [← h2.len]; exact hl) (rpss_wid h2 hw) hb hb2 fun b κ' hk => ⟨_, _, .v rfl, .cons (.row (by have := Nat.le_of_ble_eq_true hb2; omega) h3 (h2.mono hk)) (hr.mono hk), h b⟩
theorem plate_lit {E len sz by' : Nat} {z : Value} {parts : List (Nat × Operand)} {css : List (List PV)} (hg : o.guard = none) (ho : o.op = .buildSlice t len parts.toArray) (hu : und t = some (.slice E)) (hi : inf E = some (z, sz, by')) (hz : Nat.beq z.cells.size sz = true)
    (hp : PLit σ 0 parts css) (hl : Nat.beq css.length len = true) (hw : (css.all fun cs => Nat.beq cs.length sz) = true) (hb : Nat.ble (len * sz) 16777216 = true) : ∀ κ σ', Sim κ σ σ' → ∃ ds, Rps κ css.flatten ds ∧ One ds ∧ LateRun o σ' E ds (fun b => .slice (some ⟨b, 0, none⟩) len len) := fun κ σ' hs => by
  obtain ⟨dss, h1, h2, h3⟩ := hp.real hs
  exact ⟨dss.flatten, h2.flat, fun u hu => by obtain ⟨d, hd1, hd2⟩ := List.mem_flatten.1 hu; exact h3 d hd1 u hd2, late_lit hg ho hu hi hz h1 (by rw [← h2.len]; exact hl) (rpss_wid h2 hw) hb⟩
theorem plate_alloc {z : Value} {sz by' : Nat} {cs : List PV} (hg : o.guard = none) (ho : o.op = .alloc t) (hz : inf t = some (z, sz, by')) (hc : zcells z = cs) (h1 : (cellsL z).all Value.oneCell' = true) : ∀ κ σ', Sim κ σ σ' → ∃ ds, Rps κ cs ds ∧ One ds ∧ LateRun o σ' t ds (fun b => .pointer (some ⟨b, 0, none⟩)) := fun κ σ' hs =>
 ⟨cellsL z, by rw [← hc]; exact rps_const _, fun u hu => List.all_eq_true.1 h1 u hu, late_alloc hg ho hz rfl⟩
end
def app {α : Type} (by' : Nat) (xs ys : List α) : Option (List α) := if (xs.length + ys.length) * by' ≤ 140737488355328 ∧ xs.length + ys.length ≤ 140737488355328 then some (xs ++ ys) else none
theorem app_some {α : Type} {by' : Nat} {xs ys zs : List α} (h : app by' xs ys = some zs) : zs = xs ++ ys ∧ (xs.length + ys.length) * by' ≤ 140737488355328 ∧ xs.length + ys.length ≤ 140737488355328 := by
 unfold app at h; split at h
 ·injection h with h; exact ⟨h.symm, by assumption⟩
 ·cases h
section
variable {o : Oper} {σ : PEnv} {ρ : List PRes} {s x y : Operand} {t : Nat} {K : PV → List PRes → Prop}
theorem pl_append0 {T : Nat} {a : Option Addr} {n c m sz by' : Nat} {z : Value} {css css2 : List (List PV)} {l : List PRes}
    (ho : o.op = .call { callee := .builtin .append, args := #[s, x], argTypes := #[t, t] }) (hu : und t = some (.slice T)) (hi : inf T = some (z, sz, by')) (hz : Nat.beq z.cells.size sz = true) (h0 : Nat.blt 0 sz = true)
    (hs : pevc σ s = .v (.slice a n c)) (hp : PPick ρ (.row a n c T sz css) l)
    (hr : ∀ β κ σ' ρ', Sim κ σ σ' → RRels κ ρ ρ' → Inv β ρ' κ → ∃ a2 c2 dss2, ev σ' x = .slice a2 m c2 ∧ Rd ρ' κ a2 m sz dss2 ∧ Rpss κ css2 dss2 ∧ Ones dss2)
    (hb : (n + m) * by' ≤ 140737488355328 ∧ n + m ≤ 140737488355328) (h : ∀ a' c', K (.v (.slice a' (n + m) c')) (.row a' (n + m) c' T sz (css ++ css2) :: l)) : POpL o σ ρ K := fun κ σ' ρ' g hm hrr β hinv Nx hk => by
  obtain ⟨a2, c2, dss2, h1, h2, h3, h4⟩ := hr β κ σ' ρ' hm hrr hinv
  obtain ⟨r, l', k1, k2, k3⟩ := hrr.pick hp
  cases k2 with
  | row hbn ho1 hc =>
    rename_i dss
    exact ol_append (css := dss) ho hu hi hz h0 (hm.v1 hs) h1 k1 h2 h4 hb (fun a' c' κ' hk' => ⟨_, _, .v rfl, .cons (.row hb.2 (fun d hd => (List.mem_append.1 hd).elim (ho1 d) (h4 d)) ((hc.app h3).mono hk')) (k3.mono hk'), h a' c'⟩) β hinv Nx hk
variable {α : Type} {enc : α → List PV} {xs ys zs : List α}
theorem rpss_wd {κ : Kr} {sz : Nat} (hw : ∀ m, Nat.beq (enc m).length sz = true) : ∀ {ys : List α} {dss : List (List Value)}, Rpss κ (ys.map enc) dss → ∀ ds ∈ dss, ds.length = sz
 | [], _, h, ds, hd => by rw [List.map_nil] at h; rw [h.nil_inv] at hd; cases hd
 | y :: ys, _, h, ds, hd => by
  rw [List.map_cons] at h
  obtain ⟨v, ws, rfl, h1, h2⟩ := h.cons_inv
  rcases List.mem_cons.1 hd with rfl | hd
  ·rw [← h1.len]; exact Nat.eq_of_beq_eq_true (hw y)
  ·exact rpss_wd hw h2 ds hd
theorem pl_app_s {T : Nat} {a : Option Addr} {c sz by' n : Nat} {z : Value} {l : List PRes}
    (ho : o.op = .call { callee := .builtin .append, args := #[s, x], argTypes := #[t, t] }) (hu : und t = some (.slice T)) (hi : inf T = some (z, sz, by')) (hz : Nat.beq z.cells.size sz = true) (h0 : Nat.blt 0 sz = true) (hw : ∀ m, Nat.beq (enc m).length sz = true)
    (hs : pevc σ s = .v (.slice a n c)) (hn : n = xs.length) (hx : pevc σ x = .slc (ys.map enc)) (hp : PPick ρ (.row a n c T sz (xs.map enc)) l) (ha : app by' xs ys = some zs)
    (h : ∀ a' c', K (.v (.slice a' zs.length c')) (.row a' zs.length c' T sz (zs.map enc) :: l)) : POpL o σ ρ K := by
  obtain ⟨rfl, hb1, hb2⟩ := app_some ha
  subst hn
  refine pl_append0 (m := ys.length) (css2 := ys.map enc) ho hu hi hz h0 hs hp (fun β κ σ' ρ' hm hrr hinv => ?_) ⟨hb1, hb2⟩ (fun a' c' => by have := h a' c'; rwa [List.length_append, List.map_append] at this)
  have he := hm.ev x
  rw [hx] at he
  generalize hw' : ev σ' x = w at he
  cases he with
  | slc hsl hb h1 hss =>
    rename_i a2 m c2 sz' dss2
    have hml : ys.length = m := by rw [← hsl.len, ← hss.len]; simp
    subst hml
    refine ⟨a2, c2, dss2, rfl, ?_, hss, h1⟩
    have hrd := rd_sl (ρ := ρ') hsl
    rcases Nat.eq_zero_or_pos ys.length with h' | h'
    · have : dss2 = [] := List.eq_nil_of_length_eq_zero (by rw [hsl.len, h'])
      subst this
      exact ⟨hsl.len, fun _ h => (by cases h), fun h => (by omega)⟩
    · have : sz' = sz := by
        have hl := hsl.len
        match dss2, hl with
        | [], hl => simp only [List.length_nil] at hl; omega
        | d :: ds, _ => rw [← hsl.wid d (by simp), rpss_wd hw hss d (by simp)]
      subst this; exact hrd
theorem pl_app_o {T T2 : Nat} {a a2 : Option Addr} {c c2 sz by' n m : Nat} {z : Value} {l : List PRes}
    (ho : o.op = .call { callee := .builtin .append, args := #[s, x], argTypes := #[t, t] }) (hu : und t = some (.slice T)) (hi : inf T = some (z, sz, by')) (hz : Nat.beq z.cells.size sz = true) (h0 : Nat.blt 0 sz = true)
    (hs : pevc σ s = .v (.slice a n c)) (hn : n = xs.length) (hx : pevc σ x = .v (.slice a2 m c2)) (hmn : m = ys.length) (hm2 : PRes.row a2 m c2 T2 sz (ys.map enc) ∈ ρ) (hp : PPick ρ (.row a n c T sz (xs.map enc)) l) (ha : app by' xs ys = some zs)
    (h : ∀ a' c', K (.v (.slice a' zs.length c')) (.row a' zs.length c' T sz (zs.map enc) :: l)) : POpL o σ ρ K := by
  obtain ⟨rfl, hb1, hb2⟩ := app_some ha
  subst hn; subst hmn
  refine pl_append0 (m := ys.length) (css2 := ys.map enc) ho hu hi hz h0 hs hp (fun β κ σ' ρ' hm hrr hinv => ?_) ⟨hb1, hb2⟩ (fun a' c' => by have := h a' c'; rwa [List.length_append, List.map_append] at this)
  obtain ⟨r, hr1, hr2⟩ := hrr.mem hm2
  cases hr2 with
  | row hb h1 hss =>
    rename_i dss
    have hrow := row_some hr1 β hinv
    have hown := row_owns (hinv.own _ hr1)
    exact ⟨a2, c2, dss, hm.v1 hx, rd_row hr1 (fun h => by obtain ⟨b, e⟩ := hrow.2 h; rw [e]; simp) hrow.1.1 hown.2.2, hss, h1⟩
theorem pl_app_b {T T2 : Nat} {a : Option Addr} {c b sz by' n m : Nat} {z : Value} {l : List PRes} {cs : List PV}
    (ho : o.op = .call { callee := .builtin .append, args := #[s, x], argTypes := #[t, t] }) (hu : und t = some (.slice T)) (hi : inf T = some (z, sz, by')) (hz : Nat.beq z.cells.size sz = true) (h0 : Nat.blt 0 sz = true) (hw : ∀ m, Nat.beq (enc m).length sz = true)
    (hs : pevc σ s = .v (.slice a n c)) (hn : n = xs.length) (hx : pevc σ x = .v (.slice (some ⟨b, 0, none⟩) m m)) (hmn : m = ys.length) (hm2 : PRes.b b T2 cs ∈ ρ) (hcs : cs = (ys.map enc).flatten) (hp : PPick ρ (.row a n c T sz (xs.map enc)) l) (ha : app by' xs ys = some zs)
    (h : ∀ a' c', K (.v (.slice a' zs.length c')) (.row a' zs.length c' T sz (zs.map enc) :: l)) : POpL o σ ρ K := by
  obtain ⟨rfl, hb1, hb2⟩ := app_some ha
  subst hn; subst hmn; subst hcs
  refine pl_append0 (m := ys.length) (css2 := ys.map enc) ho hu hi hz h0 hs hp (fun β κ σ' ρ' hm hrr hinv => ?_) ⟨hb1, hb2⟩ (fun a' c' => by have := h a' c'; rwa [List.length_append, List.map_append] at this)
  obtain ⟨r, hr1, hr2⟩ := hrr.mem hm2
  cases hr2 with
  | b h1 hss =>
    rename_i ds
    obtain ⟨dss, e1, e2, e3⟩ : ∃ dss, dss.flatten = ds ∧ Rpss κ (ys.map enc) dss ∧ ∀ d ∈ dss, d.length = sz := by
      clear ha h hb1 hb2 hx hm2 hr1 h1 hp
      induction ys generalizing ds with
      | nil => simp only [List.map_nil, List.flatten_nil] at hss; exact ⟨[], by rw [hss.nil_inv]; rfl, .nil, fun _ h => by cases h⟩
      | cons y ys ih =>
        simp only [List.map_cons, List.flatten_cons] at hss
        have hl := Nat.eq_of_beq_eq_true (hw y)
        have t1 := hss.take sz
        have t2 := hss.drop sz
        rw [List.take_append_of_le_length (by omega), List.take_of_length_le (by omega)] at t1
        rw [List.drop_append_of_le_length (by omega), List.drop_of_length_le (by omega), List.nil_append] at t2
        obtain ⟨dss, k1, k2, k3⟩ := ih t2
        refine ⟨ds.take sz :: dss, by rw [List.flatten_cons, k1, List.take_append_drop], .cons t1 k2, fun d hd => ?_⟩
        rcases List.mem_cons.1 hd with rfl | hd
        · rw [← t1.len]; exact hl
        · exact k3 d hd
    subst e1
    exact ⟨_, _, dss, hm.v1 hx, rd_b hr1 (by rw [← e2.len]; simp) e3 rfl, e2, fun d hd u hu => h1 u (List.mem_flatten.2 ⟨d, hd, hu⟩)⟩
def mk {α : Type} (by' : Nat) (z : α) (n : Int) : Option (List α) := if 0 ≤ n ∧ by' * n.toNat ≤ 140737488355328 ∧ n.toNat ≤ 140737488355328 then some (List.replicate n.toNat z) else none
theorem mk_some {by' : Nat} {z : α} {n : Int} (h : mk by' z n = some zs) : (0 ≤ n ∧ by' * n.toNat ≤ 140737488355328 ∧ n.toNat ≤ 140737488355328) ∧ zs = List.replicate n.toNat z := by
 unfold mk at h; split at h
 ·injection h with h; exact ⟨by assumption, h.symm⟩
 ·cases h
theorem pl_make {T sz by' : Nat} {z : Value} {zv : α} {n : Int} (hg : o.guard = none) (ho : o.op = .makeSlice t x x) (hx : pevc σ x = .v (.int .i64 n)) (hu : und t = some (.slice T)) (hi : inf T = some (z, sz, by')) (hzc : enc zv = zcells z) (hz1 : (cellsL z).all Value.oneCell' = true) (hzl : Nat.beq (cellsL z).length sz = true) (h0 : Nat.blt 0 sz = true) (hm : mk by' zv n = some zs)
    (h : ∀ b, K (.v (.slice (some ⟨b, 0, none⟩) zs.length zs.length)) (.row (some ⟨b, 0, none⟩) zs.length zs.length T sz (zs.map enc) :: ρ)) : POpL o σ ρ K := fun κ σ' ρ' g hs hr => by
  obtain ⟨⟨h1, h2, h3⟩, rfl⟩ := mk_some hm
  have hn : n = ((n.toNat : Nat) : Int) := by omega
  have hlr := late_make (o := o) (σ := σ') (n := n.toNat) hg ho (by rw [hs.v1 hx, ← hn]) hu hi rfl (Nat.eq_of_beq_eq_true hzl) h0 (by omega)
  simp only [List.length_replicate, List.map_replicate] at h
  intro β hinv Nx hk
  refine ol_late hlr (K := fun v ρ1 κ1 => ∃ b, v = .slice (some ⟨b, 0, none⟩) n.toNat n.toNat ∧ ρ1 = Res.b b T (List.replicate n.toNat (cellsL z)).flatten :: ρ' ∧ Kle κ κ1) (fun b κ' hk => ⟨b, rfl, rfl, hk⟩) β hinv Nx fun v ρ1 κ1 h1 h2 h3 => ?_
  obtain ⟨b, rfl, rfl, h4⟩ := h3
  have hv := h1.view (r' := Res.row (some ⟨b, 0, none⟩) n.toNat n.toNat T sz (List.replicate n.toNat (cellsL z))) Pick.h rfl (row_of_b rfl (by simp) (fun c hc => by rw [(List.mem_replicate.1 hc).2]; exact Nat.eq_of_beq_eq_true hzl) h3)
  refine hk _ _ κ1 hv h2 ⟨_, _, .v rfl, .cons (.row h3 ?_ ?_) (hr.mono h4), h b⟩
  · intro d hd; rw [(List.mem_replicate.1 hd).2]; exact fun u hu => List.all_eq_true.1 hz1 u hu
  · rw [hzc]
    clear h hv hlr
    generalize n.toNat = k
    induction k with
    | zero => exact .nil
    | succ k ih => rw [List.replicate_succ, List.replicate_succ]; exact .cons (rps_const _) ih
def ablk : Option Addr → Nat
 | some ad => ad.block
 | none => 0
theorem row_addr {a : Option Addr} {n cp T sz : Nat} {dss : List (List Value)} {w : World} (h : (Res.row a n cp T sz dss).holds w) (h0 : 0 < n) : a = some ⟨ablk a, 0, none⟩ := by
 cases a with
 | none => obtain ⟨e, _⟩ := h; omega
 | some ad => exact congrArg some h.1
theorem pq_indexO {c : Bool} {T T2 sz by' n cp : Nat} {k : IntKind} {i : Int} {z : Value} {m : α} {a : Option Addr} (ho : o.op = .indexAddr t x y) (hu : und t = some (.slice T)) (hi : inf T = some (z, sz, by')) (hx : PEv σ c x (.v (.slice a n cp))) (hm2 : PRes.row a n cp T2 sz (xs.map enc) ∈ ρ) (hy : PEv σ c y (.v (.int k i))) (hm : c = true → idx xs i = some m) : POpQ c o σ ρ (.v (.pointer (some ⟨ablk a, i.toNat * sz, none⟩))) := fun κ σ' ρ' g hs hrr => by
 refine ⟨_, fun _ => .v rfl, fun hc w hst => ?_⟩
 obtain ⟨h0, hmm⟩ := idx_some (hm hc)
 have hlt := (List.getElem?_eq_some_iff.1 hmm).1
 obtain ⟨r, hr1, hr2⟩ := hrr.mem hm2
 cases hr2 with
 | row hb ho1 hc2 =>
  have hn : xs.length = n := by have e1 := (row_owns (hst.own _ hr1)).2.1; have e2 := hc2.len; rw [List.length_map] at e2; omega
  have ha := row_addr (hst.own _ hr1) (by omega)
  have h := oq_index (c := true) (ρ := ρ') (κ := κ) (j := i.toNat) ho hu hi (fun _ => by rw [hs.ve hx hc, ha]) (fun _ => hs.ve hy hc) (fun _ => by omega) (fun _ => by omega) rfl w hst
  rwa [Nat.zero_add] at h
end
theorem oq_load_rowO {o : Oper} {σ : Env} {ρ : List Res} {κ : Kr} {c : Bool} {x : Operand} {t b off T n cp sz k j : Nat} {css : List (List Value)} {cs : List Value} {v : Value} (ho : o.op = .load t x) (hx : Ev σ c x (.pointer (some ⟨b, off, none⟩))) (hoff : off = k * sz + j) (hm : Res.row (some ⟨b, 0, none⟩) n cp T sz css ∈ ρ) (hk : css[k]? = some cs) (hr : readAs t (cs.drop j) 0 = some v) : OpQ c o σ ρ κ v := fun hc w hs => by
 obtain ⟨h1, h2, h3, h4, h5, cur, h6, h7, h8⟩ : (Res.row (some ⟨b, 0, none⟩) n cp T sz css).holds w := hs.own _ hm
 have hcl := h3 cs (List.mem_of_getElem? hk)
 have := run_readAs (w := w) (t := t) (b := b) (off := off) (cs := cs.drop j) (v := v) (fun i u hu => by
  rw [List.getElem?_drop] at hu
  have hj : j + i < sz := by rcases Nat.lt_or_ge (j + i) cs.length with h | h; (omega); rw [List.getElem?_eq_none h] at hu; cases hu
  have hg := flatten_get h3 hk hj
  have hkn : k < n := by rw [← h2]; exact (List.getElem?_eq_some_iff.1 hk).1
  have hlt : k * sz + (j + i) < n * sz := by
   have : (k + 1) * sz ≤ n * sz := Nat.mul_le_mul_right _ hkn
   rw [Nat.add_mul] at this; omega
  have hc2 : w.cell? ⟨b, off + i, none⟩ = cur.toList[k * sz + (j + i)]? := by simp [World.cell?, h6, hoff, Nat.add_assoc]
  rw [hc2]
  rw [← h8, List.getElem?_take, if_pos hlt] at hg
  rw [hg]; exact hu) hr
 simp [execOp, ho, hx hc, Instr.loadAt, Instr.sureAddr, this]
section
variable {o : Oper} {σ : PEnv} {ρ : List PRes} {x y : Operand} {t : Nat} {K : PV → List PRes → Prop} {α : Type} {enc : α → List PV} {xs : List α} {m m' : α} {i : Int}
theorem pq_load_o {c : Bool} {T sz off n cp : Nat} {p : PV} {a : Option Addr} (i : Int) (j : Nat) (m : α) (ho : o.op = .load t x) (hx : PEv σ c x (.v (.pointer (some ⟨ablk a, off, none⟩)))) (hoff : off = i.toNat * sz + j) (hm2 : PRes.row a n cp T sz (xs.map enc) ∈ ρ) (hm : c = true → idx xs i = some m) (hr : preadAs t ((enc m).drop j) = some p) : POpQ c o σ ρ p := fun κ σ' ρ' g hs hrr => by
 cases c with
 | false => exact noq
 | true =>
  obtain ⟨h0, hmm⟩ := idx_some (hm rfl)
  obtain ⟨r, hr1, hr2⟩ := hrr.mem hm2
  cases hr2 with
  | row hb h1 hss =>
   have hcs : (xs.map enc)[i.toNat]? = some (enc m) := by rw [List.getElem?_map, hmm]; rfl
   obtain ⟨ds, hd, hds⟩ := hss.get hcs
   obtain ⟨v, h4, h5⟩ := pread (hds.drop j) (fun u hu => h1 ds (List.mem_of_getElem? hd) u (List.mem_of_mem_drop hu)) hr
   refine ⟨v, fun _ => h5, fun _ w hst => ?_⟩
   have hw := hst.own _ hr1
   have hn0 : 0 < n := by have := (row_owns hw).2.1; have := (List.getElem?_eq_some_iff.1 hd).1; omega
   have ha := row_addr hw hn0
   rw [ha] at hr1
   exact oq_load_rowO (c := true) ho (hs.ve hx) hoff hr1 hd h4 rfl w hst
theorem map_set {xs : List α} {k : Nat} : (xs.map enc).set k (enc m') = (xs.set k m').map enc := by rw [List.map_set]
theorem pl_store_o {T sz sz2 by' off n cp : Nat} {z : Value} {vs : List PV} {ρ' : List PRes} {a : Option Addr} (i : Int) (j : Nat) (m m' : α) (ho : o.op = .store t x y) (hx : pevc σ x = .v (.pointer (some ⟨ablk a, off, none⟩))) (hoff : off = i.toNat * sz + j) (hv : cellsP (pevc σ y) = some vs) (hw : ∀ m, Nat.beq (enc m).length sz = true)
    (hz : inf t = some (z, sz2, by')) (hsz : Nat.beq vs.length sz2 = true) (hm : idx xs i = some m) (hsp : PSplice (enc m) j vs (enc m')) (hu : PUpd ρ (.row a n cp T sz (xs.map enc)) (.row a n cp T sz ((xs.set i.toNat m').map enc)) ρ') (h : K (.v undef) ρ') : POpL o σ ρ K := fun κ σ' r g hs hr β hinv => by
  obtain ⟨h0, hmm⟩ := idx_some hm
  obtain ⟨ws, h1, h2, h3⟩ := (hs.ev y).cells hv
  obtain ⟨r0, l1, l2, rfl, h4, h5⟩ := hr.upd hu
  obtain ⟨hsp1, hl⟩ := hsp
  cases h4 with
  | row hb ho1 hc =>
    rename_i dss
    have hcs : (xs.map enc)[i.toNat]? = some (enc m) := by rw [List.getElem?_map, hmm]; rfl
    obtain ⟨ds, hd, hds⟩ := hc.get hcs
    have e1 := h2.len; have e2 := hds.len; have e3 := Nat.eq_of_beq_eq_true hsz; have e4 := Nat.eq_of_beq_eq_true (hw m)
    have hww := hinv.own (Res.row a n cp T sz dss) (by simp)
    have hn0 : 0 < n := by have := (row_owns hww).2.1; have := (List.getElem?_eq_some_iff.1 hd).1; omega
    have ha := row_addr hww hn0
    generalize hB : ablk a = B at ha hx
    subst ha
    refine ol_rowstore (T := T) (css := dss) (cs := ds) (k := i.toNat) (j := j) (sz := sz) ho (hs.v1 hx) hoff h1 hz (by omega) (List.all_eq_true.2 h3) hd (by omega) ⟨l1, l2, rfl, rfl⟩ (fun κ' hk => ⟨.v undef, ρ', .v rfl, h5 κ' _ hk (.row hb ?_ ?_), h⟩) β hinv
    · intro d hd'
      rcases List.mem_or_eq_of_mem_set hd' with hd' | rfl
      · exact ho1 d hd'
      · exact splice_one (ho1 ds (List.mem_of_getElem? hd)) h3
    · rw [← map_set, hsp1]
      exact (hc.set (splice_rps hds h2)).mono hk
end
section
variable {n : Nat} {ops : Array Oper} {K : PPost} {o : Oper} {r : List (Nat × Oper)} {σ : PEnv} {ρd ρs : List PRes} {d f : Nat} {p : PV} {c : Bool} {l : List Operand} {ts : Array Nat} {pargs : List PV} {v : PV} {x : Operand}
theorem pwd_nil (h : K σ (ρd ++ ρs)) : PWD n ops K [] σ ρd ρs := fun β κ σ' rd rs g hs h1 h2 => wd_nil fun κ1 hk => ⟨σ, ρd ++ ρs, hs.mono hk, (h1.mono hk).app (h2.mono hk), h⟩
theorem ybf (hg : o.guard = none) (hd : o.dst = some d) (hlt : Nat.blt d n = true) (h : POpQ true o σ ρs p) (hw : PWD n ops K r (pupd σ d p) ρd ρs) : PWD n ops K ((0, o) :: r) σ ρd ρs := fun β κ σ' rd rs g hs h1 h2 => by
 obtain ⟨v, k1, k2⟩ := h κ σ' rs g hs h2
 exact wd_q hg hd hlt k2 (hw β κ _ rd rs g (hs.upd (k1 rfl)) h1 h2)
theorem ybi (hg : PGuardIs ops σ o c) (hd : o.dst = some d) (hlt : Nat.blt d n = true) (h : POpQ c o σ ρs p) (hw : PWD n ops K r (pupd σ d (pgv c p)) ρd ρs) : PWD n ops K ((0, o) :: r) σ ρd ρs := fun β κ σ' rd rs g hs h1 h2 => by
 obtain ⟨v, k1, k2⟩ := h κ σ' rs g hs h2
 exact wd_qg (hg κ σ' hs) hd hlt k2 (hw β κ _ rd rs g (hs.upd (rp_gv k1)) h1 h2)
theorem OpL.framed {o : Oper} {σ : Env} {ρ ρf : List Res} {κ : Kr} {K : Value → List Res → Kr → Prop} (h : OpL o σ ρ κ K) : OpL o σ (ρ ++ ρf) κ fun v ρ' κ' => ∃ ρ1, ρ' = ρ1 ++ ρf ∧ K v ρ1 κ' := fun β hi Nx hk =>
 h.frame hi Nx fun v ρ' κ' h1 h2 h3 => hk v (ρ' ++ ρf) κ' h1 h2 ⟨ρ', rfl, h3⟩
theorem pwd_l (hg : o.guard = none) (hd : o.dst = some d) (hlt : Nat.blt d n = true) (h : POpL o σ ρd fun p ρ' => PWD n ops K r (pupd σ d p) ρ' ρs) : PWD n ops K ((1, o) :: r) σ ρd ρs := fun β κ σ' rd rs g hs h1 h2 =>
 wd_l hg hd hlt fun κ1 hk => ((h κ1 σ' rd (g.mono hk) (hs.mono hk) (h1.mono hk)).framed (ρf := rs)).mono fun v ρ' κ' hk' ⟨ρ1, e, pv, ρp, k1, k2, k3⟩ =>
  ⟨ρ1, e, k3 β κ' _ ρ1 rs ((g.mono hk).mono hk') (((hs.mono hk).mono hk').upd k1) k2 ((h2.mono hk).mono hk')⟩
theorem pwd_l0 (hg : o.guard = none) (hd : o.dst = none) (h : POpL o σ ρd fun _ ρ' => PWD n ops K r σ ρ' ρs) : PWD n ops K ((1, o) :: r) σ ρd ρs := fun β κ σ' rd rs g hs h1 h2 =>
 wd_l0 hg hd fun κ1 hk => ((h κ1 σ' rd (g.mono hk) (hs.mono hk) (h1.mono hk)).framed (ρf := rs)).mono fun v ρ' κ' hk' ⟨ρ1, e, pv, ρp, k1, k2, k3⟩ =>
  ⟨ρ1, e, k3 β κ' _ ρ1 rs ((g.mono hk).mono hk') ((hs.mono hk).mono hk') k2 ((h2.mono hk).mono hk')⟩
theorem pwd_call (hg : o.guard = none) (hd : o.dst = some d) (hlt : Nat.blt d n = true) (ho : o.op = .call { callee := .value (.func f), args := l.toArray, argTypes := ts }) (ha : l.map (pevc σ) = pargs) (hc : PF f pargs v) (h : PWD n ops K r (pupd σ d v) ρd ρs) : PWD n ops K ((1, o) :: r) σ ρd ρs :=
 pwd_l hg hd hlt (pl_call ho ha hc h)
theorem pwd_callv (hg : o.guard = none) (hd : o.dst = some d) (hlt : Nat.blt d n = true) (ho : o.op = .call { callee := .value x, args := l.toArray, argTypes := ts }) (ha : l.map (pevc σ) = pargs) (hc : PFV (pevc σ x) pargs v) (h : PWD n ops K r (pupd σ d v) ρd ρs) : PWD n ops K ((1, o) :: r) σ ρd ρs :=
 pwd_l hg hd hlt (pl_callv ho ha hc h)
theorem pwd_callg (hg : PGuardIs ops σ o c) (hd : o.dst = some d) (hlt : Nat.blt d n = true) (ho : o.op = .call { callee := .value (.func f), args := l.toArray, argTypes := ts }) (ha : c = true → l.map (pevc σ) = pargs) (hc : c = true → PF f pargs v) (h : PWD n ops K r (pupd σ d (pgv c v)) ρd ρs) : PWD n ops K ((1, o) :: r) σ ρd ρs := fun β κ σ' rd rs g hs h1 h2 =>
 wd_g (hg κ σ' hs) hd hlt fun κ1 hk => og_callP ho (fun _ => rfl) (fun hct => hc hct κ1 _ (g.mono hk) (by rw [← ha hct]; exact rps_args (hs.mono hk) l)) fun w κ' hk' hv => h β κ' _ rd rs ((g.mono hk).mono hk') (((hs.mono hk).mono hk').upd (rp_gv hv)) ((h1.mono hk).mono hk') ((h2.mono hk).mono hk')
theorem pwd_late {T : Nat} {cs : List PV} {mk : Nat → Value} (hlo : ∀ κ σ', Sim κ σ σ' → ∃ ds, Rps κ cs ds ∧ One ds ∧ LateRun o σ' T ds mk) (hok : ∀ b, okb (mk b) = true) (hd : o.dst = some d) (h : ∀ b, PWD n ops K r (pupd σ d (.v (mk b))) (.b b T cs :: ρd) ρs) : PWD n ops K ((2, o) :: r) σ ρd ρs := fun β κ σ' rd rs g hs h1 h2 => by
 obtain ⟨ds, k1, k2, k3⟩ := hlo κ σ' hs
 exact wd_late k3 hd fun b κ' hk => h b β κ' _ _ rs (g.mono hk) ((hs.mono hk).upd (.v (hok b))) (.cons (.b k2 (k1.mono hk)) (h1.mono hk)) (h2.mono hk)
theorem pwd_tell {T : Nat} {cs : List PV} {mk : Nat → Value} (hlo : ∀ κ σ', Sim κ σ σ' → ∃ ds, Rps κ cs ds ∧ One ds ∧ LateRun o σ' T ds mk) (h : PWD n ops K r σ ρd ρs) : PWD n ops K ((3, o) :: r) σ ρd ρs := fun β κ σ' rd rs g hs h1 h2 => by
 obtain ⟨ds, k1, k2, k3⟩ := hlo κ σ' hs
 exact wd_tell k3 (h β κ σ' rd rs g hs h1 h2)
end
theorem bind_some {α β : Type} {x : Option α} {f : α → Option β} {r : β} (h : x.bind f = some r) : ∃ a, x = some a ∧ f a = some r := by
 cases x with
 | none => cases h
 | some a => exact ⟨a, rfl, h⟩
theorem yav {α : Type} {b : Bool} {x y r : α} (hb : b = true) (h : cond b x y = r) : x = r := by subst hb; exact h
theorem yaw {α : Type} {b : Bool} {x y r : α} (hb : b = false) (h : cond b x y = r) : y = r := by subst hb; exact h
def gd {α : Type} [Inhabited α] (c : Bool) (x : Option α) : Option α := cond c x (some default)
theorem gd_t {α : Type} [Inhabited α] {c : Bool} {x : Option α} {v : α} (h : gd c x = some v) (hc : c = true) : x = some v := by subst hc; exact h
def lb {α β : Type} (x : α) (f : α → Option β) : Option β := f x
theorem lb_elim {α β : Type} {x : α} {f : α → Option β} {r : β} {P : Prop} (h : lb x f = some r) (k : ∀ a, x = a → f a = some r → P) : P := k x rfl h
theorem yaf {α β : Type} {x : Option α} {f : α → Option β} {r : β} {P : Prop} (h : x.bind f = some r) (k : ∀ a, x = some a → f a = some r → P) : P := by
 obtain ⟨a, h1, h2⟩ := bind_some h; exact k a h1 h2
def nz (b : Int) : Option Unit := if b = 0 then none else some ()
theorem nz_some {b : Int} {u : Unit} (h : nz b = some u) : b ≠ 0 := by unfold nz at h; split at h; cases h; assumption
def ge0 (b : Int) : Option Unit := if 0 ≤ b then some () else none
theorem ge0_some {b : Int} {u : Unit} (h : ge0 b = some u) : 0 ≤ b := by unfold ge0 at h; split at h; assumption; cases h
theorem ybk {ρ l m : List PRes} {r : PRes} (h : PPick ρ r l) (h2 : l.Perm m) : ρ.Perm (r :: m) := List.Perm.trans h (List.Perm.cons r h2)
def eI (x : Int) : List PV := [.v (.int .i64 x)]
def eB (x : Int) : List PV := [.v (.int .u8 x)]
def eS (x : ByteArray) : List PV := [.v (.string x)]
def eL {α : Type} (e : α → List PV) (xs : List α) : List PV := [.slc (xs.map e)]
end SX
end Go.Proofs.YtfcecieppoljlaaGreatDoor
set_option maxRecDepth 100000
namespace Go.Proofs.YtfcecieppoljlaaGreatDoor
namespace SX
open Go
def cat (s u : ByteArray) : Option ByteArray := if s.size + u.size ≤ 140737488355328 then some (s ++ u) else none
def sub {α : Type} (xs : List α) (lo hi : Int) : Option (List α) := if 0 ≤ lo ∧ lo ≤ hi ∧ hi.toNat ≤ xs.length then some ((xs.take hi.toNat).drop lo.toNat) else none
theorem sub_some {α : Type} {xs zs : List α} {lo hi : Int} (h : sub xs lo hi = some zs) : (0 ≤ lo ∧ lo ≤ hi ∧ hi.toNat ≤ xs.length) ∧ zs = (xs.take hi.toNat).drop lo.toNat := by
 unfold sub at h; split at h
 ·injection h with h; exact ⟨by assumption, h.symm⟩
 ·cases h
def ssub (s : ByteArray) (lo hi : Int) : Option ByteArray := if 0 ≤ lo ∧ lo ≤ hi ∧ hi.toNat ≤ s.size then some (s.extract lo.toNat hi.toNat) else none
theorem ssub_some {s z : ByteArray} {lo hi : Int} (h : ssub s lo hi = some z) : (0 ≤ lo ∧ lo ≤ hi ∧ hi.toNat ≤ s.size) ∧ z = s.extract lo.toNat hi.toNat := by
 unfold ssub at h; split at h
 ·injection h with h; exact ⟨by assumption, h.symm⟩
 ·cases h
theorem pargs_nil {σ : PEnv} {c : Bool} : c = true → ([] : List Operand).map (pevc σ) = [] := fun _ => rfl
theorem ybg {σ : PEnv} {c : Bool} {x : Operand} {l : List Operand} {p : PV} {ps : List PV} (h : PEv σ c x p) (hs : c = true → l.map (pevc σ) = ps) : c = true → (x :: l).map (pevc σ) = p :: ps := fun hc => by rw [List.map_cons, h hc, hs hc]
section
variable {o : Oper} {σ : PEnv} {ρ : List PRes} {c : Bool} {x y y2 : Operand} {t : Nat} {k k2 : IntKind} {a b : Int} {α : Type} {enc : α → List PV} {xs zs : List α}
theorem pq_lenT {E : Nat} (ho : o.op = .call { callee := .builtin .len, args := #[x], argTypes := #[t] }) (hu : und t = some (.slice E)) (hx : PEv σ c x (.slc (xs.map enc))) : POpQ c o σ ρ (.v (.int .i64 (xs.length : Int))) := by
 have h := pq_len (ρ := ρ) ho hu hx
 rwa [List.length_map] at h
theorem pq_makeFunc {f : Nat} {l : List Operand} (ho : o.op = .makeFunc (.func f) #[] l.toArray) : POpQ true o σ ρ (.fn f (l.map (pevc σ))) := fun κ σ' ρ' g hs hr =>
 ⟨.func (.func f) #[] (l.map (ev σ')).toArray, fun _ => .fn (rps_args hs l), by
  have h := oq_makeFunc (o := o) (σ := σ') (ρ := ρ') (κ := κ) (fn := .func f) (l1 := []) (l2 := l) (by rw [ho])
  simpa using h⟩
theorem ones_sub {dss dss' : List (List Value)} (h : Ones dss) (hs : ∀ d ∈ dss', d ∈ dss) : Ones dss' := fun d hd => h d (hs d hd)
theorem pq_sliceH {E sz by' : Nat} {z : Value} (ho : o.op = .slice t x none (some y) none) (hu : und t = some (.slice E)) (hi : inf E = some (z, sz, by')) (hw : ∀ m, Nat.beq (enc m).length sz = true) (hx : PEv σ c x (.slc (xs.map enc))) (hy : PEv σ c y (.v (.int k b))) (hm : c = true → sub xs 0 b = some zs) : POpQ c o σ ρ (.slc (zs.map enc)) := fun κ σ' ρ' g hs hrr => by
 cases c with
 | false => exact noq
 | true =>
  obtain ⟨⟨h0, h1, h2⟩, rfl⟩ := sub_some (hm rfl)
  have h := hs.pe hx rfl
  generalize he : ev σ' x = w at h
  cases h with
  | slc hsl hb ho1 hss =>
   rename_i ad n cp sz' css
   have hl : xs.length = n := by rw [← hsl.len, ← hss.len]; simp
   have hcap := hsl.cap
   refine ⟨.slice ad b.toNat cp, fun _ => ?_, oq_sliceHi (c := true) (k := b.toNat) ho hu hi (.p he) (hs.ve hy) (fun _ => by omega) (fun _ => by omega)⟩
   have := Rp.slc (hsl.take (m := b.toNat) (by omega)) (by omega) (ones_sub ho1 fun d hd => List.mem_of_mem_take hd) (hss.take b.toNat)
   rw [← List.map_take] at this
   simpa using this
theorem okb_ext {s : ByteArray} {l h : Nat} (hk : okb (.string s) = true) : okb (.string (s.extract l h)) = true := by
 have := Nat.le_of_ble_eq_true hk
 have h2 : (s.extract l h).size ≤ s.size := by rw [ByteArray.size_extract]; omega
 exact Nat.ble_eq_true_of_le (by omega)
theorem pq_ssliceH {s z : ByteArray} (ho : o.op = .slice t x none (some y2) none) (hu : und t = some .string) (hx : PEv σ c x (.v (.string s))) (hy2 : PEv σ c y2 (.v (.int k2 b))) (hm : c = true → ssub s 0 b = some z) : POpQ c o σ ρ (.v (.string z)) := fun κ σ' ρ' g hs hrr => by
 cases c with
 | false => exact noq
 | true =>
  obtain ⟨⟨h0, h1, h2⟩, rfl⟩ := ssub_some (hm rfl)
  exact ⟨_, fun _ => .v (okb_ext (hs.pe hx rfl).ok), oq_sliceSHi (h := b.toNat) ho hu (hs.ve hx) (hs.ve hy2) (fun _ => by omega) (fun _ => by omega)⟩
end
end SX
end Go.Proofs.YtfcecieppoljlaaGreatDoor
set_option maxRecDepth 100000
namespace Go.Proofs.YtfcecieppoljlaaGreatDoor
namespace SX
open Go
section
variable {σ : PEnv} {ρ l : List PRes} {a : Option Addr} {m c T sz : Nat} {css : List (List PV)}
theorem cov_frzt (t : Nat) (ht : σ t = .v (.slice a m c)) (hp : PPick ρ (.row a m c T sz css) l) : Cov σ ρ (pupd σ t (.slc css)) (.frz a m c css :: l) := fun _ _ _ h => pwc_frzt t ht hp h
theorem cov_view (t : Nat) (ht : σ t = .v (.slice a m c)) (hm : PRes.frz a m c css ∈ ρ) : Cov σ ρ (pupd σ t (.slc css)) ρ := fun _ _ _ h => pwc_view t ht hm h
theorem cov_nilrow (T sz : Nat) : Cov σ ρ σ (.row none 0 0 T sz [] :: ρ) := fun _ _ _ h => pwc_nilrow T sz h
theorem pwc_nilb {n : Nat} {x : Code} {K : Exit → PPost} {b k : Nat} {cs : List PV} {ρ' : List PRes} (hk : cs[k]? = some (.v (.slice none 0 0))) (hu : PUpd ρ (.b b T cs) (.b b T (cs.set k (.slc []))) ρ') (h : PWC n x K σ ρ') : PWC n x K σ ρ := fun β κ σ' r g hs hr => by
 obtain ⟨r0, l1, l2, rfl, h3, h4⟩ := hr.upd hu
 cases h3 with
 | b ho hc =>
  obtain ⟨v, hv, hp⟩ := hc.get hk
  have e := hp.val
  have hset := hc.set (k := k) (p := .slc []) (v := v) (by rw [e]; exact rp_nil)
  have : ∀ (l : List Value) (k : Nat) (v : Value), l[k]? = some v → l.set k v = l := fun l k v h => by
   apply List.ext_getElem?; intro i; rw [List.getElem?_set]; split
   ·rename_i hik; subst hik; rw [h]; have := (List.getElem?_eq_some_iff.1 h).1; simp [this]
   ·rfl
  rw [this _ _ _ hv] at hset
  exact h β κ σ' _ g hs (h4 κ _ (.refl _) (.b ho hset))
end
section
variable {o : Oper} {σ : PEnv} {ρ l : List PRes} {a : Option Addr} {m c T sz : Nat} {css : List (List PV)} {K : PV → List PRes → Prop}
theorem pl_fz (h : POpL o σ ρ fun p ρ' => ∃ a m c T sz css l, p = .v (.slice a m c) ∧ PPick ρ' (.row a m c T sz css) l ∧ K (.slc css) l) : POpL o σ ρ K := fun κ σ' ρ' g hs hr β hi Nx hn =>
 h κ σ' ρ' g hs hr β hi Nx fun v ρ1 κ1 h1 h2 ⟨p, ρp, k1, k2, a, m, c, T, sz, css, l, e, hp, hk⟩ => by
  subst e
  obtain ⟨r, l', j1, j2, j3⟩ := k2.pick hp
  cases j2 with
  | row hb ho hc =>
   obtain ⟨i1, i2, i3⟩ := pub_row (h1.perm j1)
   have hv := k1.val
   subst hv
   have := hn _ l' (pubK κ1 a) i1 (h2.trans i2) ⟨.slc css, l, .slc i3 hb ho (hc.mono i2), j3.mono i2, hk⟩
   rwa [pubK_w] at this
end
section
variable {n : Nat} {ops : Array Oper} {o : Oper} {rest : List Oper} {K : PPost} {σ : PEnv} {ρ ρd ρs : List PRes} {d : Nat} {c : Bool} {l : List Operand} {ts : Array Nat} {pargs : List PV} {r pf : PV} {x : Operand} {lo : List (Nat × Oper)}
theorem og_pfv {κ : Kr} {σ' : Env} {ρ' : List Res} {KK : Value → Kr → Prop} (g : GOK κ) (hs : Sim κ σ σ') (ho : o.op = .call { callee := .value x, args := l.toArray, argTypes := ts }) (hx : PEv σ c x pf) (ha : c = true → l.map (pevc σ) = pargs) (hc : c = true → PFV pf pargs r) (h : ∀ v κ', Kle κ κ' → (c = true → Rp κ' r v) → KK v κ') : OpG c o σ' ρ' κ KK := by
 refine ⟨fun hct => ?_, fun hcf => h undef κ (.refl _) fun h => by rw [hcf] at h; cases h⟩
 obtain ⟨f, first, cap, h1, h2⟩ := hc hct κ _ _ g (hs.pe hx hct) (by rw [← ha hct]; exact rps_args hs l)
 exact ol_callvP ho h1 rfl h2 fun v κ' hk hv => ⟨rfl, h v κ' hk fun _ => hv⟩
theorem pwd_callvg (hg : PGuardIs ops σ o c) (hd : o.dst = some d) (hlt : Nat.blt d n = true) (ho : o.op = .call { callee := .value x, args := l.toArray, argTypes := ts }) (hx : PEv σ c x pf) (ha : c = true → l.map (pevc σ) = pargs) (hc : c = true → PFV pf pargs r) (h : PWD n ops K lo (pupd σ d (pgv c r)) ρd ρs) : PWD n ops K ((1, o) :: lo) σ ρd ρs := fun β κ σ' rd rs g hs h1 h2 =>
 wd_g (hg κ σ' hs) hd hlt fun κ1 hk => og_pfv (g.mono hk) (hs.mono hk) ho hx ha hc fun v κ' hk' hv => h β κ' _ rd rs ((g.mono hk).mono hk') (((hs.mono hk).mono hk').upd (rp_gv hv)) ((h1.mono hk).mono hk') ((h2.mono hk).mono hk')
end
def flatK : List Field → Nat → List Nat → Bool
 | [], _, [] => true
 | f :: fs, k, q :: ks => (f.name != "_") && Nat.beq f.offset k && (match und f.type, q with | some (.int _), 0 | some .bool, 1 | some .string, 2 => true | _, _ => false) && flatK fs (k + 1) ks
 | _, _, _ => false
def eqk : List Nat → List Value → List Value → Option Bool
 | [], [], [] => some true
 | 0 :: ks, .int k a :: xs, .int k' b :: ys => match eqk ks xs ys with | some r => cond (decide (k = k')) (some ((a == b) && r)) none | none => none
 | 1 :: ks, .bool a :: xs, .bool b :: ys => match eqk ks xs ys with | some r => some ((a == b) && r) | none => none
 | 2 :: ks, .string a :: xs, .string b :: ys => match eqk ks xs ys with | some r => some (decide (a = b) && r) | none => none
 | _, _, _ => none
theorem run_eqFlat (d : Nat) (w : World) : ∀ (fs : List Field) (k : Nat) (ks : List Nat) (xs ys ax ay : List Value) (r : Bool), flatK fs k ks = true → ax.drop k = xs → ay.drop k = ys → eqk ks xs ys = some r → (Op.eqFields (d + 1) ax.toArray ay.toArray fs).run Tryz.prog w = .ok r w
 | [], k, ks, xs, ys, ax, ay, r, hf, _, _, he => by
  cases ks with
  | nil =>
   cases xs <;> cases ys <;> simp only [eqk, reduceCtorEq, Option.some.injEq] at he
   subst he; simp [Op.eqFields]
  | cons q ks => cases hf
 | f :: fs, k, ks, xs, ys, ax, ay, r, hf, h1, h2, he => by
  cases ks with
  | nil => cases hf
  | cons q ks =>
   simp only [flatK, Bool.and_eq_true, bne_iff_ne, ne_eq] at hf
   obtain ⟨⟨⟨hn, hoff⟩, hty⟩, hrest⟩ := hf
   have hoff := Nat.eq_of_beq_eq_true hoff
   cases xs with
   | nil => unfold eqk at he; split at he <;> simp_all
   | cons x xs =>
    cases ys with
    | nil => unfold eqk at he; split at he <;> simp_all
    | cons y ys =>
     have g1 : ax[k]? = some x := by have := congrArg (·[0]?) h1; simpa [List.getElem?_drop] using this
     have g2 : ay[k]? = some y := by have := congrArg (·[0]?) h2; simpa [List.getElem?_drop] using this
     have d1 : ax.drop (k + 1) = xs := by have := congrArg (List.drop 1) h1; simpa [List.drop_drop] using this
     have d2 : ay.drop (k + 1) = ys := by have := congrArg (List.drop 1) h2; simpa [List.drop_drop] using this
     cases hd : und f.type with
     | none => rw [hd] at hty; cases hty
     | some D =>
      rw [hd] at hty
      have hag : isAggD D = false := by
       cases D <;> first | rfl | (exfalso; split at hty <;> simp_all)
      have p1 : (part f.type ax.toArray f.offset).run Tryz.prog w = .ok x w := by simp [part, run_isAgg hd, hag, hoff, g1]
      have p2 : (part f.type ay.toArray f.offset).run Tryz.prog w = .ok y w := by simp [part, run_isAgg hd, hag, hoff, g2]
      have fin : ∀ (q r' : Bool), (Op.equalIn (d + 1) f.type x y).run Tryz.prog w = .ok q w → eqk ks xs ys = some r' → (q && r') = r → (Op.eqFields (d + 1) ax.toArray ay.toArray (f :: fs)).run Tryz.prog w = .ok r w := fun q r' hq1 hq2 hq3 => by
       have ih := run_eqFlat d w fs (k + 1) ks xs ys ax ay r' hrest d1 d2 hq2
       simp only [Op.eqFields, if_pos hn, Sem.run_bind, p1, p2, Result.andThen_ok, hq1]
       cases q
       ·simp at hq3; subst hq3; simp
       ·simp at hq3; subst hq3; simp [ih]
      cases D with
      | int kk =>
       have hq0 : q = 0 := by rcases q with _ | _ | _ | q <;> first | rfl | (simp at hty)
       subst hq0
       cases x <;> cases y <;> simp only [eqk, reduceCtorEq] at he
       rename_i k1 a1 k2 b1
       cases hq : eqk ks xs ys with
       | none => rw [hq] at he; cases he
       | some r' =>
        rw [hq] at he
        cases hk : decide (k1 = k2) with
        | false => simp only [hk, cond_false, reduceCtorEq] at he
        | true =>
         simp only [hk, cond_true, Option.some.injEq] at he
         have hk := of_decide_eq_true hk; subst hk
         exact fin (a1 == b1) r' (run_equalIn_int w d f.type k1 kk a1 b1 (und_ok hd)) hq he
      | bool =>
       have hq0 : q = 1 := by rcases q with _ | _ | _ | q <;> first | rfl | (simp at hty)
       subst hq0
       cases x <;> cases y <;> simp only [eqk, reduceCtorEq] at he
       rename_i a1 b1
       cases hq : eqk ks xs ys with
       | none => rw [hq] at he; cases he
       | some r' => rw [hq] at he; simp only [Option.some.injEq] at he; exact fin (a1 == b1) r' (run_equalIn_bool' w d f.type a1 b1 (und_ok hd)) hq he
      | string =>
       have hq0 : q = 2 := by rcases q with _ | _ | _ | q <;> first | rfl | (simp at hty)
       subst hq0
       cases x <;> cases y <;> simp only [eqk, reduceCtorEq] at he
       rename_i a1 b1
       cases hq : eqk ks xs ys with
       | none => rw [hq] at he; cases he
       | some r' => rw [hq] at he; simp only [Option.some.injEq] at he; exact fin (decide (a1 = b1)) r' (by rw [run_equalIn_string w d f.type a1 b1 (und_ok hd), beq_str]) hq he
      | _ => exfalso; revert hty; simp
def unV : List PV → Option (List Value)
 | [] => some []
 | .v x :: r => match unV r with | some l => some (x :: l) | none => none
 | _ => none
theorem unV_rps {κ : Kr} : ∀ {cs : List PV} {xs ds : List Value}, unV cs = some xs → Rps κ cs ds → ds = xs
 | [], xs, ds, h, hr => by simp only [unV, Option.some.injEq] at h; subst h; exact hr.nil_inv
 | c :: cs, xs, ds, h, hr => by
  obtain ⟨v, ws, rfl, h1, h2⟩ := hr.cons_inv
  cases c with
  | v x =>
   simp only [unV] at h
   cases hu : unV cs with
   | none => rw [hu] at h; cases h
   | some l => rw [hu] at h; simp only [Option.some.injEq] at h; subst h; rw [h1.val, unV_rps hu h2]
  | _ => cases h
theorem pq_eqst {o : Oper} {σ : PEnv} {ρ : List PRes} {c : Bool} {x y : Operand} {op : BinOp} {t t' : Nat} {cs ds : List PV} {xs ys : List Value} {r r' : Bool} (ks : List Nat) (ho : o.op = .binOp op t x y t') (h1 : Tryz.prog.underlying t = some (.struct (Tryz.prog.fieldsOf t))) (h2 : Tryz.prog.stoodInHeld t = false) (h3 : Tryz.prog.eqGuardType Tryz.prog.depth t = false) (h4 : flatK (Tryz.prog.fieldsOf t).toList 0 ks = true)
    (hx : PEv σ c x (.agg cs)) (hy : PEv σ c y (.agg ds)) (hxs : unV cs = some xs) (hys : unV ds = some ys) (he : eqk ks xs ys = some r) (hr : (match op with | .eql => some r | .neq => some (!r) | _ => none) = some r') : POpQ c o σ ρ (.v (.bool r')) := fun κ σ' ρ' g hs hrr => by
  cases c with
  | false => exact noq
  | true =>
    refine ⟨.bool r', fun _ => .v rfl, fun _ w _ => ?_⟩
    have e1 : ev σ' x = .agg xs.toArray := by
      have := hs.pe hx rfl; generalize ev σ' x = w1 at this; cases this with
      | agg ho hc => rw [unV_rps hxs hc]
    have e2 : ev σ' y = .agg ys.toArray := by
      have := hs.pe hy rfl; generalize ev σ' y = w1 at this; cases this with
      | agg ho hc => rw [unV_rps hys hc]
    have hrun : (Op.equalIn 10000 t (.agg xs.toArray) (.agg ys.toArray)).run Tryz.prog w = .ok r w := by
      rw [run_equalIn_struct w 9999 t _ _ h1 h2]
      exact run_eqFlat 9998 w _ 0 ks xs ys xs ys r h4 rfl rfl he
    simp only [execOp, ho, e1, e2, Sem.run_bind]
    rw [run_eqGuard_agg w op t x y _ _ h3]
    simp only [Result.andThen_ok]
    cases op <;> simp only [reduceCtorEq, Option.some.injEq] at hr
    · subst hr; rw [run_eql_struct, hrun]; simp
    · subst hr; rw [run_neq_struct, hrun]; simp
theorem pq_bytes {o : Oper} {σ : PEnv} {ρ : List PRes} {x : Operand} {s d e n cp T : Nat} {a : Option Addr} {xs : List Int} (ho : o.op = .convert s d x) (h1 : und s = some (.slice e)) (he : und e = some (.int .u8)) (hd : und d = some .string) (hx : pevc σ x = .v (.slice a n cp)) (hm : PRes.row a n cp T 1 (xs.map eB) ∈ ρ) (hn : n = xs.length) {K : PV → List PRes → Prop} (h : K (.v (.string (strOfNums xs))) ρ) : POpL o σ ρ K := fun κ σ' ρ' g hs hrr β hinv => by
 obtain ⟨r, hr1, hr2⟩ := hrr.mem hm
 cases hr2 with
 | row hb ho1 hss =>
  rename_i dss
  have hrow := row_some hr1 β hinv
  have hown := row_owns (hinv.own _ hr1)
  have hd2 : dss = xs.map fun b => [.int .u8 b] := by
   clear hrow hown hr1 ho1 hm hx h
   subst hn
   clear hb
   induction xs generalizing dss with
   | nil => rw [List.map_nil] at hss; rw [hss.nil_inv]; rfl
   | cons z zs ih =>
    rw [List.map_cons] at hss
    obtain ⟨v, ws, rfl, k1, k2⟩ := hss.cons_inv
    obtain ⟨v1, w1, rfl, k3, k4⟩ := k1.cons_inv
    rw [ih k2, k3.val, k4.nil_inv]; rfl
  subst hd2
  have hq := oq_bytes (c := true) (ρ := ρ') (κ := κ) ho h1 he hd (.p (hs.v1 hx)) (fun _ => rd_row hr1 (fun h => by obtain ⟨b, e⟩ := hrow.2 h; rw [e]; simp) hrow.1.1 hown.2.2)
  refine ol_q hq ⟨_, ρ, .v ?_, hrr, h⟩ β hinv
  have : (strOfNums xs).size = xs.length := by simp [strOfNums, ByteArray.size]
  simp only [okb, this]; exact Nat.ble_eq_true_of_le (by omega)
end SX
end Go.Proofs.YtfcecieppoljlaaGreatDoor
set_option maxRecDepth 100000
namespace Go.Proofs.YtfcecieppoljlaaGreatDoor
namespace SX
open Go
def PWS (n : Nat) (ops : Array Oper) (K : PPost) (m : Nat) (L : Array Bool) (σ : PEnv) (ρd ρs : List PRes) : Prop :=
 ∀ β κ σ' rd rs, GOK κ → Sim κ σ σ' → RRels κ ρd rd → RRels κ ρs rs → WS β n ops (lft K) m L σ' rd rs κ
def PStep (n : Nat) (ops : Array Oper) (K : PPost) (m : Nat) (L : Array Bool) (σ : PEnv) (ρd ρs : List PRes) (i : Nat) : Prop :=
 ∀ β κ σ' rd rs, GOK κ → Sim κ σ σ' → RRels κ ρd rd → RRels κ ρs rs → Step β n ops (lft K) m L σ' rd rs κ i
section
variable {n m : Nat} {ops : Array Oper} {K : PPost} {L : Array Bool} {σ : PEnv} {ρ ρd ρs : List PRes} {o : Oper} {i d : Nat} {p : PV} {c : Bool}
theorem pws_start {K : Exit → PPost} {id : Nat} {l : List Oper} (ρs : List PRes) (hp : ρ.Perm (ρd ++ ρs)) (h : PWS n l.toArray (K .normal) l.length (Array.replicate l.length false) σ ρd ρs) : PWC n (.region id l.toArray true) K σ ρ := fun β κ σ' ρ' g hs hr => by
 obtain ⟨rs', h1, h2⟩ := hr.perm hp
 obtain ⟨r1, r2, rfl, h3, h4⟩ := h2.split
 exact ws_start h1 fun κ1 hk => h β κ1 σ' r1 r2 (g.mono hk) (hs.mono hk) (h3.mono hk) (h4.mono hk)
theorem pws_done (hr : (Region.ready .any ops L).isEmpty = true) (h : K σ (ρd ++ ρs)) : PWS n ops K m L σ ρd ρs := fun β κ σ' rd rs g hs h1 h2 => ws_done hr ⟨σ, ρd ++ ρs, hs, h1.app h2, h⟩
theorem pws_q (i : Nat) (hok : okQ ops L i = true) (ho : ops[i]? = some o) (hg : o.guard = none) (hd : o.dst = some d) (hlt : Nat.blt d n = true) (h : POpQ true o σ ρs p) (hw : PWS n ops K m (L.setIfInBounds i true) (pupd σ d p) ρd ρs) : PWS n ops K (m + 1) L σ ρd ρs := fun β κ σ' rd rs g hs h1 h2 => by
 obtain ⟨v, k1, k2⟩ := h κ σ' rs g hs h2
 exact ws_q i hok ho hg hd hlt k2 (hw β κ _ rd rs g (hs.upd (k1 rfl)) h1 h2)
theorem pws_one (i : Nat) (hr : (Region.ready .any ops L == [i]) = true) (h : PStep n ops K m L σ ρd ρs i) : PWS n ops K (m + 1) L σ ρd ρs := fun β κ σ' rd rs g hs h1 h2 => ws_one i hr (h β κ σ' rd rs g hs h1 h2)
theorem pws_two (i j : Nat) (hr : (Region.ready .any ops L == [i, j]) = true) (h : PStep n ops K m L σ ρd ρs i) (h' : PStep n ops K m L σ ρd ρs j) : PWS n ops K (m + 1) L σ ρd ρs := fun β κ σ' rd rs g hs h1 h2 => ws_two i j hr (h β κ σ' rd rs g hs h1 h2) (h' β κ σ' rd rs g hs h1 h2)
theorem pstep_l (ho : ops[i]? = some o) (hg : o.guard = none) (hd : o.dst = some d) (hlt : Nat.blt d n = true) (h : POpL o σ ρd fun p ρ' => PWS n ops K m (L.setIfInBounds i true) (pupd σ d p) ρ' ρs) : PStep n ops K m L σ ρd ρs i := fun β κ σ' rd rs g hs h1 h2 =>
 step_l ho hg hd hlt (((h κ σ' rd g hs h1).framed (ρf := rs)).mono fun v ρ' κ' hk ⟨ρ1, e, pv, ρp, k1, k2, k3⟩ => ⟨ρ1, e, k3 β κ' _ ρ1 rs (g.mono hk) ((hs.mono hk).upd k1) k2 (h2.mono hk)⟩)
theorem pstep_l0 (ho : ops[i]? = some o) (hg : o.guard = none) (hd : o.dst = none) (h : POpL o σ ρd fun _ ρ' => PWS n ops K m (L.setIfInBounds i true) σ ρ' ρs) : PStep n ops K m L σ ρd ρs i := fun β κ σ' rd rs g hs h1 h2 =>
 step_l0 ho hg hd (((h κ σ' rd g hs h1).framed (ρf := rs)).mono fun v ρ' κ' hk ⟨ρ1, e, pv, ρp, k1, k2, k3⟩ => ⟨ρ1, e, k3 β κ' _ ρ1 rs (g.mono hk) (hs.mono hk) k2 (h2.mono hk)⟩)
theorem pstep_call {f : Nat} {l : List Operand} {ts : Array Nat} {pargs : List PV} {v : PV} (ho : ops[i]? = some o) (hg : o.guard = none) (hd : o.dst = some d) (hlt : Nat.blt d n = true) (hop : o.op = .call { callee := .value (.func f), args := l.toArray, argTypes := ts }) (ha : l.map (pevc σ) = pargs) (hc : PF f pargs v) (h : PWS n ops K m (L.setIfInBounds i true) (pupd σ d v) ρd ρs) : PStep n ops K m L σ ρd ρs i :=
 pstep_l ho hg hd hlt (pl_call hop ha hc h)
end
section
variable {n : Nat} {x : Code} {K : Exit → PPost} {σ : PEnv} {ρ : List PRes} {a : Option Addr} {m c T sz : Nat} {α : Type} {enc : α → List PV} {xs : List α}
theorem pwc_rowfact (hm : PRes.row a m c T sz (xs.map enc) ∈ ρ) (h : xs.length = m → (0 < m → a = some ⟨ablk a, 0, none⟩) → PWC n x K σ ρ) : PWC n x K σ ρ := fun β κ σ' ρ' g hs hr hi => by
 obtain ⟨r, hr1, hr2⟩ := hr.mem hm
 cases hr2 with
 | row hb ho hc =>
  have h1 := hi.own _ hr1
  have e1 := (row_owns h1).2.1; have e2 := hc.len; rw [List.length_map] at e2
  exact h (by omega) (fun h0 => row_addr h1 h0) β κ σ' ρ' g hs hr hi
theorem pq_indexF {cc : Bool} {o : Oper} {y z0 : Operand} {t by' : Nat} {k : IntKind} {i : Int} {z : Value} {e : α} (hl : xs.length = m) (ha : 0 < m → a = some ⟨ablk a, 0, none⟩) (ho : o.op = .indexAddr t y z0) (hu : und t = some (.slice T)) (hi : inf T = some (z, sz, by')) (hx : PEv σ cc y (.v (.slice a m c))) (hy : PEv σ cc z0 (.v (.int k i))) (hm : cc = true → idx xs i = some e) : POpQ cc o σ ρ (.v (.pointer (some ⟨ablk a, i.toNat * sz, none⟩))) := fun κ σ' ρ' g hs hrr => by
 refine ⟨_, fun _ => .v rfl, fun hc w hst => ?_⟩
 obtain ⟨h0, hmm⟩ := idx_some (hm hc)
 have hlt := (List.getElem?_eq_some_iff.1 hmm).1
 have h := oq_index (c := true) (ρ := ρ') (κ := κ) (j := i.toNat) ho hu hi (fun _ => by rw [hs.ve hx hc, ha (by omega)]) (fun _ => hs.ve hy hc) (fun _ => by omega) (fun _ => by omega) rfl w hst
 rwa [Nat.zero_add] at h
end
end SX
end Go.Proofs.YtfcecieppoljlaaGreatDoor
set_option maxRecDepth 100000
namespace Go.Proofs.YtfcecieppoljlaaGreatDoor
namespace SX
open Go
theorem run_eqnil {t E : Nat} (hu : und t = some (.slice E)) (a : Option Addr) (n c : Nat) (x y : Operand) (w : World) : ((eqGuard .eql t x y (.slice a n c) (.slice none 0 0)).run Tryz.prog w = .ok () w) ∧ (binOp .eql t (.slice a n c) (.slice none 0 0)).run Tryz.prog w = .ok (.bool a.isNone) w := by
 constructor
 ·cases a <;> simp [eqGuard]
 ·simp only [binOp, Sem.run_bind, run_equal_slice_nil w t E a n c (und_ok hu), Result.andThen_ok, Sem.run_pure]
theorem pwl_eqnil {n : Nat} {ops : Array Oper} {o : Oper} {rest : List Oper} {K : PPost} {σ : PEnv} {ρ : List PRes} {d t t' E : Nat} {x : Operand} {xs : List (List PV)} (hg : o.guard = none) (hd : o.dst = some d) (hlt : Nat.blt d n = true) (ho : o.op = .binOp .eql t x (.const (.slice none 0 0)) t') (hu : und t = some (.slice E)) (hx : pevc σ x = .slc xs) (h : ∀ b : Bool, (b = true → xs = []) → PWL n ops rest K (pupd σ d (.v (.bool b))) ρ) : PWL n ops (o :: rest) K σ ρ := fun β κ σ' ρ' g hs hr => by
 have he := hs.ev x
 rw [hx] at he
 generalize hw' : ev σ' x = w at he
 cases he with
 | slc hsl hb h1 hss =>
  rename_i a m c sz css
  have hq : OpQ true o σ' ρ' κ (.bool a.isNone) := fun _ w _ => by
   obtain ⟨g1, g2⟩ := run_eqnil hu a m c x (.const (.slice none 0 0)) w
   have e2 : ev σ' (.const (.slice none 0 0)) = .slice none 0 0 := rfl
   simp only [execOp, ho, hw', e2, Sem.run_bind, g1, Result.andThen_ok, g2, Sem.run_pure]
  refine wl_q hg hd hlt hq (h a.isNone (fun hn => ?_) β κ _ ρ' g (hs.upd (.v rfl)) hr)
  cases a with
  | some ad => cases hn
  | none =>
   have : m = 0 := by
    rcases Nat.eq_zero_or_pos m with h | h
    ·exact h
    ·obtain ⟨b, off, e, _⟩ := hsl.at_ h; cases e
   subst this
   have e1 := hss.len; have e2 := hsl.len
   exact List.eq_nil_of_length_eq_zero (by omega)
theorem set_same {α : Type} (l : List α) (k : Nat) (v : α) (h : l[k]? = some v) : l.set k v = l := by
 apply List.ext_getElem?; intro i; rw [List.getElem?_set]; split
 ·rename_i hik; subst hik; rw [h]; have := (List.getElem?_eq_some_iff.1 h).1; simp [this]
 ·rfl
section
variable {n : Nat} {x : Code} {K : Exit → PPost} {KL : PPost} {σ : PEnv} {ρ : List PRes} {ops : Array Oper} {lo : List Oper} {cs : List PV} {a : Option Addr} {m c : Nat} {css : List (List PV)}
theorem agg_nil {κ : Kr} {w : Value} {k : Nat} (h : Rp κ (.agg cs) w) (hk : cs[k]? = some (.v (.slice none 0 0))) : Rp κ (.agg (cs.set k (.slc []))) w := by
 cases h with
 | agg ho hc =>
  obtain ⟨v, hv, hp⟩ := hc.get hk
  have hset := hc.set (k := k) (p := .slc []) (v := v) (by rw [hp.val]; exact rp_nil)
  rw [set_same _ _ _ hv] at hset
  exact .agg ho hset
theorem pwl_aggnil (t k : Nat) (ht : σ t = .agg cs) (hk : cs[k]? = some (.v (.slice none 0 0))) (h : PWL n ops lo KL (pupd σ t (.agg (cs.set k (.slc [])))) ρ) : PWL n ops lo KL σ ρ := fun β κ σ' ρ' g hs hr => h β κ σ' ρ' g (sim_view hs (agg_nil (by have := hs t; rwa [ht] at this) hk)) hr
end
def zpv : Value → PV
 | .slice none 0 0 => .slc []
 | x => cond (okb x) (.v x) .any
theorem rps_zpv {κ : Kr} : ∀ (l : List Value), Rps κ (l.map zpv) l
 | [] => .nil
 | x :: l => .cons (by unfold zpv; split; exact rp_nil; exact rp_cond) (rps_zpv l)
theorem pq_buildZ {o : Oper} {σ : PEnv} {ρ : List PRes} {c : Bool} {t sz by' : Nat} {parts : List (Nat × Operand)} {fl : List (Nat × Nat)} {zs : List Value} {zp cs : List PV} (hc : c = true) (ho : o.op = .build t parts.toArray) (hz : inf t = some (.agg zs.toArray, sz, by')) (hf : fldL t = some fl) (hall : (fl.all fun p => (inf p.2).isSome) = true) (hzp : zs.map zpv = zp) (hz1 : zs.all Value.oneCell' = true) (h : PFill σ fl zp parts cs) : POpQ c o σ ρ (.agg cs) := fun κ σ' ρ' g hs hr => by
 subst hc
 obtain ⟨cv, h1, h2, h3⟩ := h.real hs (zv := zs) (by rw [← hzp]; exact rps_zpv zs) (fun u hu => List.all_eq_true.1 hz1 u hu)
 exact ⟨_, fun _ => .agg h3 h2, oq_build ho hz hf hall h1⟩
def math_bits_Add64 (x y c : Int) : Option (Int × Int) := if 0 ≤ x ∧ 0 ≤ y ∧ 0 ≤ c ∧ c ≤ 1 then some ((x + y + c) % 18446744073709551616, (x + y + c) / 18446744073709551616) else none
theorem pl_add64 {o : Oper} {σ : PEnv} {ρ : List PRes} {l : List Operand} {ts : Array Nat} {x y c : Int} {r : Int × Int} {K : PV → List PRes → Prop} (ho : o.op = .call { callee := .value (.func 122), args := l.toArray, argTypes := ts }) (ha : l.map (pevc σ) = [.v (.int .u64 x), .v (.int .u64 y), .v (.int .u64 c)]) (hr : math_bits_Add64 x y c = some r) (h : K (.tup [.v (.int .u64 r.1), .v (.int .u64 r.2)]) ρ) : POpL o σ ρ K := fun κ σ' ρ' g hs hrr => by
 unfold math_bits_Add64 at hr
 split at hr
 ·rename_i hh
  injection hr with hr; subst hr
  have hargs := rps_args hs l
  rw [ha] at hargs
  obtain ⟨v1, w1, e1, h1, hargs⟩ := hargs.cons_inv
  obtain ⟨v2, w2, rfl, h2, hargs⟩ := hargs.cons_inv
  obtain ⟨v3, w3, rfl, h3, hargs⟩ := hargs.cons_inv
  rw [hargs.nil_inv, h1.val, h2.val, h3.val] at e1
  have hq : OpQ true o σ' ρ' κ (.tuple #[.int .u64 ((x + y + c) % 18446744073709551616), .int .u64 ((x + y + c) / 18446744073709551616)]) := fun _ w _ => by
   have hcall := run_callFunc_extern (P := Tryz.prog) Tryz.func122 (by kernel_rfl) (by kernel_rfl) (by kernel_rfl) (e := add64Entry) (by kernel_rfl) #[.int .u64 x, .int .u64 y, .int .u64 c] w
   rw [run_add64 x y c hh.1 hh.2.1 hh.2.2.1 hh.2.2.2] at hcall
   simp only [Result.andThen_ok] at hcall
   unfold execOp
   simp only [ho, ev, resolve, Deferred.ofValue, Sem.run_bind, Sem.run_pure, Result.andThen_ok, invoke, List.map_toArray, e1]
   simp only [Array.append_empty, Array.empty_append, hcall]
  exact ol_q hq ⟨_, ρ, .tup (ws := [_, _]) (.cons (.v rfl) (.cons (.v rfl) .nil)), hrr, h⟩
 ·cases hr
theorem zm0 {α : Type} {a : α} {l : List α} : a ∈ a :: l := List.Mem.head _
theorem zm1 {α : Type} {a b0 : α} {l : List α} : a ∈ b0 :: a :: l := List.Mem.tail _ (List.Mem.head _)
theorem zm2 {α : Type} {a b0 b1 : α} {l : List α} : a ∈ b0 :: b1 :: a :: l := List.Mem.tail _ (List.Mem.tail _ (List.Mem.head _))
theorem zm3 {α : Type} {a b0 b1 b2 : α} {l : List α} : a ∈ b0 :: b1 :: b2 :: a :: l := List.Mem.tail _ (List.Mem.tail _ (List.Mem.tail _ (List.Mem.head _)))
theorem zm4 {α : Type} {a b0 b1 b2 b3 : α} {l : List α} : a ∈ b0 :: b1 :: b2 :: b3 :: a :: l := List.Mem.tail _ (List.Mem.tail _ (List.Mem.tail _ (List.Mem.tail _ (List.Mem.head _))))
theorem zm5 {α : Type} {a b0 b1 b2 b3 b4 : α} {l : List α} : a ∈ b0 :: b1 :: b2 :: b3 :: b4 :: a :: l := List.Mem.tail _ (List.Mem.tail _ (List.Mem.tail _ (List.Mem.tail _ (List.Mem.tail _ (List.Mem.head _)))))
theorem zm6 {α : Type} {a b0 b1 b2 b3 b4 b5 : α} {l : List α} : a ∈ b0 :: b1 :: b2 :: b3 :: b4 :: b5 :: a :: l := List.Mem.tail _ (List.Mem.tail _ (List.Mem.tail _ (List.Mem.tail _ (List.Mem.tail _ (List.Mem.tail _ (List.Mem.head _))))))
theorem zm7 {α : Type} {a b0 b1 b2 b3 b4 b5 b6 : α} {l : List α} : a ∈ b0 :: b1 :: b2 :: b3 :: b4 :: b5 :: b6 :: a :: l := List.Mem.tail _ (List.Mem.tail _ (List.Mem.tail _ (List.Mem.tail _ (List.Mem.tail _ (List.Mem.tail _ (List.Mem.tail _ (List.Mem.head _)))))))
theorem zm8 {α : Type} {a b0 b1 b2 b3 b4 b5 b6 b7 : α} {l : List α} : a ∈ b0 :: b1 :: b2 :: b3 :: b4 :: b5 :: b6 :: b7 :: a :: l := List.Mem.tail _ (List.Mem.tail _ (List.Mem.tail _ (List.Mem.tail _ (List.Mem.tail _ (List.Mem.tail _ (List.Mem.tail _ (List.Mem.tail _ (List.Mem.head _))))))))
theorem zm9 {α : Type} {a b0 b1 b2 b3 b4 b5 b6 b7 b8 : α} {l : List α} : a ∈ b0 :: b1 :: b2 :: b3 :: b4 :: b5 :: b6 :: b7 :: b8 :: a :: l := List.Mem.tail _ (List.Mem.tail _ (List.Mem.tail _ (List.Mem.tail _ (List.Mem.tail _ (List.Mem.tail _ (List.Mem.tail _ (List.Mem.tail _ (List.Mem.tail _ (List.Mem.head _)))))))))
theorem zm10 {α : Type} {a b0 b1 b2 b3 b4 b5 b6 b7 b8 b9 : α} {l : List α} : a ∈ b0 :: b1 :: b2 :: b3 :: b4 :: b5 :: b6 :: b7 :: b8 :: b9 :: a :: l := List.Mem.tail _ (List.Mem.tail _ (List.Mem.tail _ (List.Mem.tail _ (List.Mem.tail _ (List.Mem.tail _ (List.Mem.tail _ (List.Mem.tail _ (List.Mem.tail _ (List.Mem.tail _ (List.Mem.head _))))))))))
theorem zm11 {α : Type} {a b0 b1 b2 b3 b4 b5 b6 b7 b8 b9 b10 : α} {l : List α} : a ∈ b0 :: b1 :: b2 :: b3 :: b4 :: b5 :: b6 :: b7 :: b8 :: b9 :: b10 :: a :: l := List.Mem.tail _ (List.Mem.tail _ (List.Mem.tail _ (List.Mem.tail _ (List.Mem.tail _ (List.Mem.tail _ (List.Mem.tail _ (List.Mem.tail _ (List.Mem.tail _ (List.Mem.tail _ (List.Mem.tail _ (List.Mem.head _)))))))))))
theorem zm12 {α : Type} {a b0 b1 b2 b3 b4 b5 b6 b7 b8 b9 b10 b11 : α} {l : List α} : a ∈ b0 :: b1 :: b2 :: b3 :: b4 :: b5 :: b6 :: b7 :: b8 :: b9 :: b10 :: b11 :: a :: l := List.Mem.tail _ (List.Mem.tail _ (List.Mem.tail _ (List.Mem.tail _ (List.Mem.tail _ (List.Mem.tail _ (List.Mem.tail _ (List.Mem.tail _ (List.Mem.tail _ (List.Mem.tail _ (List.Mem.tail _ (List.Mem.tail _ (List.Mem.head _))))))))))))
theorem zm13 {α : Type} {a b0 b1 b2 b3 b4 b5 b6 b7 b8 b9 b10 b11 b12 : α} {l : List α} : a ∈ b0 :: b1 :: b2 :: b3 :: b4 :: b5 :: b6 :: b7 :: b8 :: b9 :: b10 :: b11 :: b12 :: a :: l := List.Mem.tail _ (List.Mem.tail _ (List.Mem.tail _ (List.Mem.tail _ (List.Mem.tail _ (List.Mem.tail _ (List.Mem.tail _ (List.Mem.tail _ (List.Mem.tail _ (List.Mem.tail _ (List.Mem.tail _ (List.Mem.tail _ (List.Mem.tail _ (List.Mem.head _)))))))))))))
theorem zmv {n : Nat} {ops : Array Oper} {o : Oper} {rest : List Oper} {K : PPost} {σ : PEnv} {ρ : List PRes} {d : Nat} {x : Operand} {p : PV} (hg : o.guard = none) (hd : o.dst = some d) (hlt : Nat.blt d n = true) (ho : o.op = .move x) (hx : pevc σ x = p) (hw : PWL n ops rest K (pupd σ d p) ρ) : PWL n ops (o :: rest) K σ ρ := yah hg hd hlt (yam ho (.p hx)) hw
theorem zas {n : Nat} {ops : Array Oper} {o : Oper} {rest : List Oper} {K : PPost} {σ : PEnv} {ρ : List PRes} {d : Nat} {x : Operand} {p : PV} (hg : o.guard = none) (hd : o.dst = some d) (hlt : Nat.blt d n = true) (ho : o.op = .assign x) (hx : pevc σ x = p) (hw : PWL n ops rest K (pupd σ d p) ρ) : PWL n ops (o :: rest) K σ ρ := yah hg hd hlt (pq_assign ho (.p hx)) hw
theorem zex {n : Nat} {ops : Array Oper} {o : Oper} {rest : List Oper} {K : PPost} {σ : PEnv} {ρ : List PRes} {d i : Nat} {vs : List PV} {x : Operand} {p : PV} (hg : o.guard = none) (hd : o.dst = some d) (hlt : Nat.blt d n = true) (ho : o.op = .extract x i) (hx : pevc σ x = .tup vs) (hr : vs[i]? = some p) (hw : PWL n ops rest K (pupd σ d p) ρ) : PWL n ops (o :: rest) K σ ρ := yah hg hd hlt (pq_extract ho (.p hx) hr) hw
end SX
end Go.Proofs.YtfcecieppoljlaaGreatDoor
set_option maxRecDepth 100000
namespace Go.Proofs.YtfcecieppoljlaaGreatDoor
namespace SX
open Go
structure TItem where
 Code : ByteArray
 Origin : ByteArray
 Proof : Bool
 Company : Int
 Day : Int
 Quantity : Int
 Value : Int
 Granted : Int
 deriving Inhabited, DecidableEq
def TItem.enc (m : TItem) : List PV := [.v (.string m.Code), .v (.string m.Origin), .v (.bool m.Proof), .v (.int .i64 m.Company), .v (.int .i64 m.Day), .v (.int .i64 m.Quantity), .v (.int .i64 m.Value), .v (.int .i64 m.Granted)]
def TItem.eqb (a b : TItem) : Bool := ((decide (a.Code = b.Code)) && ((decide (a.Origin = b.Origin)) && ((a.Proof == b.Proof) && ((a.Company == b.Company) && ((a.Day == b.Day) && ((a.Quantity == b.Quantity) && ((a.Value == b.Value) && ((a.Granted == b.Granted) && true))))))))
theorem TItem.eqb_iff {a b : TItem} : TItem.eqb a b = true ↔ a = b := by cases a; cases b; simp [TItem.eqb]
structure TDebtLine where
 Kind : Int
 Measure : Int
 Quantity : Int
 Value : Int
 Amount : Int
 deriving Inhabited, DecidableEq
def TDebtLine.enc (m : TDebtLine) : List PV := [.v (.int .i64 m.Kind), .v (.int .i64 m.Measure), .v (.int .i64 m.Quantity), .v (.int .i64 m.Value), .v (.int .i64 m.Amount)]
def TDebtLine.eqb (a b : TDebtLine) : Bool := ((a.Kind == b.Kind) && ((a.Measure == b.Measure) && ((a.Quantity == b.Quantity) && ((a.Value == b.Value) && ((a.Amount == b.Amount) && true)))))
theorem TDebtLine.eqb_iff {a b : TDebtLine} : TDebtLine.eqb a b = true ↔ a = b := by cases a; cases b; simp [TDebtLine.eqb]
structure TDebt where
 Lines : (List TDebtLine)
 Total : Int
 deriving Inhabited, DecidableEq
def TDebt.enc (m : TDebt) : List PV := [.slc (List.map TDebtLine.enc m.Lines), .v (.int .i64 m.Total)]
structure TDuty where
 Rate : Int
 Amount : Int
 Per : Int
 HasMost : Bool
 Most : Int
 HasLeast : Bool
 Least : Int
 deriving Inhabited, DecidableEq
def TDuty.enc (m : TDuty) : List PV := [.v (.int .i64 m.Rate), .v (.int .i64 m.Amount), .v (.int .i64 m.Per), .v (.bool m.HasMost), .v (.int .i64 m.Most), .v (.bool m.HasLeast), .v (.int .i64 m.Least)]
def TDuty.eqb (a b : TDuty) : Bool := ((a.Rate == b.Rate) && ((a.Amount == b.Amount) && ((a.Per == b.Per) && ((a.HasMost == b.HasMost) && ((a.Most == b.Most) && ((a.HasLeast == b.HasLeast) && ((a.Least == b.Least) && true)))))))
theorem TDuty.eqb_iff {a b : TDuty} : TDuty.eqb a b = true ↔ a = b := by cases a; cases b; simp [TDuty.eqb]
structure TMeasure where
 ID : Int
 Kind : Int
 Prefix : ByteArray
 Origins : (List ByteArray)
 Company : Int
 From : Int
 To : Int
 Registered : Int
 Duty : TDuty
 deriving Inhabited, DecidableEq
def TMeasure.enc (m : TMeasure) : List PV := [.v (.int .i64 m.ID), .v (.int .i64 m.Kind), .v (.string m.Prefix), .slc (List.map eS m.Origins), .v (.int .i64 m.Company), .v (.int .i64 m.From), .v (.int .i64 m.To), .v (.int .i64 m.Registered), .v (.int .i64 m.Duty.Rate), .v (.int .i64 m.Duty.Amount), .v (.int .i64 m.Duty.Per), .v (.bool m.Duty.HasMost), .v (.int .i64 m.Duty.Most), .v (.bool m.Duty.HasLeast), .v (.int .i64 m.Duty.Least)]
structure Tmade_Source where
 L : (List Int)
 I : Int
 deriving Inhabited, DecidableEq
def Tmade_Source.enc (m : Tmade_Source) : List PV := [.slc (List.map eI m.L), .v (.int .i64 m.I)]
structure Tassess_part where
 quantity : Int
 value : Int
 kinds : (List Int)
 deriving Inhabited, DecidableEq
def Tassess_part.enc (m : Tassess_part) : List PV := [.v (.int .i64 m.quantity), .v (.int .i64 m.value), .slc (List.map eI m.kinds)]
structure Tassess_account where
 kind : Int
 measure : Int
 deriving Inhabited, DecidableEq
def Tassess_account.enc (m : Tassess_account) : List PV := [.v (.int .i64 m.kind), .v (.int .i64 m.measure)]
def Tassess_account.eqb (a b : Tassess_account) : Bool := ((a.kind == b.kind) && ((a.measure == b.measure) && true))
theorem Tassess_account.eqb_iff {a b : Tassess_account} : Tassess_account.eqb a b = true ↔ a = b := by cases a; cases b; simp [Tassess_account.eqb]
structure Tref01_Wide where
 Hi : Int
 Lo : Int
 deriving Inhabited, DecidableEq
def Tref01_Wide.enc (m : Tref01_Wide) : List PV := [.v (.int .u64 m.Hi), .v (.int .u64 m.Lo)]
def Tref01_Wide.eqb (a b : Tref01_Wide) : Bool := ((a.Hi == b.Hi) && ((a.Lo == b.Lo) && true))
theorem Tref01_Wide.eqb_iff {a b : Tref01_Wide} : Tref01_Wide.eqb a b = true ↔ a = b := by cases a; cases b; simp [Tref01_Wide.eqb]
structure Tapportion_portion where
 index_ : Int
 share : Int
 rest : Int
 deriving Inhabited, DecidableEq
def Tapportion_portion.enc (m : Tapportion_portion) : List PV := [.v (.int .i64 m.index_), .v (.int .u64 m.share), .v (.int .u64 m.rest)]
def Tapportion_portion.eqb (a b : Tapportion_portion) : Bool := ((a.index_ == b.index_) && ((a.share == b.share) && ((a.rest == b.rest) && true)))
theorem Tapportion_portion.eqb_iff {a b : Tapportion_portion} : Tapportion_portion.eqb a b = true ↔ a = b := by cases a; cases b; simp [Tapportion_portion.eqb]
structure Tapportion_ranking where
 compare : Unit
 deriving Inhabited, DecidableEq
def Tapportion_ranking.enc (m : Tapportion_ranking) : List PV := [.fn 91 []]
structure Texact_Wide where
 Hi : Int
 Lo : Int
 deriving Inhabited, DecidableEq
def Texact_Wide.enc (m : Texact_Wide) : List PV := [.v (.int .u64 m.Hi), .v (.int .u64 m.Lo)]
def Texact_Wide.eqb (a b : Texact_Wide) : Bool := ((a.Hi == b.Hi) && ((a.Lo == b.Lo) && true))
theorem Texact_Wide.eqb_iff {a b : Texact_Wide} : Texact_Wide.eqb a b = true ↔ a = b := by cases a; cases b; simp [Texact_Wide.eqb]
end SX
end Go.Proofs.YtfcecieppoljlaaGreatDoor
set_option maxRecDepth 100000
namespace Go.Proofs.YtfcecieppoljlaaGreatDoor
namespace SX
open Go
theorem fk8 : FnOk 8 := ⟨_, Tryz.func8, by kernel_rfl, by kernel_rfl⟩
theorem fk11 : FnOk 11 := ⟨_, Tryz.func11, by kernel_rfl, by kernel_rfl⟩
theorem fk12 : FnOk 12 := ⟨_, Tryz.func12, by kernel_rfl, by kernel_rfl⟩
theorem fk13 : FnOk 13 := ⟨_, Tryz.func13, by kernel_rfl, by kernel_rfl⟩
theorem fk14 : FnOk 14 := ⟨_, Tryz.func14, by kernel_rfl, by kernel_rfl⟩
theorem fk15 : FnOk 15 := ⟨_, Tryz.func15, by kernel_rfl, by kernel_rfl⟩
theorem fk16 : FnOk 16 := ⟨_, Tryz.func16, by kernel_rfl, by kernel_rfl⟩
theorem fk17 : FnOk 17 := ⟨_, Tryz.func17, by kernel_rfl, by kernel_rfl⟩
theorem fk18 : FnOk 18 := ⟨_, Tryz.func18, by kernel_rfl, by kernel_rfl⟩
theorem fk19 : FnOk 19 := ⟨_, Tryz.func19, by kernel_rfl, by kernel_rfl⟩
theorem fk21 : FnOk 21 := ⟨_, Tryz.func21, by kernel_rfl, by kernel_rfl⟩
theorem fk22 : FnOk 22 := ⟨_, Tryz.func22, by kernel_rfl, by kernel_rfl⟩
theorem fk26 : FnOk 26 := ⟨_, Tryz.func26, by kernel_rfl, by kernel_rfl⟩
theorem fk27 : FnOk 27 := ⟨_, Tryz.func27, by kernel_rfl, by kernel_rfl⟩
theorem fk28 : FnOk 28 := ⟨_, Tryz.func28, by kernel_rfl, by kernel_rfl⟩
theorem fk29 : FnOk 29 := ⟨_, Tryz.func29, by kernel_rfl, by kernel_rfl⟩
theorem fk30 : FnOk 30 := ⟨_, Tryz.func30, by kernel_rfl, by kernel_rfl⟩
theorem fk31 : FnOk 31 := ⟨_, Tryz.func31, by kernel_rfl, by kernel_rfl⟩
theorem fk32 : FnOk 32 := ⟨_, Tryz.func32, by kernel_rfl, by kernel_rfl⟩
theorem fk33 : FnOk 33 := ⟨_, Tryz.func33, by kernel_rfl, by kernel_rfl⟩
theorem fk34 : FnOk 34 := ⟨_, Tryz.func34, by kernel_rfl, by kernel_rfl⟩
theorem fk35 : FnOk 35 := ⟨_, Tryz.func35, by kernel_rfl, by kernel_rfl⟩
theorem fk36 : FnOk 36 := ⟨_, Tryz.func36, by kernel_rfl, by kernel_rfl⟩
theorem fk37 : FnOk 37 := ⟨_, Tryz.func37, by kernel_rfl, by kernel_rfl⟩
theorem fk38 : FnOk 38 := ⟨_, Tryz.func38, by kernel_rfl, by kernel_rfl⟩
theorem fk39 : FnOk 39 := ⟨_, Tryz.func39, by kernel_rfl, by kernel_rfl⟩
theorem fk40 : FnOk 40 := ⟨_, Tryz.func40, by kernel_rfl, by kernel_rfl⟩
theorem fk41 : FnOk 41 := ⟨_, Tryz.func41, by kernel_rfl, by kernel_rfl⟩
theorem fk42 : FnOk 42 := ⟨_, Tryz.func42, by kernel_rfl, by kernel_rfl⟩
theorem fk43 : FnOk 43 := ⟨_, Tryz.func43, by kernel_rfl, by kernel_rfl⟩
theorem fk44 : FnOk 44 := ⟨_, Tryz.func44, by kernel_rfl, by kernel_rfl⟩
theorem fk49 : FnOk 49 := ⟨_, Tryz.func49, by kernel_rfl, by kernel_rfl⟩
theorem fk51 : FnOk 51 := ⟨_, Tryz.func51, by kernel_rfl, by kernel_rfl⟩
theorem fk52 : FnOk 52 := ⟨_, Tryz.func52, by kernel_rfl, by kernel_rfl⟩
theorem fk53 : FnOk 53 := ⟨_, Tryz.func53, by kernel_rfl, by kernel_rfl⟩
theorem fk54 : FnOk 54 := ⟨_, Tryz.func54, by kernel_rfl, by kernel_rfl⟩
theorem fk55 : FnOk 55 := ⟨_, Tryz.func55, by kernel_rfl, by kernel_rfl⟩
theorem fk56 : FnOk 56 := ⟨_, Tryz.func56, by kernel_rfl, by kernel_rfl⟩
theorem fk57 : FnOk 57 := ⟨_, Tryz.func57, by kernel_rfl, by kernel_rfl⟩
theorem fk58 : FnOk 58 := ⟨_, Tryz.func58, by kernel_rfl, by kernel_rfl⟩
theorem fk59 : FnOk 59 := ⟨_, Tryz.func59, by kernel_rfl, by kernel_rfl⟩
theorem fk60 : FnOk 60 := ⟨_, Tryz.func60, by kernel_rfl, by kernel_rfl⟩
theorem fk61 : FnOk 61 := ⟨_, Tryz.func61, by kernel_rfl, by kernel_rfl⟩
theorem fk62 : FnOk 62 := ⟨_, Tryz.func62, by kernel_rfl, by kernel_rfl⟩
theorem fk63 : FnOk 63 := ⟨_, Tryz.func63, by kernel_rfl, by kernel_rfl⟩
theorem fk64 : FnOk 64 := ⟨_, Tryz.func64, by kernel_rfl, by kernel_rfl⟩
theorem fk65 : FnOk 65 := ⟨_, Tryz.func65, by kernel_rfl, by kernel_rfl⟩
theorem fk66 : FnOk 66 := ⟨_, Tryz.func66, by kernel_rfl, by kernel_rfl⟩
theorem fk67 : FnOk 67 := ⟨_, Tryz.func67, by kernel_rfl, by kernel_rfl⟩
theorem fk68 : FnOk 68 := ⟨_, Tryz.func68, by kernel_rfl, by kernel_rfl⟩
theorem fk69 : FnOk 69 := ⟨_, Tryz.func69, by kernel_rfl, by kernel_rfl⟩
theorem fk70 : FnOk 70 := ⟨_, Tryz.func70, by kernel_rfl, by kernel_rfl⟩
theorem fk71 : FnOk 71 := ⟨_, Tryz.func71, by kernel_rfl, by kernel_rfl⟩
theorem fk72 : FnOk 72 := ⟨_, Tryz.func72, by kernel_rfl, by kernel_rfl⟩
theorem fk73 : FnOk 73 := ⟨_, Tryz.func73, by kernel_rfl, by kernel_rfl⟩
theorem fk75 : FnOk 75 := ⟨_, Tryz.func75, by kernel_rfl, by kernel_rfl⟩
theorem fk76 : FnOk 76 := ⟨_, Tryz.func76, by kernel_rfl, by kernel_rfl⟩
theorem fk79 : FnOk 79 := ⟨_, Tryz.func79, by kernel_rfl, by kernel_rfl⟩
theorem fk80 : FnOk 80 := ⟨_, Tryz.func80, by kernel_rfl, by kernel_rfl⟩
theorem fk81 : FnOk 81 := ⟨_, Tryz.func81, by kernel_rfl, by kernel_rfl⟩
theorem fk84 : FnOk 84 := ⟨_, Tryz.func84, by kernel_rfl, by kernel_rfl⟩
theorem fk85 : FnOk 85 := ⟨_, Tryz.func85, by kernel_rfl, by kernel_rfl⟩
theorem fk86 : FnOk 86 := ⟨_, Tryz.func86, by kernel_rfl, by kernel_rfl⟩
theorem fk87 : FnOk 87 := ⟨_, Tryz.func87, by kernel_rfl, by kernel_rfl⟩
theorem fk88 : FnOk 88 := ⟨_, Tryz.func88, by kernel_rfl, by kernel_rfl⟩
theorem fk89 : FnOk 89 := ⟨_, Tryz.func89, by kernel_rfl, by kernel_rfl⟩
theorem fk90 : FnOk 90 := ⟨_, Tryz.func90, by kernel_rfl, by kernel_rfl⟩
theorem fk91 : FnOk 91 := ⟨_, Tryz.func91, by kernel_rfl, by kernel_rfl⟩
theorem fk92 : FnOk 92 := ⟨_, Tryz.func92, by kernel_rfl, by kernel_rfl⟩
theorem fk93 : FnOk 93 := ⟨_, Tryz.func93, by kernel_rfl, by kernel_rfl⟩
theorem fk94 : FnOk 94 := ⟨_, Tryz.func94, by kernel_rfl, by kernel_rfl⟩
theorem fk95 : FnOk 95 := ⟨_, Tryz.func95, by kernel_rfl, by kernel_rfl⟩
theorem fk96 : FnOk 96 := ⟨_, Tryz.func96, by kernel_rfl, by kernel_rfl⟩
theorem fk97 : FnOk 97 := ⟨_, Tryz.func97, by kernel_rfl, by kernel_rfl⟩
theorem fk98 : FnOk 98 := ⟨_, Tryz.func98, by kernel_rfl, by kernel_rfl⟩
theorem fk99 : FnOk 99 := ⟨_, Tryz.func99, by kernel_rfl, by kernel_rfl⟩
theorem fk100 : FnOk 100 := ⟨_, Tryz.func100, by kernel_rfl, by kernel_rfl⟩
theorem fk109 : FnOk 109 := ⟨_, Tryz.func109, by kernel_rfl, by kernel_rfl⟩
theorem fk110 : FnOk 110 := ⟨_, Tryz.func110, by kernel_rfl, by kernel_rfl⟩
theorem fk111 : FnOk 111 := ⟨_, Tryz.func111, by kernel_rfl, by kernel_rfl⟩
theorem fk115 : FnOk 115 := ⟨_, Tryz.func115, by kernel_rfl, by kernel_rfl⟩
theorem fk116 : FnOk 116 := ⟨_, Tryz.func116, by kernel_rfl, by kernel_rfl⟩
theorem fk117 : FnOk 117 := ⟨_, Tryz.func117, by kernel_rfl, by kernel_rfl⟩
theorem fk118 : FnOk 118 := ⟨_, Tryz.func118, by kernel_rfl, by kernel_rfl⟩
theorem fk119 : FnOk 119 := ⟨_, Tryz.func119, by kernel_rfl, by kernel_rfl⟩
theorem fk120 : FnOk 120 := ⟨_, Tryz.func120, by kernel_rfl, by kernel_rfl⟩
theorem fk121 : FnOk 121 := ⟨_, Tryz.func121, by kernel_rfl, by kernel_rfl⟩
theorem fk123 : FnOk 123 := ⟨_, Tryz.func123, by kernel_rfl, by kernel_rfl⟩
theorem fk124 : FnOk 124 := ⟨_, Tryz.func124, by kernel_rfl, by kernel_rfl⟩
theorem fk133 : FnOk 133 := ⟨_, Tryz.func133, by kernel_rfl, by kernel_rfl⟩
theorem fk134 : FnOk 134 := ⟨_, Tryz.func134, by kernel_rfl, by kernel_rfl⟩
theorem fk135 : FnOk 135 := ⟨_, Tryz.func135, by kernel_rfl, by kernel_rfl⟩
theorem fk141 : FnOk 141 := ⟨_, Tryz.func141, by kernel_rfl, by kernel_rfl⟩
end SX
end Go.Proofs.YtfcecieppoljlaaGreatDoor
set_option maxRecDepth 100000
namespace Go.Proofs.YtfcecieppoljlaaGreatDoor
namespace SX
open Go
attribute [local irreducible] PWL PWC PWD POpL POpQ PEv PGuardIs PSub PPick PUpd PSplice PFill PLit PF PFV PCall pseqK pblockK pmidK pcutK ploopK pretK Cov PHolds loopF idx app mk gd lb nz ge0 cat sub ssub iand ior ixor ishl ishr imin imax IntKind.wrap Int.tmod Int.tdiv Op.bytesLess strOfNums
def made_Cut (p0 : (List Int)) (p1 : Int) : Option (List Int) := cond (decide (p1 < (p0.length : Int))) (Option.bind (sub p0 0 p1) (fun l2 => some l2)) (some p0)
set_option maxHeartbeats 4000000 in
theorem made_Cut_ok {p0 : (List Int)} {p1 : Int} {r : (List Int)}  (h : made_Cut p0 p1 = some r) : PF 26 [.slc (List.map eI p0), .v (.int .i64 p1)] (.slc (List.map eI r)) := by
 unfold made_Cut at h
 refine pf_of ?_
 refine penter Tryz.func26 fk26 rfl Tryz.ntmps26 Tryz.results26 rfl ?_
 refine yab (yaa ?_)
 refine zas (p := .v (.slice none 0 0)) rfl rfl rfl rfl rfl ?_
 refine yad (yae (yab (yab (yaa ?_))))
 refine zmv (p := .slc (List.map eI p0)) rfl rfl rfl rfl rfl ?_
 refine yah rfl rfl rfl (pq_lenT (enc := eI) rfl rfl (.p rfl)) ?_
 refine zmv (p := .v (.int .i64 p1)) rfl rfl rfl rfl rfl ?_
 refine yah rfl rfl rfl (yak rfl (.p rfl) (.p rfl) rfl) ?_
 refine yad (yae ?_)
 refine yal rfl (fun hc1 => ?_) (fun hc1 => ?_)
 ·replace h := yav hc1 h
  refine yab (yaa ?_)
  refine zmv (p := .slc (List.map eI p0)) rfl rfl rfl rfl rfl ?_
  refine zmv (p := .v (.int .i64 p1)) rfl rfl rfl rfl rfl ?_
  refine yaf h ?_; clear h; intro l2 hl2 h
  refine yah rfl rfl rfl (pq_sliceH (enc := eI) rfl rfl rfl (fun _ => rfl) (.p rfl) (.p rfl) (fun _ => hl2)) ?_
  refine zas (p := .slc (List.map eI l2)) rfl rfl rfl rfl rfl ?_
  refine yad (yae (yaq (yap ?_)))
  obtain rfl := Option.some.inj h
  exact yar (prv_1 (yat rfl)) zsn ⟨rfl, rfl⟩
 ·replace h := yaw hc1 h
  refine yao (yae (yab (yaa ?_)))
  refine zmv (p := .slc (List.map eI p0)) rfl rfl rfl rfl rfl ?_
  refine zas (p := .slc (List.map eI p0)) rfl rfl rfl rfl rfl ?_
  refine yad (yae (yaq ?_))
  obtain rfl := Option.some.inj h
  exact yar (prv_1 (yat rfl)) zsn ⟨rfl, rfl⟩
def made_Within (p0 : Int) (p1 : Int) : Option Int := Option.bind (nz p1) (fun u1 => Option.bind (nz p1) (fun u2 => lb ((Int.tmod (IntKind.i64.wrap ((Int.tmod p0 p1) + p1)) p1)) (fun w3 => some w3)))
set_option maxHeartbeats 4000000 in
theorem made_Within_ok {p0 : Int} {p1 : Int} {r : Int}  (h : made_Within p0 p1 = some r) : PF 14 [.v (.int .i64 p0), .v (.int .i64 p1)] (.v (.int .i64 r)) := by
 unfold made_Within at h
 refine pf_of ?_
 refine penter Tryz.func14 fk14 rfl Tryz.ntmps14 Tryz.results14 rfl ?_
 refine yab (yaa ?_)
 refine zas (p := .v (.int .i64 0)) rfl rfl rfl rfl rfl ?_
 refine yad (yae (yab (yaa ?_)))
 refine zmv (p := .v (.int .i64 p0)) rfl rfl rfl rfl rfl ?_
 refine zmv (p := .v (.int .i64 p1)) rfl rfl rfl rfl rfl ?_
 refine yaf h ?_; clear h; intro u1 hu1 h
 refine yah rfl rfl rfl (pq_rem rfl (.p rfl) (.p rfl) (fun _ => nz_some hu1)) ?_
 refine zmv (p := .v (.int .i64 p1)) rfl rfl rfl rfl rfl ?_
 refine yah rfl rfl rfl (yas rfl (.p rfl) (.p rfl) rfl) ?_
 refine zmv (p := .v (.int .i64 p1)) rfl rfl rfl rfl rfl ?_
 refine yaf h ?_; clear h; intro u2 hu2 h
 refine yah rfl rfl rfl (pq_rem rfl (.p rfl) (.p rfl) (fun _ => nz_some hu2)) ?_
 refine lb_elim h ?_; clear h; intro w3 hw3 h
 refine yah rfl rfl rfl (pq_assign rfl (.p (congrArg (fun z => PV.v (Value.int .i64 z)) hw3))) ?_
 refine yad (yae (yaq ?_))
 obtain rfl := Option.some.inj h
 exact yar (prv_1 (yat rfl)) zsn ⟨rfl, rfl⟩
def made_Source_Next (p0 : Tmade_Source) (p1 : Int) : Option (Int × Tmade_Source) := cond (decide ((p0.L.length : Int) ≤ p0.I)) (some (0, p0)) (Option.bind (idx p0.L (IntKind.i64.wrap ((IntKind.i64.wrap (p0.I + 1)) - 1))) (fun m2 => Option.bind (made_Within m2 p1) (fun x3 => some (x3, (⟨p0.L, (IntKind.i64.wrap (p0.I + 1))⟩ : Tmade_Source)))))
set_option maxHeartbeats 4000000 in
theorem yau {p0 : Tmade_Source} {p1 : Int} {b0 : Nat} {r : (Int × Tmade_Source)}  (h : made_Source_Next p0 p1 = some r) : PCall 29 [.v (.pointer (some ⟨b0, 0, none⟩)), .v (.int .i64 p1)] [PRes.b b0 59 [.slc (List.map eI p0.L), .v (.int .i64 p0.I)]] (fun pv ρ' => pv = .v (.int .i64 r.1) ∧ ρ' = [PRes.b b0 59 [.slc (List.map eI r.2.L), .v (.int .i64 r.2.I)]]) := by
 unfold made_Source_Next at h
 refine penter Tryz.func29 fk29 rfl Tryz.ntmps29 Tryz.results29 rfl ?_
 refine yab (yaa ?_)
 refine zas (p := .v (.int .i64 0)) rfl rfl rfl rfl rfl ?_
 refine yad (yae (yab (yab ?_)))
 refine pwc_draw (ρd := []) [(0, 0), (1, 0), (2, 0), (3, 0), (4, 0), (5, 0), (6, 0), (7, 0), (8, 0), (9, 0)] _ (List.Perm.refl _) (by kernel_rfl) rfl ?_
 refine ybf rfl rfl rfl (yam (p := .v (.pointer (some ⟨b0, 0, none⟩))) rfl (.p rfl)) ?_
 refine ybf rfl rfl rfl (pq_nilCheck rfl (.p rfl)) ?_
 refine ybf rfl rfl rfl (yac rfl rfl rfl rfl rfl (.p rfl)) ?_
 refine ybf rfl rfl rfl (yag (p := .v (.int .i64 p0.I)) rfl (.p rfl) zm0 rfl) ?_
 refine ybf rfl rfl rfl (yam (p := .v (.pointer (some ⟨b0, 0, none⟩))) rfl (.p rfl)) ?_
 refine ybf rfl rfl rfl (pq_nilCheck rfl (.p rfl)) ?_
 refine ybf rfl rfl rfl (yac rfl rfl rfl rfl rfl (.p rfl)) ?_
 refine ybf rfl rfl rfl (yag (p := .slc (List.map eI p0.L)) rfl (.p rfl) zm0 rfl) ?_
 refine ybf rfl rfl rfl (pq_lenT (enc := eI) rfl rfl (.p rfl)) ?_
 refine ybf rfl rfl rfl (yak rfl (.p rfl) (.p rfl) rfl) ?_
 refine pwd_nil (yae ?_)
 refine yal rfl (fun hc1 => ?_) (fun hc1 => ?_)
 ·replace h := yav hc1 h
  refine yab (yaa ?_)
  refine zas (p := .v (.int .i64 0)) rfl rfl rfl rfl rfl ?_
  refine yad (yae (yaq (yap ?_)))
  obtain rfl := Option.some.inj h
  exact yar (prv_1 (yat rfl)) (zsc zph zsn) ⟨rfl, rfl⟩
 ·replace h := yaw hc1 h
  refine yao (yae (yab (yaa ?_)))
  refine zmv (p := .v (.pointer (some ⟨b0, 0, none⟩))) rfl rfl rfl rfl rfl ?_
  refine yah rfl rfl rfl (pq_nilCheck rfl (.p rfl)) ?_
  refine yah rfl rfl rfl (yac rfl rfl rfl rfl rfl (.p rfl)) ?_
  refine yah rfl rfl rfl (yag (p := .v (.int .i64 p0.I)) rfl (.p rfl) zm0 rfl) ?_
  refine yah rfl rfl rfl (yas rfl (.p rfl) (.p rfl) rfl) ?_
  refine yah rfl rfl rfl (pq_nilCheck rfl (.p rfl)) ?_
  refine yah rfl rfl rfl (yac rfl rfl rfl rfl rfl (.p rfl)) ?_
  refine pwl_l0 rfl rfl (yax (vs := [.v (.int .i64 (IntKind.i64.wrap (p0.I + 1)))]) rfl rfl rfl rfl rfl zuh (zlt (zlc zln)) ?_)
  refine yad (yae (yab ?_))
  refine pwc_draw (ρd := []) [(0, 0), (1, 0), (2, 0), (3, 0), (4, 0), (5, 0), (6, 0), (7, 0), (8, 0), (9, 0), (10, 0), (11, 0), (12, 1), (13, 0)] _ (List.Perm.refl _) (by kernel_rfl) rfl ?_
  refine ybf rfl rfl rfl (yam (p := .v (.pointer (some ⟨b0, 0, none⟩))) rfl (.p rfl)) ?_
  refine ybf rfl rfl rfl (pq_nilCheck rfl (.p rfl)) ?_
  refine ybf rfl rfl rfl (yac rfl rfl rfl rfl rfl (.p rfl)) ?_
  refine ybf rfl rfl rfl (yag (p := .slc (List.map eI p0.L)) rfl (.p rfl) zm0 rfl) ?_
  refine ybf rfl rfl rfl (yam (p := .v (.pointer (some ⟨b0, 0, none⟩))) rfl (.p rfl)) ?_
  refine ybf rfl rfl rfl (pq_nilCheck rfl (.p rfl)) ?_
  refine ybf rfl rfl rfl (yac rfl rfl rfl rfl rfl (.p rfl)) ?_
  refine ybf rfl rfl rfl (yag (p := .v (.int .i64 (IntKind.i64.wrap (p0.I + 1)))) rfl (.p rfl) zm0 rfl) ?_
  refine ybf rfl rfl rfl (yas rfl (.p rfl) (.p rfl) rfl) ?_
  refine yaf h ?_; clear h; intro m2 hm2 h
  refine ybf rfl rfl rfl (pq_index (enc := eI) rfl rfl rfl (fun _ => rfl) (.p rfl) (.p rfl) (fun _ => hm2)) ?_
  refine ybf rfl rfl rfl (pq_load_r (p := .v (.int .i64 m2)) rfl (.p rfl) rfl) ?_
  refine ybf rfl rfl rfl (yam (p := .v (.int .i64 p1)) rfl (.p rfl)) ?_
  refine yaf h ?_; clear h; intro x3 hx3 h
  refine pwd_call rfl rfl rfl rfl rfl (made_Within_ok hx3) ?_
  refine ybf rfl rfl rfl (pq_assign (p := .v (.int .i64 x3)) rfl (.p rfl)) ?_
  refine pwd_nil (yae (yaq ?_))
  obtain rfl := Option.some.inj h
  exact yar (prv_1 (yat rfl)) (zsc zph zsn) ⟨rfl, rfl⟩
def made_Source_Code (p0 : Tmade_Source) (p1 : Int) : Option (ByteArray × Tmade_Source) := Option.bind (made_Source_Next p0 2) (fun x1 => Option.bind (loopF (S := (List Int) × (List Int) × Int) (T := ((List Int) × (List Int) × Int)) (fun (l5, l8, v9) => cond (decide (((l5.length : Nat) : Int) < p1)) (Option.bind (made_Source_Next (⟨l8, v9⟩ : Tmade_Source) 3) (fun x19 => Option.bind (app 1 l5 [48, (IntKind.u8.wrap (IntKind.i64.wrap (49 + x19.1)))]) (fun l22 => some (.inl (l22, x19.2.L, x19.2.I))))) (some (.inr (l5, l8, v9)))) FUEL ([57, (IntKind.u8.wrap (IntKind.i64.wrap (52 + x1.1)))], x1.2.L, x1.2.I)) (fun (l13, l14, v15) => some ((strOfNums l13), (⟨l14, v15⟩ : Tmade_Source))))
set_option maxHeartbeats 4000000 in
theorem made_Source_Code_ok {p0 : Tmade_Source} {p1 : Int} {b0 : Nat} {r : (ByteArray × Tmade_Source)}  (h : made_Source_Code p0 p1 = some r) : PCall 27 [.v (.pointer (some ⟨b0, 0, none⟩)), .v (.int .i64 p1)] [PRes.b b0 59 [.slc (List.map eI p0.L), .v (.int .i64 p0.I)]] (fun pv ρ' => pv = .v (.string r.1) ∧ ρ' = [PRes.b b0 59 [.slc (List.map eI r.2.L), .v (.int .i64 r.2.I)]]) := by
 unfold made_Source_Code at h
 refine penter Tryz.func27 fk27 rfl Tryz.ntmps27 Tryz.results27 rfl ?_
 refine yab (yaa ?_)
 refine zas (p := .v (.string (⟨#[]⟩ : ByteArray))) rfl rfl rfl rfl rfl ?_
 refine yad (yae (yab (yaa ?_)))
 refine zmv (p := .v (.pointer (some ⟨b0, 0, none⟩))) rfl rfl rfl rfl rfl ?_
 refine yaf h ?_; clear h; intro x1 hx1 h
 refine ybl rfl rfl rfl (pl_callR rfl rfl (ρ1 := [_]) (ybk (by exact zph) (List.Perm.refl _)) (yau hx1) ?_); rintro _ _ ⟨rfl, rfl⟩
 refine yah rfl rfl rfl (yas rfl (.p rfl) (.p rfl) rfl) ?_
 refine yah rfl rfl rfl (pq_conv rfl rfl rfl (.p rfl)) ?_
 refine ybl rfl rfl rfl (pl_lit rfl rfl rfl rfl rfl (zic rfl (zic rfl zin)) rfl rfl rfl rfl (fun b2 => ?_))
 refine zas (p := .v (.slice (some ⟨b2, 0, none⟩) 2 2)) rfl rfl rfl rfl rfl ?_
 refine yad (yae (yab ?_))
 refine yaf h ?_; clear h; intro q17 hq17 h
 refine ybe (Y := (Option Addr × Nat) × ((List Int) × (List Int) × Int)) (fun ((a11, c12), (l13, l14, v15)) => [(5, .v (.slice a11 l13.length c12))]) (fun ((a11, c12), (l13, l14, v15)) => [PRes.b b0 59 [.slc (List.map eI l14), .v (.int .i64 v15)], PRes.row a11 l13.length c12 5 1 (List.map eB l13)]) (fun ((a11, c12), (l13, l14, v15)) => q17 = (l13, l14, v15)) ?_ ?_
 ·refine yaz ?_
  refine pwc_loopF (Y := Option Addr × Nat) (S := (List Int) × (List Int) × Int) _ hq17 (fun (a6, c7) (l5, l8, v9) => [(0, .v (.pointer (some ⟨b0, 0, none⟩))), (1, .v (.int .i64 p1)), (5, .v (.slice a6 l5.length c7))]) (fun (a6, c7) (l5, l8, v9) => [PRes.b b0 59 [.slc (List.map eI l8), .v (.int .i64 v9)], PRes.row a6 l5.length c7 5 1 (List.map eB l5)]) ((some ⟨b2, 0, none⟩), 2) (zhc rfl (zhc rfl (zhc rfl zhn))) (zsc (zpt zph) (zsc zph zsn)) ?_
  rintro ⟨a6, c7⟩ ⟨l5, l8, v9⟩ o τ hb16; (try dsimp only at hb16); dsimp only [pupds]
  refine yab (yab (yaa ?_))
  refine zmv (p := .v (.slice a6 l5.length c7)) rfl rfl rfl rfl rfl ?_
  refine yah rfl rfl rfl (pq_lenO rfl rfl (.p rfl)) ?_
  refine zmv (p := .v (.int .i64 p1)) rfl rfl rfl rfl rfl ?_
  refine yah rfl rfl rfl (yak rfl (.p rfl) (.p rfl) rfl) ?_
  refine yad (yae ?_)
  refine yal rfl (fun hc18 => ?_) (fun hc18 => ?_)
  ·replace hb16 := yav hc18 hb16
   refine yao (yae (yaz (yaa ?_)))
   refine zmv (p := .v (.slice a6 l5.length c7)) rfl rfl rfl rfl rfl ?_
   refine zmv (p := .v (.pointer (some ⟨b0, 0, none⟩))) rfl rfl rfl rfl rfl ?_
   refine yaf hb16 ?_; clear hb16; intro x19 hx19 hb16
   refine ybl rfl rfl rfl (pl_callR rfl rfl (ρ1 := [_]) (ybk (by exact zph) (List.Perm.refl _)) (yau hx19) ?_); rintro _ _ ⟨rfl, rfl⟩
   refine yah rfl rfl rfl (yas rfl (.p rfl) (.p rfl) rfl) ?_
   refine yah rfl rfl rfl (pq_conv rfl rfl rfl (.p rfl)) ?_
   refine ybl rfl rfl rfl (pl_lit rfl rfl rfl rfl rfl (zic rfl (zic rfl zin)) rfl rfl rfl rfl (fun b20 => ?_))
   refine yaf hb16 ?_; clear hb16; intro l22 hl22 hb16
   refine ybl rfl rfl rfl (pl_app_o (enc := eB) rfl rfl rfl rfl rfl rfl rfl rfl rfl zm0 (by exact zpt (zpt zph)) hl22 (fun a23 c24 => ?_))
   refine zas (p := .v (.slice a23 l22.length c24)) rfl rfl rfl rfl rfl ?_
   refine yad (ybc ?_)
   exact pk_loop hb16 (a23, c24) (zhc rfl (zhc rfl (zhc rfl zhn))) (zsc (zpt (zpt zph)) (zsc zph zsn))
  ·replace hb16 := yaw hc18 hb16
   refine pwc_exit (ybm ?_)
   refine ybh hb16 (fun ht => ?_)
   refine ybj rfl ?_
   exact ybb ((a6, c7), (l5, l8, v9)) (zhc rfl zhn) (zsc zph (zsc zph zsn)) ht.symm
 ·rintro ⟨⟨a11, c12⟩, ⟨l13, l14, v15⟩⟩ τ hz; (try dsimp only at hz); subst q17; (try dsimp only at h); dsimp only [pupds]
  refine yab (yaa ?_)
  refine zmv (p := .v (.slice a11 l13.length c12)) rfl rfl rfl rfl rfl ?_
  refine ybl rfl rfl rfl (pq_bytes rfl rfl rfl rfl rfl (xs := l13) zm1 rfl ?_)
  refine zas (p := .v (.string (strOfNums l13))) rfl rfl rfl rfl rfl ?_
  refine yad (yae (yaq ?_))
  obtain rfl := Option.some.inj h
  exact yar (prv_1 (yat rfl)) (zsc zph zsn) ⟨rfl, rfl⟩
def made_Countries  : Option (List ByteArray) := some [(⟨#[65, 65]⟩ : ByteArray), (⟨#[66, 66]⟩ : ByteArray), (⟨#[67, 67]⟩ : ByteArray), (⟨#[68, 68]⟩ : ByteArray), (⟨#[69, 69]⟩ : ByteArray), (⟨#[70, 70]⟩ : ByteArray)]
set_option maxHeartbeats 4000000 in
theorem made_Countries_ok  {r : (List ByteArray)}  (h : made_Countries  = some r) : PF 28 [] (.slc (List.map eS r)) := by
 unfold made_Countries at h
 refine pf_of ?_
 refine penter Tryz.func28 fk28 rfl Tryz.ntmps28 Tryz.results28 rfl ?_
 refine yab (yaa ?_)
 refine zas (p := .v (.slice none 0 0)) rfl rfl rfl rfl rfl ?_
 refine yad (yae (yab (yaa ?_)))
 refine ybl rfl rfl rfl (pl_lit rfl rfl rfl rfl rfl (zic rfl (zic rfl (zic rfl (zic rfl (zic rfl (zic rfl zin)))))) rfl rfl rfl rfl (fun b1 => ?_))
 refine zas (p := .v (.slice (some ⟨b1, 0, none⟩) 6 6)) rfl rfl rfl rfl rfl ?_
 refine yad (yae ?_)
 refine pwc_frzt (css := List.map eS [(⟨#[65, 65]⟩ : ByteArray), (⟨#[66, 66]⟩ : ByteArray), (⟨#[67, 67]⟩ : ByteArray), (⟨#[68, 68]⟩ : ByteArray), (⟨#[69, 69]⟩ : ByteArray), (⟨#[70, 70]⟩ : ByteArray)]) 0 rfl (by exact zph) ?_
 refine yaq ?_
 obtain rfl := Option.some.inj h
 exact yar (prv_1 (yat rfl)) zsn ⟨rfl, rfl⟩
def made_Item (p0 : (List Int)) : Option TItem := Option.bind (made_Cut p0 20) (fun x2 => Option.bind (made_Source_Code (⟨x2, 0⟩ : Tmade_Source) 8) (fun x4 => Option.bind (made_Countries) (fun x5 => Option.bind (made_Source_Next x4.2 4) (fun x6 => Option.bind (idx x5 x6.1) (fun m7 => Option.bind (made_Source_Next x6.2 2) (fun x8 => Option.bind (made_Source_Next x8.2 3) (fun x9 => Option.bind (made_Source_Next x9.2 41) (fun x10 => Option.bind (made_Source_Next x10.2 1000) (fun x11 => Option.bind (made_Source_Next x11.2 1000000) (fun x12 => Option.bind (made_Source_Next x12.2 6) (fun x14 => Option.bind (cond (x14.1 == 1) (Option.bind (made_Source_Next x14.2 1000000001) (fun x21 => Option.bind (made_Source_Next x21.2 1000000000001) (fun x22 => some (x21.1, x22.1, x22.2.L, x22.2.I)))) (some (x11.1, x12.1, x14.2.L, x14.2.I))) (fun (v15, v16, l17, v18) => Option.bind (made_Source_Next (⟨l17, v18⟩ : Tmade_Source) 6) (fun x23 => Option.bind (cond (x23.1 == 1) (some 0) (some v15)) (fun v24 => Option.bind (made_Source_Next x23.2 2) (fun x27 => Option.bind (cond (x27.1 == 1) (Option.bind (made_Source_Next x27.2 (IntKind.i64.wrap (v24 + 1))) (fun x31 => some x31.1)) (some 0)) (fun v28 => some (⟨x4.1, m7, (x8.1 == 1), x9.1, x10.1, v24, v16, v28⟩ : TItem)))))))))))))))))
set_option maxHeartbeats 4000000 in
theorem made_Item_ok {p0 : (List Int)} {r : TItem}  (h : made_Item p0 = some r) : PF 11 [.slc (List.map eI p0)] (.agg [.v (.string r.Code), .v (.string r.Origin), .v (.bool r.Proof), .v (.int .i64 r.Company), .v (.int .i64 r.Day), .v (.int .i64 r.Quantity), .v (.int .i64 r.Value), .v (.int .i64 r.Granted)]) := by
 unfold made_Item at h
 refine pf_of ?_
 refine penter Tryz.func11 fk11 rfl Tryz.ntmps11 Tryz.results11 rfl ?_
 refine yab (yaa ?_)
 refine ybl rfl rfl rfl (pl_alloc (cs := [.v (.string ByteArray.empty), .v (.string ByteArray.empty), .v (.bool false), .v (.int .i64 0), .v (.int .i64 0), .v (.int .i64 0), .v (.int .i64 0), .v (.int .i64 0)]) rfl rfl rfl rfl (fun b1 => ?_))
 refine yad (yae (yab (yaa ?_)))
 refine zmv (p := .slc (List.map eI p0)) rfl rfl rfl rfl rfl ?_
 refine yaf h ?_; clear h; intro x2 hx2 h
 refine ybd rfl rfl rfl rfl rfl (made_Cut_ok hx2) ?_
 refine yah rfl rfl rfl (pq_build (cs := [.slc (List.map eI x2), .v (.int .i64 0)]) rfl rfl rfl rfl rfl rfl rfl (zfc rfl rfl rfl rfl (zlc zln) zfn)) ?_
 refine ybl rfl rfl rfl (pl_box (cs := [.slc (List.map eI x2), .v (.int .i64 0)]) rfl rfl (fun b3 => ?_))
 refine zas (p := .v (.pointer (some ⟨b3, 0, none⟩))) rfl rfl rfl rfl rfl ?_
 refine yad (yae (yab ?_))
 refine pwc_draw (ρd := [PRes.b b3 _ _]) [(0, 0), (3, 0), (7, 0), (10, 0), (12, 0), (14, 0), (16, 0), (1, 1), (2, 1), (4, 1), (5, 0), (6, 0), (8, 1), (9, 0), (11, 1), (13, 1), (15, 1), (17, 1), (18, 0), (19, 2), (20, 1)] _ (List.Perm.refl _) (by kernel_rfl) rfl ?_
 refine ybf rfl rfl rfl (yam (p := .v (.pointer (some ⟨b3, 0, none⟩))) rfl (.p rfl)) ?_
 refine ybf rfl rfl rfl (yam (p := .v (.pointer (some ⟨b3, 0, none⟩))) rfl (.p rfl)) ?_
 refine ybf rfl rfl rfl (yam (p := .v (.pointer (some ⟨b3, 0, none⟩))) rfl (.p rfl)) ?_
 refine ybf rfl rfl rfl (yam (p := .v (.pointer (some ⟨b3, 0, none⟩))) rfl (.p rfl)) ?_
 refine ybf rfl rfl rfl (yam (p := .v (.pointer (some ⟨b3, 0, none⟩))) rfl (.p rfl)) ?_
 refine ybf rfl rfl rfl (yam (p := .v (.pointer (some ⟨b3, 0, none⟩))) rfl (.p rfl)) ?_
 refine ybf rfl rfl rfl (yam (p := .v (.pointer (some ⟨b3, 0, none⟩))) rfl (.p rfl)) ?_
 refine yaf h ?_; clear h; intro x4 hx4 h
 refine pwd_l rfl rfl rfl (pl_callR rfl rfl (ρ1 := [_]) (ybk (by exact zph) (List.Perm.refl _)) (made_Source_Code_ok hx4) ?_); rintro _ _ ⟨rfl, rfl⟩
 refine yaf h ?_; clear h; intro x5 hx5 h
 refine pwd_call rfl rfl rfl rfl rfl (made_Countries_ok hx5) ?_
 refine yaf h ?_; clear h; intro x6 hx6 h
 refine pwd_l rfl rfl rfl (pl_callR rfl rfl (ρ1 := [_]) (ybk (by exact zph) (List.Perm.refl _)) (yau hx6) ?_); rintro _ _ ⟨rfl, rfl⟩
 refine yaf h ?_; clear h; intro m7 hm7 h
 refine ybf rfl rfl rfl (pq_index (enc := eS) rfl rfl rfl (fun _ => rfl) (.p rfl) (.p rfl) (fun _ => hm7)) ?_
 refine ybf rfl rfl rfl (pq_load_r (p := .v (.string m7)) rfl (.p rfl) rfl) ?_
 refine yaf h ?_; clear h; intro x8 hx8 h
 refine pwd_l rfl rfl rfl (pl_callR rfl rfl (ρ1 := [_]) (ybk (by exact zph) (List.Perm.refl _)) (yau hx8) ?_); rintro _ _ ⟨rfl, rfl⟩
 refine ybf rfl rfl rfl (yak rfl (.p rfl) (.p rfl) rfl) ?_
 refine yaf h ?_; clear h; intro x9 hx9 h
 refine pwd_l rfl rfl rfl (pl_callR rfl rfl (ρ1 := [_]) (ybk (by exact zph) (List.Perm.refl _)) (yau hx9) ?_); rintro _ _ ⟨rfl, rfl⟩
 refine yaf h ?_; clear h; intro x10 hx10 h
 refine pwd_l rfl rfl rfl (pl_callR rfl rfl (ρ1 := [_]) (ybk (by exact zph) (List.Perm.refl _)) (yau hx10) ?_); rintro _ _ ⟨rfl, rfl⟩
 refine yaf h ?_; clear h; intro x11 hx11 h
 refine pwd_l rfl rfl rfl (pl_callR rfl rfl (ρ1 := [_]) (ybk (by exact zph) (List.Perm.refl _)) (yau hx11) ?_); rintro _ _ ⟨rfl, rfl⟩
 refine yaf h ?_; clear h; intro x12 hx12 h
 refine pwd_l rfl rfl rfl (pl_callR rfl rfl (ρ1 := [_]) (ybk (by exact zph) (List.Perm.refl _)) (yau hx12) ?_); rintro _ _ ⟨rfl, rfl⟩
 refine ybf rfl rfl rfl (pq_buildZ (cs := [.v (.string x4.1), .v (.string m7), .v (.bool (x8.1 == 1)), .v (.int .i64 x9.1), .v (.int .i64 x10.1), .v (.int .i64 x11.1), .v (.int .i64 x12.1), .v (.int .i64 0)]) rfl rfl rfl rfl rfl rfl rfl (zfc rfl rfl rfl rfl (zlc zln) (zfc rfl rfl rfl rfl (zlt (zlc zln)) (zfc rfl rfl rfl rfl (zlt (zlt (zlc zln))) (zfc rfl rfl rfl rfl (zlt (zlt (zlt (zlc zln)))) (zfc rfl rfl rfl rfl (zlt (zlt (zlt (zlt (zlc zln))))) (zfc rfl rfl rfl rfl (zlt (zlt (zlt (zlt (zlt (zlc zln)))))) (zfc rfl rfl rfl rfl (zlt (zlt (zlt (zlt (zlt (zlt (zlc zln))))))) zfn)))))))) ?_
 refine pwd_late (plate_alloc rfl rfl rfl rfl rfl) (fun _ => rfl) rfl (fun b13 => ?_)
 refine pwd_l0 rfl rfl (yax (vs := [.v (.string x4.1), .v (.string m7), .v (.bool (x8.1 == 1)), .v (.int .i64 x9.1), .v (.int .i64 x10.1), .v (.int .i64 x11.1), .v (.int .i64 x12.1), .v (.int .i64 0)]) rfl rfl rfl rfl rfl zuh (zlc (zlc (zlc (zlc (zlc (zlc (zlc (zlc zln)))))))) ?_)
 refine pwd_nil (yae (yab (yab (yaa ?_))))
 refine zmv (p := .v (.pointer (some ⟨b3, 0, none⟩))) rfl rfl rfl rfl rfl ?_
 refine yaf h ?_; clear h; intro x14 hx14 h
 refine ybl rfl rfl rfl (pl_callR rfl rfl (ρ1 := [_]) (ybk (by exact zpt zph) (List.Perm.refl _)) (yau hx14) ?_); rintro _ _ ⟨rfl, rfl⟩
 refine yah rfl rfl rfl (yak rfl (.p rfl) (.p rfl) rfl) ?_
 refine yad (yae ?_)
 refine yaf h ?_; clear h; intro q19 hq19 h
 refine ybe (Y := (Unit) × (Int × Int × (List Int) × Int)) (fun (_, (v15, v16, l17, v18)) => [(2, .v (.pointer (some ⟨b1, 0, none⟩))), (3, .v (.pointer (some ⟨b3, 0, none⟩))), (4, .v (.pointer (some ⟨b13, 0, none⟩)))]) (fun (_, (v15, v16, l17, v18)) => [PRes.b b1 23 [.v (.string ByteArray.empty), .v (.string ByteArray.empty), .v (.bool false), .v (.int .i64 0), .v (.int .i64 0), .v (.int .i64 0), .v (.int .i64 0), .v (.int .i64 0)], PRes.b b13 23 [.v (.string x4.1), .v (.string m7), .v (.bool (x8.1 == 1)), .v (.int .i64 x9.1), .v (.int .i64 x10.1), .v (.int .i64 v15), .v (.int .i64 v16), .v (.int .i64 0)], PRes.b b3 59 [.slc (List.map eI l17), .v (.int .i64 v18)]]) (fun (_, (v15, v16, l17, v18)) => q19 = (v15, v16, l17, v18)) ?_ ?_
 ·skip
  refine yal rfl (fun hc20 => ?_) (fun hc20 => ?_)
  ·replace hq19 := yav hc20 hq19
   refine yaa ?_
   refine zmv (p := .v (.pointer (some ⟨b3, 0, none⟩))) rfl rfl rfl rfl rfl ?_
   refine yaf hq19 ?_; clear hq19; intro x21 hx21 hq19
   refine ybl rfl rfl rfl (pl_callR rfl rfl (ρ1 := [_]) (ybk (by exact zph) (List.Perm.refl _)) (yau hx21) ?_); rintro _ _ ⟨rfl, rfl⟩
   refine zmv (p := .v (.pointer (some ⟨b3, 0, none⟩))) rfl rfl rfl rfl rfl ?_
   refine yaf hq19 ?_; clear hq19; intro x22 hx22 hq19
   refine ybl rfl rfl rfl (pl_callR rfl rfl (ρ1 := [_]) (ybk (by exact zph) (List.Perm.refl _)) (yau hx22) ?_); rintro _ _ ⟨rfl, rfl⟩
   refine yah rfl rfl rfl (yac rfl rfl rfl rfl rfl (.p rfl)) ?_
   refine pwl_l0 rfl rfl (yax (vs := [.v (.int .i64 x21.1)]) rfl rfl rfl rfl rfl (zut zuh) (zlt (zlt (zlt (zlt (zlt (zlc zln)))))) ?_)
   refine yah rfl rfl rfl (yac rfl rfl rfl rfl rfl (.p rfl)) ?_
   refine pwl_l0 rfl rfl (yax (vs := [.v (.int .i64 x22.1)]) rfl rfl rfl rfl rfl (zut zuh) (zlt (zlt (zlt (zlt (zlt (zlt (zlc zln))))))) ?_)
   refine yad ?_
   obtain rfl := Option.some.inj hq19
   exact ybb ((), (x21.1, x22.1, x22.2.L, x22.2.I)) (zhc rfl (zhc rfl (zhc rfl zhn))) (zsc (zpt (zpt zph)) (zsc (zpt zph) (zsc zph zsn))) rfl
  ·replace hq19 := yaw hc20 hq19
   refine yao ?_
   obtain rfl := Option.some.inj hq19
   exact ybb ((), (x11.1, x12.1, x14.2.L, x14.2.I)) (zhc rfl (zhc rfl (zhc rfl zhn))) (zsc (zpt (zpt zph)) (zsc (zpt zph) (zsc zph zsn))) rfl
 ·rintro ⟨_, ⟨v15, v16, l17, v18⟩⟩ τ hz; (try dsimp only at hz); subst q19; (try dsimp only at h); dsimp only [pupds]
  refine yab (yab (yaa ?_))
  refine zmv (p := .v (.pointer (some ⟨b3, 0, none⟩))) rfl rfl rfl rfl rfl ?_
  refine yaf h ?_; clear h; intro x23 hx23 h
  refine ybl rfl rfl rfl (pl_callR rfl rfl (ρ1 := [_]) (ybk (by exact zpt (zpt zph)) (List.Perm.refl _)) (yau hx23) ?_); rintro _ _ ⟨rfl, rfl⟩
  refine yah rfl rfl rfl (yak rfl (.p rfl) (.p rfl) rfl) ?_
  refine yad (yae ?_)
  refine yaf h ?_; clear h; intro q25 hq25 h
  refine ybe (Y := (Unit) × (Int)) (fun (_, v24) => [(2, .v (.pointer (some ⟨b1, 0, none⟩))), (3, .v (.pointer (some ⟨b3, 0, none⟩))), (4, .v (.pointer (some ⟨b13, 0, none⟩)))]) (fun (_, v24) => [PRes.b b1 23 [.v (.string ByteArray.empty), .v (.string ByteArray.empty), .v (.bool false), .v (.int .i64 0), .v (.int .i64 0), .v (.int .i64 0), .v (.int .i64 0), .v (.int .i64 0)], PRes.b b13 23 [.v (.string x4.1), .v (.string m7), .v (.bool (x8.1 == 1)), .v (.int .i64 x9.1), .v (.int .i64 x10.1), .v (.int .i64 v24), .v (.int .i64 v16), .v (.int .i64 0)], PRes.b b3 59 [.slc (List.map eI x23.2.L), .v (.int .i64 x23.2.I)]]) (fun (_, v24) => q25 = v24) ?_ ?_
  ·skip
   refine yal rfl (fun hc26 => ?_) (fun hc26 => ?_)
   ·replace hq25 := yav hc26 hq25
    refine yaa ?_
    refine yah rfl rfl rfl (yac rfl rfl rfl rfl rfl (.p rfl)) ?_
    refine pwl_l0 rfl rfl (yax (vs := [.v (.int .i64 0)]) rfl rfl rfl rfl rfl (zut (zut zuh)) (zlt (zlt (zlt (zlt (zlt (zlc zln)))))) ?_)
    refine yad ?_
    obtain rfl := Option.some.inj hq25
    exact ybb ((), 0) (zhc rfl (zhc rfl (zhc rfl zhn))) (zsc (zpt zph) (zsc (zpt zph) (zsc zph zsn))) rfl
   ·replace hq25 := yaw hc26 hq25
    refine yao ?_
    obtain rfl := Option.some.inj hq25
    exact ybb ((), v15) (zhc rfl (zhc rfl (zhc rfl zhn))) (zsc (zpt zph) (zsc (zpt zph) (zsc zph zsn))) rfl
  ·rintro ⟨_, v24⟩ τ hz; (try dsimp only at hz); subst q25; (try dsimp only at h); dsimp only [pupds]
   refine yab (yab (yaa ?_))
   refine zmv (p := .v (.pointer (some ⟨b3, 0, none⟩))) rfl rfl rfl rfl rfl ?_
   refine yaf h ?_; clear h; intro x27 hx27 h
   refine ybl rfl rfl rfl (pl_callR rfl rfl (ρ1 := [_]) (ybk (by exact zpt (zpt zph)) (List.Perm.refl _)) (yau hx27) ?_); rintro _ _ ⟨rfl, rfl⟩
   refine yah rfl rfl rfl (yak rfl (.p rfl) (.p rfl) rfl) ?_
   refine yad (yae ?_)
   refine yaf h ?_; clear h; intro q29 hq29 h
   refine ybe (Y := (Unit) × (Int)) (fun (_, v28) => [(2, .v (.pointer (some ⟨b1, 0, none⟩))), (4, .v (.pointer (some ⟨b13, 0, none⟩)))]) (fun (_, v28) => [PRes.b b1 23 [.v (.string ByteArray.empty), .v (.string ByteArray.empty), .v (.bool false), .v (.int .i64 0), .v (.int .i64 0), .v (.int .i64 0), .v (.int .i64 0), .v (.int .i64 0)], PRes.b b13 23 [.v (.string x4.1), .v (.string m7), .v (.bool (x8.1 == 1)), .v (.int .i64 x9.1), .v (.int .i64 x10.1), .v (.int .i64 v24), .v (.int .i64 v16), .v (.int .i64 v28)]]) (fun (_, v28) => q29 = v28) ?_ ?_
   ·skip
    refine yal rfl (fun hc30 => ?_) (fun hc30 => ?_)
    ·replace hq29 := yav hc30 hq29
     refine yaa ?_
     refine zmv (p := .v (.pointer (some ⟨b3, 0, none⟩))) rfl rfl rfl rfl rfl ?_
     refine yah rfl rfl rfl (yac rfl rfl rfl rfl rfl (.p rfl)) ?_
     refine yah rfl rfl rfl (yag (p := .v (.int .i64 v24)) rfl (.p rfl) zm2 rfl) ?_
     refine yah rfl rfl rfl (yas rfl (.p rfl) (.p rfl) rfl) ?_
     refine yaf hq29 ?_; clear hq29; intro x31 hx31 hq29
     refine ybl rfl rfl rfl (pl_callR rfl rfl (ρ1 := [_]) (ybk (by exact zph) (List.Perm.refl _)) (yau hx31) ?_); rintro _ _ ⟨rfl, rfl⟩
     refine yah rfl rfl rfl (yac rfl rfl rfl rfl rfl (.p rfl)) ?_
     refine pwl_l0 rfl rfl (yax (vs := [.v (.int .i64 x31.1)]) rfl rfl rfl rfl rfl (zut (zut zuh)) (zlt (zlt (zlt (zlt (zlt (zlt (zlt (zlc zln)))))))) ?_)
     refine yad ?_
     obtain rfl := Option.some.inj hq29
     exact ybb ((), x31.1) (zhc rfl (zhc rfl zhn)) (zsc (zpt zph) (zsc (zpt zph) zsn)) rfl
    ·replace hq29 := yaw hc30 hq29
     refine yao ?_
     obtain rfl := Option.some.inj hq29
     exact ybb ((), 0) (zhc rfl (zhc rfl zhn)) (zsc (zpt zph) (zsc (zpt zph) zsn)) rfl
   ·rintro ⟨_, v28⟩ τ hz; (try dsimp only at hz); subst q29; (try dsimp only at h); dsimp only [pupds]
    refine yab (yaa ?_)
    refine yah rfl rfl rfl (yag (p := .agg [.v (.string x4.1), .v (.string m7), .v (.bool (x8.1 == 1)), .v (.int .i64 x9.1), .v (.int .i64 x10.1), .v (.int .i64 v24), .v (.int .i64 v16), .v (.int .i64 v28)]) rfl (.p rfl) zm1 rfl) ?_
    refine pwl_l0 rfl rfl (yax (vs := [.v (.string x4.1), .v (.string m7), .v (.bool (x8.1 == 1)), .v (.int .i64 x9.1), .v (.int .i64 x10.1), .v (.int .i64 v24), .v (.int .i64 v16), .v (.int .i64 v28)]) rfl rfl rfl rfl rfl zuh (zlc (zlc (zlc (zlc (zlc (zlc (zlc (zlc zln)))))))) ?_)
    refine yad (yae (yaq ?_))
    obtain rfl := Option.some.inj h
    exact yar (prv_1 (prv1_c rfl zm0 rfl)) zsn ⟨rfl, rfl⟩
def production_isCapital (p0 : Int) : Option Bool := some ((decide (65 ≤ p0)) && (decide (p0 ≤ 90)))
set_option maxHeartbeats 4000000 in
theorem production_isCapital_ok {p0 : Int} {r : Bool}  (h : production_isCapital p0 = some r) : PF 52 [.v (.int .u8 p0)] (.v (.bool r)) := by
 unfold production_isCapital at h
 refine pf_of ?_
 refine penter Tryz.func52 fk52 rfl Tryz.ntmps52 Tryz.results52 rfl ?_
 refine yab (yaa ?_)
 refine zas (p := .v (.bool false)) rfl rfl rfl rfl rfl ?_
 refine yad (yae (yab (yaa ?_)))
 refine zmv (p := .v (.int .u8 p0)) rfl rfl rfl rfl rfl ?_
 refine yah rfl rfl rfl (yak rfl (.p rfl) (.p rfl) rfl) ?_
 refine zmv (p := .v (.bool (decide (65 ≤ p0)))) rfl rfl rfl rfl rfl ?_
 refine yaj (yan rfl rfl rfl) rfl rfl (yam (p := .v (.int .u8 p0)) rfl (.p rfl)) ?_
 refine yaj (yan rfl rfl rfl) rfl rfl (yak rfl (.g rfl) (.p rfl) rfl) ?_
 refine yah rfl rfl rfl (pq_and rfl (.p rfl) (.p rfl) (.g rfl)) ?_
 refine zas (p := .v (.bool ((decide (65 ≤ p0)) && (decide (p0 ≤ 90))))) rfl rfl rfl rfl rfl ?_
 refine yad (yae (yaq ?_))
 obtain rfl := Option.some.inj h
 exact yar (prv_1 (yat rfl)) zsn ⟨rfl, rfl⟩
def production_ValidCountry (p0 : ByteArray) : Option Bool := Option.bind (gd ((p0.size : Int) == 2) (idx p0.data.toList 0)) (fun c1 => Option.bind (gd ((p0.size : Int) == 2) (production_isCapital (c1.toNat : Int))) (fun x2 => Option.bind (gd (((p0.size : Int) == 2) && x2) (idx p0.data.toList 1)) (fun c3 => Option.bind (gd (((p0.size : Int) == 2) && x2) (production_isCapital (c3.toNat : Int))) (fun x4 => some ((((p0.size : Int) == 2) && x2) && x4)))))
set_option maxHeartbeats 4000000 in
theorem production_ValidCountry_ok {p0 : ByteArray} {r : Bool}  (h : production_ValidCountry p0 = some r) : PF 31 [.v (.string p0)] (.v (.bool r)) := by
 unfold production_ValidCountry at h
 refine pf_of ?_
 refine penter Tryz.func31 fk31 rfl Tryz.ntmps31 Tryz.results31 rfl ?_
 refine yab (yaa ?_)
 refine zas (p := .v (.bool false)) rfl rfl rfl rfl rfl ?_
 refine yad (yae (yab (yaa ?_)))
 refine zmv (p := .v (.string p0)) rfl rfl rfl rfl rfl ?_
 refine yah rfl rfl rfl (pq_lenS rfl rfl (.p rfl)) ?_
 refine yah rfl rfl rfl (yak rfl (.p rfl) (.p rfl) rfl) ?_
 refine zmv (p := .v (.bool ((p0.size : Int) == 2))) rfl rfl rfl rfl rfl ?_
 refine yaj (yan rfl rfl rfl) rfl rfl (yam (p := .v (.string p0)) rfl (.p rfl)) ?_
 refine yaf h ?_; clear h; intro c1 hc1 h
 refine yaj (yan rfl rfl rfl) rfl rfl (pq_indexS rfl rfl (.g rfl) (.p rfl) (gd_t hc1)) ?_
 refine yaf h ?_; clear h; intro x2 hx2 h
 refine pwl_callg (yan rfl rfl rfl) rfl rfl rfl (ybg (.g rfl) (pargs_nil)) (fun hc => production_isCapital_ok (gd_t hx2 hc)) ?_
 refine yah rfl rfl rfl (pq_and rfl (.p rfl) (.p rfl) (.g rfl)) ?_
 refine zmv (p := .v (.bool (((p0.size : Int) == 2) && x2))) rfl rfl rfl rfl rfl ?_
 refine yaj (yan rfl rfl rfl) rfl rfl (yam (p := .v (.string p0)) rfl (.p rfl)) ?_
 refine yaf h ?_; clear h; intro c3 hc3 h
 refine yaj (yan rfl rfl rfl) rfl rfl (pq_indexS rfl rfl (.g rfl) (.p rfl) (gd_t hc3)) ?_
 refine yaf h ?_; clear h; intro x4 hx4 h
 refine pwl_callg (yan rfl rfl rfl) rfl rfl rfl (ybg (.g rfl) (pargs_nil)) (fun hc => production_isCapital_ok (gd_t hx4 hc)) ?_
 refine yah rfl rfl rfl (pq_and rfl (.p rfl) (.p rfl) (.g rfl)) ?_
 refine zas (p := .v (.bool ((((p0.size : Int) == 2) && x2) && x4))) rfl rfl rfl rfl rfl ?_
 refine yad (yae (yaq ?_))
 obtain rfl := Option.some.inj h
 exact yar (prv_1 (yat rfl)) zsn ⟨rfl, rfl⟩
def ref08_Level (p0 : ByteArray) : Option Int := Option.bind (loopF (S := Int) (T := (Unit) ⊕ (_)) (fun v1 => cond (decide (v1 < (p0.size : Int))) (Option.bind (idx p0.data.toList v1) (fun c5 => Option.bind (gd (!(decide ((c5.toNat : Int) < 48))) (idx p0.data.toList v1)) (fun c6 => cond ((decide ((c5.toNat : Int) < 48)) || (decide (57 < (c6.toNat : Int)))) (some (.inr (.inr 0))) (some (.inl (IntKind.i64.wrap (v1 + 1))))))) (some (.inr (.inl ())))) FUEL 0) (fun q => match q with | .inl _ => cond ((decide (8 < (p0.size : Int))) || ((Int.tmod (p0.size : Int) 2) == 1)) (some 0) (some (p0.size : Int)) | .inr e => some e)
set_option maxHeartbeats 4000000 in
theorem ref08_Level_ok {p0 : ByteArray} {r : Int}  (h : ref08_Level p0 = some r) : PF 32 [.v (.string p0)] (.v (.int .i64 r)) := by
 unfold ref08_Level at h
 refine pf_of ?_
 refine penter Tryz.func32 fk32 rfl Tryz.ntmps32 Tryz.results32 rfl ?_
 refine yab (yaa ?_)
 refine zas (p := .v (.int .i64 0)) rfl rfl rfl rfl rfl ?_
 refine yad (yae (yab (yab (yaa ?_))))
 refine zas (p := .v (.int .i64 0)) rfl rfl rfl rfl rfl ?_
 refine yad (yae ?_)
 refine yaf h ?_; clear h; intro q3 hq3 h
 refine ybe (Y := (Unit) × (Unit)) (fun (_, _) => [(0, .v (.string p0))]) (fun (_, _) => []) (fun (_, _) => q3 = Sum.inl ()) ?_ ?_
 ·refine yaz ?_
  refine pwc_loopF (Y := Unit) (S := Int) _ hq3 (fun _ v1 => [(0, .v (.string p0)), (3, .v (.int .i64 v1))]) (fun _ v1 => []) () (zhc rfl (zhc rfl zhn)) zsn ?_
  rintro _ v1 o τ hb2; (try dsimp only at hb2); dsimp only [pupds]
  refine yab (yab (yaa ?_))
  refine zmv (p := .v (.int .i64 v1)) rfl rfl rfl rfl rfl ?_
  refine zmv (p := .v (.string p0)) rfl rfl rfl rfl rfl ?_
  refine yah rfl rfl rfl (pq_lenS rfl rfl (.p rfl)) ?_
  refine yah rfl rfl rfl (yak rfl (.p rfl) (.p rfl) rfl) ?_
  refine yad (yae ?_)
  refine yal rfl (fun hc4 => ?_) (fun hc4 => ?_)
  ·replace hb2 := yav hc4 hb2
   refine yao (yae (yab (yaz (yab (yaa ?_)))))
   refine zmv (p := .v (.string p0)) rfl rfl rfl rfl rfl ?_
   refine zmv (p := .v (.int .i64 v1)) rfl rfl rfl rfl rfl ?_
   refine yaf hb2 ?_; clear hb2; intro c5 hc5 hb2
   refine yah rfl rfl rfl (pq_indexS rfl rfl (.p rfl) (.p rfl) (fun _ => hc5)) ?_
   refine yah rfl rfl rfl (yak rfl (.p rfl) (.p rfl) rfl) ?_
   refine zmv (p := .v (.bool (decide ((c5.toNat : Int) < 48)))) rfl rfl rfl rfl rfl ?_
   refine yaj (yai rfl rfl rfl) rfl rfl (yam (p := .v (.string p0)) rfl (.p rfl)) ?_
   refine yaj (yai rfl rfl rfl) rfl rfl (yam (p := .v (.int .i64 v1)) rfl (.p rfl)) ?_
   refine yaf hb2 ?_; clear hb2; intro c6 hc6 hb2
   refine yaj (yai rfl rfl rfl) rfl rfl (pq_indexS rfl rfl (.g rfl) (.g rfl) (gd_t hc6)) ?_
   refine yaj (yai rfl rfl rfl) rfl rfl (yak rfl (.g rfl) (.p rfl) rfl) ?_
   refine yah rfl rfl rfl (pq_or rfl (.p rfl) (.p rfl) (.g rfl)) ?_
   refine yad (yae ?_)
   refine yal rfl (fun hc7 => ?_) (fun hc7 => ?_)
   ·replace hb2 := yav hc7 hb2
    refine yab (yaa ?_)
    refine zas (p := .v (.int .i64 0)) rfl rfl rfl rfl rfl ?_
    refine yad (yae (yaq (yba (yap ?_))))
    refine pk_loop_ret hb2 (fun ht => ?_); subst ht
    have h := (show some _ = some _ from h)
    refine yba (pk_mid_ret ?_)
    obtain rfl := Option.some.inj h
    exact yar (prv_1 (yat rfl)) zsn ⟨rfl, rfl⟩
   ·replace hb2 := yaw hc7 hb2
    refine yao (ybc (yae (yaa ?_)))
    refine zmv (p := .v (.int .i64 v1)) rfl rfl rfl rfl rfl ?_
    refine yah rfl rfl rfl (yas rfl (.p rfl) (.p rfl) rfl) ?_
    refine zas (p := .v (.int .i64 (IntKind.i64.wrap (v1 + 1)))) rfl rfl rfl rfl rfl ?_
    refine yad ?_
    exact pk_loop hb2 () (zhc rfl (zhc rfl zhn)) zsn
  ·replace hb2 := yaw hc4 hb2
   refine pwc_exit (ybm ?_)
   refine ybh hb2 (fun ht => ?_)
   refine ybj rfl ?_
   exact ybb ((), ()) (zhc rfl zhn) zsn ht.symm
 ·rintro ⟨_, _⟩ τ hz; (try dsimp only at hz); subst q3; (try dsimp only at h); dsimp only [pupds]
  refine yab (yab (yaa ?_))
  refine zmv (p := .v (.string p0)) rfl rfl rfl rfl rfl ?_
  refine yah rfl rfl rfl (pq_lenS rfl rfl (.p rfl)) ?_
  refine yah rfl rfl rfl (yak rfl (.p rfl) (.p rfl) rfl) ?_
  refine zmv (p := .v (.bool (decide (8 < (p0.size : Int))))) rfl rfl rfl rfl rfl ?_
  refine yaj (yai rfl rfl rfl) rfl rfl (yam (p := .v (.string p0)) rfl (.p rfl)) ?_
  refine yaj (yai rfl rfl rfl) rfl rfl (pq_lenS rfl rfl (.g rfl)) ?_
  refine yaj (yai rfl rfl rfl) rfl rfl (pq_rem rfl (.g rfl) (.p rfl) (fun _ => by decide)) ?_
  refine yaj (yai rfl rfl rfl) rfl rfl (yak rfl (.g rfl) (.p rfl) rfl) ?_
  refine yah rfl rfl rfl (pq_or rfl (.p rfl) (.p rfl) (.g rfl)) ?_
  refine yad (yae ?_)
  refine yal rfl (fun hc8 => ?_) (fun hc8 => ?_)
  ·replace h := yav hc8 h
   refine yab (yaa ?_)
   refine zas (p := .v (.int .i64 0)) rfl rfl rfl rfl rfl ?_
   refine yad (yae (yaq (yap ?_)))
   obtain rfl := Option.some.inj h
   exact yar (prv_1 (yat rfl)) zsn ⟨rfl, rfl⟩
  ·replace h := yaw hc8 h
   refine yao (yae (yab (yaa ?_)))
   refine zmv (p := .v (.string p0)) rfl rfl rfl rfl rfl ?_
   refine yah rfl rfl rfl (pq_lenS rfl rfl (.p rfl)) ?_
   refine zas (p := .v (.int .i64 (p0.size : Int))) rfl rfl rfl rfl rfl ?_
   refine yad (yae (yaq ?_))
   obtain rfl := Option.some.inj h
   exact yar (prv_1 (yat rfl)) zsn ⟨rfl, rfl⟩
def ref06_Country (p0 : ByteArray) : Option Bool := Option.bind (gd ((p0.size : Int) == 2) (idx p0.data.toList 0)) (fun c1 => Option.bind (gd (((p0.size : Int) == 2) && (decide (65 ≤ (c1.toNat : Int)))) (idx p0.data.toList 0)) (fun c2 => Option.bind (gd ((((p0.size : Int) == 2) && (decide (65 ≤ (c1.toNat : Int)))) && (decide ((c2.toNat : Int) ≤ 90))) (idx p0.data.toList 1)) (fun c3 => Option.bind (gd (((((p0.size : Int) == 2) && (decide (65 ≤ (c1.toNat : Int)))) && (decide ((c2.toNat : Int) ≤ 90))) && (decide (65 ≤ (c3.toNat : Int)))) (idx p0.data.toList 1)) (fun c4 => some ((((((p0.size : Int) == 2) && (decide (65 ≤ (c1.toNat : Int)))) && (decide ((c2.toNat : Int) ≤ 90))) && (decide (65 ≤ (c3.toNat : Int)))) && (decide ((c4.toNat : Int) ≤ 90)))))))
set_option maxHeartbeats 4000000 in
theorem ref06_Country_ok {p0 : ByteArray} {r : Bool}  (h : ref06_Country p0 = some r) : PF 33 [.v (.string p0)] (.v (.bool r)) := by
 unfold ref06_Country at h
 refine pf_of ?_
 refine penter Tryz.func33 fk33 rfl Tryz.ntmps33 Tryz.results33 rfl ?_
 refine yab (yaa ?_)
 refine zas (p := .v (.bool false)) rfl rfl rfl rfl rfl ?_
 refine yad (yae (yab (yaa ?_)))
 refine zmv (p := .v (.string p0)) rfl rfl rfl rfl rfl ?_
 refine yah rfl rfl rfl (pq_lenS rfl rfl (.p rfl)) ?_
 refine yah rfl rfl rfl (yak rfl (.p rfl) (.p rfl) rfl) ?_
 refine zmv (p := .v (.bool ((p0.size : Int) == 2))) rfl rfl rfl rfl rfl ?_
 refine yaj (yan rfl rfl rfl) rfl rfl (yam (p := .v (.string p0)) rfl (.p rfl)) ?_
 refine yaf h ?_; clear h; intro c1 hc1 h
 refine yaj (yan rfl rfl rfl) rfl rfl (pq_indexS rfl rfl (.g rfl) (.p rfl) (gd_t hc1)) ?_
 refine yaj (yan rfl rfl rfl) rfl rfl (yak rfl (.g rfl) (.p rfl) rfl) ?_
 refine yah rfl rfl rfl (pq_and rfl (.p rfl) (.p rfl) (.g rfl)) ?_
 refine zmv (p := .v (.bool (((p0.size : Int) == 2) && (decide (65 ≤ (c1.toNat : Int)))))) rfl rfl rfl rfl rfl ?_
 refine yaj (yan rfl rfl rfl) rfl rfl (yam (p := .v (.string p0)) rfl (.p rfl)) ?_
 refine yaf h ?_; clear h; intro c2 hc2 h
 refine yaj (yan rfl rfl rfl) rfl rfl (pq_indexS rfl rfl (.g rfl) (.p rfl) (gd_t hc2)) ?_
 refine yaj (yan rfl rfl rfl) rfl rfl (yak rfl (.g rfl) (.p rfl) rfl) ?_
 refine yah rfl rfl rfl (pq_and rfl (.p rfl) (.p rfl) (.g rfl)) ?_
 refine zmv (p := .v (.bool ((((p0.size : Int) == 2) && (decide (65 ≤ (c1.toNat : Int)))) && (decide ((c2.toNat : Int) ≤ 90))))) rfl rfl rfl rfl rfl ?_
 refine yaj (yan rfl rfl rfl) rfl rfl (yam (p := .v (.string p0)) rfl (.p rfl)) ?_
 refine yaf h ?_; clear h; intro c3 hc3 h
 refine yaj (yan rfl rfl rfl) rfl rfl (pq_indexS rfl rfl (.g rfl) (.p rfl) (gd_t hc3)) ?_
 refine yaj (yan rfl rfl rfl) rfl rfl (yak rfl (.g rfl) (.p rfl) rfl) ?_
 refine yah rfl rfl rfl (pq_and rfl (.p rfl) (.p rfl) (.g rfl)) ?_
 refine zmv (p := .v (.bool (((((p0.size : Int) == 2) && (decide (65 ≤ (c1.toNat : Int)))) && (decide ((c2.toNat : Int) ≤ 90))) && (decide (65 ≤ (c3.toNat : Int)))))) rfl rfl rfl rfl rfl ?_
 refine yaj (yan rfl rfl rfl) rfl rfl (yam (p := .v (.string p0)) rfl (.p rfl)) ?_
 refine yaf h ?_; clear h; intro c4 hc4 h
 refine yaj (yan rfl rfl rfl) rfl rfl (pq_indexS rfl rfl (.g rfl) (.p rfl) (gd_t hc4)) ?_
 refine yaj (yan rfl rfl rfl) rfl rfl (yak rfl (.g rfl) (.p rfl) rfl) ?_
 refine yah rfl rfl rfl (pq_and rfl (.p rfl) (.p rfl) (.g rfl)) ?_
 refine zas (p := .v (.bool ((((((p0.size : Int) == 2) && (decide (65 ≤ (c1.toNat : Int)))) && (decide ((c2.toNat : Int) ≤ 90))) && (decide (65 ≤ (c3.toNat : Int)))) && (decide ((c4.toNat : Int) ≤ 90))))) rfl rfl rfl rfl rfl ?_
 refine yad (yae (yaq ?_))
 obtain rfl := Option.some.inj h
 exact yar (prv_1 (yat rfl)) zsn ⟨rfl, rfl⟩
def ref19_Item (p0 : TItem) : Option Int := Option.bind (ref08_Level p0.Code) (fun x2 => Option.bind (gd (!(x2 != 8)) (ref06_Country p0.Origin)) (fun x3 => cond ((x2 != 8) || (!x3)) (some 1) (cond ((((((((((decide (p0.Company < 0)) || (decide (999 < p0.Company))) || (decide (p0.Day < 0))) || (decide (36524 < p0.Day))) || (decide (p0.Quantity < 0))) || (decide (1000000000 < p0.Quantity))) || (decide (p0.Value < 0))) || (decide (1000000000000 < p0.Value))) || (decide (p0.Granted < 0))) || (decide (p0.Quantity < p0.Granted))) (some 2) (some 0))))
set_option maxHeartbeats 4000000 in
theorem ref19_Item_ok {p0 : TItem} {r : Int}  (h : ref19_Item p0 = some r) : PF 13 [.agg [.v (.string p0.Code), .v (.string p0.Origin), .v (.bool p0.Proof), .v (.int .i64 p0.Company), .v (.int .i64 p0.Day), .v (.int .i64 p0.Quantity), .v (.int .i64 p0.Value), .v (.int .i64 p0.Granted)]] (.v (.int .i64 r)) := by
 unfold ref19_Item at h
 refine pf_of ?_
 refine penter Tryz.func13 fk13 rfl Tryz.ntmps13 Tryz.results13 rfl ?_
 refine yab (yaa ?_)
 refine ybl rfl rfl rfl (pl_box (cs := [.v (.string p0.Code), .v (.string p0.Origin), .v (.bool p0.Proof), .v (.int .i64 p0.Company), .v (.int .i64 p0.Day), .v (.int .i64 p0.Quantity), .v (.int .i64 p0.Value), .v (.int .i64 p0.Granted)]) rfl rfl (fun b1 => ?_))
 refine zas (p := .v (.int .i64 0)) rfl rfl rfl rfl rfl ?_
 refine yad (yae (yab (yab (yaa ?_))))
 refine yah rfl rfl rfl (yac rfl rfl rfl rfl rfl (.p rfl)) ?_
 refine yah rfl rfl rfl (yag (p := .v (.string p0.Code)) rfl (.p rfl) zm0 rfl) ?_
 refine yaf h ?_; clear h; intro x2 hx2 h
 refine ybd rfl rfl rfl rfl rfl (ref08_Level_ok hx2) ?_
 refine yah rfl rfl rfl (yak rfl (.p rfl) (.p rfl) rfl) ?_
 refine zmv (p := .v (.bool (x2 != 8))) rfl rfl rfl rfl rfl ?_
 refine yaj (yai rfl rfl rfl) rfl rfl (yac rfl rfl rfl rfl rfl (.p rfl)) ?_
 refine yaj (yai rfl rfl rfl) rfl rfl (yag (p := .v (.string p0.Origin)) rfl (.g rfl) zm0 rfl) ?_
 refine yaf h ?_; clear h; intro x3 hx3 h
 refine pwl_callg (yai rfl rfl rfl) rfl rfl rfl (ybg (.g rfl) (pargs_nil)) (fun hc => ref06_Country_ok (gd_t hx3 hc)) ?_
 refine yaj (yai rfl rfl rfl) rfl rfl (pq_not rfl (.g rfl)) ?_
 refine yah rfl rfl rfl (pq_or rfl (.p rfl) (.p rfl) (.g rfl)) ?_
 refine yad (yae ?_)
 refine yal rfl (fun hc4 => ?_) (fun hc4 => ?_)
 ·replace h := yav hc4 h
  refine yab (yaa ?_)
  refine zas (p := .v (.int .i64 1)) rfl rfl rfl rfl rfl ?_
  refine yad (yae (yaq (yap ?_)))
  obtain rfl := Option.some.inj h
  exact yar (prv_1 (yat rfl)) zsn ⟨rfl, rfl⟩
 ·replace h := yaw hc4 h
  refine yao (yae (yab (yab (yaa ?_))))
  refine yah rfl rfl rfl (yac rfl rfl rfl rfl rfl (.p rfl)) ?_
  refine yah rfl rfl rfl (yag (p := .v (.int .i64 p0.Company)) rfl (.p rfl) zm0 rfl) ?_
  refine yah rfl rfl rfl (yak rfl (.p rfl) (.p rfl) rfl) ?_
  refine zmv (p := .v (.bool (decide (p0.Company < 0)))) rfl rfl rfl rfl rfl ?_
  refine yaj (yai rfl rfl rfl) rfl rfl (yac rfl rfl rfl rfl rfl (.p rfl)) ?_
  refine yaj (yai rfl rfl rfl) rfl rfl (yag (p := .v (.int .i64 p0.Company)) rfl (.g rfl) zm0 rfl) ?_
  refine yaj (yai rfl rfl rfl) rfl rfl (yak rfl (.g rfl) (.p rfl) rfl) ?_
  refine yah rfl rfl rfl (pq_or rfl (.p rfl) (.p rfl) (.g rfl)) ?_
  refine zmv (p := .v (.bool ((decide (p0.Company < 0)) || (decide (999 < p0.Company))))) rfl rfl rfl rfl rfl ?_
  refine yaj (yai rfl rfl rfl) rfl rfl (yac rfl rfl rfl rfl rfl (.p rfl)) ?_
  refine yaj (yai rfl rfl rfl) rfl rfl (yag (p := .v (.int .i64 p0.Day)) rfl (.g rfl) zm0 rfl) ?_
  refine yaj (yai rfl rfl rfl) rfl rfl (yak rfl (.g rfl) (.p rfl) rfl) ?_
  refine yah rfl rfl rfl (pq_or rfl (.p rfl) (.p rfl) (.g rfl)) ?_
  refine zmv (p := .v (.bool (((decide (p0.Company < 0)) || (decide (999 < p0.Company))) || (decide (p0.Day < 0))))) rfl rfl rfl rfl rfl ?_
  refine yaj (yai rfl rfl rfl) rfl rfl (yac rfl rfl rfl rfl rfl (.p rfl)) ?_
  refine yaj (yai rfl rfl rfl) rfl rfl (yag (p := .v (.int .i64 p0.Day)) rfl (.g rfl) zm0 rfl) ?_
  refine yaj (yai rfl rfl rfl) rfl rfl (yak rfl (.g rfl) (.p rfl) rfl) ?_
  refine yah rfl rfl rfl (pq_or rfl (.p rfl) (.p rfl) (.g rfl)) ?_
  refine zmv (p := .v (.bool ((((decide (p0.Company < 0)) || (decide (999 < p0.Company))) || (decide (p0.Day < 0))) || (decide (36524 < p0.Day))))) rfl rfl rfl rfl rfl ?_
  refine yaj (yai rfl rfl rfl) rfl rfl (yac rfl rfl rfl rfl rfl (.p rfl)) ?_
  refine yaj (yai rfl rfl rfl) rfl rfl (yag (p := .v (.int .i64 p0.Quantity)) rfl (.g rfl) zm0 rfl) ?_
  refine yaj (yai rfl rfl rfl) rfl rfl (yak rfl (.g rfl) (.p rfl) rfl) ?_
  refine yah rfl rfl rfl (pq_or rfl (.p rfl) (.p rfl) (.g rfl)) ?_
  refine zmv (p := .v (.bool (((((decide (p0.Company < 0)) || (decide (999 < p0.Company))) || (decide (p0.Day < 0))) || (decide (36524 < p0.Day))) || (decide (p0.Quantity < 0))))) rfl rfl rfl rfl rfl ?_
  refine yaj (yai rfl rfl rfl) rfl rfl (yac rfl rfl rfl rfl rfl (.p rfl)) ?_
  refine yaj (yai rfl rfl rfl) rfl rfl (yag (p := .v (.int .i64 p0.Quantity)) rfl (.g rfl) zm0 rfl) ?_
  refine yaj (yai rfl rfl rfl) rfl rfl (yak rfl (.g rfl) (.p rfl) rfl) ?_
  refine yah rfl rfl rfl (pq_or rfl (.p rfl) (.p rfl) (.g rfl)) ?_
  refine zmv (p := .v (.bool ((((((decide (p0.Company < 0)) || (decide (999 < p0.Company))) || (decide (p0.Day < 0))) || (decide (36524 < p0.Day))) || (decide (p0.Quantity < 0))) || (decide (1000000000 < p0.Quantity))))) rfl rfl rfl rfl rfl ?_
  refine yaj (yai rfl rfl rfl) rfl rfl (yac rfl rfl rfl rfl rfl (.p rfl)) ?_
  refine yaj (yai rfl rfl rfl) rfl rfl (yag (p := .v (.int .i64 p0.Value)) rfl (.g rfl) zm0 rfl) ?_
  refine yaj (yai rfl rfl rfl) rfl rfl (yak rfl (.g rfl) (.p rfl) rfl) ?_
  refine yah rfl rfl rfl (pq_or rfl (.p rfl) (.p rfl) (.g rfl)) ?_
  refine zmv (p := .v (.bool (((((((decide (p0.Company < 0)) || (decide (999 < p0.Company))) || (decide (p0.Day < 0))) || (decide (36524 < p0.Day))) || (decide (p0.Quantity < 0))) || (decide (1000000000 < p0.Quantity))) || (decide (p0.Value < 0))))) rfl rfl rfl rfl rfl ?_
  refine yaj (yai rfl rfl rfl) rfl rfl (yac rfl rfl rfl rfl rfl (.p rfl)) ?_
  refine yaj (yai rfl rfl rfl) rfl rfl (yag (p := .v (.int .i64 p0.Value)) rfl (.g rfl) zm0 rfl) ?_
  refine yaj (yai rfl rfl rfl) rfl rfl (yak rfl (.g rfl) (.p rfl) rfl) ?_
  refine yah rfl rfl rfl (pq_or rfl (.p rfl) (.p rfl) (.g rfl)) ?_
  refine zmv (p := .v (.bool ((((((((decide (p0.Company < 0)) || (decide (999 < p0.Company))) || (decide (p0.Day < 0))) || (decide (36524 < p0.Day))) || (decide (p0.Quantity < 0))) || (decide (1000000000 < p0.Quantity))) || (decide (p0.Value < 0))) || (decide (1000000000000 < p0.Value))))) rfl rfl rfl rfl rfl ?_
  refine yaj (yai rfl rfl rfl) rfl rfl (yac rfl rfl rfl rfl rfl (.p rfl)) ?_
  refine yaj (yai rfl rfl rfl) rfl rfl (yag (p := .v (.int .i64 p0.Granted)) rfl (.g rfl) zm0 rfl) ?_
  refine yaj (yai rfl rfl rfl) rfl rfl (yak rfl (.g rfl) (.p rfl) rfl) ?_
  refine yah rfl rfl rfl (pq_or rfl (.p rfl) (.p rfl) (.g rfl)) ?_
  refine zmv (p := .v (.bool (((((((((decide (p0.Company < 0)) || (decide (999 < p0.Company))) || (decide (p0.Day < 0))) || (decide (36524 < p0.Day))) || (decide (p0.Quantity < 0))) || (decide (1000000000 < p0.Quantity))) || (decide (p0.Value < 0))) || (decide (1000000000000 < p0.Value))) || (decide (p0.Granted < 0))))) rfl rfl rfl rfl rfl ?_
  refine yaj (yai rfl rfl rfl) rfl rfl (yac rfl rfl rfl rfl rfl (.p rfl)) ?_
  refine yaj (yai rfl rfl rfl) rfl rfl (yag (p := .v (.int .i64 p0.Granted)) rfl (.g rfl) zm0 rfl) ?_
  refine yaj (yai rfl rfl rfl) rfl rfl (yac rfl rfl rfl rfl rfl (.p rfl)) ?_
  refine yaj (yai rfl rfl rfl) rfl rfl (yag (p := .v (.int .i64 p0.Quantity)) rfl (.g rfl) zm0 rfl) ?_
  refine yaj (yai rfl rfl rfl) rfl rfl (yak rfl (.g rfl) (.g rfl) rfl) ?_
  refine yah rfl rfl rfl (pq_or rfl (.p rfl) (.p rfl) (.g rfl)) ?_
  refine yad (yae ?_)
  refine yal rfl (fun hc5 => ?_) (fun hc5 => ?_)
  ·replace h := yav hc5 h
   refine yab (yaa ?_)
   refine zas (p := .v (.int .i64 2)) rfl rfl rfl rfl rfl ?_
   refine yad (yae (yaq (yap ?_)))
   obtain rfl := Option.some.inj h
   exact yar (prv_1 (yat rfl)) zsn ⟨rfl, rfl⟩
  ·replace h := yaw hc5 h
   refine yao (yae (yab (yaa ?_)))
   refine zas (p := .v (.int .i64 0)) rfl rfl rfl rfl rfl ?_
   refine yad (yae (yaq ?_))
   obtain rfl := Option.some.inj h
   exact yar (prv_1 (yat rfl)) zsn ⟨rfl, rfl⟩
def measure_validOrigins (p0 : (List ByteArray)) : Option Bool := Option.bind (loopF (S := Int) (T := (Unit) ⊕ (_)) (fun v1 => cond (decide (v1 < (p0.length : Int))) (Option.bind (idx p0 v1) (fun m5 => Option.bind (production_ValidCountry m5) (fun x6 => Option.bind (gd ((!(!x6)) && (decide (0 < v1))) (idx p0 (IntKind.i64.wrap (v1 - 1)))) (fun m7 => cond ((!x6) || ((decide (0 < v1)) && (Op.bytesLess m5.toList m7.toList || decide (m5 = m7)))) (some (.inr (.inr false))) (some (.inl (IntKind.i64.wrap (v1 + 1)))))))) (some (.inr (.inl ())))) FUEL 0) (fun q => match q with | .inl _ => some true | .inr e => some e)
set_option maxHeartbeats 4000000 in
theorem measure_validOrigins_ok {p0 : (List ByteArray)} {r : Bool}  (h : measure_validOrigins p0 = some r) : PF 54 [.slc (List.map eS p0)] (.v (.bool r)) := by
 unfold measure_validOrigins at h
 refine pf_of ?_
 refine penter Tryz.func54 fk54 rfl Tryz.ntmps54 Tryz.results54 rfl ?_
 refine yab (yaa ?_)
 refine zas (p := .v (.bool false)) rfl rfl rfl rfl rfl ?_
 refine yad (yae (yab (yab (yaa ?_))))
 refine zmv (p := .slc (List.map eS p0)) rfl rfl rfl rfl rfl ?_
 refine yah rfl rfl rfl (pq_lenT (enc := eS) rfl rfl (.p rfl)) ?_
 refine zmv (p := .v (.int .i64 0)) rfl rfl rfl rfl rfl ?_
 refine yad (yae ?_)
 refine yaf h ?_; clear h; intro q3 hq3 h
 refine ybe (Y := (Unit) × (Unit)) (fun (_, _) => []) (fun (_, _) => []) (fun (_, _) => q3 = Sum.inl ()) ?_ ?_
 ·refine yaz ?_
  refine pwc_loopF (Y := Unit) (S := Int) _ hq3 (fun _ v1 => [(0, .slc (List.map eS p0)), (5, .slc (List.map eS p0)), (6, .v (.int .i64 (p0.length : Int))), (7, .v (.int .i64 v1))]) (fun _ v1 => []) () (zhc rfl (zhc rfl (zhc rfl (zhc rfl zhn)))) zsn ?_
  rintro _ v1 o τ hb2; (try dsimp only at hb2); dsimp only [pupds]
  refine yab (yaa ?_)
  refine yah rfl rfl rfl (yak rfl (.p rfl) (.p rfl) rfl) ?_
  refine yad (yae (yab ?_))
  refine yal rfl (fun hc4 => ?_) (fun hc4 => ?_)
  ·replace hb2 := yav hc4 hb2
   refine yao (yae (yab (yaz (yab (yaa ?_)))))
   refine zmv (p := .v (.int .i64 v1)) rfl rfl rfl rfl rfl ?_
   refine yaf hb2 ?_; clear hb2; intro m5 hm5 hb2
   refine yah rfl rfl rfl (pq_index (enc := eS) rfl rfl rfl (fun _ => rfl) (.p rfl) (.p rfl) (fun _ => hm5)) ?_
   refine yah rfl rfl rfl (pq_load_r (p := .v (.string m5)) rfl (.p rfl) rfl) ?_
   refine zas (p := .v (.int .i64 v1)) rfl rfl rfl rfl rfl ?_
   refine zas (p := .v (.string m5)) rfl rfl rfl rfl rfl ?_
   refine yad (yae (yab (yaa ?_)))
   refine zmv (p := .v (.string m5)) rfl rfl rfl rfl rfl ?_
   refine yaf hb2 ?_; clear hb2; intro x6 hx6 hb2
   refine ybd rfl rfl rfl rfl rfl (production_ValidCountry_ok hx6) ?_
   refine yah rfl rfl rfl (pq_not rfl (.p rfl)) ?_
   refine zmv (p := .v (.bool (!x6))) rfl rfl rfl rfl rfl ?_
   refine yaj (yai rfl rfl rfl) rfl rfl (yam (p := .v (.int .i64 v1)) rfl (.p rfl)) ?_
   refine yaj (yai rfl rfl rfl) rfl rfl (yak rfl (.g rfl) (.p rfl) rfl) ?_
   refine yaj (yai rfl rfl rfl) rfl rfl (yam (p := .v (.bool (decide (0 < v1)))) rfl (.g rfl)) ?_
   refine yaj (yay rfl rfl rfl) rfl rfl (yam (p := .v (.string m5)) rfl (.p rfl)) ?_
   refine yaj (yay rfl rfl rfl) rfl rfl (yam (p := .slc (List.map eS p0)) rfl (.p rfl)) ?_
   refine yaj (yay rfl rfl rfl) rfl rfl (yam (p := .v (.int .i64 v1)) rfl (.p rfl)) ?_
   refine yaj (yay rfl rfl rfl) rfl rfl (yas rfl (.g rfl) (.p rfl) rfl) ?_
   refine yaf hb2 ?_; clear hb2; intro m7 hm7 hb2
   refine yaj (yay rfl rfl rfl) rfl rfl (pq_index (enc := eS) rfl rfl rfl (fun _ => rfl) (.g rfl) (.g rfl) (gd_t hm7)) ?_
   refine yaj (yay rfl rfl rfl) rfl rfl (pq_load_r (p := .v (.string m7)) rfl (.g rfl) rfl) ?_
   refine yaj (yay rfl rfl rfl) rfl rfl (pq_str rfl (.g rfl) (.g rfl) rfl) ?_
   refine yaj (yai rfl rfl rfl) rfl rfl (pq_and rfl (.g rfl) (.p rfl) (.g rfl)) ?_
   refine yah rfl rfl rfl (pq_or rfl (.p rfl) (.p rfl) (.g rfl)) ?_
   refine yad (yae ?_)
   refine yal rfl (fun hc8 => ?_) (fun hc8 => ?_)
   ·replace hb2 := yav hc8 hb2
    refine yab (yaa ?_)
    refine zas (p := .v (.bool false)) rfl rfl rfl rfl rfl ?_
    refine yad (yae (yaq (yba (yap ?_))))
    refine pk_loop_ret hb2 (fun ht => ?_); subst ht
    have h := (show some _ = some _ from h)
    refine yba (pk_mid_ret ?_)
    obtain rfl := Option.some.inj h
    exact yar (prv_1 (yat rfl)) zsn ⟨rfl, rfl⟩
   ·replace hb2 := yaw hc8 hb2
    refine yao (ybc (yae (yaa ?_)))
    refine yah rfl rfl rfl (yas rfl (.p rfl) (.p rfl) rfl) ?_
    refine zmv (p := .v (.int .i64 (IntKind.i64.wrap (v1 + 1)))) rfl rfl rfl rfl rfl ?_
    refine yad ?_
    exact pk_loop hb2 () (zhc rfl (zhc rfl (zhc rfl (zhc rfl zhn)))) zsn
  ·replace hb2 := yaw hc4 hb2
   refine pwc_exit (ybm ?_)
   refine ybh hb2 (fun ht => ?_)
   refine ybj rfl ?_
   exact ybb ((), ()) zhn zsn ht.symm
 ·rintro ⟨_, _⟩ τ hz; (try dsimp only at hz); subst q3; (try dsimp only at h); dsimp only [pupds]
  refine yab (yaa ?_)
  refine zas (p := .v (.bool true)) rfl rfl rfl rfl rfl ?_
  refine yad (yae (yaq ?_))
  obtain rfl := Option.some.inj h
  exact yar (prv_1 (yat rfl)) zsn ⟨rfl, rfl⟩
def duty_Validate (p0 : TDuty) : Option Int := cond ((((decide (p0.Rate < 0)) || (decide (10000000 < p0.Rate))) || (decide (p0.Amount < 0))) || (decide (100000000 < p0.Amount))) (some 2) (cond (((decide (0 < p0.Amount)) && ((decide (p0.Per < 1)) || (decide (1000000 < p0.Per)))) || ((p0.Amount == 0) && (p0.Per != 0))) (some 2) (cond ((((decide (p0.Most < 0)) || (decide (10000000 < p0.Most))) || (decide (p0.Least < 0))) || (decide (10000000 < p0.Least))) (some 2) (cond (((p0.Most != 0) && (!p0.HasMost)) || ((p0.Least != 0) && (!p0.HasLeast))) (some 1) (cond ((p0.HasMost && p0.HasLeast) && (decide (p0.Most < p0.Least))) (some 1) (some 0)))))
set_option maxHeartbeats 4000000 in
theorem duty_Validate_ok {p0 : TDuty} {r : Int}  (h : duty_Validate p0 = some r) : PF 55 [.agg [.v (.int .i64 p0.Rate), .v (.int .i64 p0.Amount), .v (.int .i64 p0.Per), .v (.bool p0.HasMost), .v (.int .i64 p0.Most), .v (.bool p0.HasLeast), .v (.int .i64 p0.Least)]] (.v (.int .i64 r)) := by
 unfold duty_Validate at h
 refine pf_of ?_
 refine penter Tryz.func55 fk55 rfl Tryz.ntmps55 Tryz.results55 rfl ?_
 refine yab (yaa ?_)
 refine ybl rfl rfl rfl (pl_box (cs := [.v (.int .i64 p0.Rate), .v (.int .i64 p0.Amount), .v (.int .i64 p0.Per), .v (.bool p0.HasMost), .v (.int .i64 p0.Most), .v (.bool p0.HasLeast), .v (.int .i64 p0.Least)]) rfl rfl (fun b1 => ?_))
 refine zas (p := .v (.int .i64 0)) rfl rfl rfl rfl rfl ?_
 refine yad (yae (yab (yab (yaa ?_))))
 refine yah rfl rfl rfl (yac rfl rfl rfl rfl rfl (.p rfl)) ?_
 refine yah rfl rfl rfl (yag (p := .v (.int .i64 p0.Rate)) rfl (.p rfl) zm0 rfl) ?_
 refine yah rfl rfl rfl (yak rfl (.p rfl) (.p rfl) rfl) ?_
 refine zmv (p := .v (.bool (decide (p0.Rate < 0)))) rfl rfl rfl rfl rfl ?_
 refine yaj (yai rfl rfl rfl) rfl rfl (yac rfl rfl rfl rfl rfl (.p rfl)) ?_
 refine yaj (yai rfl rfl rfl) rfl rfl (yag (p := .v (.int .i64 p0.Rate)) rfl (.g rfl) zm0 rfl) ?_
 refine yaj (yai rfl rfl rfl) rfl rfl (yak rfl (.g rfl) (.p rfl) rfl) ?_
 refine yah rfl rfl rfl (pq_or rfl (.p rfl) (.p rfl) (.g rfl)) ?_
 refine zmv (p := .v (.bool ((decide (p0.Rate < 0)) || (decide (10000000 < p0.Rate))))) rfl rfl rfl rfl rfl ?_
 refine yaj (yai rfl rfl rfl) rfl rfl (yac rfl rfl rfl rfl rfl (.p rfl)) ?_
 refine yaj (yai rfl rfl rfl) rfl rfl (yag (p := .v (.int .i64 p0.Amount)) rfl (.g rfl) zm0 rfl) ?_
 refine yaj (yai rfl rfl rfl) rfl rfl (yak rfl (.g rfl) (.p rfl) rfl) ?_
 refine yah rfl rfl rfl (pq_or rfl (.p rfl) (.p rfl) (.g rfl)) ?_
 refine zmv (p := .v (.bool (((decide (p0.Rate < 0)) || (decide (10000000 < p0.Rate))) || (decide (p0.Amount < 0))))) rfl rfl rfl rfl rfl ?_
 refine yaj (yai rfl rfl rfl) rfl rfl (yac rfl rfl rfl rfl rfl (.p rfl)) ?_
 refine yaj (yai rfl rfl rfl) rfl rfl (yag (p := .v (.int .i64 p0.Amount)) rfl (.g rfl) zm0 rfl) ?_
 refine yaj (yai rfl rfl rfl) rfl rfl (yak rfl (.g rfl) (.p rfl) rfl) ?_
 refine yah rfl rfl rfl (pq_or rfl (.p rfl) (.p rfl) (.g rfl)) ?_
 refine yad (yae ?_)
 refine yal rfl (fun hc2 => ?_) (fun hc2 => ?_)
 ·replace h := yav hc2 h
  refine yab (yaa ?_)
  refine zas (p := .v (.int .i64 2)) rfl rfl rfl rfl rfl ?_
  refine yad (yae (yaq (yap ?_)))
  obtain rfl := Option.some.inj h
  exact yar (prv_1 (yat rfl)) zsn ⟨rfl, rfl⟩
 ·replace h := yaw hc2 h
  refine yao (yae (yab (yab (yaa ?_))))
  refine yah rfl rfl rfl (yac rfl rfl rfl rfl rfl (.p rfl)) ?_
  refine yah rfl rfl rfl (yag (p := .v (.int .i64 p0.Amount)) rfl (.p rfl) zm0 rfl) ?_
  refine yah rfl rfl rfl (yak rfl (.p rfl) (.p rfl) rfl) ?_
  refine zmv (p := .v (.bool (decide (0 < p0.Amount)))) rfl rfl rfl rfl rfl ?_
  refine yaj (yan rfl rfl rfl) rfl rfl (yac rfl rfl rfl rfl rfl (.p rfl)) ?_
  refine yaj (yan rfl rfl rfl) rfl rfl (yag (p := .v (.int .i64 p0.Per)) rfl (.g rfl) zm0 rfl) ?_
  refine yaj (yan rfl rfl rfl) rfl rfl (yak rfl (.g rfl) (.p rfl) rfl) ?_
  refine yaj (yan rfl rfl rfl) rfl rfl (yam (p := .v (.bool (decide (p0.Per < 1)))) rfl (.g rfl)) ?_
  refine yaj (pguard_gf rfl rfl rfl) rfl rfl (yac rfl rfl rfl rfl rfl (.p rfl)) ?_
  refine yaj (pguard_gf rfl rfl rfl) rfl rfl (yag (p := .v (.int .i64 p0.Per)) rfl (.g rfl) zm0 rfl) ?_
  refine yaj (pguard_gf rfl rfl rfl) rfl rfl (yak rfl (.g rfl) (.p rfl) rfl) ?_
  refine yaj (yan rfl rfl rfl) rfl rfl (pq_or rfl (.g rfl) (.p rfl) (.g rfl)) ?_
  refine yah rfl rfl rfl (pq_and rfl (.p rfl) (.p rfl) (.g rfl)) ?_
  refine zmv (p := .v (.bool ((decide (0 < p0.Amount)) && ((decide (p0.Per < 1)) || (decide (1000000 < p0.Per)))))) rfl rfl rfl rfl rfl ?_
  refine yaj (yai rfl rfl rfl) rfl rfl (yac rfl rfl rfl rfl rfl (.p rfl)) ?_
  refine yaj (yai rfl rfl rfl) rfl rfl (yag (p := .v (.int .i64 p0.Amount)) rfl (.g rfl) zm0 rfl) ?_
  refine yaj (yai rfl rfl rfl) rfl rfl (yak rfl (.g rfl) (.p rfl) rfl) ?_
  refine yaj (yai rfl rfl rfl) rfl rfl (yam (p := .v (.bool (p0.Amount == 0))) rfl (.g rfl)) ?_
  refine yaj (yay rfl rfl rfl) rfl rfl (yac rfl rfl rfl rfl rfl (.p rfl)) ?_
  refine yaj (yay rfl rfl rfl) rfl rfl (yag (p := .v (.int .i64 p0.Per)) rfl (.g rfl) zm0 rfl) ?_
  refine yaj (yay rfl rfl rfl) rfl rfl (yak rfl (.g rfl) (.p rfl) rfl) ?_
  refine yaj (yai rfl rfl rfl) rfl rfl (pq_and rfl (.g rfl) (.p rfl) (.g rfl)) ?_
  refine yah rfl rfl rfl (pq_or rfl (.p rfl) (.p rfl) (.g rfl)) ?_
  refine yad (yae ?_)
  refine yal rfl (fun hc3 => ?_) (fun hc3 => ?_)
  ·replace h := yav hc3 h
   refine yab (yaa ?_)
   refine zas (p := .v (.int .i64 2)) rfl rfl rfl rfl rfl ?_
   refine yad (yae (yaq (yap ?_)))
   obtain rfl := Option.some.inj h
   exact yar (prv_1 (yat rfl)) zsn ⟨rfl, rfl⟩
  ·replace h := yaw hc3 h
   refine yao (yae (yab (yab (yaa ?_))))
   refine yah rfl rfl rfl (yac rfl rfl rfl rfl rfl (.p rfl)) ?_
   refine yah rfl rfl rfl (yag (p := .v (.int .i64 p0.Most)) rfl (.p rfl) zm0 rfl) ?_
   refine yah rfl rfl rfl (yak rfl (.p rfl) (.p rfl) rfl) ?_
   refine zmv (p := .v (.bool (decide (p0.Most < 0)))) rfl rfl rfl rfl rfl ?_
   refine yaj (yai rfl rfl rfl) rfl rfl (yac rfl rfl rfl rfl rfl (.p rfl)) ?_
   refine yaj (yai rfl rfl rfl) rfl rfl (yag (p := .v (.int .i64 p0.Most)) rfl (.g rfl) zm0 rfl) ?_
   refine yaj (yai rfl rfl rfl) rfl rfl (yak rfl (.g rfl) (.p rfl) rfl) ?_
   refine yah rfl rfl rfl (pq_or rfl (.p rfl) (.p rfl) (.g rfl)) ?_
   refine zmv (p := .v (.bool ((decide (p0.Most < 0)) || (decide (10000000 < p0.Most))))) rfl rfl rfl rfl rfl ?_
   refine yaj (yai rfl rfl rfl) rfl rfl (yac rfl rfl rfl rfl rfl (.p rfl)) ?_
   refine yaj (yai rfl rfl rfl) rfl rfl (yag (p := .v (.int .i64 p0.Least)) rfl (.g rfl) zm0 rfl) ?_
   refine yaj (yai rfl rfl rfl) rfl rfl (yak rfl (.g rfl) (.p rfl) rfl) ?_
   refine yah rfl rfl rfl (pq_or rfl (.p rfl) (.p rfl) (.g rfl)) ?_
   refine zmv (p := .v (.bool (((decide (p0.Most < 0)) || (decide (10000000 < p0.Most))) || (decide (p0.Least < 0))))) rfl rfl rfl rfl rfl ?_
   refine yaj (yai rfl rfl rfl) rfl rfl (yac rfl rfl rfl rfl rfl (.p rfl)) ?_
   refine yaj (yai rfl rfl rfl) rfl rfl (yag (p := .v (.int .i64 p0.Least)) rfl (.g rfl) zm0 rfl) ?_
   refine yaj (yai rfl rfl rfl) rfl rfl (yak rfl (.g rfl) (.p rfl) rfl) ?_
   refine yah rfl rfl rfl (pq_or rfl (.p rfl) (.p rfl) (.g rfl)) ?_
   refine yad (yae ?_)
   refine yal rfl (fun hc4 => ?_) (fun hc4 => ?_)
   ·replace h := yav hc4 h
    refine yab (yaa ?_)
    refine zas (p := .v (.int .i64 2)) rfl rfl rfl rfl rfl ?_
    refine yad (yae (yaq (yap ?_)))
    obtain rfl := Option.some.inj h
    exact yar (prv_1 (yat rfl)) zsn ⟨rfl, rfl⟩
   ·replace h := yaw hc4 h
    refine yao (yae (yab (yab (yaa ?_))))
    refine yah rfl rfl rfl (yac rfl rfl rfl rfl rfl (.p rfl)) ?_
    refine yah rfl rfl rfl (yag (p := .v (.int .i64 p0.Most)) rfl (.p rfl) zm0 rfl) ?_
    refine yah rfl rfl rfl (yak rfl (.p rfl) (.p rfl) rfl) ?_
    refine zmv (p := .v (.bool (p0.Most != 0))) rfl rfl rfl rfl rfl ?_
    refine yaj (yan rfl rfl rfl) rfl rfl (yac rfl rfl rfl rfl rfl (.p rfl)) ?_
    refine yaj (yan rfl rfl rfl) rfl rfl (yag (p := .v (.bool p0.HasMost)) rfl (.g rfl) zm0 rfl) ?_
    refine yaj (yan rfl rfl rfl) rfl rfl (pq_not rfl (.g rfl)) ?_
    refine yah rfl rfl rfl (pq_and rfl (.p rfl) (.p rfl) (.g rfl)) ?_
    refine zmv (p := .v (.bool ((p0.Most != 0) && (!p0.HasMost)))) rfl rfl rfl rfl rfl ?_
    refine yaj (yai rfl rfl rfl) rfl rfl (yac rfl rfl rfl rfl rfl (.p rfl)) ?_
    refine yaj (yai rfl rfl rfl) rfl rfl (yag (p := .v (.int .i64 p0.Least)) rfl (.g rfl) zm0 rfl) ?_
    refine yaj (yai rfl rfl rfl) rfl rfl (yak rfl (.g rfl) (.p rfl) rfl) ?_
    refine yaj (yai rfl rfl rfl) rfl rfl (yam (p := .v (.bool (p0.Least != 0))) rfl (.g rfl)) ?_
    refine yaj (yay rfl rfl rfl) rfl rfl (yac rfl rfl rfl rfl rfl (.p rfl)) ?_
    refine yaj (yay rfl rfl rfl) rfl rfl (yag (p := .v (.bool p0.HasLeast)) rfl (.g rfl) zm0 rfl) ?_
    refine yaj (yay rfl rfl rfl) rfl rfl (pq_not rfl (.g rfl)) ?_
    refine yaj (yai rfl rfl rfl) rfl rfl (pq_and rfl (.g rfl) (.p rfl) (.g rfl)) ?_
    refine yah rfl rfl rfl (pq_or rfl (.p rfl) (.p rfl) (.g rfl)) ?_
    refine yad (yae ?_)
    refine yal rfl (fun hc5 => ?_) (fun hc5 => ?_)
    ·replace h := yav hc5 h
     refine yab (yaa ?_)
     refine zas (p := .v (.int .i64 1)) rfl rfl rfl rfl rfl ?_
     refine yad (yae (yaq (yap ?_)))
     obtain rfl := Option.some.inj h
     exact yar (prv_1 (yat rfl)) zsn ⟨rfl, rfl⟩
    ·replace h := yaw hc5 h
     refine yao (yae (yab (yab (yaa ?_))))
     refine yah rfl rfl rfl (yac rfl rfl rfl rfl rfl (.p rfl)) ?_
     refine yah rfl rfl rfl (yag (p := .v (.bool p0.HasMost)) rfl (.p rfl) zm0 rfl) ?_
     refine zmv (p := .v (.bool p0.HasMost)) rfl rfl rfl rfl rfl ?_
     refine yaj (yan rfl rfl rfl) rfl rfl (yac rfl rfl rfl rfl rfl (.p rfl)) ?_
     refine yaj (yan rfl rfl rfl) rfl rfl (yag (p := .v (.bool p0.HasLeast)) rfl (.g rfl) zm0 rfl) ?_
     refine yah rfl rfl rfl (pq_and rfl (.p rfl) (.p rfl) (.g rfl)) ?_
     refine zmv (p := .v (.bool (p0.HasMost && p0.HasLeast))) rfl rfl rfl rfl rfl ?_
     refine yaj (yan rfl rfl rfl) rfl rfl (yac rfl rfl rfl rfl rfl (.p rfl)) ?_
     refine yaj (yan rfl rfl rfl) rfl rfl (yag (p := .v (.int .i64 p0.Least)) rfl (.g rfl) zm0 rfl) ?_
     refine yaj (yan rfl rfl rfl) rfl rfl (yac rfl rfl rfl rfl rfl (.p rfl)) ?_
     refine yaj (yan rfl rfl rfl) rfl rfl (yag (p := .v (.int .i64 p0.Most)) rfl (.g rfl) zm0 rfl) ?_
     refine yaj (yan rfl rfl rfl) rfl rfl (yak rfl (.g rfl) (.g rfl) rfl) ?_
     refine yah rfl rfl rfl (pq_and rfl (.p rfl) (.p rfl) (.g rfl)) ?_
     refine yad (yae ?_)
     refine yal rfl (fun hc6 => ?_) (fun hc6 => ?_)
     ·replace h := yav hc6 h
      refine yab (yaa ?_)
      refine zas (p := .v (.int .i64 1)) rfl rfl rfl rfl rfl ?_
      refine yad (yae (yaq (yap ?_)))
      obtain rfl := Option.some.inj h
      exact yar (prv_1 (yat rfl)) zsn ⟨rfl, rfl⟩
     ·replace h := yaw hc6 h
      refine yao (yae (yab (yaa ?_)))
      refine zas (p := .v (.int .i64 0)) rfl rfl rfl rfl rfl ?_
      refine yad (yae (yaq ?_))
      obtain rfl := Option.some.inj h
      exact yar (prv_1 (yat rfl)) zsn ⟨rfl, rfl⟩
def measure_InForce (p0 : TMeasure) (p1 : Int) : Option Bool := some (((decide (p0.From ≤ p1)) && (decide (p1 < p0.To))) || (((p0.Registered != (-1)) && (decide (p0.Registered ≤ p1))) && (decide (p1 < p0.From))))
set_option maxHeartbeats 4000000 in
theorem measure_InForce_ok {p0 : TMeasure} {p1 : Int} {r : Bool}  (h : measure_InForce p0 p1 = some r) : PF 84 [.agg [.v (.int .i64 p0.ID), .v (.int .i64 p0.Kind), .v (.string p0.Prefix), .slc (List.map eS p0.Origins), .v (.int .i64 p0.Company), .v (.int .i64 p0.From), .v (.int .i64 p0.To), .v (.int .i64 p0.Registered), .v (.int .i64 p0.Duty.Rate), .v (.int .i64 p0.Duty.Amount), .v (.int .i64 p0.Duty.Per), .v (.bool p0.Duty.HasMost), .v (.int .i64 p0.Duty.Most), .v (.bool p0.Duty.HasLeast), .v (.int .i64 p0.Duty.Least)], .v (.int .i64 p1)] (.v (.bool r)) := by
 unfold measure_InForce at h
 refine pf_of ?_
 refine penter Tryz.func84 fk84 rfl Tryz.ntmps84 Tryz.results84 rfl ?_
 refine yab (yaa ?_)
 refine ybl rfl rfl rfl (pl_box (cs := [.v (.int .i64 p0.ID), .v (.int .i64 p0.Kind), .v (.string p0.Prefix), .slc (List.map eS p0.Origins), .v (.int .i64 p0.Company), .v (.int .i64 p0.From), .v (.int .i64 p0.To), .v (.int .i64 p0.Registered), .v (.int .i64 p0.Duty.Rate), .v (.int .i64 p0.Duty.Amount), .v (.int .i64 p0.Duty.Per), .v (.bool p0.Duty.HasMost), .v (.int .i64 p0.Duty.Most), .v (.bool p0.Duty.HasLeast), .v (.int .i64 p0.Duty.Least)]) rfl rfl (fun b1 => ?_))
 refine zas (p := .v (.bool false)) rfl rfl rfl rfl rfl ?_
 refine yad (yae (yab (yaa ?_)))
 refine yah rfl rfl rfl (yac rfl rfl rfl rfl rfl (.p rfl)) ?_
 refine yah rfl rfl rfl (yag (p := .v (.int .i64 p0.From)) rfl (.p rfl) zm0 rfl) ?_
 refine zmv (p := .v (.int .i64 p1)) rfl rfl rfl rfl rfl ?_
 refine yah rfl rfl rfl (yak rfl (.p rfl) (.p rfl) rfl) ?_
 refine zmv (p := .v (.bool (decide (p0.From ≤ p1)))) rfl rfl rfl rfl rfl ?_
 refine yaj (yan rfl rfl rfl) rfl rfl (yam (p := .v (.int .i64 p1)) rfl (.p rfl)) ?_
 refine yaj (yan rfl rfl rfl) rfl rfl (yac rfl rfl rfl rfl rfl (.p rfl)) ?_
 refine yaj (yan rfl rfl rfl) rfl rfl (yag (p := .v (.int .i64 p0.To)) rfl (.g rfl) zm0 rfl) ?_
 refine yaj (yan rfl rfl rfl) rfl rfl (yak rfl (.g rfl) (.g rfl) rfl) ?_
 refine yah rfl rfl rfl (pq_and rfl (.p rfl) (.p rfl) (.g rfl)) ?_
 refine zmv (p := .v (.bool ((decide (p0.From ≤ p1)) && (decide (p1 < p0.To))))) rfl rfl rfl rfl rfl ?_
 refine yaj (yai rfl rfl rfl) rfl rfl (yac rfl rfl rfl rfl rfl (.p rfl)) ?_
 refine yaj (yai rfl rfl rfl) rfl rfl (yag (p := .v (.int .i64 p0.Registered)) rfl (.g rfl) zm0 rfl) ?_
 refine yaj (yai rfl rfl rfl) rfl rfl (yak rfl (.g rfl) (.p rfl) rfl) ?_
 refine yaj (yai rfl rfl rfl) rfl rfl (yam (p := .v (.bool (p0.Registered != (-1)))) rfl (.g rfl)) ?_
 refine yaj (yay rfl rfl rfl) rfl rfl (yac rfl rfl rfl rfl rfl (.p rfl)) ?_
 refine yaj (yay rfl rfl rfl) rfl rfl (yag (p := .v (.int .i64 p0.Registered)) rfl (.g rfl) zm0 rfl) ?_
 refine yaj (yay rfl rfl rfl) rfl rfl (yam (p := .v (.int .i64 p1)) rfl (.p rfl)) ?_
 refine yaj (yay rfl rfl rfl) rfl rfl (yak rfl (.g rfl) (.g rfl) rfl) ?_
 refine yaj (yai rfl rfl rfl) rfl rfl (pq_and rfl (.g rfl) (.p rfl) (.g rfl)) ?_
 refine yaj (yai rfl rfl rfl) rfl rfl (yam (p := .v (.bool ((p0.Registered != (-1)) && (decide (p0.Registered ≤ p1))))) rfl (.g rfl)) ?_
 refine yaj (yay rfl rfl rfl) rfl rfl (yam (p := .v (.int .i64 p1)) rfl (.p rfl)) ?_
 refine yaj (yay rfl rfl rfl) rfl rfl (yac rfl rfl rfl rfl rfl (.p rfl)) ?_
 refine yaj (yay rfl rfl rfl) rfl rfl (yag (p := .v (.int .i64 p0.From)) rfl (.g rfl) zm0 rfl) ?_
 refine yaj (yay rfl rfl rfl) rfl rfl (yak rfl (.g rfl) (.g rfl) rfl) ?_
 refine yaj (yai rfl rfl rfl) rfl rfl (pq_and rfl (.g rfl) (.p rfl) (.g rfl)) ?_
 refine yah rfl rfl rfl (pq_or rfl (.p rfl) (.p rfl) (.g rfl)) ?_
 refine zas (p := .v (.bool (((decide (p0.From ≤ p1)) && (decide (p1 < p0.To))) || (((p0.Registered != (-1)) && (decide (p0.Registered ≤ p1))) && (decide (p1 < p0.From)))))) rfl rfl rfl rfl rfl ?_
 refine yad (yae (yaq ?_))
 obtain rfl := Option.some.inj h
 exact yar (prv_1 (yat rfl)) zsn ⟨rfl, rfl⟩
def stringslite_HasPrefix (p0 : ByteArray) (p1 : ByteArray) : Option Bool := Option.bind (gd (decide ((p1.size : Int) ≤ (p0.size : Int))) (ssub p0 0 (p1.size : Int))) (fun s1 => some ((decide ((p1.size : Int) ≤ (p0.size : Int))) && (decide (s1 = p1))))
set_option maxHeartbeats 4000000 in
theorem stringslite_HasPrefix_ok {p0 : ByteArray} {p1 : ByteArray} {r : Bool}  (h : stringslite_HasPrefix p0 p1 = some r) : PF 115 [.v (.string p0), .v (.string p1)] (.v (.bool r)) := by
 unfold stringslite_HasPrefix at h
 refine pf_of ?_
 refine penter Tryz.func115 fk115 rfl Tryz.ntmps115 Tryz.results115 rfl ?_
 refine yab (yaa ?_)
 refine zas (p := .v (.bool false)) rfl rfl rfl rfl rfl ?_
 refine yad (yae (yab (yaa ?_)))
 refine zmv (p := .v (.string p0)) rfl rfl rfl rfl rfl ?_
 refine yah rfl rfl rfl (pq_lenS rfl rfl (.p rfl)) ?_
 refine zmv (p := .v (.string p1)) rfl rfl rfl rfl rfl ?_
 refine yah rfl rfl rfl (pq_lenS rfl rfl (.p rfl)) ?_
 refine yah rfl rfl rfl (yak rfl (.p rfl) (.p rfl) rfl) ?_
 refine zmv (p := .v (.bool (decide ((p1.size : Int) ≤ (p0.size : Int))))) rfl rfl rfl rfl rfl ?_
 refine yaj (yan rfl rfl rfl) rfl rfl (yam (p := .v (.string p0)) rfl (.p rfl)) ?_
 refine yaj (yan rfl rfl rfl) rfl rfl (yam (p := .v (.string p1)) rfl (.p rfl)) ?_
 refine yaj (yan rfl rfl rfl) rfl rfl (pq_lenS rfl rfl (.g rfl)) ?_
 refine yaf h ?_; clear h; intro s1 hs1 h
 refine yaj (yan rfl rfl rfl) rfl rfl (pq_ssliceH rfl rfl (.g rfl) (.g rfl) (gd_t hs1)) ?_
 refine yaj (yan rfl rfl rfl) rfl rfl (yam (p := .v (.string p1)) rfl (.p rfl)) ?_
 refine yaj (yan rfl rfl rfl) rfl rfl (pq_str rfl (.g rfl) (.g rfl) rfl) ?_
 refine yah rfl rfl rfl (pq_and rfl (.p rfl) (.p rfl) (.g rfl)) ?_
 refine zas (p := .v (.bool ((decide ((p1.size : Int) ≤ (p0.size : Int))) && (decide (s1 = p1))))) rfl rfl rfl rfl rfl ?_
 refine yad (yae (yaq ?_))
 obtain rfl := Option.some.inj h
 exact yar (prv_1 (yat rfl)) zsn ⟨rfl, rfl⟩
def strings_HasPrefix (p0 : ByteArray) (p1 : ByteArray) : Option Bool := Option.bind (stringslite_HasPrefix p0 p1) (fun x1 => some x1)
set_option maxHeartbeats 4000000 in
theorem strings_HasPrefix_ok {p0 : ByteArray} {p1 : ByteArray} {r : Bool}  (h : strings_HasPrefix p0 p1 = some r) : PF 85 [.v (.string p0), .v (.string p1)] (.v (.bool r)) := by
 unfold strings_HasPrefix at h
 refine pf_of ?_
 refine penter Tryz.func85 fk85 rfl Tryz.ntmps85 Tryz.results85 rfl ?_
 refine yab (yaa ?_)
 refine zas (p := .v (.bool false)) rfl rfl rfl rfl rfl ?_
 refine yad (yae (yab (yaa ?_)))
 refine zmv (p := .v (.string p0)) rfl rfl rfl rfl rfl ?_
 refine zmv (p := .v (.string p1)) rfl rfl rfl rfl rfl ?_
 refine yaf h ?_; clear h; intro x1 hx1 h
 refine ybd rfl rfl rfl rfl rfl (stringslite_HasPrefix_ok hx1) ?_
 refine zas (p := .v (.bool x1)) rfl rfl rfl rfl rfl ?_
 refine yad (yae (yaq ?_))
 obtain rfl := Option.some.inj h
 exact yar (prv_1 (yat rfl)) zsn ⟨rfl, rfl⟩
def slices_Index_string_string (p0 : (List ByteArray)) (p1 : ByteArray) : Option Int := Option.bind (loopF (S := Int) (T := (Unit) ⊕ (_)) (fun v1 => cond (decide (v1 < (p0.length : Int))) (Option.bind (idx p0 v1) (fun m5 => cond (decide (p1 = m5)) (some (.inr (.inr v1))) (some (.inl (IntKind.i64.wrap (v1 + 1)))))) (some (.inr (.inl ())))) FUEL 0) (fun q => match q with | .inl _ => some (-1) | .inr e => some e)
set_option maxHeartbeats 4000000 in
theorem slices_Index_string_string_ok {p0 : (List ByteArray)} {p1 : ByteArray} {r : Int}  (h : slices_Index_string_string p0 p1 = some r) : PF 116 [.slc (List.map eS p0), .v (.string p1)] (.v (.int .i64 r)) := by
 unfold slices_Index_string_string at h
 refine pf_of ?_
 refine penter Tryz.func116 fk116 rfl Tryz.ntmps116 Tryz.results116 rfl ?_
 refine yab (yaa ?_)
 refine zas (p := .v (.int .i64 0)) rfl rfl rfl rfl rfl ?_
 refine yad (yae (yab (yab (yaa ?_))))
 refine zmv (p := .slc (List.map eS p0)) rfl rfl rfl rfl rfl ?_
 refine yah rfl rfl rfl (pq_lenT (enc := eS) rfl rfl (.p rfl)) ?_
 refine zmv (p := .v (.int .i64 0)) rfl rfl rfl rfl rfl ?_
 refine yad (yae ?_)
 refine yaf h ?_; clear h; intro q3 hq3 h
 refine ybe (Y := (Unit) × (Unit)) (fun (_, _) => []) (fun (_, _) => []) (fun (_, _) => q3 = Sum.inl ()) ?_ ?_
 ·refine yaz ?_
  refine pwc_loopF (Y := Unit) (S := Int) _ hq3 (fun _ v1 => [(0, .slc (List.map eS p0)), (1, .v (.string p1)), (7, .v (.int .i64 (p0.length : Int))), (8, .v (.int .i64 v1))]) (fun _ v1 => []) () (zhc rfl (zhc rfl (zhc rfl (zhc rfl zhn)))) zsn ?_
  rintro _ v1 o τ hb2; (try dsimp only at hb2); dsimp only [pupds]
  refine yab (yaa ?_)
  refine yah rfl rfl rfl (yak rfl (.p rfl) (.p rfl) rfl) ?_
  refine yad (yae (yab ?_))
  refine yal rfl (fun hc4 => ?_) (fun hc4 => ?_)
  ·replace hb2 := yav hc4 hb2
   refine yao (yae (yab (yaz (yab (yaa ?_)))))
   refine zmv (p := .v (.int .i64 v1)) rfl rfl rfl rfl rfl ?_
   refine zas (p := .v (.int .i64 v1)) rfl rfl rfl rfl rfl ?_
   refine yad (yae (yab (yaa ?_)))
   refine zmv (p := .v (.string p1)) rfl rfl rfl rfl rfl ?_
   refine zmv (p := .slc (List.map eS p0)) rfl rfl rfl rfl rfl ?_
   refine zmv (p := .v (.int .i64 v1)) rfl rfl rfl rfl rfl ?_
   refine yaf hb2 ?_; clear hb2; intro m5 hm5 hb2
   refine yah rfl rfl rfl (pq_index (enc := eS) rfl rfl rfl (fun _ => rfl) (.p rfl) (.p rfl) (fun _ => hm5)) ?_
   refine yah rfl rfl rfl (pq_load_r (p := .v (.string m5)) rfl (.p rfl) rfl) ?_
   refine yah rfl rfl rfl (pq_str rfl (.p rfl) (.p rfl) rfl) ?_
   refine yad (yae ?_)
   refine yal rfl (fun hc6 => ?_) (fun hc6 => ?_)
   ·replace hb2 := yav hc6 hb2
    refine yab (yaa ?_)
    refine zmv (p := .v (.int .i64 v1)) rfl rfl rfl rfl rfl ?_
    refine zas (p := .v (.int .i64 v1)) rfl rfl rfl rfl rfl ?_
    refine yad (yae (yaq (yba (yap ?_))))
    refine pk_loop_ret hb2 (fun ht => ?_); subst ht
    have h := (show some _ = some _ from h)
    refine yba (pk_mid_ret ?_)
    obtain rfl := Option.some.inj h
    exact yar (prv_1 (yat rfl)) zsn ⟨rfl, rfl⟩
   ·replace hb2 := yaw hc6 hb2
    refine yao (ybc (yae (yaa ?_)))
    refine yah rfl rfl rfl (yas rfl (.p rfl) (.p rfl) rfl) ?_
    refine zmv (p := .v (.int .i64 (IntKind.i64.wrap (v1 + 1)))) rfl rfl rfl rfl rfl ?_
    refine yad ?_
    exact pk_loop hb2 () (zhc rfl (zhc rfl (zhc rfl (zhc rfl zhn)))) zsn
  ·replace hb2 := yaw hc4 hb2
   refine pwc_exit (ybm ?_)
   refine ybh hb2 (fun ht => ?_)
   refine ybj rfl ?_
   exact ybb ((), ()) zhn zsn ht.symm
 ·rintro ⟨_, _⟩ τ hz; (try dsimp only at hz); subst q3; (try dsimp only at h); dsimp only [pupds]
  refine yab (yaa ?_)
  refine zas (p := .v (.int .i64 (-1))) rfl rfl rfl rfl rfl ?_
  refine yad (yae (yaq ?_))
  obtain rfl := Option.some.inj h
  exact yar (prv_1 (yat rfl)) zsn ⟨rfl, rfl⟩
def slices_Contains_string_string (p0 : (List ByteArray)) (p1 : ByteArray) : Option Bool := Option.bind (slices_Index_string_string p0 p1) (fun x1 => some (decide (0 ≤ x1)))
set_option maxHeartbeats 4000000 in
theorem slices_Contains_string_string_ok {p0 : (List ByteArray)} {p1 : ByteArray} {r : Bool}  (h : slices_Contains_string_string p0 p1 = some r) : PF 86 [.slc (List.map eS p0), .v (.string p1)] (.v (.bool r)) := by
 unfold slices_Contains_string_string at h
 refine pf_of ?_
 refine penter Tryz.func86 fk86 rfl Tryz.ntmps86 Tryz.results86 rfl ?_
 refine yab (yaa ?_)
 refine zas (p := .v (.bool false)) rfl rfl rfl rfl rfl ?_
 refine yad (yae (yab (yaa ?_)))
 refine zmv (p := .slc (List.map eS p0)) rfl rfl rfl rfl rfl ?_
 refine zmv (p := .v (.string p1)) rfl rfl rfl rfl rfl ?_
 refine yaf h ?_; clear h; intro x1 hx1 h
 refine ybd rfl rfl rfl rfl rfl (slices_Index_string_string_ok hx1) ?_
 refine yah rfl rfl rfl (yak rfl (.p rfl) (.p rfl) rfl) ?_
 refine zas (p := .v (.bool (decide (0 ≤ x1)))) rfl rfl rfl rfl rfl ?_
 refine yad (yae (yaq ?_))
 obtain rfl := Option.some.inj h
 exact yar (prv_1 (yat rfl)) zsn ⟨rfl, rfl⟩
def measure_Covers (p0 : TMeasure) (p1 : ByteArray) (p2 : ByteArray) (p3 : Int) (p4 : Int) : Option Bool := Option.bind (measure_InForce p0 p4) (fun x2 => Option.bind (gd x2 (strings_HasPrefix p1 p0.Prefix)) (fun x3 => Option.bind (gd ((x2 && x3) && (!((p0.Origins.length : Int) == 0))) (slices_Contains_string_string p0.Origins p2)) (fun x4 => some (((x2 && x3) && (((p0.Origins.length : Int) == 0) || x4)) && ((p0.Company == 0) || (p0.Company == p3))))))
set_option maxHeartbeats 4000000 in
theorem measure_Covers_ok {p0 : TMeasure} {p1 : ByteArray} {p2 : ByteArray} {p3 : Int} {p4 : Int} {r : Bool}  (h : measure_Covers p0 p1 p2 p3 p4 = some r) : PF 56 [.agg [.v (.int .i64 p0.ID), .v (.int .i64 p0.Kind), .v (.string p0.Prefix), .slc (List.map eS p0.Origins), .v (.int .i64 p0.Company), .v (.int .i64 p0.From), .v (.int .i64 p0.To), .v (.int .i64 p0.Registered), .v (.int .i64 p0.Duty.Rate), .v (.int .i64 p0.Duty.Amount), .v (.int .i64 p0.Duty.Per), .v (.bool p0.Duty.HasMost), .v (.int .i64 p0.Duty.Most), .v (.bool p0.Duty.HasLeast), .v (.int .i64 p0.Duty.Least)], .v (.string p1), .v (.string p2), .v (.int .i64 p3), .v (.int .i64 p4)] (.v (.bool r)) := by
 unfold measure_Covers at h
 refine pf_of ?_
 refine penter Tryz.func56 fk56 rfl Tryz.ntmps56 Tryz.results56 rfl ?_
 refine yab (yaa ?_)
 refine ybl rfl rfl rfl (pl_box (cs := [.v (.int .i64 p0.ID), .v (.int .i64 p0.Kind), .v (.string p0.Prefix), .slc (List.map eS p0.Origins), .v (.int .i64 p0.Company), .v (.int .i64 p0.From), .v (.int .i64 p0.To), .v (.int .i64 p0.Registered), .v (.int .i64 p0.Duty.Rate), .v (.int .i64 p0.Duty.Amount), .v (.int .i64 p0.Duty.Per), .v (.bool p0.Duty.HasMost), .v (.int .i64 p0.Duty.Most), .v (.bool p0.Duty.HasLeast), .v (.int .i64 p0.Duty.Least)]) rfl rfl (fun b1 => ?_))
 refine zas (p := .v (.bool false)) rfl rfl rfl rfl rfl ?_
 refine yad (yae (yab (yaa ?_)))
 refine yah rfl rfl rfl (yag (p := .agg [.v (.int .i64 p0.ID), .v (.int .i64 p0.Kind), .v (.string p0.Prefix), .slc (List.map eS p0.Origins), .v (.int .i64 p0.Company), .v (.int .i64 p0.From), .v (.int .i64 p0.To), .v (.int .i64 p0.Registered), .v (.int .i64 p0.Duty.Rate), .v (.int .i64 p0.Duty.Amount), .v (.int .i64 p0.Duty.Per), .v (.bool p0.Duty.HasMost), .v (.int .i64 p0.Duty.Most), .v (.bool p0.Duty.HasLeast), .v (.int .i64 p0.Duty.Least)]) rfl (.p rfl) zm0 rfl) ?_
 refine zmv (p := .v (.int .i64 p4)) rfl rfl rfl rfl rfl ?_
 refine yaf h ?_; clear h; intro x2 hx2 h
 refine ybd rfl rfl rfl rfl rfl (measure_InForce_ok hx2) ?_
 refine zmv (p := .v (.bool x2)) rfl rfl rfl rfl rfl ?_
 refine yaj (yan rfl rfl rfl) rfl rfl (yam (p := .v (.string p1)) rfl (.p rfl)) ?_
 refine yaj (yan rfl rfl rfl) rfl rfl (yac rfl rfl rfl rfl rfl (.p rfl)) ?_
 refine yaj (yan rfl rfl rfl) rfl rfl (yag (p := .v (.string p0.Prefix)) rfl (.g rfl) zm0 rfl) ?_
 refine yaf h ?_; clear h; intro x3 hx3 h
 refine pwl_callg (yan rfl rfl rfl) rfl rfl rfl (ybg (.g rfl) (ybg (.g rfl) (pargs_nil))) (fun hc => strings_HasPrefix_ok (gd_t hx3 hc)) ?_
 refine yah rfl rfl rfl (pq_and rfl (.p rfl) (.p rfl) (.g rfl)) ?_
 refine zmv (p := .v (.bool (x2 && x3))) rfl rfl rfl rfl rfl ?_
 refine yaj (yan rfl rfl rfl) rfl rfl (yac rfl rfl rfl rfl rfl (.p rfl)) ?_
 refine yaj (yan rfl rfl rfl) rfl rfl (yag (p := .slc (List.map eS p0.Origins)) rfl (.g rfl) zm0 rfl) ?_
 refine yaj (yan rfl rfl rfl) rfl rfl (pq_lenT (enc := eS) rfl rfl (.g rfl)) ?_
 refine yaj (yan rfl rfl rfl) rfl rfl (yak rfl (.g rfl) (.p rfl) rfl) ?_
 refine yaj (yan rfl rfl rfl) rfl rfl (yam (p := .v (.bool ((p0.Origins.length : Int) == 0))) rfl (.g rfl)) ?_
 refine yaj (pguard_gf rfl rfl rfl) rfl rfl (yac rfl rfl rfl rfl rfl (.p rfl)) ?_
 refine yaj (pguard_gf rfl rfl rfl) rfl rfl (yag (p := .slc (List.map eS p0.Origins)) rfl (.g rfl) zm0 rfl) ?_
 refine yaj (pguard_gf rfl rfl rfl) rfl rfl (yam (p := .v (.string p2)) rfl (.p rfl)) ?_
 refine yaf h ?_; clear h; intro x4 hx4 h
 refine pwl_callg (pguard_gf rfl rfl rfl) rfl rfl rfl (ybg (.g rfl) (ybg (.g rfl) (pargs_nil))) (fun hc => slices_Contains_string_string_ok (gd_t hx4 hc)) ?_
 refine yaj (yan rfl rfl rfl) rfl rfl (pq_or rfl (.g rfl) (.p rfl) (.g rfl)) ?_
 refine yah rfl rfl rfl (pq_and rfl (.p rfl) (.p rfl) (.g rfl)) ?_
 refine zmv (p := .v (.bool ((x2 && x3) && (((p0.Origins.length : Int) == 0) || x4)))) rfl rfl rfl rfl rfl ?_
 refine yaj (yan rfl rfl rfl) rfl rfl (yac rfl rfl rfl rfl rfl (.p rfl)) ?_
 refine yaj (yan rfl rfl rfl) rfl rfl (yag (p := .v (.int .i64 p0.Company)) rfl (.g rfl) zm0 rfl) ?_
 refine yaj (yan rfl rfl rfl) rfl rfl (yak rfl (.g rfl) (.p rfl) rfl) ?_
 refine yaj (yan rfl rfl rfl) rfl rfl (yam (p := .v (.bool (p0.Company == 0))) rfl (.g rfl)) ?_
 refine yaj (pguard_gf rfl rfl rfl) rfl rfl (yac rfl rfl rfl rfl rfl (.p rfl)) ?_
 refine yaj (pguard_gf rfl rfl rfl) rfl rfl (yag (p := .v (.int .i64 p0.Company)) rfl (.g rfl) zm0 rfl) ?_
 refine yaj (pguard_gf rfl rfl rfl) rfl rfl (yam (p := .v (.int .i64 p3)) rfl (.p rfl)) ?_
 refine yaj (pguard_gf rfl rfl rfl) rfl rfl (yak rfl (.g rfl) (.g rfl) rfl) ?_
 refine yaj (yan rfl rfl rfl) rfl rfl (pq_or rfl (.g rfl) (.p rfl) (.g rfl)) ?_
 refine yah rfl rfl rfl (pq_and rfl (.p rfl) (.p rfl) (.g rfl)) ?_
 refine zas (p := .v (.bool (((x2 && x3) && (((p0.Origins.length : Int) == 0) || x4)) && ((p0.Company == 0) || (p0.Company == p3))))) rfl rfl rfl rfl rfl ?_
 refine yad (yae (yaq ?_))
 obtain rfl := Option.some.inj h
 exact yar (prv_1 (yat rfl)) zsn ⟨rfl, rfl⟩
def measure_precedes (p0 : TMeasure) (p1 : TMeasure) : Option Bool := cond ((p0.Prefix.size : Int) != (p1.Prefix.size : Int)) (some (decide ((p1.Prefix.size : Int) < (p0.Prefix.size : Int)))) (cond ((p0.Company != 0) != (p1.Company != 0)) (some (p0.Company != 0)) (cond ((p0.Origins.length : Int) != (p1.Origins.length : Int)) (some (((p1.Origins.length : Int) == 0) || (((p0.Origins.length : Int) != 0) && (decide ((p0.Origins.length : Int) < (p1.Origins.length : Int)))))) (some (decide (p1.ID < p0.ID)))))
set_option maxHeartbeats 4000000 in
theorem measure_precedes_ok {p0 : TMeasure} {p1 : TMeasure} {r : Bool}  (h : measure_precedes p0 p1 = some r) : PF 57 [.agg [.v (.int .i64 p0.ID), .v (.int .i64 p0.Kind), .v (.string p0.Prefix), .slc (List.map eS p0.Origins), .v (.int .i64 p0.Company), .v (.int .i64 p0.From), .v (.int .i64 p0.To), .v (.int .i64 p0.Registered), .v (.int .i64 p0.Duty.Rate), .v (.int .i64 p0.Duty.Amount), .v (.int .i64 p0.Duty.Per), .v (.bool p0.Duty.HasMost), .v (.int .i64 p0.Duty.Most), .v (.bool p0.Duty.HasLeast), .v (.int .i64 p0.Duty.Least)], .agg [.v (.int .i64 p1.ID), .v (.int .i64 p1.Kind), .v (.string p1.Prefix), .slc (List.map eS p1.Origins), .v (.int .i64 p1.Company), .v (.int .i64 p1.From), .v (.int .i64 p1.To), .v (.int .i64 p1.Registered), .v (.int .i64 p1.Duty.Rate), .v (.int .i64 p1.Duty.Amount), .v (.int .i64 p1.Duty.Per), .v (.bool p1.Duty.HasMost), .v (.int .i64 p1.Duty.Most), .v (.bool p1.Duty.HasLeast), .v (.int .i64 p1.Duty.Least)]] (.v (.bool r)) := by
 unfold measure_precedes at h
 refine pf_of ?_
 refine penter Tryz.func57 fk57 rfl Tryz.ntmps57 Tryz.results57 rfl ?_
 refine yab (yaa ?_)
 refine ybl rfl rfl rfl (pl_box (cs := [.v (.int .i64 p0.ID), .v (.int .i64 p0.Kind), .v (.string p0.Prefix), .slc (List.map eS p0.Origins), .v (.int .i64 p0.Company), .v (.int .i64 p0.From), .v (.int .i64 p0.To), .v (.int .i64 p0.Registered), .v (.int .i64 p0.Duty.Rate), .v (.int .i64 p0.Duty.Amount), .v (.int .i64 p0.Duty.Per), .v (.bool p0.Duty.HasMost), .v (.int .i64 p0.Duty.Most), .v (.bool p0.Duty.HasLeast), .v (.int .i64 p0.Duty.Least)]) rfl rfl (fun b1 => ?_))
 refine ybl rfl rfl rfl (pl_box (cs := [.v (.int .i64 p1.ID), .v (.int .i64 p1.Kind), .v (.string p1.Prefix), .slc (List.map eS p1.Origins), .v (.int .i64 p1.Company), .v (.int .i64 p1.From), .v (.int .i64 p1.To), .v (.int .i64 p1.Registered), .v (.int .i64 p1.Duty.Rate), .v (.int .i64 p1.Duty.Amount), .v (.int .i64 p1.Duty.Per), .v (.bool p1.Duty.HasMost), .v (.int .i64 p1.Duty.Most), .v (.bool p1.Duty.HasLeast), .v (.int .i64 p1.Duty.Least)]) rfl rfl (fun b2 => ?_))
 refine zas (p := .v (.bool false)) rfl rfl rfl rfl rfl ?_
 refine yad (yae (yab (yab (yaa ?_))))
 refine yah rfl rfl rfl (yac rfl rfl rfl rfl rfl (.p rfl)) ?_
 refine yah rfl rfl rfl (yag (p := .v (.string p0.Prefix)) rfl (.p rfl) zm1 rfl) ?_
 refine yah rfl rfl rfl (pq_lenS rfl rfl (.p rfl)) ?_
 refine yah rfl rfl rfl (yac rfl rfl rfl rfl rfl (.p rfl)) ?_
 refine yah rfl rfl rfl (yag (p := .v (.string p1.Prefix)) rfl (.p rfl) zm0 rfl) ?_
 refine yah rfl rfl rfl (pq_lenS rfl rfl (.p rfl)) ?_
 refine yah rfl rfl rfl (yak rfl (.p rfl) (.p rfl) rfl) ?_
 refine yad (yae ?_)
 refine yal rfl (fun hc3 => ?_) (fun hc3 => ?_)
 ·replace h := yav hc3 h
  refine yab (yaa ?_)
  refine yah rfl rfl rfl (yac rfl rfl rfl rfl rfl (.p rfl)) ?_
  refine yah rfl rfl rfl (yag (p := .v (.string p0.Prefix)) rfl (.p rfl) zm1 rfl) ?_
  refine yah rfl rfl rfl (pq_lenS rfl rfl (.p rfl)) ?_
  refine yah rfl rfl rfl (yac rfl rfl rfl rfl rfl (.p rfl)) ?_
  refine yah rfl rfl rfl (yag (p := .v (.string p1.Prefix)) rfl (.p rfl) zm0 rfl) ?_
  refine yah rfl rfl rfl (pq_lenS rfl rfl (.p rfl)) ?_
  refine yah rfl rfl rfl (yak rfl (.p rfl) (.p rfl) rfl) ?_
  refine zas (p := .v (.bool (decide ((p1.Prefix.size : Int) < (p0.Prefix.size : Int))))) rfl rfl rfl rfl rfl ?_
  refine yad (yae (yaq (yap ?_)))
  obtain rfl := Option.some.inj h
  exact yar (prv_1 (yat rfl)) zsn ⟨rfl, rfl⟩
 ·replace h := yaw hc3 h
  refine yao (yae (yab (yab (yaa ?_))))
  refine yah rfl rfl rfl (yac rfl rfl rfl rfl rfl (.p rfl)) ?_
  refine yah rfl rfl rfl (yag (p := .v (.int .i64 p0.Company)) rfl (.p rfl) zm1 rfl) ?_
  refine yah rfl rfl rfl (yak rfl (.p rfl) (.p rfl) rfl) ?_
  refine yah rfl rfl rfl (yac rfl rfl rfl rfl rfl (.p rfl)) ?_
  refine yah rfl rfl rfl (yag (p := .v (.int .i64 p1.Company)) rfl (.p rfl) zm0 rfl) ?_
  refine yah rfl rfl rfl (yak rfl (.p rfl) (.p rfl) rfl) ?_
  refine yah rfl rfl rfl (pq_eqB rfl rfl (.p rfl) (.p rfl) rfl) ?_
  refine yad (yae ?_)
  refine yal rfl (fun hc4 => ?_) (fun hc4 => ?_)
  ·replace h := yav hc4 h
   refine yab (yaa ?_)
   refine yah rfl rfl rfl (yac rfl rfl rfl rfl rfl (.p rfl)) ?_
   refine yah rfl rfl rfl (yag (p := .v (.int .i64 p0.Company)) rfl (.p rfl) zm1 rfl) ?_
   refine yah rfl rfl rfl (yak rfl (.p rfl) (.p rfl) rfl) ?_
   refine zas (p := .v (.bool (p0.Company != 0))) rfl rfl rfl rfl rfl ?_
   refine yad (yae (yaq (yap ?_)))
   obtain rfl := Option.some.inj h
   exact yar (prv_1 (yat rfl)) zsn ⟨rfl, rfl⟩
  ·replace h := yaw hc4 h
   refine yao (yae (yab (yab (yaa ?_))))
   refine yah rfl rfl rfl (yac rfl rfl rfl rfl rfl (.p rfl)) ?_
   refine yah rfl rfl rfl (yag (p := .slc (List.map eS p0.Origins)) rfl (.p rfl) zm1 rfl) ?_
   refine yah rfl rfl rfl (pq_lenT (enc := eS) rfl rfl (.p rfl)) ?_
   refine yah rfl rfl rfl (yac rfl rfl rfl rfl rfl (.p rfl)) ?_
   refine yah rfl rfl rfl (yag (p := .slc (List.map eS p1.Origins)) rfl (.p rfl) zm0 rfl) ?_
   refine yah rfl rfl rfl (pq_lenT (enc := eS) rfl rfl (.p rfl)) ?_
   refine yah rfl rfl rfl (yak rfl (.p rfl) (.p rfl) rfl) ?_
   refine yad (yae ?_)
   refine yal rfl (fun hc5 => ?_) (fun hc5 => ?_)
   ·replace h := yav hc5 h
    refine yab (yaa ?_)
    refine yah rfl rfl rfl (yac rfl rfl rfl rfl rfl (.p rfl)) ?_
    refine yah rfl rfl rfl (yag (p := .slc (List.map eS p1.Origins)) rfl (.p rfl) zm0 rfl) ?_
    refine yah rfl rfl rfl (pq_lenT (enc := eS) rfl rfl (.p rfl)) ?_
    refine yah rfl rfl rfl (yak rfl (.p rfl) (.p rfl) rfl) ?_
    refine zmv (p := .v (.bool ((p1.Origins.length : Int) == 0))) rfl rfl rfl rfl rfl ?_
    refine yaj (yai rfl rfl rfl) rfl rfl (yac rfl rfl rfl rfl rfl (.p rfl)) ?_
    refine yaj (yai rfl rfl rfl) rfl rfl (yag (p := .slc (List.map eS p0.Origins)) rfl (.g rfl) zm1 rfl) ?_
    refine yaj (yai rfl rfl rfl) rfl rfl (pq_lenT (enc := eS) rfl rfl (.g rfl)) ?_
    refine yaj (yai rfl rfl rfl) rfl rfl (yak rfl (.g rfl) (.p rfl) rfl) ?_
    refine yaj (yai rfl rfl rfl) rfl rfl (yam (p := .v (.bool ((p0.Origins.length : Int) != 0))) rfl (.g rfl)) ?_
    refine yaj (yay rfl rfl rfl) rfl rfl (yac rfl rfl rfl rfl rfl (.p rfl)) ?_
    refine yaj (yay rfl rfl rfl) rfl rfl (yag (p := .slc (List.map eS p0.Origins)) rfl (.g rfl) zm1 rfl) ?_
    refine yaj (yay rfl rfl rfl) rfl rfl (pq_lenT (enc := eS) rfl rfl (.g rfl)) ?_
    refine yaj (yay rfl rfl rfl) rfl rfl (yac rfl rfl rfl rfl rfl (.p rfl)) ?_
    refine yaj (yay rfl rfl rfl) rfl rfl (yag (p := .slc (List.map eS p1.Origins)) rfl (.g rfl) zm0 rfl) ?_
    refine yaj (yay rfl rfl rfl) rfl rfl (pq_lenT (enc := eS) rfl rfl (.g rfl)) ?_
    refine yaj (yay rfl rfl rfl) rfl rfl (yak rfl (.g rfl) (.g rfl) rfl) ?_
    refine yaj (yai rfl rfl rfl) rfl rfl (pq_and rfl (.g rfl) (.p rfl) (.g rfl)) ?_
    refine yah rfl rfl rfl (pq_or rfl (.p rfl) (.p rfl) (.g rfl)) ?_
    refine zas (p := .v (.bool (((p1.Origins.length : Int) == 0) || (((p0.Origins.length : Int) != 0) && (decide ((p0.Origins.length : Int) < (p1.Origins.length : Int))))))) rfl rfl rfl rfl rfl ?_
    refine yad (yae (yaq (yap ?_)))
    obtain rfl := Option.some.inj h
    exact yar (prv_1 (yat rfl)) zsn ⟨rfl, rfl⟩
   ·replace h := yaw hc5 h
    refine yao (yae (yab (yaa ?_)))
    refine yah rfl rfl rfl (yac rfl rfl rfl rfl rfl (.p rfl)) ?_
    refine yah rfl rfl rfl (yag (p := .v (.int .i64 p0.ID)) rfl (.p rfl) zm1 rfl) ?_
    refine yah rfl rfl rfl (yac rfl rfl rfl rfl rfl (.p rfl)) ?_
    refine yah rfl rfl rfl (yag (p := .v (.int .i64 p1.ID)) rfl (.p rfl) zm0 rfl) ?_
    refine yah rfl rfl rfl (yak rfl (.p rfl) (.p rfl) rfl) ?_
    refine zas (p := .v (.bool (decide (p1.ID < p0.ID)))) rfl rfl rfl rfl rfl ?_
    refine yad (yae (yaq ?_))
    obtain rfl := Option.some.inj h
    exact yar (prv_1 (yat rfl)) zsn ⟨rfl, rfl⟩
def slices_IndexFunc_api_Measure_api_Measure (p0 : (List TMeasure)) (p1 : (TMeasure → Option Bool)) : Option Int := Option.bind (loopF (S := Int) (T := (Unit) ⊕ (_)) (fun v1 => cond (decide (v1 < (p0.length : Int))) (Option.bind (idx p0 v1) (fun m5 => Option.bind (p1 m5) (fun x6 => cond x6 (some (.inr (.inr v1))) (some (.inl (IntKind.i64.wrap (v1 + 1))))))) (some (.inr (.inl ())))) FUEL 0) (fun q => match q with | .inl _ => some (-1) | .inr e => some e)
set_option maxHeartbeats 4000000 in
theorem slices_IndexFunc_api_Measure_api_Measure_ok {p0 : (List TMeasure)} {p1 : (TMeasure → Option Bool)} {r : Int} {g1 : PV} (hg1 : ∀ {y0 : TMeasure} {w : Bool}, p1 y0 = some w → PFV g1 [.agg [.v (.int .i64 y0.ID), .v (.int .i64 y0.Kind), .v (.string y0.Prefix), .slc (List.map eS y0.Origins), .v (.int .i64 y0.Company), .v (.int .i64 y0.From), .v (.int .i64 y0.To), .v (.int .i64 y0.Registered), .v (.int .i64 y0.Duty.Rate), .v (.int .i64 y0.Duty.Amount), .v (.int .i64 y0.Duty.Per), .v (.bool y0.Duty.HasMost), .v (.int .i64 y0.Duty.Most), .v (.bool y0.Duty.HasLeast), .v (.int .i64 y0.Duty.Least)]] (.v (.bool w))) (h : slices_IndexFunc_api_Measure_api_Measure p0 p1 = some r) : PF 59 [.slc (List.map TMeasure.enc p0), g1] (.v (.int .i64 r)) := by
 unfold slices_IndexFunc_api_Measure_api_Measure at h
 refine pf_of ?_
 refine penter Tryz.func59 fk59 rfl Tryz.ntmps59 Tryz.results59 rfl ?_
 refine yab (yaa ?_)
 refine zas (p := .v (.int .i64 0)) rfl rfl rfl rfl rfl ?_
 refine yad (yae (yab (yab (yaa ?_))))
 refine zmv (p := .slc (List.map TMeasure.enc p0)) rfl rfl rfl rfl rfl ?_
 refine yah rfl rfl rfl (pq_lenT (enc := TMeasure.enc) rfl rfl (.p rfl)) ?_
 refine zmv (p := .v (.int .i64 0)) rfl rfl rfl rfl rfl ?_
 refine yad (yae ?_)
 refine yaf h ?_; clear h; intro q3 hq3 h
 refine ybe (Y := (Unit) × (Unit)) (fun (_, _) => []) (fun (_, _) => []) (fun (_, _) => q3 = Sum.inl ()) ?_ ?_
 ·refine yaz ?_
  refine pwc_loopF (Y := Unit) (S := Int) _ hq3 (fun _ v1 => [(0, .slc (List.map TMeasure.enc p0)), (1, g1), (7, .v (.int .i64 (p0.length : Int))), (8, .v (.int .i64 v1))]) (fun _ v1 => []) () (zhc rfl (zhc rfl (zhc rfl (zhc rfl zhn)))) zsn ?_
  rintro _ v1 o τ hb2; (try dsimp only at hb2); dsimp only [pupds]
  refine yab (yaa ?_)
  refine yah rfl rfl rfl (yak rfl (.p rfl) (.p rfl) rfl) ?_
  refine yad (yae (yab ?_))
  refine yal rfl (fun hc4 => ?_) (fun hc4 => ?_)
  ·replace hb2 := yav hc4 hb2
   refine yao (yae (yab (yaz (yab (yaa ?_)))))
   refine zmv (p := .v (.int .i64 v1)) rfl rfl rfl rfl rfl ?_
   refine zas (p := .v (.int .i64 v1)) rfl rfl rfl rfl rfl ?_
   refine yad (yae (yab (yaa ?_)))
   refine zmv (p := g1) rfl rfl rfl rfl rfl ?_
   refine zmv (p := .slc (List.map TMeasure.enc p0)) rfl rfl rfl rfl rfl ?_
   refine zmv (p := .v (.int .i64 v1)) rfl rfl rfl rfl rfl ?_
   refine yaf hb2 ?_; clear hb2; intro m5 hm5 hb2
   refine yah rfl rfl rfl (pq_index (enc := TMeasure.enc) rfl rfl rfl (fun _ => rfl) (.p rfl) (.p rfl) (fun _ => hm5)) ?_
   refine yah rfl rfl rfl (pq_load_r (p := .agg [.v (.int .i64 m5.ID), .v (.int .i64 m5.Kind), .v (.string m5.Prefix), .slc (List.map eS m5.Origins), .v (.int .i64 m5.Company), .v (.int .i64 m5.From), .v (.int .i64 m5.To), .v (.int .i64 m5.Registered), .v (.int .i64 m5.Duty.Rate), .v (.int .i64 m5.Duty.Amount), .v (.int .i64 m5.Duty.Per), .v (.bool m5.Duty.HasMost), .v (.int .i64 m5.Duty.Most), .v (.bool m5.Duty.HasLeast), .v (.int .i64 m5.Duty.Least)]) rfl (.p rfl) rfl) ?_
   refine yaf hb2 ?_; clear hb2; intro x6 hx6 hb2
   refine pwl_callv rfl rfl rfl rfl rfl (hg1 hx6) ?_
   refine yad (yae ?_)
   refine yal rfl (fun hc7 => ?_) (fun hc7 => ?_)
   ·replace hb2 := yav hc7 hb2
    refine yab (yaa ?_)
    refine zmv (p := .v (.int .i64 v1)) rfl rfl rfl rfl rfl ?_
    refine zas (p := .v (.int .i64 v1)) rfl rfl rfl rfl rfl ?_
    refine yad (yae (yaq (yba (yap ?_))))
    refine pk_loop_ret hb2 (fun ht => ?_); subst ht
    have h := (show some _ = some _ from h)
    refine yba (pk_mid_ret ?_)
    obtain rfl := Option.some.inj h
    exact yar (prv_1 (yat rfl)) zsn ⟨rfl, rfl⟩
   ·replace hb2 := yaw hc7 hb2
    refine yao (ybc (yae (yaa ?_)))
    refine yah rfl rfl rfl (yas rfl (.p rfl) (.p rfl) rfl) ?_
    refine zmv (p := .v (.int .i64 (IntKind.i64.wrap (v1 + 1)))) rfl rfl rfl rfl rfl ?_
    refine yad ?_
    exact pk_loop hb2 () (zhc rfl (zhc rfl (zhc rfl (zhc rfl zhn)))) zsn
  ·replace hb2 := yaw hc4 hb2
   refine pwc_exit (ybm ?_)
   refine ybh hb2 (fun ht => ?_)
   refine ybj rfl ?_
   exact ybb ((), ()) zhn zsn ht.symm
 ·rintro ⟨_, _⟩ τ hz; (try dsimp only at hz); subst q3; (try dsimp only at h); dsimp only [pupds]
  refine yab (yaa ?_)
  refine zas (p := .v (.int .i64 (-1))) rfl rfl rfl rfl rfl ?_
  refine yad (yae (yaq ?_))
  obtain rfl := Option.some.inj h
  exact yar (prv_1 (yat rfl)) zsn ⟨rfl, rfl⟩
def slices_ContainsFunc_api_Measure_api_Measure (p0 : (List TMeasure)) (p1 : (TMeasure → Option Bool)) : Option Bool := Option.bind (slices_IndexFunc_api_Measure_api_Measure p0 p1) (fun x1 => some (decide (0 ≤ x1)))
set_option maxHeartbeats 4000000 in
theorem slices_ContainsFunc_api_Measure_api_Measure_ok {p0 : (List TMeasure)} {p1 : (TMeasure → Option Bool)} {r : Bool} {g1 : PV} (hg1 : ∀ {y0 : TMeasure} {w : Bool}, p1 y0 = some w → PFV g1 [.agg [.v (.int .i64 y0.ID), .v (.int .i64 y0.Kind), .v (.string y0.Prefix), .slc (List.map eS y0.Origins), .v (.int .i64 y0.Company), .v (.int .i64 y0.From), .v (.int .i64 y0.To), .v (.int .i64 y0.Registered), .v (.int .i64 y0.Duty.Rate), .v (.int .i64 y0.Duty.Amount), .v (.int .i64 y0.Duty.Per), .v (.bool y0.Duty.HasMost), .v (.int .i64 y0.Duty.Most), .v (.bool y0.Duty.HasLeast), .v (.int .i64 y0.Duty.Least)]] (.v (.bool w))) (h : slices_ContainsFunc_api_Measure_api_Measure p0 p1 = some r) : PF 37 [.slc (List.map TMeasure.enc p0), g1] (.v (.bool r)) := by
 unfold slices_ContainsFunc_api_Measure_api_Measure at h
 refine pf_of ?_
 refine penter Tryz.func37 fk37 rfl Tryz.ntmps37 Tryz.results37 rfl ?_
 refine yab (yaa ?_)
 refine zas (p := .v (.bool false)) rfl rfl rfl rfl rfl ?_
 refine yad (yae (yab (yaa ?_)))
 refine zmv (p := .slc (List.map TMeasure.enc p0)) rfl rfl rfl rfl rfl ?_
 refine zmv (p := g1) rfl rfl rfl rfl rfl ?_
 refine yaf h ?_; clear h; intro x1 hx1 h
 refine ybd rfl rfl rfl rfl rfl (slices_IndexFunc_api_Measure_api_Measure_ok hg1 hx1) ?_
 refine yah rfl rfl rfl (yak rfl (.p rfl) (.p rfl) rfl) ?_
 refine zas (p := .v (.bool (decide (0 ≤ x1)))) rfl rfl rfl rfl rfl ?_
 refine yad (yae (yaq ?_))
 obtain rfl := Option.some.inj h
 exact yar (prv_1 (yat rfl)) zsn ⟨rfl, rfl⟩
def assess_Assess_1 (p0 : TMeasure) : Option Bool := some (p0.Kind == 1)
set_option maxHeartbeats 4000000 in
theorem assess_Assess_1_ok {p0 : TMeasure} {r : Bool}  (h : assess_Assess_1 p0 = some r) : PF 38 [.agg [.v (.int .i64 p0.ID), .v (.int .i64 p0.Kind), .v (.string p0.Prefix), .slc (List.map eS p0.Origins), .v (.int .i64 p0.Company), .v (.int .i64 p0.From), .v (.int .i64 p0.To), .v (.int .i64 p0.Registered), .v (.int .i64 p0.Duty.Rate), .v (.int .i64 p0.Duty.Amount), .v (.int .i64 p0.Duty.Per), .v (.bool p0.Duty.HasMost), .v (.int .i64 p0.Duty.Most), .v (.bool p0.Duty.HasLeast), .v (.int .i64 p0.Duty.Least)]] (.v (.bool r)) := by
 unfold assess_Assess_1 at h
 refine pf_of ?_
 refine penter Tryz.func38 fk38 rfl Tryz.ntmps38 Tryz.results38 rfl ?_
 refine yab (yaa ?_)
 refine ybl rfl rfl rfl (pl_box (cs := [.v (.int .i64 p0.ID), .v (.int .i64 p0.Kind), .v (.string p0.Prefix), .slc (List.map eS p0.Origins), .v (.int .i64 p0.Company), .v (.int .i64 p0.From), .v (.int .i64 p0.To), .v (.int .i64 p0.Registered), .v (.int .i64 p0.Duty.Rate), .v (.int .i64 p0.Duty.Amount), .v (.int .i64 p0.Duty.Per), .v (.bool p0.Duty.HasMost), .v (.int .i64 p0.Duty.Most), .v (.bool p0.Duty.HasLeast), .v (.int .i64 p0.Duty.Least)]) rfl rfl (fun b1 => ?_))
 refine zas (p := .v (.bool false)) rfl rfl rfl rfl rfl ?_
 refine yad (yae (yab (yaa ?_)))
 refine yah rfl rfl rfl (yac rfl rfl rfl rfl rfl (.p rfl)) ?_
 refine yah rfl rfl rfl (yag (p := .v (.int .i64 p0.Kind)) rfl (.p rfl) zm0 rfl) ?_
 refine yah rfl rfl rfl (yak rfl (.p rfl) (.p rfl) rfl) ?_
 refine zas (p := .v (.bool (p0.Kind == 1))) rfl rfl rfl rfl rfl ?_
 refine yad (yae (yaq ?_))
 obtain rfl := Option.some.inj h
 exact yar (prv_1 (yat rfl)) zsn ⟨rfl, rfl⟩
def apportion_check (p0 : Int) (p1 : (List Int)) : Option Int := cond (decide (1000 < (p1.length : Int))) (some 8) (cond ((decide (p0 < 0)) || (decide (1000000000000 < p0))) (some 2) (Option.bind (loopF (S := Int) (T := (Unit) ⊕ (_)) (fun v3 => cond (decide (v3 < (p1.length : Int))) (Option.bind (idx p1 v3) (fun m7 => cond ((decide (m7 < 0)) || (decide (1000000000000 < m7))) (some (.inr (.inr 2))) (some (.inl (IntKind.i64.wrap (v3 + 1)))))) (some (.inr (.inl ())))) FUEL 0) (fun q => match q with | .inl _ => cond (((p1.length : Int) == 0) && (decide (0 < p0))) (some 7) (some 0) | .inr e => some e)))
set_option maxHeartbeats 4000000 in
theorem apportion_check_ok {p0 : Int} {p1 : (List Int)} {r : Int}  (h : apportion_check p0 p1 = some r) : PF 87 [.v (.int .i64 p0), .slc (List.map eI p1)] (.v (.int .i64 r)) := by
 unfold apportion_check at h
 refine pf_of ?_
 refine penter Tryz.func87 fk87 rfl Tryz.ntmps87 Tryz.results87 rfl ?_
 refine yab (yaa ?_)
 refine zas (p := .v (.int .i64 0)) rfl rfl rfl rfl rfl ?_
 refine yad (yae (yab (yab (yaa ?_))))
 refine zmv (p := .slc (List.map eI p1)) rfl rfl rfl rfl rfl ?_
 refine yah rfl rfl rfl (pq_lenT (enc := eI) rfl rfl (.p rfl)) ?_
 refine yah rfl rfl rfl (yak rfl (.p rfl) (.p rfl) rfl) ?_
 refine yad (yae ?_)
 refine yal rfl (fun hc1 => ?_) (fun hc1 => ?_)
 ·replace h := yav hc1 h
  refine yab (yaa ?_)
  refine zas (p := .v (.int .i64 8)) rfl rfl rfl rfl rfl ?_
  refine yad (yae (yaq (yap ?_)))
  obtain rfl := Option.some.inj h
  exact yar (prv_1 (yat rfl)) zsn ⟨rfl, rfl⟩
 ·replace h := yaw hc1 h
  refine yao (yae (yab (yab (yaa ?_))))
  refine zmv (p := .v (.int .i64 p0)) rfl rfl rfl rfl rfl ?_
  refine yah rfl rfl rfl (yak rfl (.p rfl) (.p rfl) rfl) ?_
  refine zmv (p := .v (.bool (decide (p0 < 0)))) rfl rfl rfl rfl rfl ?_
  refine yaj (yai rfl rfl rfl) rfl rfl (yam (p := .v (.int .i64 p0)) rfl (.p rfl)) ?_
  refine yaj (yai rfl rfl rfl) rfl rfl (yak rfl (.g rfl) (.p rfl) rfl) ?_
  refine yah rfl rfl rfl (pq_or rfl (.p rfl) (.p rfl) (.g rfl)) ?_
  refine yad (yae ?_)
  refine yal rfl (fun hc2 => ?_) (fun hc2 => ?_)
  ·replace h := yav hc2 h
   refine yab (yaa ?_)
   refine zas (p := .v (.int .i64 2)) rfl rfl rfl rfl rfl ?_
   refine yad (yae (yaq (yap ?_)))
   obtain rfl := Option.some.inj h
   exact yar (prv_1 (yat rfl)) zsn ⟨rfl, rfl⟩
  ·replace h := yaw hc2 h
   refine yao (yae (yab (yab (yaa ?_))))
   refine zmv (p := .slc (List.map eI p1)) rfl rfl rfl rfl rfl ?_
   refine yah rfl rfl rfl (pq_lenT (enc := eI) rfl rfl (.p rfl)) ?_
   refine zmv (p := .v (.int .i64 0)) rfl rfl rfl rfl rfl ?_
   refine yad (yae ?_)
   refine yaf h ?_; clear h; intro q5 hq5 h
   refine ybe (Y := (Unit) × (Unit)) (fun (_, _) => [(0, .v (.int .i64 p0)), (1, .slc (List.map eI p1))]) (fun (_, _) => []) (fun (_, _) => q5 = Sum.inl ()) ?_ ?_
   ·refine yaz ?_
    refine pwc_loopF (Y := Unit) (S := Int) _ hq5 (fun _ v3 => [(0, .v (.int .i64 p0)), (1, .slc (List.map eI p1)), (16, .slc (List.map eI p1)), (17, .v (.int .i64 (p1.length : Int))), (18, .v (.int .i64 v3))]) (fun _ v3 => []) () (zhc rfl (zhc rfl (zhc rfl (zhc rfl (zhc rfl zhn))))) zsn ?_
    rintro _ v3 o τ hb4; (try dsimp only at hb4); dsimp only [pupds]
    refine yab (yaa ?_)
    refine yah rfl rfl rfl (yak rfl (.p rfl) (.p rfl) rfl) ?_
    refine yad (yae (yab ?_))
    refine yal rfl (fun hc6 => ?_) (fun hc6 => ?_)
    ·replace hb4 := yav hc6 hb4
     refine yao (yae (yab (yaz (yab (yaa ?_)))))
     refine yaf hb4 ?_; clear hb4; intro m7 hm7 hb4
     refine yah rfl rfl rfl (pq_index (enc := eI) rfl rfl rfl (fun _ => rfl) (.p rfl) (.p rfl) (fun _ => hm7)) ?_
     refine yah rfl rfl rfl (pq_load_r (p := .v (.int .i64 m7)) rfl (.p rfl) rfl) ?_
     refine zas (p := .v (.int .i64 m7)) rfl rfl rfl rfl rfl ?_
     refine yad (yae (yab (yaa ?_)))
     refine zmv (p := .v (.int .i64 m7)) rfl rfl rfl rfl rfl ?_
     refine yah rfl rfl rfl (yak rfl (.p rfl) (.p rfl) rfl) ?_
     refine zmv (p := .v (.bool (decide (m7 < 0)))) rfl rfl rfl rfl rfl ?_
     refine yaj (yai rfl rfl rfl) rfl rfl (yam (p := .v (.int .i64 m7)) rfl (.p rfl)) ?_
     refine yaj (yai rfl rfl rfl) rfl rfl (yak rfl (.g rfl) (.p rfl) rfl) ?_
     refine yah rfl rfl rfl (pq_or rfl (.p rfl) (.p rfl) (.g rfl)) ?_
     refine yad (yae ?_)
     refine yal rfl (fun hc8 => ?_) (fun hc8 => ?_)
     ·replace hb4 := yav hc8 hb4
      refine yab (yaa ?_)
      refine zas (p := .v (.int .i64 2)) rfl rfl rfl rfl rfl ?_
      refine yad (yae (yaq (yba (yap ?_))))
      refine pk_loop_ret hb4 (fun ht => ?_); subst ht
      have h := (show some _ = some _ from h)
      refine yba (pk_mid_ret ?_)
      obtain rfl := Option.some.inj h
      exact yar (prv_1 (yat rfl)) zsn ⟨rfl, rfl⟩
     ·replace hb4 := yaw hc8 hb4
      refine yao (ybc (yae (yaa ?_)))
      refine yah rfl rfl rfl (yas rfl (.p rfl) (.p rfl) rfl) ?_
      refine zmv (p := .v (.int .i64 (IntKind.i64.wrap (v3 + 1)))) rfl rfl rfl rfl rfl ?_
      refine yad ?_
      exact pk_loop hb4 () (zhc rfl (zhc rfl (zhc rfl (zhc rfl (zhc rfl zhn))))) zsn
    ·replace hb4 := yaw hc6 hb4
     refine pwc_exit (ybm ?_)
     refine ybh hb4 (fun ht => ?_)
     refine ybj rfl ?_
     exact ybb ((), ()) (zhc rfl (zhc rfl zhn)) zsn ht.symm
   ·rintro ⟨_, _⟩ τ hz; (try dsimp only at hz); subst q5; (try dsimp only at h); dsimp only [pupds]
    refine yab (yab (yaa ?_))
    refine zmv (p := .slc (List.map eI p1)) rfl rfl rfl rfl rfl ?_
    refine yah rfl rfl rfl (pq_lenT (enc := eI) rfl rfl (.p rfl)) ?_
    refine yah rfl rfl rfl (yak rfl (.p rfl) (.p rfl) rfl) ?_
    refine zmv (p := .v (.bool ((p1.length : Int) == 0))) rfl rfl rfl rfl rfl ?_
    refine yaj (yan rfl rfl rfl) rfl rfl (yam (p := .v (.int .i64 p0)) rfl (.p rfl)) ?_
    refine yaj (yan rfl rfl rfl) rfl rfl (yak rfl (.g rfl) (.p rfl) rfl) ?_
    refine yah rfl rfl rfl (pq_and rfl (.p rfl) (.p rfl) (.g rfl)) ?_
    refine yad (yae ?_)
    refine yal rfl (fun hc9 => ?_) (fun hc9 => ?_)
    ·replace h := yav hc9 h
     refine yab (yaa ?_)
     refine zas (p := .v (.int .i64 7)) rfl rfl rfl rfl rfl ?_
     refine yad (yae (yaq (yap ?_)))
     obtain rfl := Option.some.inj h
     exact yar (prv_1 (yat rfl)) zsn ⟨rfl, rfl⟩
    ·replace h := yaw hc9 h
     refine yao (yae (yab (yaa ?_)))
     refine zas (p := .v (.int .i64 0)) rfl rfl rfl rfl rfl ?_
     refine yad (yae (yaq ?_))
     obtain rfl := Option.some.inj h
     exact yar (prv_1 (yat rfl)) zsn ⟨rfl, rfl⟩
def apportion_sumOf (p0 : (List Int)) : Option Int := Option.bind (loopF (S := Int × Int) (T := (Int)) (fun (v1, v2) => cond (decide (v2 < (p0.length : Int))) (Option.bind (idx p0 v2) (fun m7 => some (.inl ((IntKind.i64.wrap (v1 + m7)), (IntKind.i64.wrap (v2 + 1)))))) (some (.inr v1))) FUEL (0, 0)) (fun v3 => some v3)
set_option maxHeartbeats 4000000 in
theorem apportion_sumOf_ok {p0 : (List Int)} {r : Int}  (h : apportion_sumOf p0 = some r) : PF 88 [.slc (List.map eI p0)] (.v (.int .i64 r)) := by
 unfold apportion_sumOf at h
 refine pf_of ?_
 refine penter Tryz.func88 fk88 rfl Tryz.ntmps88 Tryz.results88 rfl ?_
 refine yab (yaa ?_)
 refine zas (p := .v (.int .i64 0)) rfl rfl rfl rfl rfl ?_
 refine yad (yae (yab (yaa ?_)))
 refine zas (p := .v (.int .i64 0)) rfl rfl rfl rfl rfl ?_
 refine yad (yae (yab (yab (yaa ?_))))
 refine zmv (p := .slc (List.map eI p0)) rfl rfl rfl rfl rfl ?_
 refine yah rfl rfl rfl (pq_lenT (enc := eI) rfl rfl (.p rfl)) ?_
 refine zmv (p := .v (.int .i64 0)) rfl rfl rfl rfl rfl ?_
 refine yad (yae ?_)
 refine yaf h ?_; clear h; intro q5 hq5 h
 refine ybe (Y := (Unit) × (Int)) (fun (_, v3) => [(3, .v (.int .i64 v3))]) (fun (_, v3) => []) (fun (_, v3) => q5 = v3) ?_ ?_
 ·refine yaz ?_
  refine pwc_loopF (Y := Unit) (S := Int × Int) _ hq5 (fun _ (v1, v2) => [(3, .v (.int .i64 v1)), (6, .slc (List.map eI p0)), (7, .v (.int .i64 (p0.length : Int))), (8, .v (.int .i64 v2))]) (fun _ (v1, v2) => []) () (zhc rfl (zhc rfl (zhc rfl (zhc rfl zhn)))) zsn ?_
  rintro _ ⟨v1, v2⟩ o τ hb4; (try dsimp only at hb4); dsimp only [pupds]
  refine yab (yaa ?_)
  refine yah rfl rfl rfl (yak rfl (.p rfl) (.p rfl) rfl) ?_
  refine yad (yae (yab ?_))
  refine yal rfl (fun hc6 => ?_) (fun hc6 => ?_)
  ·replace hb4 := yav hc6 hb4
   refine yao (yae (yab (yaz (yab (yaa ?_)))))
   refine yaf hb4 ?_; clear hb4; intro m7 hm7 hb4
   refine yah rfl rfl rfl (pq_index (enc := eI) rfl rfl rfl (fun _ => rfl) (.p rfl) (.p rfl) (fun _ => hm7)) ?_
   refine yah rfl rfl rfl (pq_load_r (p := .v (.int .i64 m7)) rfl (.p rfl) rfl) ?_
   refine zas (p := .v (.int .i64 m7)) rfl rfl rfl rfl rfl ?_
   refine yad (yae (yaa ?_))
   refine zmv (p := .v (.int .i64 v1)) rfl rfl rfl rfl rfl ?_
   refine zmv (p := .v (.int .i64 m7)) rfl rfl rfl rfl rfl ?_
   refine yah rfl rfl rfl (yas rfl (.p rfl) (.p rfl) rfl) ?_
   refine zas (p := .v (.int .i64 (IntKind.i64.wrap (v1 + m7)))) rfl rfl rfl rfl rfl ?_
   refine yad (ybc (yae (yaa ?_)))
   refine yah rfl rfl rfl (yas rfl (.p rfl) (.p rfl) rfl) ?_
   refine zmv (p := .v (.int .i64 (IntKind.i64.wrap (v2 + 1)))) rfl rfl rfl rfl rfl ?_
   refine yad ?_
   exact pk_loop hb4 () (zhc rfl (zhc rfl (zhc rfl (zhc rfl zhn)))) zsn
  ·replace hb4 := yaw hc6 hb4
   refine pwc_exit (ybm ?_)
   refine ybh hb4 (fun ht => ?_)
   refine ybj rfl ?_
   exact ybb ((), v1) (zhc rfl zhn) zsn ht.symm
 ·rintro ⟨_, v3⟩ τ hz; (try dsimp only at hz); subst q5; (try dsimp only at h); dsimp only [pupds]
  refine yab (yaa ?_)
  refine zmv (p := .v (.int .i64 v3)) rfl rfl rfl rfl rfl ?_
  refine zas (p := .v (.int .i64 v3)) rfl rfl rfl rfl rfl ?_
  refine yad (yae (yaq ?_))
  obtain rfl := Option.some.inj h
  exact yar (prv_1 (yat rfl)) zsn ⟨rfl, rfl⟩
end SX
end Go.Proofs.YtfcecieppoljlaaGreatDoor
