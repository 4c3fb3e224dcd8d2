/- Our calculus over pure values, sixth text: regions of drawn order taken step by step; facts on own slices. No statement of the seat is proved here. -/
import Derived.Test.YtfcecieppoljlaaGreatDoorPx5
set_option maxRecDepth 100000
namespace Go.Proofs.YtfcecieppoljlaaGreatDoor
namespace SX
open Go
def PWS (n : Nat) (ops : Array Oper) (K : PPost) (m : Nat) (L : Array Bool) (σ : PEnv) (ρd ρs : List PRes) : Prop :=
  ∀ β κ σ' rd rs, GOK κ → Sim κ σ σ' → RRels κ ρd rd → RRels κ ρs rs → WS β n ops (lft K) m L σ' rd rs κ
def PStep (n : Nat) (ops : Array Oper) (K : PPost) (m : Nat) (L : Array Bool) (σ : PEnv) (ρd ρs : List PRes) (i : Nat) : Prop :=
  ∀ β κ σ' rd rs, GOK κ → Sim κ σ σ' → RRels κ ρd rd → RRels κ ρs rs → Step β n ops (lft K) m L σ' rd rs κ i
section
variable {n m : Nat} {ops : Array Oper} {K : PPost} {L : Array Bool} {σ : PEnv} {ρ ρd ρs : List PRes} {o : Oper} {i d : Nat} {p : PV} {c : Bool}
theorem pws_start {K : Exit → PPost} {id : Nat} {l : List Oper} (ρs : List PRes) (hp : ρ.Perm (ρd ++ ρs)) (h : PWS n l.toArray (K .normal) l.length (Array.replicate l.length false) σ ρd ρs) : PWC n (.region id l.toArray true) K σ ρ := fun β κ σ' ρ' g hs hr => by
  obtain ⟨rs', h1, h2⟩ := hr.perm hp
  obtain ⟨r1, r2, rfl, h3, h4⟩ := h2.split
  exact ws_start h1 fun κ1 hk => h β κ1 σ' r1 r2 (g.mono hk) (hs.mono hk) (h3.mono hk) (h4.mono hk)
theorem pws_done (hr : (Region.ready .any ops L).isEmpty = true) (h : K σ (ρd ++ ρs)) : PWS n ops K m L σ ρd ρs := fun β κ σ' rd rs g hs h1 h2 => ws_done hr ⟨σ, ρd ++ ρs, hs, h1.app h2, h⟩
theorem pws_q (i : Nat) (hok : okQ ops L i = true) (ho : ops[i]? = some o) (hg : o.guard = none) (hd : o.dst = some d) (hlt : Nat.blt d n = true) (h : POpQ true o σ ρs p) (hw : PWS n ops K m (L.setIfInBounds i true) (pupd σ d p) ρd ρs) : PWS n ops K (m + 1) L σ ρd ρs := fun β κ σ' rd rs g hs h1 h2 => by
  obtain ⟨v, k1, k2⟩ := h κ σ' rs g hs h2
  exact ws_q i hok ho hg hd hlt k2 (hw β κ _ rd rs g (hs.upd (k1 rfl)) h1 h2)
theorem pws_qg (i : Nat) (hok : okQ ops L i = true) (ho : ops[i]? = some o) (hg : PGuardIs ops σ o c) (hd : o.dst = some d) (hlt : Nat.blt d n = true) (h : POpQ c o σ ρs p) (hw : PWS n ops K m (L.setIfInBounds i true) (pupd σ d (pgv c p)) ρd ρs) : PWS n ops K (m + 1) L σ ρd ρs := fun β κ σ' rd rs g hs h1 h2 => by
  obtain ⟨v, k1, k2⟩ := h κ σ' rs g hs h2
  exact ws_qg i hok ho (hg κ σ' hs) hd hlt k2 (hw β κ _ rd rs g (hs.upd (rp_gv k1)) h1 h2)
theorem pws_one (i : Nat) (hr : (Region.ready .any ops L == [i]) = true) (h : PStep n ops K m L σ ρd ρs i) : PWS n ops K (m + 1) L σ ρd ρs := fun β κ σ' rd rs g hs h1 h2 => ws_one i hr (h β κ σ' rd rs g hs h1 h2)
theorem pws_two (i j : Nat) (hr : (Region.ready .any ops L == [i, j]) = true) (h : PStep n ops K m L σ ρd ρs i) (h' : PStep n ops K m L σ ρd ρs j) : PWS n ops K (m + 1) L σ ρd ρs := fun β κ σ' rd rs g hs h1 h2 => ws_two i j hr (h β κ σ' rd rs g hs h1 h2) (h' β κ σ' rd rs g hs h1 h2)
theorem pws_three (i j k : Nat) (hr : (Region.ready .any ops L == [i, j, k]) = true) (h : PStep n ops K m L σ ρd ρs i) (h' : PStep n ops K m L σ ρd ρs j) (h'' : PStep n ops K m L σ ρd ρs k) : PWS n ops K (m + 1) L σ ρd ρs := fun β κ σ' rd rs g hs h1 h2 => ws_three i j k hr (h β κ σ' rd rs g hs h1 h2) (h' β κ σ' rd rs g hs h1 h2) (h'' β κ σ' rd rs g hs h1 h2)
theorem pstep_l (ho : ops[i]? = some o) (hg : o.guard = none) (hd : o.dst = some d) (hlt : Nat.blt d n = true) (h : POpL o σ ρd fun p ρ' => PWS n ops K m (L.setIfInBounds i true) (pupd σ d p) ρ' ρs) : PStep n ops K m L σ ρd ρs i := fun β κ σ' rd rs g hs h1 h2 =>
  step_l ho hg hd hlt (((h κ σ' rd g hs h1).framed (ρf := rs)).mono fun v ρ' κ' hk ⟨ρ1, e, pv, ρp, k1, k2, k3⟩ => ⟨ρ1, e, k3 β κ' _ ρ1 rs (g.mono hk) ((hs.mono hk).upd k1) k2 (h2.mono hk)⟩)
theorem pstep_l0 (ho : ops[i]? = some o) (hg : o.guard = none) (hd : o.dst = none) (h : POpL o σ ρd fun _ ρ' => PWS n ops K m (L.setIfInBounds i true) σ ρ' ρs) : PStep n ops K m L σ ρd ρs i := fun β κ σ' rd rs g hs h1 h2 =>
  step_l0 ho hg hd (((h κ σ' rd g hs h1).framed (ρf := rs)).mono fun v ρ' κ' hk ⟨ρ1, e, pv, ρp, k1, k2, k3⟩ => ⟨ρ1, e, k3 β κ' _ ρ1 rs (g.mono hk) (hs.mono hk) k2 (h2.mono hk)⟩)
theorem pstep_call {f : Nat} {l : List Operand} {ts : Array Nat} {pargs : List PV} {v : PV} (ho : ops[i]? = some o) (hg : o.guard = none) (hd : o.dst = some d) (hlt : Nat.blt d n = true) (hop : o.op = .call { callee := .value (.func f), args := l.toArray, argTypes := ts }) (ha : l.map (pevc σ) = pargs) (hc : PF f pargs v) (h : PWS n ops K m (L.setIfInBounds i true) (pupd σ d v) ρd ρs) : PStep n ops K m L σ ρd ρs i :=
  pstep_l ho hg hd hlt (pl_call hop ha hc h)
end
section
variable {n : Nat} {x : Code} {K : Exit → PPost} {σ : PEnv} {ρ : List PRes} {a : Option Addr} {m c T sz : Nat} {α : Type} {enc : α → List PV} {xs : List α}
/-- What an own slice is, ahead of a piece of code. -/
theorem pwc_rowfact (hm : PRes.row a m c T sz (xs.map enc) ∈ ρ) (h : xs.length = m → (0 < m → a = some ⟨ablk a, 0, none⟩) → PWC n x K σ ρ) : PWC n x K σ ρ := fun β κ σ' ρ' g hs hr hi => by
  obtain ⟨r, hr1, hr2⟩ := hr.mem hm
  cases hr2 with
  | row hb ho hc =>
    have h1 := hi.own _ hr1
    have e1 := (row_owns h1).2.1; have e2 := hc.len; rw [List.length_map] at e2
    exact h (by omega) (fun h0 => row_addr h1 h0) β κ σ' ρ' g hs hr hi
theorem pq_indexF {cc : Bool} {o : Oper} {y z0 : Operand} {t by' : Nat} {k : IntKind} {i : Int} {z : Value} {e : α} (hl : xs.length = m) (ha : 0 < m → a = some ⟨ablk a, 0, none⟩) (ho : o.op = .indexAddr t y z0) (hu : und t = some (.slice T)) (hi : inf T = some (z, sz, by')) (hx : PEv σ cc y (.v (.slice a m c))) (hy : PEv σ cc z0 (.v (.int k i))) (hm : cc = true → idx xs i = some e) : POpQ cc o σ ρ (.v (.pointer (some ⟨ablk a, i.toNat * sz, none⟩))) := fun κ σ' ρ' g hs hrr => by
  refine ⟨_, fun _ => .v rfl, fun hc w hst => ?_⟩
  obtain ⟨h0, hmm⟩ := idx_some (hm hc)
  have hlt := (List.getElem?_eq_some_iff.1 hmm).1
  have h := oq_index (c := true) (ρ := ρ') (κ := κ) (j := i.toNat) ho hu hi (fun _ => by rw [hs.ve hx hc, ha (by omega)]) (fun _ => hs.ve hy hc) (fun _ => by omega) (fun _ => by omega) rfl w hst
  rwa [Nat.zero_add] at h
end
end SX
end Go.Proofs.YtfcecieppoljlaaGreatDoor
