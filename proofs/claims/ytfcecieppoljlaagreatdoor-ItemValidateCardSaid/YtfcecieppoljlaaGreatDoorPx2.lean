/- Our calculus over pure values, second text: entry and return of a function, operations that yield a value, what becomes shared. No statement of the seat is proved here. -/
import Derived.Test.YtfcecieppoljlaaGreatDoorPx1
set_option maxRecDepth 100000
namespace Go.Proofs.YtfcecieppoljlaaGreatDoor
namespace SX
open Go

/-! ### Entry and return -/
def PRV1 (rv : ResultVar) (σ : PEnv) (ρ : List PRes) (p : PV) : Prop := match rv with
  | .tmp t => σ t = p
  | .cell t T => ∃ b off Tb cs, σ t = .v (.pointer (some ⟨b, off, none⟩)) ∧ PRes.b b Tb cs ∈ ρ ∧ preadAs T (cs.drop off) = some p
def PRV (rs : List ResultVar) (σ : PEnv) (ρ : List PRes) (p : PV) : Prop := match rs with
  | [] => p = .tup []
  | [r] => PRV1 r σ ρ p
  | [r, s] => ∃ v1 v2, PRV1 r σ ρ v1 ∧ PRV1 s σ ρ v2 ∧ p = .tup [v1, v2]
  | [r, s, t] => ∃ v1 v2 v3, PRV1 r σ ρ v1 ∧ PRV1 s σ ρ v2 ∧ PRV1 t σ ρ v3 ∧ p = .tup [v1, v2, v3]
  | _ => False
theorem prv1_t {t : Nat} {σ : PEnv} {ρ : List PRes} {p : PV} (h : σ t = p) : PRV1 (.tmp t) σ ρ p := h
theorem prv1_c {t T b off Tb : Nat} {σ : PEnv} {ρ : List PRes} {cs : List PV} {p : PV} (h1 : σ t = .v (.pointer (some ⟨b, off, none⟩))) (h2 : PRes.b b Tb cs ∈ ρ) (h3 : preadAs T (cs.drop off) = some p) : PRV1 (.cell t T) σ ρ p := ⟨b, off, Tb, cs, h1, h2, h3⟩
theorem prv_1 {r : ResultVar} {σ : PEnv} {ρ : List PRes} {p : PV} (h : PRV1 r σ ρ p) : PRV [r] σ ρ p := h
theorem prv_2 {r s : ResultVar} {σ : PEnv} {ρ : List PRes} {p q : PV} (h : PRV1 r σ ρ p) (h2 : PRV1 s σ ρ q) : PRV [r, s] σ ρ (.tup [p, q]) := ⟨p, q, h, h2, rfl⟩
theorem prv_3 {r s t : ResultVar} {σ : PEnv} {ρ : List PRes} {p q w : PV} (h : PRV1 r σ ρ p) (h2 : PRV1 s σ ρ q) (h3 : PRV1 t σ ρ w) : PRV [r, s, t] σ ρ (.tup [p, q, w]) := ⟨p, q, w, h, h2, h3, rfl⟩
section
variable {κ : Kr} {σ : PEnv} {σ' : Env} {ρ : List PRes} {ρ' : List Res}
theorem prv1 {rv : ResultVar} {p : PV} (hs : Sim κ σ σ') (hr : RRels κ ρ ρ') (h : PRV1 rv σ ρ p) : ∃ v, RV1 rv σ' ρ' v ∧ Rp κ p v := by
  cases rv with
  | tmp t => exact ⟨σ' t, rfl, by have := hs t; rwa [show σ t = p from h] at this⟩
  | cell t T =>
    obtain ⟨b, off, Tb, cs, h1, h2, h3⟩ := h
    obtain ⟨r, hm, hrel⟩ := hr.mem h2
    cases hrel with
    | b ho hcs =>
      obtain ⟨v, h4, h5⟩ := pread (hcs.drop off) (fun u hu => ho u (List.mem_of_mem_drop hu)) h3
      exact ⟨v, RV1.cell (by have := hs t; rw [h1] at this; exact this.val) hm h4, h5⟩
theorem prv {rs : List ResultVar} {p : PV} (hs : Sim κ σ σ') (hr : RRels κ ρ ρ') (h : PRV rs σ ρ p) : ∃ v, RV rs σ' ρ' v ∧ Rp κ p v := by
  match rs, h with
  | [], h => simp only [PRV] at h; subst h; exact ⟨_, rfl, .tup (ws := []) .nil⟩
  | [r], h => exact prv1 hs hr h
  | [r, s], ⟨v1, v2, h1, h2, h3⟩ =>
    obtain ⟨w1, a1, b1⟩ := prv1 hs hr h1
    obtain ⟨w2, a2, b2⟩ := prv1 hs hr h2
    subst h3; exact ⟨_, ⟨w1, w2, a1, a2, rfl⟩, .tup (ws := [w1, w2]) (.cons b1 (.cons b2 .nil))⟩
  | [r, s, t], ⟨v1, v2, v3, h1, h2, h3, h4⟩ =>
    obtain ⟨w1, a1, b1⟩ := prv1 hs hr h1
    obtain ⟨w2, a2, b2⟩ := prv1 hs hr h2
    obtain ⟨w3, a3, b3⟩ := prv1 hs hr h3
    subst h4; exact ⟨_, ⟨w1, w2, w3, a1, a2, a3, rfl⟩, .tup (ws := [w1, w2, w3]) (.cons b1 (.cons b2 (.cons b3 .nil)))⟩
end
def pretK (rs : List ResultVar) (R : PV → List PRes → Prop) : Exit → PPost := fun e σ ρ => match e with
  | .ret | .normal => ∃ p ρ', PRV rs σ ρ p ∧ PSub ρ' ρ ∧ R p ρ'
  | _ => False
theorem pret_of {rs : List ResultVar} {R : PV → List PRes → Prop} {σ : PEnv} {ρ ρ' : List PRes} {p : PV} (hv : PRV rs σ ρ p) (hs : PSub ρ' ρ) (h : R p ρ') : pretK rs R .ret σ ρ := ⟨p, ρ', hv, hs, h⟩
theorem pret_ofN {rs : List ResultVar} {R : PV → List PRes → Prop} {σ : PEnv} {ρ ρ' : List PRes} {p : PV} (hv : PRV rs σ ρ p) (hs : PSub ρ' ρ) (h : R p ρ') : pretK rs R .normal σ ρ := ⟨p, ρ', hv, hs, h⟩
theorem penter {f n : Nat} {fn : Func} {c : Code} {pargs : List PV} {rs : List ResultVar} {ρp : List PRes} {R : PV → List PRes → Prop} (hf : Tryz.prog.funcs[f]? = some fn) (hok : FnOk f) (hb : fn.body = some c) (hn : fn.ntmps = n) (hres : fn.results = rs.toArray) (hsz : Nat.ble pargs.length n = true)
    (h : PWC n c (pretK rs R) (penv0 pargs) ρp) : PCall f pargs ρp R := fun κ args ρ g ha hr =>
  call_of hf hok hb hn hres (by rw [← ha.len]; exact hsz) (wc_mono (h _ κ _ ρ g (sim0 ha) hr) fun e σ1 ρ1 κ1 hk ⟨σp, ρ2, h1, h2, h3⟩ => by
    have key : (∃ p ρ', PRV rs σp ρ2 p ∧ PSub ρ' ρ2 ∧ R p ρ') → ∀ β, Inv β ρ1 κ1 → ∃ v ρ' κ', RV rs σ1 ρ1 v ∧ Shift ρ1 κ1 ρ' κ' ∧ ∃ pv ρp', Rp κ' pv v ∧ RRels κ' ρp' ρ' ∧ R pv ρp' := fun ⟨p, ρ', k1, k2, k3⟩ _ _ => by
      obtain ⟨v, j1, j2⟩ := prv h1 h2 k1
      obtain ⟨r', j3, j4⟩ := h2.sub k2
      exact ⟨v, r', κ1, j1, .sub j3, p, ρ', j2, j4, k3⟩
    cases e with
    | ret => exact key h3
    | normal => exact key h3
    | _ => exact h3.elim)

/-! ### What becomes shared -/
theorem Inv.nores {β : Base} {ρ : List Res} {κ : Kr} (h : Inv β ρ κ) : Inv β (noRes :: ρ) κ :=
  ⟨h.le, h.fin, fun r hr => by rcases List.mem_cons.1 hr with rfl | hr; exact trivial; exact h.own r hr, fun r hr => by rcases List.mem_cons.1 hr with rfl | hr; (intro b hb; cases hb); exact h.blk r hr, List.Pairwise.cons (fun _ _ b hb => by cases hb) h.nd⟩
theorem wc_nores {β : Base} {n : Nat} {x : Code} {K : Exit → Post} {σ : Env} {ρ : List Res} {κ : Kr} (h : WC β n x K σ (noRes :: ρ) κ) : WC β n x K σ ρ κ := fun hi => h hi.nores
theorem wl_nores {β : Base} {n : Nat} {ops : Array Oper} {lo : List Oper} {K : Post} {σ : Env} {ρ : List Res} {κ : Kr} (h : WL β n ops lo K σ (noRes :: ρ) κ) : WL β n ops lo K σ ρ κ := fun hi => h hi.nores
theorem wl_nilrow {β : Base} {n : Nat} {ops : Array Oper} {lo : List Oper} {K : Post} {σ : Env} {ρ : List Res} {κ : Kr} (T sz : Nat) (h : WL β n ops lo K σ (Res.row none 0 0 T sz [] :: ρ) κ) : WL β n ops lo K σ ρ κ := fun hi => h (hi.nilrow T sz)
section
variable {n : Nat} {x : Code} {K : Exit → PPost} {KL : PPost} {σ : PEnv} {ρ l : List PRes} {ops : Array Oper} {lo : List Oper} {a : Option Addr} {m c T sz t b k : Nat} {css : List (List PV)} {cs : List PV}
theorem pwc_frz (hp : PPick ρ (.row a m c T sz css) l) (h : PWC n x K σ (.frz a m c css :: l)) : PWC n x K σ ρ := fun β κ σ' ρ' g hs hr => by
  obtain ⟨r, l', h1, h2, h3⟩ := hr.pick hp
  cases h2 with
  | row hb ho hc => exact wc_pubrow h1 fun κ' hk hsl => wc_nores (h β κ' σ' _ (g.mono hk) (hs.mono hk) (.cons (.frz hsl hb ho (hc.mono hk)) (h3.mono hk)))
theorem pwl_frz (hp : PPick ρ (.row a m c T sz css) l) (h : PWL n ops lo KL σ (.frz a m c css :: l)) : PWL n ops lo KL σ ρ := fun β κ σ' ρ' g hs hr => by
  obtain ⟨r, l', h1, h2, h3⟩ := hr.pick hp
  cases h2 with
  | row hb ho hc => exact wl_pubrow h1 fun κ' hk hsl => wl_nores (h β κ' σ' _ (g.mono hk) (hs.mono hk) (.cons (.frz hsl hb ho (hc.mono hk)) (h3.mono hk)))
theorem sim_view {κ : Kr} {σ' : Env} {p : PV} (hs : Sim κ σ σ') (h : Rp κ p (σ' t)) : Sim κ (pupd σ t p) σ' := fun u => by
  unfold pupd; cases e : Nat.beq u t
  · exact hs u
  · rw [Nat.eq_of_beq_eq_true e]; exact h
theorem frz_rp {κ : Kr} {r : Res} {w : Value} (h : RRel κ (.frz a m c css) r) (hw : w = .slice a m c) : Rp κ (.slc css) w := by
  subst hw; cases h with
  | frz hs hb h1 hc => exact .slc hs hb h1 hc
theorem frb_rp {κ : Kr} {r : Res} {w : Value} (h : RRel κ (.frb b cs) r) (hw : w = .pointer (some ⟨b, k, none⟩)) : Rp κ (.ref cs k) w := by
  subst hw; cases h with
  | frb hs h1 hc => have := Rp.ref (k := k) hs h1 hc; rwa [Nat.zero_add] at this
/-- A slot that holds a shared slice. -/
theorem pwc_view (t : Nat) (ht : σ t = .v (.slice a m c)) (hm : PRes.frz a m c css ∈ ρ) (h : PWC n x K (pupd σ t (.slc css)) ρ) : PWC n x K σ ρ := fun β κ σ' ρ' g hs hr => by
  obtain ⟨r, _, h2⟩ := hr.mem hm
  exact h β κ σ' ρ' g (sim_view hs (frz_rp h2 (by have := hs t; rw [ht] at this; exact this.val))) hr
theorem pwl_view (t : Nat) (ht : σ t = .v (.slice a m c)) (hm : PRes.frz a m c css ∈ ρ) (h : PWL n ops lo KL (pupd σ t (.slc css)) ρ) : PWL n ops lo KL σ ρ := fun β κ σ' ρ' g hs hr => by
  obtain ⟨r, _, h2⟩ := hr.mem hm
  exact h β κ σ' ρ' g (sim_view hs (frz_rp h2 (by have := hs t; rw [ht] at this; exact this.val))) hr
theorem pwc_frzt (t : Nat) (ht : σ t = .v (.slice a m c)) (hp : PPick ρ (.row a m c T sz css) l) (h : PWC n x K (pupd σ t (.slc css)) (.frz a m c css :: l)) : PWC n x K σ ρ := pwc_frz hp (pwc_view t ht (List.Mem.head _) h)
theorem pwl_frzt (t : Nat) (ht : σ t = .v (.slice a m c)) (hp : PPick ρ (.row a m c T sz css) l) (h : PWL n ops lo KL (pupd σ t (.slc css)) (.frz a m c css :: l)) : PWL n ops lo KL σ ρ := pwl_frz hp (pwl_view t ht (List.Mem.head _) h)
/-- nil is the empty list. -/
theorem rp_nil {κ : Kr} : Rp κ (.slc []) (.slice none 0 0) := .slc (sz := 0) Sl.nil (by omega) (fun _ h => by cases h) .nil
theorem pwc_nil (t : Nat) (ht : σ t = .v (.slice none 0 0)) (h : PWC n x K (pupd σ t (.slc [])) ρ) : PWC n x K σ ρ := fun β κ σ' ρ' g hs hr => h β κ σ' ρ' g (sim_view hs (by have := hs t; rw [ht] at this; rw [this.val]; exact rp_nil)) hr
theorem pwl_nilv (t : Nat) (ht : σ t = .v (.slice none 0 0)) (h : PWL n ops lo KL (pupd σ t (.slc [])) ρ) : PWL n ops lo KL σ ρ := fun β κ σ' ρ' g hs hr => h β κ σ' ρ' g (sim_view hs (by have := hs t; rw [ht] at this; rw [this.val]; exact rp_nil)) hr
theorem pwc_nilrow (T sz : Nat) (h : PWC n x K σ (.row none 0 0 T sz [] :: ρ)) : PWC n x K σ ρ := fun β κ σ' ρ' g hs hr => wc_nilrow T sz (h β κ σ' _ g hs (.cons (.row (by omega) (fun _ h => by cases h) .nil) hr))
theorem pwl_nilrow (T sz : Nat) (h : PWL n ops lo KL σ (.row none 0 0 T sz [] :: ρ)) : PWL n ops lo KL σ ρ := fun β κ σ' ρ' g hs hr => wl_nilrow T sz (h β κ σ' _ g hs (.cons (.row (by omega) (fun _ h => by cases h) .nil) hr))
/-- A cell of an own block that holds a shared slice. -/
theorem pwl_viewb {ρ' : List PRes} (hk : cs[k]? = some (.v (.slice a m c))) (hm : PRes.frz a m c css ∈ ρ) (hu : PUpd ρ (.b b T cs) (.b b T (cs.set k (.slc css))) ρ') (h : PWL n ops lo KL σ ρ') : PWL n ops lo KL σ ρ := fun β κ σ' r g hs hr => by
  obtain ⟨rf, _, h2⟩ := hr.mem hm
  obtain ⟨r0, l1, l2, rfl, h3, h4⟩ := hr.upd hu
  cases h3 with
  | b ho hc =>
    obtain ⟨v, hv, hp⟩ := hc.get hk
    have e := hp.val
    have hset := hc.set (k := k) (frz_rp h2 e)
    have : ∀ (l : List Value) (k : Nat) (v : Value), l[k]? = some v → l.set k v = l := fun l k v h => by
      apply List.ext_getElem?; intro i; rw [List.getElem?_set]; split
      · rename_i hik; subst hik; rw [h]; have := (List.getElem?_eq_some_iff.1 h).1; simp [this]
      · rfl
    rw [this _ _ _ hv] at hset
    exact h β κ σ' _ g hs (h4 κ _ (.refl _) (.b ho hset))
theorem pwc_viewb {ρ' : List PRes} (hk : cs[k]? = some (.v (.slice a m c))) (hm : PRes.frz a m c css ∈ ρ) (hu : PUpd ρ (.b b T cs) (.b b T (cs.set k (.slc css))) ρ') (h : PWC n x K σ ρ') : PWC n x K σ ρ := fun β κ σ' r g hs hr => by
  obtain ⟨rf, _, h2⟩ := hr.mem hm
  obtain ⟨r0, l1, l2, rfl, h3, h4⟩ := hr.upd hu
  cases h3 with
  | b ho hc =>
    obtain ⟨v, hv, hp⟩ := hc.get hk
    have e := hp.val
    have hset := hc.set (k := k) (frz_rp h2 e)
    have : ∀ (l : List Value) (k : Nat) (v : Value), l[k]? = some v → l.set k v = l := fun l k v h => by
      apply List.ext_getElem?; intro i; rw [List.getElem?_set]; split
      · rename_i hik; subst hik; rw [h]; have := (List.getElem?_eq_some_iff.1 h).1; simp [this]
      · rfl
    rw [this _ _ _ hv] at hset
    exact h β κ σ' _ g hs (h4 κ _ (.refl _) (.b ho hset))
theorem pwl_nilb {ρ' : List PRes} (hk : cs[k]? = some (.v (.slice none 0 0))) (hu : PUpd ρ (.b b T cs) (.b b T (cs.set k (.slc []))) ρ') (h : PWL n ops lo KL σ ρ') : PWL n ops lo KL σ ρ := fun β κ σ' r g hs hr => by
  obtain ⟨r0, l1, l2, rfl, h3, h4⟩ := hr.upd hu
  cases h3 with
  | b ho hc =>
    obtain ⟨v, hv, hp⟩ := hc.get hk
    have e := hp.val
    have hset := hc.set (k := k) (p := .slc []) (v := v) (by rw [e]; exact rp_nil)
    have : ∀ (l : List Value) (k : Nat) (v : Value), l[k]? = some v → l.set k v = l := fun l k v h => by
      apply List.ext_getElem?; intro i; rw [List.getElem?_set]; split
      · rename_i hik; subst hik; rw [h]; have := (List.getElem?_eq_some_iff.1 h).1; simp [this]
      · rfl
    rw [this _ _ _ hv] at hset
    exact h β κ σ' _ g hs (h4 κ _ (.refl _) (.b ho hset))
/-- An own block that becomes shared, its pointer in slot t. -/
theorem pwl_frb (t : Nat) (ht : σ t = .v (.pointer (some ⟨b, k, none⟩))) (hp : PPick ρ (.b b T cs) l) (h : PWL n ops lo KL (pupd σ t (.ref cs k)) (.frb b cs :: l)) : PWL n ops lo KL σ ρ := fun β κ σ' ρ' g hs hr => by
  obtain ⟨r, l', h1, h2, h3⟩ := hr.pick hp
  cases h2 with
  | b ho hc => exact wl_pub h1 rfl fun κ' hk hS hsay => wl_nores (by
      have hfr : RRel κ' (.frb b cs) noRes := .frb (sh_pub hS hsay) ho (hc.mono hk)
      exact h β κ' σ' _ (g.mono hk) (sim_view (hs.mono hk) (frb_rp hfr (by have := hs t; rw [ht] at this; exact this.val))) (.cons hfr (h3.mono hk)))
/-- What an own slice is. -/
theorem pwl_rowsome (hm : PRes.row a m c T sz css ∈ ρ) (h0 : 0 < m) (h : ∀ b, a = some ⟨b, 0, none⟩ → PWL n ops lo KL σ ρ) : PWL n ops lo KL σ ρ := fun β κ σ' ρ' g hs hr hi => by
  obtain ⟨r, hr1, hr2⟩ := hr.mem hm
  cases hr2 with
  | row hb ho hc =>
    obtain ⟨b, hb⟩ := (row_some hr1 β hi).2 h0
    exact h b hb β κ σ' ρ' g hs hr hi
theorem pwl_len {xs : List (List PV)} (t : Nat) (ht : σ t = .slc xs) (h : xs.length ≤ 140737488355328 → PWL n ops lo KL σ ρ) : PWL n ops lo KL σ ρ := fun β κ σ' ρ' g hs hr => by
  have := hs t; rw [ht] at this
  refine h ?_ β κ σ' ρ' g hs hr
  generalize σ' t = w at this
  cases this with
  | slc hsl hb _ hss => rw [hss.len, hsl.len]; exact hb
end

/-! ### Operations that yield a value -/
theorem noq {p : PV} {o : Oper} {κ : Kr} {σ' : Env} {ρ' : List Res} : ∃ v, (false = true → Rp κ p v) ∧ OpQ false o σ' ρ' κ v := ⟨undef, fun h => (by cases h), fun h => (by cases h)⟩
section
variable {o : Oper} {σ : PEnv} {ρ : List PRes} {c : Bool} {x y y2 : Operand}
theorem pq_move {p : PV} (ho : o.op = .move x) (hx : PEv σ c x p) : POpQ c o σ ρ p := fun κ σ' ρ' g hs hr => ⟨_, hs.pe hx, oq_move ho (.p rfl)⟩
theorem pq_assign {p : PV} (ho : o.op = .assign x) (hx : PEv σ c x p) : POpQ c o σ ρ p := fun κ σ' ρ' g hs hr => ⟨_, hs.pe hx, oq_assign ho (.p rfl)⟩
theorem pq_or {cc a b : Operand} {p q : Bool} (ho : o.op = .pick cc a b) (h1 : PEv σ c cc (.v (.bool p))) (h2 : PEv σ c a (.v (.bool true))) (h3 : PEv σ (c && !p) b (.v (.bool q))) : POpQ c o σ ρ (.v (.bool (p || q))) := fun κ σ' ρ' g hs hr => ⟨_, fun _ => .v rfl, oq_or ho (hs.ve h1) (hs.ve h2) (hs.ve h3)⟩
theorem pq_and {cc a b : Operand} {p q : Bool} (ho : o.op = .pick cc a b) (h1 : PEv σ c cc (.v (.bool p))) (h2 : PEv σ c b (.v (.bool false))) (h3 : PEv σ (c && p) a (.v (.bool q))) : POpQ c o σ ρ (.v (.bool (p && q))) := fun κ σ' ρ' g hs hr => ⟨_, fun _ => .v rfl, oq_and ho (hs.ve h1) (hs.ve h2) (hs.ve h3)⟩
variable {t t' : Nat} {k : IntKind} {a b : Int}
theorem pq_cmp {op : BinOp} {r : Bool} (ho : o.op = .binOp op t x y t') (hx : PEv σ c x (.v (.int k a))) (hy : PEv σ c y (.v (.int k b)))
    (hr : (match op with | .eql => some (a == b) | .neq => some (a != b) | .lss => some (decide (a < b)) | .leq => some (decide (a ≤ b)) | .gtr => some (decide (b < a)) | .geq => some (decide (b ≤ a)) | _ => none) = some r) : POpQ c o σ ρ (.v (.bool r)) := fun κ σ' ρ' g hs _ => ⟨_, fun _ => .v rfl, oq_cmp ho (hs.ve hx) (hs.ve hy) hr⟩
theorem pq_arith {op : BinOp} {r : Int} (ho : o.op = .binOp op t x y t') (hx : PEv σ c x (.v (.int k a))) (hy : PEv σ c y (.v (.int k b)))
    (hr : (match op with | .add => some (a + b) | .sub => some (a - b) | .mul => some (a * b) | _ => none) = some r) : POpQ c o σ ρ (.v (.int k (k.wrap r))) := fun κ σ' ρ' g hs _ => ⟨_, fun _ => .v rfl, oq_arith ho (hs.ve hx) (hs.ve hy) hr⟩
theorem pq_quo (ho : o.op = .binOp .quo t x y t') (hx : PEv σ c x (.v (.int k a))) (hy : PEv σ c y (.v (.int k b))) (hb : c = true → b ≠ 0) : POpQ c o σ ρ (.v (.int k (k.wrap (a.tdiv b)))) := fun κ σ' ρ' g hs _ => ⟨_, fun _ => .v rfl, oq_quo ho (hs.ve hx) (hs.ve hy) hb rfl⟩
theorem pq_rem (ho : o.op = .binOp .rem t x y t') (hx : PEv σ c x (.v (.int k a))) (hy : PEv σ c y (.v (.int k b))) (hb : c = true → b ≠ 0) : POpQ c o σ ρ (.v (.int k (a.tmod b))) := fun κ σ' ρ' g hs _ => ⟨_, fun _ => .v rfl, oq_rem ho (hs.ve hx) (hs.ve hy) hb rfl⟩
def iand (k : IntKind) (a b : Int) : Int := k.wrap ((BitVec.ofInt k.bits a &&& BitVec.ofInt k.bits b).toNat : Int)
def ior (k : IntKind) (a b : Int) : Int := k.wrap ((BitVec.ofInt k.bits a ||| BitVec.ofInt k.bits b).toNat : Int)
def ixor (k : IntKind) (a b : Int) : Int := k.wrap ((BitVec.ofInt k.bits a ^^^ BitVec.ofInt k.bits b).toNat : Int)
theorem pq_bits {op : BinOp} {r : Int} (ho : o.op = .binOp op t x y t') (hx : PEv σ c x (.v (.int k a))) (hy : PEv σ c y (.v (.int k b)))
    (hr : (match op with | .and => some (iand k a b) | .or => some (ior k a b) | .xor => some (ixor k a b) | _ => none) = some r) : POpQ c o σ ρ (.v (.int k r)) := fun κ σ' ρ' g hs _ => ⟨_, fun _ => .v rfl, oq_bits ho (hs.ve hx) (hs.ve hy) (by cases op <;> exact hr)⟩
def ishl (k : IntKind) (a b : Int) : Int := k.wrap (a * 2 ^ min b.toNat k.bits)
def ishr (k : IntKind) (a b : Int) : Int := a.fdiv (2 ^ min b.toNat k.bits)
theorem pq_shift {op : BinOp} {k' : IntKind} {r : Int} (ho : o.op = .binOp op t x y t') (hx : PEv σ c x (.v (.int k a))) (hy : PEv σ c y (.v (.int k' b))) (h0 : c = true → 0 ≤ b)
    (hr : (match op with | .shl => some (ishl k a b) | .shr => some (ishr k a b) | _ => none) = some r) : POpQ c o σ ρ (.v (.int k r)) := fun κ σ' ρ' g hs _ => ⟨_, fun _ => .v rfl, oq_shift ho (hs.ve hx) (hs.ve hy) h0 (by cases op <;> exact hr)⟩
theorem pq_neg {ty : Nat} (ho : o.op = .unOp .neg ty x) (hx : PEv σ c x (.v (.int k a))) : POpQ c o σ ρ (.v (.int k (k.wrap (0 - a)))) := fun κ σ' ρ' g hs _ => ⟨_, fun _ => .v rfl, oq_neg ho (hs.ve hx) rfl⟩
theorem pq_conv {k' : IntKind} {s d : Nat} {ds : TypeDesc} (ho : o.op = .convert s d x) (h1 : und s = some ds) (h2 : und d = some (.int k')) (hx : PEv σ c x (.v (.int k a))) : POpQ c o σ ρ (.v (.int k' (k'.wrap a))) := fun κ σ' ρ' g hs _ => ⟨_, fun _ => .v rfl, oq_conv ho h1 h2 (hs.ve hx) rfl⟩
theorem pq_not {p : Bool} {ty : Nat} (ho : o.op = .unOp .not ty x) (hx : PEv σ c x (.v (.bool p))) : POpQ c o σ ρ (.v (.bool !p)) := fun κ σ' ρ' g hs _ => ⟨_, fun _ => .v rfl, oq_not ho (hs.ve hx)⟩
theorem pq_eqB {op : BinOp} {p q r : Bool} (ho : o.op = .binOp op t x y t') (hu : und t = some .bool) (hx : PEv σ c x (.v (.bool p))) (hy : PEv σ c y (.v (.bool q)))
    (hr : (match op with | .eql => some (p == q) | .neq => some (p != q) | _ => none) = some r) : POpQ c o σ ρ (.v (.bool r)) := fun κ σ' ρ' g hs _ => ⟨_, fun _ => .v rfl, oq_eqB ho hu (hs.ve hx) (hs.ve hy) hr⟩
theorem pq_str {op : BinOp} {s u : ByteArray} {r : Bool} (ho : o.op = .binOp op t x y t') (hx : PEv σ c x (.v (.string s))) (hy : PEv σ c y (.v (.string u)))
    (hr : (match op with | .eql => some (decide (s = u)) | .neq => some (!decide (s = u)) | .lss => some (Op.bytesLess s.toList u.toList) | .leq => some (Op.bytesLess s.toList u.toList || decide (s = u)) | .gtr => some (!(Op.bytesLess s.toList u.toList || decide (s = u))) | .geq => some (!Op.bytesLess s.toList u.toList) | _ => none) = some r) : POpQ c o σ ρ (.v (.bool r)) := fun κ σ' ρ' g hs _ => ⟨_, fun _ => .v rfl, oq_str ho (hs.ve hx) (hs.ve hy) hr⟩
theorem pq_cat {s u : ByteArray} (ho : o.op = .binOp .add t x y t') (hx : PEv σ c x (.v (.string s))) (hy : PEv σ c y (.v (.string u))) (hb : c = true → s.size + u.size ≤ 140737488355328) : POpQ c o σ ρ (.v (.string (s ++ u))) := fun κ σ' ρ' g hs _ => ⟨_, fun hc => .v (by have := hb hc; simp only [okb, ByteArray.size_append]; exact Nat.ble_eq_true_of_le this), oq_cat ho (hs.ve hx) (hs.ve hy) (fun hc => by have := hb hc; omega)⟩
theorem pq_nilCheck {ad : Addr} (ho : o.op = .nilCheck x) (hx : PEv σ c x (.v (.pointer (some ad)))) : POpQ c o σ ρ (.v (.pointer (some ad))) := fun κ σ' ρ' g hs _ => ⟨_, fun _ => .v rfl, oq_nilCheck ho (hs.ve hx)⟩
theorem pq_nilCheckR {cs : List PV} {kk : Nat} (ho : o.op = .nilCheck x) (hx : PEv σ c x (.ref cs kk)) : POpQ c o σ ρ (.ref cs kk) := fun κ σ' ρ' g hs _ => by
  refine ⟨ev σ' x, hs.pe hx, fun hc => ?_⟩
  have h := hs.pe hx hc
  generalize he : ev σ' x = w at h
  cases h with
  | ref h h1 h2 => exact oq_nilCheck (c := true) ho (.p he) rfl
theorem pq_fieldAddr {s f bb off kk ty : Nat} {l : List (Nat × Nat)} {z : Value} {sz by' : Nat} (ho : o.op = .fieldAddr s x f) (h1 : fldL s = some l) (h2 : l[f]? = some (kk, ty)) (hi : inf ty = some (z, sz, by')) (h0 : Nat.blt 0 sz = true)
    (hx : PEv σ c x (.v (.pointer (some ⟨bb, off, none⟩)))) : POpQ c o σ ρ (.v (.pointer (some ⟨bb, off + kk, none⟩))) := fun κ σ' ρ' g hs _ => ⟨_, fun _ => .v rfl, oq_fieldAddr ho h1 h2 hi h0 (hs.ve hx)⟩
theorem pq_fieldAddrR {s f off kk ty : Nat} {l : List (Nat × Nat)} {z : Value} {sz by' : Nat} {cs : List PV} (ho : o.op = .fieldAddr s x f) (h1 : fldL s = some l) (h2 : l[f]? = some (kk, ty)) (hi : inf ty = some (z, sz, by')) (h0 : Nat.blt 0 sz = true)
    (hx : PEv σ c x (.ref cs off)) : POpQ c o σ ρ (.ref cs (off + kk)) := fun κ σ' ρ' g hs _ => by
  cases c with
  | false => exact noq
  | true =>
    have h := hs.pe hx rfl
    generalize he : ev σ' x = w at h
    cases h with
    | ref h ho1 hss =>
      rename_i ds bb o0
      exact ⟨_, fun _ => .ref h ho1 hss, by have := oq_fieldAddr (c := true) (ρ := ρ') (κ := κ) ho h1 h2 hi h0 (.p he); rwa [Nat.add_assoc] at this⟩
theorem pq_load_b {bb off T : Nat} {cs : List PV} {p : PV} (ho : o.op = .load t x) (hx : PEv σ c x (.v (.pointer (some ⟨bb, off, none⟩)))) (hm : PRes.b bb T cs ∈ ρ) (hr : preadAs t (cs.drop off) = some p) : POpQ c o σ ρ p := fun κ σ' ρ' g hs hrr => by
  obtain ⟨r, hr1, hr2⟩ := hrr.mem hm
  cases hr2 with
  | b h1 hc =>
    obtain ⟨v, h4, h5⟩ := pread (hc.drop off) (fun u hu => h1 u (List.mem_of_mem_drop hu)) hr
    exact ⟨v, fun _ => h5, oq_load_b ho (hs.ve hx) hr1 h4⟩
theorem Sh.drop {κ : Kr} {b off : Nat} {ds : List Value} (h : Sh κ b off ds) (k : Nat) : Sh κ b (off + k) (ds.drop k) := ⟨h.1, fun j u hu => by rw [Nat.add_assoc]; exact h.2 (k + j) u (by rwa [List.getElem?_drop] at hu)⟩
theorem pq_load_r {off : Nat} {cs : List PV} {p : PV} (ho : o.op = .load t x) (hx : PEv σ c x (.ref cs off)) (hr : preadAs t (cs.drop off) = some p) : POpQ c o σ ρ p := fun κ σ' ρ' g hs hrr => by
  cases c with
  | false => exact noq
  | true =>
    have h := hs.pe hx rfl
    generalize he : ev σ' x = w at h
    cases h with
    | ref h h1 hss =>
      obtain ⟨v, h4, h5⟩ := pread (hss.drop off) (fun u hu => h1 u (List.mem_of_mem_drop hu)) hr
      exact ⟨v, fun _ => h5, oq_load_s ho (.p he) (fun _ => h.drop off) h4⟩
theorem pq_field {f kk ty : Nat} {l : List (Nat × Nat)} {cs : List PV} {p : PV} (ho : o.op = .field t x f) (h1 : fldL t = some l) (h2 : l[f]? = some (kk, ty)) (hx : PEv σ c x (.agg cs)) (hkk : Nat.ble kk cs.length = true) (hr : preadAs ty (cs.drop kk) = some p) : POpQ c o σ ρ p := fun κ σ' ρ' g hs hrr => by
  cases c with
  | false => exact noq
  | true =>
    have h := hs.pe hx rfl
    generalize he : ev σ' x = w at h
    cases h with
    | agg ho1 hss =>
      rename_i ds
      obtain ⟨v, h4, h5⟩ := pread (hss.drop kk) (fun u hu => ho1 u (List.mem_of_mem_drop hu)) hr
      refine ⟨v, fun _ => h5, oq_field (cs := ds) ho h1 h2 (.p he) ?_⟩
      unfold readAs at h4 ⊢
      split at h4
      · rename_i d z sz b' hd hi
        cases hag : isAggD d
        · rw [hag] at h4; simp only [cond_false] at h4 ⊢; rwa [List.getElem?_drop, Nat.add_zero] at h4
        · rw [hag] at h4; simp only [cond_true, Nat.zero_add, List.drop_zero] at h4 ⊢
          cases hle : Nat.ble sz (ds.drop kk).length
          · rw [hle] at h4; cases h4
          · rw [hle] at h4
            have : Nat.ble (kk + sz) ds.length = true := by
              have h1 := Nat.le_of_ble_eq_true hle
              have h2 := Nat.le_of_ble_eq_true hkk
              rw [hss.len] at h2
              rw [List.length_drop] at h1
              exact Nat.ble_eq_true_of_le (by omega)
            rw [this]; exact h4
      · cases h4
theorem pq_extract {i : Nat} {vs : List PV} {p : PV} (ho : o.op = .extract x i) (hx : PEv σ c x (.tup vs)) (hr : vs[i]? = some p) : POpQ c o σ ρ p := fun κ σ' ρ' g hs hrr => by
  cases c with
  | false => exact noq
  | true =>
    have h := hs.pe hx rfl
    generalize he : ev σ' x = w at h
    cases h with
    | tup hss =>
      obtain ⟨v, h4, h5⟩ := hss.get hr
      exact ⟨v, fun _ => h5, oq_extract ho (.p he) h4⟩
theorem pq_len {E : Nat} {xs : List (List PV)} (ho : o.op = .call { callee := .builtin .len, args := #[x], argTypes := #[t] }) (hu : und t = some (.slice E)) (hx : PEv σ c x (.slc xs)) : POpQ c o σ ρ (.v (.int .i64 (xs.length : Int))) := fun κ σ' ρ' g hs hrr => by
  cases c with
  | false => exact noq
  | true =>
    have h := hs.pe hx rfl
    generalize he : ev σ' x = w at h
    cases h with
    | slc hsl hb h1 hss => exact ⟨_, fun _ => .v rfl, by have := oq_len (c := true) (ρ := ρ') (κ := κ) ho hu (.p he); rwa [← hsl.len, ← hss.len] at this⟩
theorem pq_lenO {E nn cp : Nat} {ad : Option Addr} (ho : o.op = .call { callee := .builtin .len, args := #[x], argTypes := #[t] }) (hu : und t = some (.slice E)) (hx : PEv σ c x (.v (.slice ad nn cp))) : POpQ c o σ ρ (.v (.int .i64 (nn : Int))) := fun κ σ' ρ' g hs hrr => ⟨_, fun _ => .v rfl, oq_len ho hu (hs.ve hx)⟩
theorem pq_lenS {s : ByteArray} (ho : o.op = .call { callee := .builtin .len, args := #[x], argTypes := #[t] }) (hu : und t = some .string) (hx : PEv σ c x (.v (.string s))) : POpQ c o σ ρ (.v (.int .i64 (s.size : Int))) := fun κ σ' ρ' g hs hrr => ⟨_, fun _ => .v rfl, oq_lenS ho hu (hs.ve hx)⟩
def imin (a b : Int) : Int := if b < a then b else a
def imax (a b : Int) : Int := if a < b then b else a
theorem pq_min {ts : List Nat} (ho : o.op = .call { callee := .builtin .min, args := #[x, y], argTypes := ts.toArray }) (hx : PEv σ c x (.v (.int k a))) (hy : PEv σ c y (.v (.int k b))) : POpQ c o σ ρ (.v (.int k (imin a b))) := fun κ σ' ρ' g hs hrr => ⟨_, fun _ => .v rfl, oq_min ho (hs.ve hx) (hs.ve hy)⟩
theorem pq_max {ts : List Nat} (ho : o.op = .call { callee := .builtin .max, args := #[x, y], argTypes := ts.toArray }) (hx : PEv σ c x (.v (.int k a))) (hy : PEv σ c y (.v (.int k b))) : POpQ c o σ ρ (.v (.int k (imax a b))) := fun κ σ' ρ' g hs hrr => ⟨_, fun _ => .v rfl, oq_max ho (hs.ve hx) (hs.ve hy)⟩
/-- An element of a list. -/
def idx {α : Type} (xs : List α) (i : Int) : Option α := if 0 ≤ i then xs[i.toNat]? else none
theorem idx_some {α : Type} {xs : List α} {i : Int} {m : α} (h : idx xs i = some m) : 0 ≤ i ∧ xs[i.toNat]? = some m := by
  unfold idx at h; split at h
  · exact ⟨by assumption, h⟩
  · cases h
theorem pq_index {α : Type} {E sz by' : Nat} {z : Value} {enc : α → List PV} {xs : List α} {m : α} (ho : o.op = .indexAddr t x y) (hu : und t = some (.slice E)) (hi : inf E = some (z, sz, by')) (hw : ∀ m, Nat.beq (enc m).length sz = true)
    (hx : PEv σ c x (.slc (xs.map enc))) (hy : PEv σ c y (.v (.int k a))) (hm : c = true → idx xs a = some m) : POpQ c o σ ρ (.ref (enc m) 0) := fun κ σ' ρ' g hs hrr => by
  cases c with
  | false => exact noq
  | true =>
    obtain ⟨h0, hmm⟩ := idx_some (hm rfl)
    have h := hs.pe hx rfl
    generalize he : ev σ' x = w at h
    cases h with
    | slc hsl hb h1 hss =>
      rename_i ad nn cp sz' css
      have hcs : (xs.map enc)[a.toNat]? = some (enc m) := by rw [List.getElem?_map, hmm]; rfl
      obtain ⟨ds, hd, hds⟩ := hss.get hcs
      have hlt : a.toNat < nn := by rw [← hsl.len]; exact (List.getElem?_eq_some_iff.1 hd).1
      obtain ⟨bb, off, ha, hsh⟩ := hsl.at_ (by omega)
      have hwid : sz' = sz := by
        have e1 := hsl.wid ds (List.mem_of_getElem? hd)
        have e2 := hds.len
        have e3 := Nat.eq_of_beq_eq_true (hw m)
        omega
      subst hwid
      have h2 := oq_index (c := true) (ρ := ρ') (κ := κ) (j := a.toNat) ho hu hi (.p (by rw [he, ha])) (hs.ve hy) (fun _ => by omega) (fun _ => hlt)
      exact ⟨_, fun _ => by have := Rp.ref (k := 0) (hsh _ _ hd) (h1 ds (List.mem_of_getElem? hd)) hds; rwa [Nat.add_zero] at this, h2⟩
theorem pq_indexS {s : ByteArray} {u : UInt8} (ho : o.op = .index t x y) (hu : und t = some .string) (hx : PEv σ c x (.v (.string s))) (hy : PEv σ c y (.v (.int k a))) (hm : c = true → idx s.data.toList a = some u) : POpQ c o σ ρ (.v (.int .u8 (u.toNat : Int))) := fun κ σ' ρ' g hs hrr => by
  refine ⟨_, fun _ => .v rfl, fun hc => ?_⟩
  obtain ⟨h0, hmm⟩ := idx_some (hm hc)
  have hlt := (List.getElem?_eq_some_iff.1 hmm).1
  have h := oq_indexS (c := true) (ρ := ρ') (κ := κ) (j := a.toNat) ho hu (fun _ => hs.ve hx hc) (fun _ => hs.ve hy hc) (fun _ => by omega) (fun _ => by simpa using hlt) rfl
  rwa [List.getD_eq_getElem?_getD, hmm] at h
end
end SX
end Go.Proofs.YtfcecieppoljlaaGreatDoor
