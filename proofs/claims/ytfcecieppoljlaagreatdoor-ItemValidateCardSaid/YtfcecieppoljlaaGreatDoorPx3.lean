/- Our calculus over pure values, third text: memory, composite values, slices that grow, regions of drawn order. No statement of the seat is proved here. -/
import Derived.Test.YtfcecieppoljlaaGreatDoorPx2
set_option maxRecDepth 100000
namespace Go.Proofs.YtfcecieppoljlaaGreatDoor
namespace SX
open Go

/-! ### New blocks, stores -/
def PSplice (cs : List PV) (k : Nat) (vs cs' : List PV) : Prop := cs' = cs.take k ++ vs ++ cs.drop (k + vs.length) ∧ k + vs.length ≤ cs.length
theorem PSplice.nil {cs : List PV} : PSplice cs 0 [] cs := ⟨by simp, by simp⟩
theorem PSplice.c {x v : PV} {l l' vs : List PV} (h : PSplice l 0 vs l') : PSplice (x :: l) 0 (v :: vs) (v :: l') := by
  obtain ⟨h1, h2⟩ := h
  refine ⟨?_, by simp at h2 ⊢; omega⟩
  rw [h1]; simp [Nat.add_comm]
theorem PSplice.t {x : PV} {l l' vs : List PV} {k : Nat} (h : PSplice l k vs l') : PSplice (x :: l) (k + 1) vs (x :: l') := by
  obtain ⟨h1, h2⟩ := h
  refine ⟨?_, by simp at h2 ⊢; omega⟩
  rw [h1, show k + 1 + vs.length = (k + vs.length) + 1 by omega]; simp
section
variable {o : Oper} {σ : PEnv} {ρ : List PRes} {x y : Operand} {t : Nat} {K : PV → List PRes → Prop}
theorem pl_q {p : PV} (h : POpQ true o σ ρ p) (hk : K p ρ) : POpL o σ ρ K := fun κ σ' ρ' g hs hr => by
  obtain ⟨v, h1, h2⟩ := h κ σ' ρ' g hs hr
  exact ol_q h2 ⟨p, ρ, h1 rfl, hr, hk⟩
theorem pl_box {cs : List PV} (ho : o.op = .box t x) (hx : cellsP (pevc σ x) = some cs) (h : ∀ b, K (.v (.pointer (some ⟨b, 0, none⟩))) (.b b t cs :: ρ)) : POpL o σ ρ K := fun κ σ' ρ' g hs hr => by
  obtain ⟨ds, h1, h2, h3⟩ := (hs.ev x).cells hx
  exact ol_box ho h1 fun b κ' hk => ⟨_, _, .v rfl, .cons (.b h3 (h2.mono hk)) (hr.mono hk), h b⟩
def zcells (z : Value) : List PV := (cellsL z).map fun x => cond (okb x) (.v x) .any
theorem pl_alloc {z : Value} {sz by' : Nat} {cs : List PV} (ho : o.op = .alloc t) (hz : inf t = some (z, sz, by')) (hc : zcells z = cs) (h1 : (cellsL z).all Value.oneCell' = true) (h : ∀ b, K (.v (.pointer (some ⟨b, 0, none⟩))) (.b b t cs :: ρ)) : POpL o σ ρ K := fun κ σ' ρ' g hs hr =>
  ol_alloc ho hz rfl fun b κ' hk => ⟨_, _, .v rfl, .cons (.b (fun u hu => List.all_eq_true.1 h1 u hu) (by rw [← hc]; exact rps_const _)) (hr.mono hk), h b⟩
theorem splice_rps {κ : Kr} {cs vs : List PV} {ds ws : List Value} {off : Nat} (h : Rps κ cs ds) (hv : Rps κ vs ws) : Rps κ (cs.take off ++ vs ++ cs.drop (off + vs.length)) (ds.take off ++ ws ++ ds.drop (off + ws.length)) := by
  rw [hv.len]; exact ((h.take off).app hv).app (h.drop _)
theorem splice_one {ds ws : List Value} {off k : Nat} (h : One ds) (hw : One ws) : One (ds.take off ++ ws ++ ds.drop k) := fun u hu => by
  rcases List.mem_append.1 hu with hu | hu
  · rcases List.mem_append.1 hu with hu | hu
    · exact h u (List.mem_of_mem_take hu)
    · exact hw u hu
  · exact h u (List.mem_of_mem_drop hu)
/-- A store into an own block. -/
theorem pl_store {b off T sz by' : Nat} {z : Value} {cs vs cs' : List PV} {ρ' : List PRes} (ho : o.op = .store t x y) (hx : pevc σ x = .v (.pointer (some ⟨b, off, none⟩))) (hv : cellsP (pevc σ y) = some vs)
    (hz : inf t = some (z, sz, by')) (hsz : Nat.beq vs.length sz = true) (hu : PUpd ρ (.b b T cs) (.b b T cs') ρ') (hsp : PSplice cs off vs cs') (h : K (.v undef) ρ') : POpL o σ ρ K := fun κ σ' r g hs hr => by
  obtain ⟨ws, h1, h2, h3⟩ := (hs.ev y).cells hv
  obtain ⟨r0, l1, l2, rfl, h4, h5⟩ := hr.upd hu
  obtain ⟨rfl, hl⟩ := hsp
  cases h4 with
  | b ho1 hc =>
    rename_i ds
    have hsz' := Nat.eq_of_beq_eq_true hsz
    have e1 := h2.len; have e2 := hc.len
    refine ol_store (T := T) (cs := ds) ho (hs.v1 hx) h1 hz (by omega) (List.all_eq_true.2 h3) (Nat.ble_eq_true_of_le (by omega)) ⟨l1, l2, rfl, rfl⟩ fun κ' hk => ⟨.v undef, ρ', .v rfl, h5 κ' _ hk (.b (splice_one ho1 h3) ((splice_rps hc h2).mono hk)), h⟩
/-- The parts of a struct literal. -/
def PFill (σ : PEnv) (fl : List (Nat × Nat)) : List PV → List (Nat × Operand) → List PV → Prop
  | zs, [], cs => zs = cs
  | zs, (i, x) :: r, cs => ∃ k ty vs zs' z by', fl[i]? = some (k, ty) ∧ inf ty = some (z, vs.length, by') ∧ cellsP (pevc σ x) = some vs ∧ PSplice zs k vs zs' ∧ PFill σ fl zs' r cs
theorem PFill.nil {fl : List (Nat × Nat)} {zs : List PV} : PFill σ fl zs [] zs := rfl
theorem PFill.cons {fl : List (Nat × Nat)} {zs zs' cs vs : List PV} {i k ty sz by' : Nat} {z : Value} {x : Operand} {r : List (Nat × Operand)} (h1 : fl[i]? = some (k, ty)) (h2 : inf ty = some (z, sz, by')) (h3 : cellsP (pevc σ x) = some vs) (h4 : Nat.beq vs.length sz = true) (h5 : PSplice zs k vs zs') (h6 : PFill σ fl zs' r cs) : PFill σ fl zs ((i, x) :: r) cs :=
  ⟨k, ty, vs, zs', z, by', h1, by rw [Nat.eq_of_beq_eq_true h4]; exact h2, h3, h5, h6⟩
theorem PFill.real {κ : Kr} {σ' : Env} (hs : Sim κ σ σ') {fl : List (Nat × Nat)} : ∀ {parts : List (Nat × Operand)} {zs cs : List PV} {zv : List Value}, PFill σ fl zs parts cs → Rps κ zs zv → One zv → ∃ cv, FillR σ' fl zv parts cv ∧ Rps κ cs cv ∧ One cv
  | [], zs, cs, zv, h, hr, h1 => by cases h; exact ⟨zv, rfl, hr, h1⟩
  | (i, x) :: r, zs, cs, zv, ⟨k, ty, vs, zs', z, by', g1, g2, g3, g4, g5⟩, hr, h1 => by
    obtain ⟨ws, k1, k2, k3⟩ := (hs.ev x).cells g3
    obtain ⟨rfl, hl⟩ := g4
    obtain ⟨cv, j1, j2, j3⟩ := PFill.real hs g5 (splice_rps hr k2) (splice_one h1 k3)
    have e1 := k2.len; have e2 := hr.len
    exact ⟨cv, ⟨k, ty, ws, _, z, by', g1, by rw [← e1]; exact g2, k1, ⟨rfl, by omega⟩, j1⟩, j2, j3⟩
theorem pq_build {c : Bool} {sz by' : Nat} {parts : List (Nat × Operand)} {fl : List (Nat × Nat)} {zs : List Value} {zp cs : List PV} (hc : c = true) (ho : o.op = .build t parts.toArray) (hz : inf t = some (.agg zs.toArray, sz, by')) (hf : fldL t = some fl) (hall : (fl.all fun p => (inf p.2).isSome) = true) (hzp : (zs.map fun x => cond (okb x) (.v x) .any) = zp) (hz1 : zs.all Value.oneCell' = true) (h : PFill σ fl zp parts cs) : POpQ c o σ ρ (.agg cs) := fun κ σ' ρ' g hs hr => by
  subst hc
  obtain ⟨cv, h1, h2, h3⟩ := h.real hs (zv := zs) (by rw [← hzp]; exact rps_const zs) (fun u hu => List.all_eq_true.1 hz1 u hu)
  exact ⟨_, fun _ => .agg h3 h2, oq_build ho hz hf hall h1⟩
/-- Slice literals. -/
def PLit (σ : PEnv) : Nat → List (Nat × Operand) → List (List PV) → Prop
  | _, [], css => css = []
  | k, (i, x) :: r, css => ∃ cs css', css = cs :: css' ∧ i = k ∧ cellsP (pevc σ x) = some cs ∧ PLit σ (k + 1) r css'
theorem PLit.nil {k : Nat} : PLit σ k [] [] := rfl
theorem PLit.cons {k : Nat} {x : Operand} {cs : List PV} {r : List (Nat × Operand)} {css : List (List PV)} (h1 : cellsP (pevc σ x) = some cs) (h : PLit σ (k + 1) r css) : PLit σ k ((k, x) :: r) (cs :: css) := ⟨_, _, rfl, rfl, h1, h⟩
theorem PLit.real {κ : Kr} {σ' : Env} (hs : Sim κ σ σ') : ∀ {k : Nat} {parts : List (Nat × Operand)} {css : List (List PV)}, PLit σ k parts css → ∃ dss, Lit σ' k parts dss ∧ Rpss κ css dss ∧ Ones dss
  | _, [], _, h => by cases h; exact ⟨[], rfl, .nil, fun _ h => by cases h⟩
  | k, (i, x) :: r, _, ⟨cs, css', e1, e2, h1, h2⟩ => by
    subst e1; subst e2
    obtain ⟨ds, k1, k2, k3⟩ := (hs.ev x).cells h1
    obtain ⟨dss, j1, j2, j3⟩ := h2.real hs
    exact ⟨ds :: dss, ⟨_, _, rfl, rfl, k1, j1⟩, .cons k2 j2, fun d hd => by rcases List.mem_cons.1 hd with rfl | hd; exact k3; exact j3 d hd⟩
theorem rpss_wid {κ : Kr} {sz : Nat} : ∀ {css : List (List PV)} {dss : List (List Value)}, Rpss κ css dss → (css.all fun cs => Nat.beq cs.length sz) = true → (dss.all fun cs => Nat.beq cs.length sz) = true
  | _, _, .nil, _ => rfl
  | _, _, .cons h hs, hw => by
    simp only [List.all_cons, Bool.and_eq_true] at hw ⊢
    exact ⟨by rw [← h.len]; exact hw.1, rpss_wid hs hw.2⟩
theorem pl_lit {E len sz by' : Nat} {z : Value} {parts : List (Nat × Operand)} {css : List (List PV)} (hg : o.guard = none) (ho : o.op = .buildSlice t len parts.toArray) (hu : und t = some (.slice E)) (hi : inf E = some (z, sz, by')) (hz : Nat.beq z.cells.size sz = true)
    (hp : PLit σ 0 parts css) (hl : Nat.beq css.length len = true) (hw : (css.all fun cs => Nat.beq cs.length sz) = true) (hb : Nat.ble (len * sz) 16777216 = true) (hb2 : Nat.ble len 16777216 = true) (h : ∀ b, K (.v (.slice (some ⟨b, 0, none⟩) len len)) (.row (some ⟨b, 0, none⟩) len len E sz css :: ρ)) : POpL o σ ρ K := fun κ σ' ρ' g hs hr => by
  obtain ⟨dss, h1, h2, h3⟩ := hp.real hs
  exact ol_lit hg ho hu hi hz h1 (by rw [← h2.len]; exact hl) (rpss_wid h2 hw) hb hb2 fun b κ' hk => ⟨_, _, .v rfl, .cons (.row (by have := Nat.le_of_ble_eq_true hb2; omega) h3 (h2.mono hk)) (hr.mono hk), h b⟩
/-- The same, the block known whole. -/
theorem plate_lit {E len sz by' : Nat} {z : Value} {parts : List (Nat × Operand)} {css : List (List PV)} (hg : o.guard = none) (ho : o.op = .buildSlice t len parts.toArray) (hu : und t = some (.slice E)) (hi : inf E = some (z, sz, by')) (hz : Nat.beq z.cells.size sz = true)
    (hp : PLit σ 0 parts css) (hl : Nat.beq css.length len = true) (hw : (css.all fun cs => Nat.beq cs.length sz) = true) (hb : Nat.ble (len * sz) 16777216 = true) : ∀ κ σ', Sim κ σ σ' → ∃ ds, Rps κ css.flatten ds ∧ One ds ∧ LateRun o σ' E ds (fun b => .slice (some ⟨b, 0, none⟩) len len) := fun κ σ' hs => by
  obtain ⟨dss, h1, h2, h3⟩ := hp.real hs
  exact ⟨dss.flatten, h2.flat, fun u hu => by obtain ⟨d, hd1, hd2⟩ := List.mem_flatten.1 hu; exact h3 d hd1 u hd2, late_lit hg ho hu hi hz h1 (by rw [← h2.len]; exact hl) (rpss_wid h2 hw) hb⟩
theorem plate_alloc {z : Value} {sz by' : Nat} {cs : List PV} (hg : o.guard = none) (ho : o.op = .alloc t) (hz : inf t = some (z, sz, by')) (hc : zcells z = cs) (h1 : (cellsL z).all Value.oneCell' = true) : ∀ κ σ', Sim κ σ σ' → ∃ ds, Rps κ cs ds ∧ One ds ∧ LateRun o σ' t ds (fun b => .pointer (some ⟨b, 0, none⟩)) := fun κ σ' hs =>
  ⟨cellsL z, by rw [← hc]; exact rps_const _, fun u hu => List.all_eq_true.1 h1 u hu, late_alloc hg ho hz rfl⟩
end

/-! ### Slices that grow -/
def app {α : Type} (by' : Nat) (xs ys : List α) : Option (List α) := if (xs.length + ys.length) * by' ≤ 140737488355328 ∧ xs.length + ys.length ≤ 140737488355328 then some (xs ++ ys) else none
theorem app_some {α : Type} {by' : Nat} {xs ys zs : List α} (h : app by' xs ys = some zs) : zs = xs ++ ys ∧ (xs.length + ys.length) * by' ≤ 140737488355328 ∧ xs.length + ys.length ≤ 140737488355328 := by
  unfold app at h; split at h
  · injection h with h; exact ⟨h.symm, by assumption⟩
  · cases h
section
variable {o : Oper} {σ : PEnv} {ρ : List PRes} {s x y : Operand} {t : Nat} {K : PV → List PRes → Prop}
theorem pl_append0 {T : Nat} {a : Option Addr} {n c m sz by' : Nat} {z : Value} {css css2 : List (List PV)} {l : List PRes}
    (ho : o.op = .call { callee := .builtin .append, args := #[s, x], argTypes := #[t, t] }) (hu : und t = some (.slice T)) (hi : inf T = some (z, sz, by')) (hz : Nat.beq z.cells.size sz = true) (h0 : Nat.blt 0 sz = true)
    (hs : pevc σ s = .v (.slice a n c)) (hp : PPick ρ (.row a n c T sz css) l)
    (hr : ∀ β κ σ' ρ', Sim κ σ σ' → RRels κ ρ ρ' → Inv β ρ' κ → ∃ a2 c2 dss2, ev σ' x = .slice a2 m c2 ∧ Rd ρ' κ a2 m sz dss2 ∧ Rpss κ css2 dss2 ∧ Ones dss2)
    (hb : (n + m) * by' ≤ 140737488355328 ∧ n + m ≤ 140737488355328) (h : ∀ a' c', K (.v (.slice a' (n + m) c')) (.row a' (n + m) c' T sz (css ++ css2) :: l)) : POpL o σ ρ K := fun κ σ' ρ' g hm hrr β hinv Nx hk => by
  obtain ⟨a2, c2, dss2, h1, h2, h3, h4⟩ := hr β κ σ' ρ' hm hrr hinv
  obtain ⟨r, l', k1, k2, k3⟩ := hrr.pick hp
  cases k2 with
  | row hbn ho1 hc =>
    rename_i dss
    exact ol_append (css := dss) ho hu hi hz h0 (hm.v1 hs) h1 k1 h2 h4 hb (fun a' c' κ' hk' => ⟨_, _, .v rfl, .cons (.row hb.2 (fun d hd => (List.mem_append.1 hd).elim (ho1 d) (h4 d)) ((hc.app h3).mono hk')) (k3.mono hk'), h a' c'⟩) β hinv Nx hk
variable {α : Type} {enc : α → List PV} {xs ys zs : List α}
theorem rpss_wd {κ : Kr} {sz : Nat} (hw : ∀ m, Nat.beq (enc m).length sz = true) : ∀ {ys : List α} {dss : List (List Value)}, Rpss κ (ys.map enc) dss → ∀ ds ∈ dss, ds.length = sz
  | [], _, h, ds, hd => by rw [List.map_nil] at h; rw [h.nil_inv] at hd; cases hd
  | y :: ys, _, h, ds, hd => by
    rw [List.map_cons] at h
    obtain ⟨v, ws, rfl, h1, h2⟩ := h.cons_inv
    rcases List.mem_cons.1 hd with rfl | hd
    · rw [← h1.len]; exact Nat.eq_of_beq_eq_true (hw y)
    · exact rpss_wd hw h2 ds hd
/-- append onto an own slice, from a shared one. -/
theorem pl_app_s {T : Nat} {a : Option Addr} {c sz by' n : Nat} {z : Value} {l : List PRes}
    (ho : o.op = .call { callee := .builtin .append, args := #[s, x], argTypes := #[t, t] }) (hu : und t = some (.slice T)) (hi : inf T = some (z, sz, by')) (hz : Nat.beq z.cells.size sz = true) (h0 : Nat.blt 0 sz = true) (hw : ∀ m, Nat.beq (enc m).length sz = true)
    (hs : pevc σ s = .v (.slice a n c)) (hn : n = xs.length) (hx : pevc σ x = .slc (ys.map enc)) (hp : PPick ρ (.row a n c T sz (xs.map enc)) l) (ha : app by' xs ys = some zs)
    (h : ∀ a' c', K (.v (.slice a' zs.length c')) (.row a' zs.length c' T sz (zs.map enc) :: l)) : POpL o σ ρ K := by
  obtain ⟨rfl, hb1, hb2⟩ := app_some ha
  subst hn
  refine pl_append0 (m := ys.length) (css2 := ys.map enc) ho hu hi hz h0 hs hp (fun β κ σ' ρ' hm hrr hinv => ?_) ⟨hb1, hb2⟩ (fun a' c' => by have := h a' c'; rwa [List.length_append, List.map_append] at this)
  have he := hm.ev x
  rw [hx] at he
  generalize hw' : ev σ' x = w at he
  cases he with
  | slc hsl hb h1 hss =>
    rename_i a2 m c2 sz' dss2
    have hml : ys.length = m := by rw [← hsl.len, ← hss.len]; simp
    subst hml
    refine ⟨a2, c2, dss2, rfl, ?_, hss, h1⟩
    have hrd := rd_sl (ρ := ρ') hsl
    rcases Nat.eq_zero_or_pos ys.length with h' | h'
    · have : dss2 = [] := List.eq_nil_of_length_eq_zero (by rw [hsl.len, h'])
      subst this
      exact ⟨hsl.len, fun _ h => (by cases h), fun h => (by omega)⟩
    · have : sz' = sz := by
        have hl := hsl.len
        match dss2, hl with
        | [], hl => simp only [List.length_nil] at hl; omega
        | d :: ds, _ => rw [← hsl.wid d (by simp), rpss_wd hw hss d (by simp)]
      subst this; exact hrd
/-- append onto an own slice, from another own one. -/
theorem pl_app_o {T T2 : Nat} {a a2 : Option Addr} {c c2 sz by' n m : Nat} {z : Value} {l : List PRes}
    (ho : o.op = .call { callee := .builtin .append, args := #[s, x], argTypes := #[t, t] }) (hu : und t = some (.slice T)) (hi : inf T = some (z, sz, by')) (hz : Nat.beq z.cells.size sz = true) (h0 : Nat.blt 0 sz = true)
    (hs : pevc σ s = .v (.slice a n c)) (hn : n = xs.length) (hx : pevc σ x = .v (.slice a2 m c2)) (hmn : m = ys.length) (hm2 : PRes.row a2 m c2 T2 sz (ys.map enc) ∈ ρ) (hp : PPick ρ (.row a n c T sz (xs.map enc)) l) (ha : app by' xs ys = some zs)
    (h : ∀ a' c', K (.v (.slice a' zs.length c')) (.row a' zs.length c' T sz (zs.map enc) :: l)) : POpL o σ ρ K := by
  obtain ⟨rfl, hb1, hb2⟩ := app_some ha
  subst hn; subst hmn
  refine pl_append0 (m := ys.length) (css2 := ys.map enc) ho hu hi hz h0 hs hp (fun β κ σ' ρ' hm hrr hinv => ?_) ⟨hb1, hb2⟩ (fun a' c' => by have := h a' c'; rwa [List.length_append, List.map_append] at this)
  obtain ⟨r, hr1, hr2⟩ := hrr.mem hm2
  cases hr2 with
  | row hb h1 hss =>
    rename_i dss
    have hrow := row_some hr1 β hinv
    have hown := row_owns (hinv.own _ hr1)
    exact ⟨a2, c2, dss, hm.v1 hx, rd_row hr1 (fun h => by obtain ⟨b, e⟩ := hrow.2 h; rw [e]; simp) hrow.1.1 hown.2.2, hss, h1⟩
/-- append onto an own slice, from a literal whose block is known whole. -/
theorem pl_app_b {T T2 : Nat} {a : Option Addr} {c b sz by' n m : Nat} {z : Value} {l : List PRes} {cs : List PV}
    (ho : o.op = .call { callee := .builtin .append, args := #[s, x], argTypes := #[t, t] }) (hu : und t = some (.slice T)) (hi : inf T = some (z, sz, by')) (hz : Nat.beq z.cells.size sz = true) (h0 : Nat.blt 0 sz = true) (hw : ∀ m, Nat.beq (enc m).length sz = true)
    (hs : pevc σ s = .v (.slice a n c)) (hn : n = xs.length) (hx : pevc σ x = .v (.slice (some ⟨b, 0, none⟩) m m)) (hmn : m = ys.length) (hm2 : PRes.b b T2 cs ∈ ρ) (hcs : cs = (ys.map enc).flatten) (hp : PPick ρ (.row a n c T sz (xs.map enc)) l) (ha : app by' xs ys = some zs)
    (h : ∀ a' c', K (.v (.slice a' zs.length c')) (.row a' zs.length c' T sz (zs.map enc) :: l)) : POpL o σ ρ K := by
  obtain ⟨rfl, hb1, hb2⟩ := app_some ha
  subst hn; subst hmn; subst hcs
  refine pl_append0 (m := ys.length) (css2 := ys.map enc) ho hu hi hz h0 hs hp (fun β κ σ' ρ' hm hrr hinv => ?_) ⟨hb1, hb2⟩ (fun a' c' => by have := h a' c'; rwa [List.length_append, List.map_append] at this)
  obtain ⟨r, hr1, hr2⟩ := hrr.mem hm2
  cases hr2 with
  | b h1 hss =>
    rename_i ds
    obtain ⟨dss, e1, e2, e3⟩ : ∃ dss, dss.flatten = ds ∧ Rpss κ (ys.map enc) dss ∧ ∀ d ∈ dss, d.length = sz := by
      clear ha h hb1 hb2 hx hm2 hr1 h1 hp
      induction ys generalizing ds with
      | nil => simp only [List.map_nil, List.flatten_nil] at hss; exact ⟨[], by rw [hss.nil_inv]; rfl, .nil, fun _ h => by cases h⟩
      | cons y ys ih =>
        simp only [List.map_cons, List.flatten_cons] at hss
        have hl := Nat.eq_of_beq_eq_true (hw y)
        have t1 := hss.take sz
        have t2 := hss.drop sz
        rw [List.take_append_of_le_length (by omega), List.take_of_length_le (by omega)] at t1
        rw [List.drop_append_of_le_length (by omega), List.drop_of_length_le (by omega), List.nil_append] at t2
        obtain ⟨dss, k1, k2, k3⟩ := ih t2
        refine ⟨ds.take sz :: dss, by rw [List.flatten_cons, k1, List.take_append_drop], .cons t1 k2, fun d hd => ?_⟩
        rcases List.mem_cons.1 hd with rfl | hd
        · rw [← t1.len]; exact hl
        · exact k3 d hd
    subst e1
    exact ⟨_, _, dss, hm.v1 hx, rd_b hr1 (by rw [← e2.len]; simp) e3 rfl, e2, fun d hd u hu => h1 u (List.mem_flatten.2 ⟨d, hd, hu⟩)⟩

/-! ### make, elements of own slices -/
def mk {α : Type} (by' : Nat) (z : α) (n : Int) : Option (List α) := if 0 ≤ n ∧ by' * n.toNat ≤ 140737488355328 ∧ n.toNat ≤ 140737488355328 then some (List.replicate n.toNat z) else none
theorem mk_some {by' : Nat} {z : α} {n : Int} (h : mk by' z n = some zs) : (0 ≤ n ∧ by' * n.toNat ≤ 140737488355328 ∧ n.toNat ≤ 140737488355328) ∧ zs = List.replicate n.toNat z := by
  unfold mk at h; split at h
  · injection h with h; exact ⟨by assumption, h.symm⟩
  · cases h
theorem pl_make {T sz by' : Nat} {z : Value} {zv : α} {n : Int} (hg : o.guard = none) (ho : o.op = .makeSlice t x x) (hx : pevc σ x = .v (.int .i64 n)) (hu : und t = some (.slice T)) (hi : inf T = some (z, sz, by')) (hzc : enc zv = zcells z) (hz1 : (cellsL z).all Value.oneCell' = true) (hzl : Nat.beq (cellsL z).length sz = true) (h0 : Nat.blt 0 sz = true) (hm : mk by' zv n = some zs)
    (h : ∀ b, K (.v (.slice (some ⟨b, 0, none⟩) zs.length zs.length)) (.row (some ⟨b, 0, none⟩) zs.length zs.length T sz (zs.map enc) :: ρ)) : POpL o σ ρ K := fun κ σ' ρ' g hs hr => by
  obtain ⟨⟨h1, h2, h3⟩, rfl⟩ := mk_some hm
  have hn : n = ((n.toNat : Nat) : Int) := by omega
  have hlr := late_make (o := o) (σ := σ') (n := n.toNat) hg ho (by rw [hs.v1 hx, ← hn]) hu hi rfl (Nat.eq_of_beq_eq_true hzl) h0 (by omega)
  simp only [List.length_replicate, List.map_replicate] at h
  intro β hinv Nx hk
  refine ol_late hlr (K := fun v ρ1 κ1 => ∃ b, v = .slice (some ⟨b, 0, none⟩) n.toNat n.toNat ∧ ρ1 = Res.b b T (List.replicate n.toNat (cellsL z)).flatten :: ρ' ∧ Kle κ κ1) (fun b κ' hk => ⟨b, rfl, rfl, hk⟩) β hinv Nx fun v ρ1 κ1 h1 h2 h3 => ?_
  obtain ⟨b, rfl, rfl, h4⟩ := h3
  have hv := h1.view (r' := Res.row (some ⟨b, 0, none⟩) n.toNat n.toNat T sz (List.replicate n.toNat (cellsL z))) Pick.h rfl (row_of_b rfl (by simp) (fun c hc => by rw [(List.mem_replicate.1 hc).2]; exact Nat.eq_of_beq_eq_true hzl) h3)
  refine hk _ _ κ1 hv h2 ⟨_, _, .v rfl, .cons (.row h3 ?_ ?_) (hr.mono h4), h b⟩
  · intro d hd; rw [(List.mem_replicate.1 hd).2]; exact fun u hu => List.all_eq_true.1 hz1 u hu
  · rw [hzc]
    clear h hv hlr
    generalize n.toNat = k
    induction k with
    | zero => exact .nil
    | succ k ih => rw [List.replicate_succ, List.replicate_succ]; exact .cons (rps_const _) ih
def ablk : Option Addr → Nat
  | some ad => ad.block
  | none => 0
theorem row_addr {a : Option Addr} {n cp T sz : Nat} {dss : List (List Value)} {w : World} (h : (Res.row a n cp T sz dss).holds w) (h0 : 0 < n) : a = some ⟨ablk a, 0, none⟩ := by
  cases a with
  | none => obtain ⟨e, _⟩ := h; omega
  | some ad => exact congrArg some h.1
theorem pq_indexO {c : Bool} {T T2 sz by' n cp : Nat} {k : IntKind} {i : Int} {z : Value} {m : α} {a : Option Addr} (ho : o.op = .indexAddr t x y) (hu : und t = some (.slice T)) (hi : inf T = some (z, sz, by')) (hx : PEv σ c x (.v (.slice a n cp))) (hm2 : PRes.row a n cp T2 sz (xs.map enc) ∈ ρ) (hy : PEv σ c y (.v (.int k i))) (hm : c = true → idx xs i = some m) : POpQ c o σ ρ (.v (.pointer (some ⟨ablk a, i.toNat * sz, none⟩))) := fun κ σ' ρ' g hs hrr => by
  refine ⟨_, fun _ => .v rfl, fun hc w hst => ?_⟩
  obtain ⟨h0, hmm⟩ := idx_some (hm hc)
  have hlt := (List.getElem?_eq_some_iff.1 hmm).1
  obtain ⟨r, hr1, hr2⟩ := hrr.mem hm2
  cases hr2 with
  | row hb ho1 hc2 =>
    have hn : xs.length = n := by have e1 := (row_owns (hst.own _ hr1)).2.1; have e2 := hc2.len; rw [List.length_map] at e2; omega
    have ha := row_addr (hst.own _ hr1) (by omega)
    have h := oq_index (c := true) (ρ := ρ') (κ := κ) (j := i.toNat) ho hu hi (fun _ => by rw [hs.ve hx hc, ha]) (fun _ => hs.ve hy hc) (fun _ => by omega) (fun _ => by omega) rfl w hst
    rwa [Nat.zero_add] at h
end
/-- A load at some place of an element of an own slice. -/
theorem oq_load_rowO {o : Oper} {σ : Env} {ρ : List Res} {κ : Kr} {c : Bool} {x : Operand} {t b off T n cp sz k j : Nat} {css : List (List Value)} {cs : List Value} {v : Value} (ho : o.op = .load t x) (hx : Ev σ c x (.pointer (some ⟨b, off, none⟩))) (hoff : off = k * sz + j) (hm : Res.row (some ⟨b, 0, none⟩) n cp T sz css ∈ ρ) (hk : css[k]? = some cs) (hr : readAs t (cs.drop j) 0 = some v) : OpQ c o σ ρ κ v := fun hc w hs => by
  obtain ⟨h1, h2, h3, h4, h5, cur, h6, h7, h8⟩ : (Res.row (some ⟨b, 0, none⟩) n cp T sz css).holds w := hs.own _ hm
  have hcl := h3 cs (List.mem_of_getElem? hk)
  have := run_readAs (w := w) (t := t) (b := b) (off := off) (cs := cs.drop j) (v := v) (fun i u hu => by
    rw [List.getElem?_drop] at hu
    have hj : j + i < sz := by rcases Nat.lt_or_ge (j + i) cs.length with h | h; (omega); rw [List.getElem?_eq_none h] at hu; cases hu
    have hg := flatten_get h3 hk hj
    have hkn : k < n := by rw [← h2]; exact (List.getElem?_eq_some_iff.1 hk).1
    have hlt : k * sz + (j + i) < n * sz := by
      have : (k + 1) * sz ≤ n * sz := Nat.mul_le_mul_right _ hkn
      rw [Nat.add_mul] at this; omega
    have hc2 : w.cell? ⟨b, off + i, none⟩ = cur.toList[k * sz + (j + i)]? := by simp [World.cell?, h6, hoff, Nat.add_assoc]
    rw [hc2]
    rw [← h8, List.getElem?_take, if_pos hlt] at hg
    rw [hg]; exact hu) hr
  simp [execOp, ho, hx hc, Instr.loadAt, Instr.sureAddr, this]
section
variable {o : Oper} {σ : PEnv} {ρ : List PRes} {x y : Operand} {t : Nat} {K : PV → List PRes → Prop} {α : Type} {enc : α → List PV} {xs : List α} {m m' : α} {i : Int}
theorem pq_load_o {c : Bool} {T sz off n cp : Nat} {p : PV} {a : Option Addr} (i : Int) (j : Nat) (m : α) (ho : o.op = .load t x) (hx : PEv σ c x (.v (.pointer (some ⟨ablk a, off, none⟩)))) (hoff : off = i.toNat * sz + j) (hm2 : PRes.row a n cp T sz (xs.map enc) ∈ ρ) (hm : c = true → idx xs i = some m) (hr : preadAs t ((enc m).drop j) = some p) : POpQ c o σ ρ p := fun κ σ' ρ' g hs hrr => by
  cases c with
  | false => exact noq
  | true =>
    obtain ⟨h0, hmm⟩ := idx_some (hm rfl)
    obtain ⟨r, hr1, hr2⟩ := hrr.mem hm2
    cases hr2 with
    | row hb h1 hss =>
      have hcs : (xs.map enc)[i.toNat]? = some (enc m) := by rw [List.getElem?_map, hmm]; rfl
      obtain ⟨ds, hd, hds⟩ := hss.get hcs
      obtain ⟨v, h4, h5⟩ := pread (hds.drop j) (fun u hu => h1 ds (List.mem_of_getElem? hd) u (List.mem_of_mem_drop hu)) hr
      refine ⟨v, fun _ => h5, fun _ w hst => ?_⟩
      have hw := hst.own _ hr1
      have hn0 : 0 < n := by have := (row_owns hw).2.1; have := (List.getElem?_eq_some_iff.1 hd).1; omega
      have ha := row_addr hw hn0
      rw [ha] at hr1
      exact oq_load_rowO (c := true) ho (hs.ve hx) hoff hr1 hd h4 rfl w hst
theorem map_set {xs : List α} {k : Nat} : (xs.map enc).set k (enc m') = (xs.set k m').map enc := by rw [List.map_set]
/-- A store into an element of an own slice. -/
theorem pl_store_o {T sz sz2 by' off n cp : Nat} {z : Value} {vs : List PV} {ρ' : List PRes} {a : Option Addr} (i : Int) (j : Nat) (m m' : α) (ho : o.op = .store t x y) (hx : pevc σ x = .v (.pointer (some ⟨ablk a, off, none⟩))) (hoff : off = i.toNat * sz + j) (hv : cellsP (pevc σ y) = some vs) (hw : ∀ m, Nat.beq (enc m).length sz = true)
    (hz : inf t = some (z, sz2, by')) (hsz : Nat.beq vs.length sz2 = true) (hm : idx xs i = some m) (hsp : PSplice (enc m) j vs (enc m')) (hu : PUpd ρ (.row a n cp T sz (xs.map enc)) (.row a n cp T sz ((xs.set i.toNat m').map enc)) ρ') (h : K (.v undef) ρ') : POpL o σ ρ K := fun κ σ' r g hs hr β hinv => by
  obtain ⟨h0, hmm⟩ := idx_some hm
  obtain ⟨ws, h1, h2, h3⟩ := (hs.ev y).cells hv
  obtain ⟨r0, l1, l2, rfl, h4, h5⟩ := hr.upd hu
  obtain ⟨hsp1, hl⟩ := hsp
  cases h4 with
  | row hb ho1 hc =>
    rename_i dss
    have hcs : (xs.map enc)[i.toNat]? = some (enc m) := by rw [List.getElem?_map, hmm]; rfl
    obtain ⟨ds, hd, hds⟩ := hc.get hcs
    have e1 := h2.len; have e2 := hds.len; have e3 := Nat.eq_of_beq_eq_true hsz; have e4 := Nat.eq_of_beq_eq_true (hw m)
    have hww := hinv.own (Res.row a n cp T sz dss) (by simp)
    have hn0 : 0 < n := by have := (row_owns hww).2.1; have := (List.getElem?_eq_some_iff.1 hd).1; omega
    have ha := row_addr hww hn0
    generalize hB : ablk a = B at ha hx
    subst ha
    refine ol_rowstore (T := T) (css := dss) (cs := ds) (k := i.toNat) (j := j) (sz := sz) ho (hs.v1 hx) hoff h1 hz (by omega) (List.all_eq_true.2 h3) hd (by omega) ⟨l1, l2, rfl, rfl⟩ (fun κ' hk => ⟨.v undef, ρ', .v rfl, h5 κ' _ hk (.row hb ?_ ?_), h⟩) β hinv
    · intro d hd'
      rcases List.mem_or_eq_of_mem_set hd' with hd' | rfl
      · exact ho1 d hd'
      · exact splice_one (ho1 ds (List.mem_of_getElem? hd)) h3
    · rw [← map_set, hsp1]
      exact (hc.set (splice_rps hds h2)).mono hk
end

/-! ### Regions of drawn order -/
section
variable {n : Nat} {ops : Array Oper} {K : PPost} {o : Oper} {r : List (Nat × Oper)} {σ : PEnv} {ρd ρs : List PRes} {d f : Nat} {p : PV} {c : Bool} {l : List Operand} {ts : Array Nat} {pargs : List PV} {v : PV} {x : Operand}
theorem pwd_nil (h : K σ (ρd ++ ρs)) : PWD n ops K [] σ ρd ρs := fun β κ σ' rd rs g hs h1 h2 => wd_nil fun κ1 hk => ⟨σ, ρd ++ ρs, hs.mono hk, (h1.mono hk).app (h2.mono hk), h⟩
theorem pwd_q (hg : o.guard = none) (hd : o.dst = some d) (hlt : Nat.blt d n = true) (h : POpQ true o σ ρs p) (hw : PWD n ops K r (pupd σ d p) ρd ρs) : PWD n ops K ((0, o) :: r) σ ρd ρs := fun β κ σ' rd rs g hs h1 h2 => by
  obtain ⟨v, k1, k2⟩ := h κ σ' rs g hs h2
  exact wd_q hg hd hlt k2 (hw β κ _ rd rs g (hs.upd (k1 rfl)) h1 h2)
theorem pwd_qg (hg : PGuardIs ops σ o c) (hd : o.dst = some d) (hlt : Nat.blt d n = true) (h : POpQ c o σ ρs p) (hw : PWD n ops K r (pupd σ d (pgv c p)) ρd ρs) : PWD n ops K ((0, o) :: r) σ ρd ρs := fun β κ σ' rd rs g hs h1 h2 => by
  obtain ⟨v, k1, k2⟩ := h κ σ' rs g hs h2
  exact wd_qg (hg κ σ' hs) hd hlt k2 (hw β κ _ rd rs g (hs.upd (rp_gv k1)) h1 h2)
theorem OpL.framed {o : Oper} {σ : Env} {ρ ρf : List Res} {κ : Kr} {K : Value → List Res → Kr → Prop} (h : OpL o σ ρ κ K) : OpL o σ (ρ ++ ρf) κ fun v ρ' κ' => ∃ ρ1, ρ' = ρ1 ++ ρf ∧ K v ρ1 κ' := fun β hi Nx hk =>
  h.frame hi Nx fun v ρ' κ' h1 h2 h3 => hk v (ρ' ++ ρf) κ' h1 h2 ⟨ρ', rfl, h3⟩
theorem pwd_l (hg : o.guard = none) (hd : o.dst = some d) (hlt : Nat.blt d n = true) (h : POpL o σ ρd fun p ρ' => PWD n ops K r (pupd σ d p) ρ' ρs) : PWD n ops K ((1, o) :: r) σ ρd ρs := fun β κ σ' rd rs g hs h1 h2 =>
  wd_l hg hd hlt fun κ1 hk => ((h κ1 σ' rd (g.mono hk) (hs.mono hk) (h1.mono hk)).framed (ρf := rs)).mono fun v ρ' κ' hk' ⟨ρ1, e, pv, ρp, k1, k2, k3⟩ =>
    ⟨ρ1, e, k3 β κ' _ ρ1 rs ((g.mono hk).mono hk') (((hs.mono hk).mono hk').upd k1) k2 ((h2.mono hk).mono hk')⟩
theorem pwd_l0 (hg : o.guard = none) (hd : o.dst = none) (h : POpL o σ ρd fun _ ρ' => PWD n ops K r σ ρ' ρs) : PWD n ops K ((1, o) :: r) σ ρd ρs := fun β κ σ' rd rs g hs h1 h2 =>
  wd_l0 hg hd fun κ1 hk => ((h κ1 σ' rd (g.mono hk) (hs.mono hk) (h1.mono hk)).framed (ρf := rs)).mono fun v ρ' κ' hk' ⟨ρ1, e, pv, ρp, k1, k2, k3⟩ =>
    ⟨ρ1, e, k3 β κ' _ ρ1 rs ((g.mono hk).mono hk') ((hs.mono hk).mono hk') k2 ((h2.mono hk).mono hk')⟩
theorem pwd_call (hg : o.guard = none) (hd : o.dst = some d) (hlt : Nat.blt d n = true) (ho : o.op = .call { callee := .value (.func f), args := l.toArray, argTypes := ts }) (ha : l.map (pevc σ) = pargs) (hc : PF f pargs v) (h : PWD n ops K r (pupd σ d v) ρd ρs) : PWD n ops K ((1, o) :: r) σ ρd ρs :=
  pwd_l hg hd hlt (pl_call ho ha hc h)
theorem pwd_callv (hg : o.guard = none) (hd : o.dst = some d) (hlt : Nat.blt d n = true) (ho : o.op = .call { callee := .value x, args := l.toArray, argTypes := ts }) (ha : l.map (pevc σ) = pargs) (hc : PFV (pevc σ x) pargs v) (h : PWD n ops K r (pupd σ d v) ρd ρs) : PWD n ops K ((1, o) :: r) σ ρd ρs :=
  pwd_l hg hd hlt (pl_callv ho ha hc h)
theorem pwd_callg (hg : PGuardIs ops σ o c) (hd : o.dst = some d) (hlt : Nat.blt d n = true) (ho : o.op = .call { callee := .value (.func f), args := l.toArray, argTypes := ts }) (ha : c = true → l.map (pevc σ) = pargs) (hc : c = true → PF f pargs v) (h : PWD n ops K r (pupd σ d (pgv c v)) ρd ρs) : PWD n ops K ((1, o) :: r) σ ρd ρs := fun β κ σ' rd rs g hs h1 h2 =>
  wd_g (hg κ σ' hs) hd hlt fun κ1 hk => og_callP ho (fun _ => rfl) (fun hct => hc hct κ1 _ (g.mono hk) (by rw [← ha hct]; exact rps_args (hs.mono hk) l)) fun w κ' hk' hv => h β κ' _ rd rs ((g.mono hk).mono hk') (((hs.mono hk).mono hk').upd (rp_gv hv)) ((h1.mono hk).mono hk') ((h2.mono hk).mono hk')
theorem pwd_late {T : Nat} {cs : List PV} {mk : Nat → Value} (hlo : ∀ κ σ', Sim κ σ σ' → ∃ ds, Rps κ cs ds ∧ One ds ∧ LateRun o σ' T ds mk) (hok : ∀ b, okb (mk b) = true) (hd : o.dst = some d) (h : ∀ b, PWD n ops K r (pupd σ d (.v (mk b))) (.b b T cs :: ρd) ρs) : PWD n ops K ((2, o) :: r) σ ρd ρs := fun β κ σ' rd rs g hs h1 h2 => by
  obtain ⟨ds, k1, k2, k3⟩ := hlo κ σ' hs
  exact wd_late k3 hd fun b κ' hk => h b β κ' _ _ rs (g.mono hk) ((hs.mono hk).upd (.v (hok b))) (.cons (.b k2 (k1.mono hk)) (h1.mono hk)) (h2.mono hk)
theorem pwd_tell {T : Nat} {cs : List PV} {mk : Nat → Value} (hlo : ∀ κ σ', Sim κ σ σ' → ∃ ds, Rps κ cs ds ∧ One ds ∧ LateRun o σ' T ds mk) (h : PWD n ops K r σ ρd ρs) : PWD n ops K ((3, o) :: r) σ ρd ρs := fun β κ σ' rd rs g hs h1 h2 => by
  obtain ⟨ds, k1, k2, k3⟩ := hlo κ σ' hs
  exact wd_tell k3 (h β κ σ' rd rs g hs h1 h2)
theorem pwd_still {r0 : PRes} {ρd' : List PRes} (hp : PPick ρd r0 ρd') (h : PWD n ops K r σ ρd' (r0 :: ρs)) : PWD n ops K ((4, o) :: r) σ ρd ρs := fun β κ σ' rd rs g hs h1 h2 => by
  obtain ⟨r1, l', k1, k2, k3⟩ := h1.pick hp
  exact wd_still k1 (h β κ σ' l' (r1 :: rs) g hs k3 (.cons k2 h2))
end
/-! ### Small words for the walks that a program writes -/
theorem bind_some {α β : Type} {x : Option α} {f : α → Option β} {r : β} (h : x.bind f = some r) : ∃ a, x = some a ∧ f a = some r := by
  cases x with
  | none => cases h
  | some a => exact ⟨a, rfl, h⟩
theorem cond_t {α : Type} {b : Bool} {x y r : α} (hb : b = true) (h : cond b x y = r) : x = r := by subst hb; exact h
theorem cond_f {α : Type} {b : Bool} {x y r : α} (hb : b = false) (h : cond b x y = r) : y = r := by subst hb; exact h
def gd {α : Type} [Inhabited α] (c : Bool) (x : Option α) : Option α := cond c x (some default)
theorem gd_t {α : Type} [Inhabited α] {c : Bool} {x : Option α} {v : α} (h : gd c x = some v) (hc : c = true) : x = some v := by subst hc; exact h
def lb {α β : Type} (x : α) (f : α → Option β) : Option β := f x
theorem lb_some {α β : Type} {x : α} {f : α → Option β} {r : β} (h : lb x f = some r) : ∃ a, x = a ∧ f a = some r := ⟨x, rfl, h⟩
theorem lb_elim {α β : Type} {x : α} {f : α → Option β} {r : β} {P : Prop} (h : lb x f = some r) (k : ∀ a, x = a → f a = some r → P) : P := k x rfl h
theorem bind_elim {α β : Type} {x : Option α} {f : α → Option β} {r : β} {P : Prop} (h : x.bind f = some r) (k : ∀ a, x = some a → f a = some r → P) : P := by
  obtain ⟨a, h1, h2⟩ := bind_some h; exact k a h1 h2
def nz (b : Int) : Option Unit := if b = 0 then none else some ()
theorem nz_some {b : Int} {u : Unit} (h : nz b = some u) : b ≠ 0 := by unfold nz at h; split at h; cases h; assumption
def ge0 (b : Int) : Option Unit := if 0 ≤ b then some () else none
theorem ge0_some {b : Int} {u : Unit} (h : ge0 b = some u) : 0 ≤ b := by unfold ge0 at h; split at h; assumption; cases h
theorem perm_pick {ρ l m : List PRes} {r : PRes} (h : PPick ρ r l) (h2 : l.Perm m) : ρ.Perm (r :: m) := List.Perm.trans h (List.Perm.cons r h2)
def eI (x : Int) : List PV := [.v (.int .i64 x)]
def eU (x : Int) : List PV := [.v (.int .u64 x)]
def eB (x : Int) : List PV := [.v (.int .u8 x)]
def eT (x : Bool) : List PV := [.v (.bool x)]
def eS (x : ByteArray) : List PV := [.v (.string x)]
def eL {α : Type} (e : α → List PV) (xs : List α) : List PV := [.slc (xs.map e)]
end SX
end Go.Proofs.YtfcecieppoljlaaGreatDoor
