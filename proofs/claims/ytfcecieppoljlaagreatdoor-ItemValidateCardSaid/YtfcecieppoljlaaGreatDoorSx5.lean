/- Our calculus, fifth text: loops and cuts over named slots, returns, slices that are shared, slices of the call's own (make, append), composite values. No statement of the seat is proved here. -/
import Derived.Test.YtfcecieppoljlaaGreatDoorSx4
import Derived.Maps.AppendAt
set_option maxRecDepth 100000
namespace Go.Proofs.YtfcecieppoljlaaGreatDoor
namespace SX
open Go

/-! ### Named slots -/
def Holds (σ : Env) : List (Nat × Value) → Prop
  | [] => True
  | (d, v) :: l => σ d = v ∧ Holds σ l
theorem upds_self {σ : Env} : ∀ {L : List (Nat × Value)}, Holds σ L → upds σ L = σ
  | [], _ => rfl
  | (d, v) :: l, ⟨h1, h2⟩ => by rw [upds, upds_self h2, upd_self h1]
def Pick (ρ : List Res) (r : Res) (l : List Res) : Prop := ρ.Perm (r :: l)
theorem Pick.h {r : Res} {l : List Res} : Pick (r :: l) r l := List.Perm.refl _
theorem Pick.t {r s : Res} {l l' : List Res} (h : Pick l r l') : Pick (s :: l) r (s :: l') := (List.Perm.cons s h).trans (List.Perm.swap r s l')
def Sub (ρ' ρ : List Res) : Prop := ∃ l, ρ.Perm (ρ' ++ l)
theorem Sub.nil {ρ : List Res} : Sub [] ρ := ⟨ρ, List.Perm.refl _⟩
theorem Sub.refl {ρ : List Res} : Sub ρ ρ := ⟨[], by simp⟩
theorem Sub.cons {r : Res} {ρ ρ' l : List Res} (h : Pick ρ r l) (h' : Sub ρ' l) : Sub (r :: ρ') ρ := by
  obtain ⟨m, hm⟩ := h'
  exact ⟨m, h.trans (List.Perm.cons r hm)⟩
theorem Inv.subm {β : Base} {ρ ρ' : List Res} {κ : Kr} (h : Inv β ρ κ) (hs : Sub ρ' ρ) : Inv β ρ' κ := by
  obtain ⟨l, hl⟩ := hs
  exact (h.perm hl).sub (List.sublist_append_left _ _)

section
variable {β : Base} {n : Nat} {x y : Code} {K : Exit → Post} {σ : Env} {ρ : List Res} {κ : Kr} {X : Type}
theorem wc_sub {ρ' : List Res} (hs : Sub ρ' ρ) (h : WC β n x K σ ρ' κ) : WC β n x K σ ρ κ := fun hi => h (hi.subm hs)
theorem wc_keep (L : List (Nat × Value)) (hL : Holds σ L) (h : ∀ τ, WC β n x K (upds τ L) ρ κ) : WC β n x K σ ρ κ := by
  have := h σ; rwa [upds_self hL] at this
/-- An own block becomes shared. -/
theorem wc_pub {r : Res} {l : List Res} {b : Nat} (hp : Pick ρ r l) (hb : r.blk = some b) (h : ∀ κ', Kle κ κ' → κ'.S b → r.says κ'.w.heap[b]? → WC β n x K σ l κ') : WC β n x K σ ρ κ := fun hi a hr Q hq => by
  have hi2 := hi.perm hp
  obtain ⟨h1, h2⟩ := hi2.pub hb
  have hs := hi2.own r (by simp)
  unfold Res.holds at hs; rw [hb] at hs
  exact h _ h2 (.inr rfl) hs h1 a hr Q fun e a' σ' ρ' κ' g1 g2 g3 g4 => hq e a' σ' ρ' κ' g1 g2 (h2.trans g3) g4
def midK (L : X → List (Nat × Value)) (R : X → List Res) (J : X → Kr → Prop) (K : Exit → Post) : Exit → Post := fun e σ ρ κ => match e with
  | .normal => ∃ z, Holds σ (L z) ∧ Sub (R z) ρ ∧ J z κ
  | e => K e σ ρ κ
/-- A cut between two pieces of code. -/
theorem wc_cut (L : X → List (Nat × Value)) (R : X → List Res) (J : X → Kr → Prop) (h : WC β n x (midK L R J K) σ ρ κ) (h2 : ∀ z τ κ', Kle κ κ' → J z κ' → WC β n y K (upds τ (L z)) (R z) κ') : WC β n (.seq x y) K σ ρ κ :=
  wc_seq (wc_mono h fun e σ' ρ' κ' hk g => by
    cases e with
    | normal =>
      obtain ⟨z, h3, h4, h5⟩ := g
      exact wc_sub h4 (by have := h2 z σ' κ' hk h5; rwa [upds_self h3] at this)
    | _ => exact g)
theorem k_mid {L : X → List (Nat × Value)} {R : X → List Res} {J : X → Kr → Prop} (z : X) (h1 : Holds σ (L z)) (h2 : Sub (R z) ρ) (h3 : J z κ) : midK L R J K .normal σ ρ κ := ⟨z, h1, h2, h3⟩
theorem k_mid_ret {L : X → List (Nat × Value)} {R : X → List Res} {J : X → Kr → Prop} (h : K .ret σ ρ κ) : midK L R J K .ret σ ρ κ := h
theorem k_mid_exit {L : X → List (Nat × Value)} {R : X → List Res} {J : X → Kr → Prop} {id : Nat} (h : K (.exit id) σ ρ κ) : midK L R J K (.exit id) σ ρ κ := h
def loopK (L : X → List (Nat × Value)) (R : X → List Res) (J : X → Kr → Prop) (μ : X → Nat) (z : X) (K : Exit → Post) : Exit → Post := fun e σ ρ κ => match e with
  | .normal => ∃ z', Holds σ (L z') ∧ Sub (R z') ρ ∧ J z' κ ∧ μ z' < μ z
  | e => K e σ ρ κ
theorem wc_loopL (L : X → List (Nat × Value)) (R : X → List Res) (J : X → Kr → Prop) (μ : X → Nat) (z0 : X) (h1 : Holds σ (L z0)) (h2 : Sub (R z0) ρ) (h3 : J z0 κ)
    (round : ∀ z τ κ', Kle κ κ' → J z κ' → WC β n x (loopK L R J μ z K) (upds τ (L z)) (R z) κ') : WC β n (.loop x) K σ ρ κ :=
  wc_loop (fun z σ' ρ' κ' => Holds σ' (L z) ∧ Sub (R z) ρ' ∧ J z κ') μ z0 ⟨h1, h2, h3⟩ fun z σ' ρ' κ' hk ⟨g1, g2, g3⟩ =>
    wc_sub g2 (by
      have h := round z σ' κ' hk g3
      rw [upds_self g1] at h
      refine wc_mono h fun e σ'' ρ'' κ'' _ g => ?_
      cases e with
      | normal => obtain ⟨z', k1, k2, k3, k4⟩ := g; exact ⟨z', ⟨k1, k2, k3⟩, k4⟩
      | _ => exact g)
theorem k_loop {L : X → List (Nat × Value)} {R : X → List Res} {J : X → Kr → Prop} {μ : X → Nat} {z : X} (z' : X) (h1 : Holds σ (L z')) (h2 : Sub (R z') ρ) (h3 : J z' κ) (h4 : μ z' < μ z) : loopK L R J μ z K .normal σ ρ κ := ⟨z', h1, h2, h3, h4⟩
theorem k_loop_ret {L : X → List (Nat × Value)} {R : X → List Res} {J : X → Kr → Prop} {μ : X → Nat} {z : X} (h : K .ret σ ρ κ) : loopK L R J μ z K .ret σ ρ κ := h
theorem k_loop_exit {L : X → List (Nat × Value)} {R : X → List Res} {J : X → Kr → Prop} {μ : X → Nat} {z : X} {id : Nat} (h : K (.exit id) σ ρ κ) : loopK L R J μ z K (.exit id) σ ρ κ := h
end

/-! ### Returns -/
section
variable {σ : Env} {ρ : List Res} {κ : Kr} {R : Value → List Res → Kr → Prop}
theorem ret_of {rs : List ResultVar} {v : Value} {ρ' : List Res} {κ' : Kr} (hv : RV rs σ ρ v) (hs : Shift ρ κ ρ' κ') (h : R v ρ' κ') : retK rs R .ret σ ρ κ := fun _ _ => ⟨v, ρ', κ', hv, hs, h⟩
theorem ret_ofN {rs : List ResultVar} {v : Value} {ρ' : List Res} {κ' : Kr} (hv : RV rs σ ρ v) (hs : Shift ρ κ ρ' κ') (h : R v ρ' κ') : retK rs R .normal σ ρ κ := fun _ _ => ⟨v, ρ', κ', hv, hs, h⟩
theorem rv_t {t : Nat} {v : Value} (h : σ t = v) : RV [.tmp t] σ ρ v := h
theorem rv_tt {t u : Nat} {v1 v2 : Value} (h1 : σ t = v1) (h2 : σ u = v2) : RV [.tmp t, .tmp u] σ ρ (.tuple #[v1, v2]) := ⟨v1, v2, h1, h2, rfl⟩
theorem rv_1 {r : ResultVar} {v : Value} (h : RV1 r σ ρ v) : RV [r] σ ρ v := h
theorem rv_2 {r s : ResultVar} {v1 v2 : Value} (h1 : RV1 r σ ρ v1) (h2 : RV1 s σ ρ v2) : RV [r, s] σ ρ (.tuple #[v1, v2]) := ⟨v1, v2, h1, h2, rfl⟩
theorem rv_3 {r s t : ResultVar} {v1 v2 v3 : Value} (h1 : RV1 r σ ρ v1) (h2 : RV1 s σ ρ v2) (h3 : RV1 t σ ρ v3) : RV [r, s, t] σ ρ (.tuple #[v1, v2, v3]) := ⟨v1, v2, v3, h1, h2, h3, rfl⟩
theorem rv1_t {t : Nat} {v : Value} (h : σ t = v) : RV1 (.tmp t) σ ρ v := h
theorem Shift.sub {ρ' : List Res} (h : Sub ρ' ρ) : Shift ρ κ ρ' κ := ⟨rfl, fun _ hi => ⟨hi.subm h, .refl _⟩⟩
end

/-! ### Shared slices -/
/-- The slice (a, n, c), elements of sz cells, reads css; all of it is shared. -/
structure Sl (κ : Kr) (a : Option Addr) (n c sz : Nat) (css : List (List Value)) : Prop where
  len : css.length = n
  cap : n ≤ c
  wid : ∀ cs ∈ css, cs.length = sz
  at_ : 0 < n → ∃ b off, a = some ⟨b, off, none⟩ ∧ ∀ j cs, css[j]? = some cs → Sh κ b (off + j * sz) cs
theorem Sl.mono {κ κ' : Kr} {a : Option Addr} {n c sz : Nat} {css : List (List Value)} (h : Sl κ a n c sz css) (k : Kle κ κ') : Sl κ' a n c sz css :=
  ⟨h.len, h.cap, h.wid, fun hn => by obtain ⟨b, off, h1, h2⟩ := h.at_ hn; exact ⟨b, off, h1, fun j cs hj => (h2 j cs hj).mono k⟩⟩
theorem Sl.get {κ : Kr} {a : Option Addr} {n c sz k : Nat} {css : List (List Value)} (h : Sl κ a n c sz css) (hk : k < n) : ∃ b off cs, a = some ⟨b, off, none⟩ ∧ css[k]? = some cs ∧ cs.length = sz ∧ Sh κ b (off + k * sz) cs := by
  obtain ⟨b, off, h1, h2⟩ := h.at_ (by omega)
  have hl : k < css.length := by have := h.len; omega
  exact ⟨b, off, css[k], h1, List.getElem?_eq_getElem hl, h.wid _ (List.getElem_mem hl), h2 k _ (List.getElem?_eq_getElem hl)⟩
theorem flatten_get {sz : Nat} : ∀ {css : List (List Value)}, (∀ cs ∈ css, cs.length = sz) → ∀ {j i : Nat} {cs : List Value}, css[j]? = some cs → i < sz → css.flatten[j * sz + i]? = cs[i]?
  | [], _, j, i, cs, h, _ => by simp at h
  | c :: css, hw, 0, i, cs, h, hi => by
    simp only [List.getElem?_cons_zero, Option.some.injEq] at h; subst h
    have := hw c (by simp)
    rw [Nat.zero_mul, Nat.zero_add, List.flatten_cons, List.getElem?_append_left (by omega)]
  | c :: css, hw, j + 1, i, cs, h, hi => by
    have hc := hw c (by simp)
    have e : (j + 1) * sz + i = c.length + (j * sz + i) := by rw [hc, Nat.add_mul]; omega
    rw [e, List.flatten_cons, List.getElem?_append_right (by omega), Nat.add_sub_cancel_left]
    exact flatten_get (fun cs hcs => hw cs (by simp [hcs])) (by simpa using h) hi
theorem flatten_len {sz : Nat} {css : List (List Value)} (hw : ∀ cs ∈ css, cs.length = sz) : css.flatten.length = css.length * sz := by
  induction css with
  | nil => simp
  | cons c css ih => rw [List.flatten_cons, List.length_append, ih (fun cs h => hw cs (by simp [h])), hw c (by simp), List.length_cons, Nat.add_mul]; omega

/-- What can be read as the source of an append or a copy. -/
structure Rd (ρ : List Res) (κ : Kr) (a : Option Addr) (m sz : Nat) (css : List (List Value)) : Prop where
  len : css.length = m
  wid : ∀ cs ∈ css, cs.length = sz
  at_ : 0 < m → ∃ ad, a = some ad ∧ ∀ w, Stab ρ κ w → ∀ j u, css.flatten[j]? = some u → w.cell? (ad.add j) = some u
theorem rd_sl {ρ : List Res} {κ : Kr} {a : Option Addr} {n c sz : Nat} {css : List (List Value)} (h : Sl κ a n c sz css) : Rd ρ κ a n sz css :=
  ⟨h.len, h.wid, fun hn => by
    obtain ⟨b, off, h1, h2⟩ := h.at_ hn
    refine ⟨_, h1, fun w hs j u hu => ?_⟩
    have hj : j < css.flatten.length := by rcases Nat.lt_or_ge j css.flatten.length with h | h; exact h; rw [List.getElem?_eq_none h] at hu; cases hu
    rw [flatten_len h.wid] at hj
    have hsz : 0 < sz := by rcases Nat.eq_zero_or_pos sz with h | h; (rw [h] at hj; omega); exact h
    have hq : j / sz < css.length := Nat.div_lt_of_lt_mul (by rwa [Nat.mul_comm] at hj)
    have hm : j % sz < sz := Nat.mod_lt _ hsz
    have hd : j / sz * sz + j % sz = j := by have := Nat.div_add_mod j sz; rw [Nat.mul_comm] at this; exact this
    have hg := flatten_get h.wid (List.getElem?_eq_getElem hq) hm
    rw [hd, hu] at hg
    have hsh := h2 _ _ (List.getElem?_eq_getElem hq)
    have := hsh.2 _ _ hg.symm
    rw [add_none]
    unfold World.cell? at *
    rw [hs.keep b hsh.1, ← hd, ← Nat.add_assoc]; exact this⟩
theorem rd_b {ρ : List Res} {κ : Kr} {b T sz : Nat} {cs : List Value} {css : List (List Value)} {m : Nat} (hm : Res.b b T cs ∈ ρ) (hl : css.length = m) (hw : ∀ cs ∈ css, cs.length = sz) (hf : css.flatten = cs) : Rd ρ κ (some ⟨b, 0, none⟩) m sz css :=
  ⟨hl, hw, fun _ => ⟨_, rfl, fun w hs j u hu => by
    have hb : w.heap[b]? = some (.cells cs.toArray T (0, 0)) := hs.own _ hm
    rw [add_none, Nat.zero_add, cell_of_cells hb, ← hf]; exact hu⟩⟩

/-! ### Slices of the call's own -/
def Res.row (a : Option Addr) (n c T sz : Nat) (css : List (List Value)) : Res := match a with
  | none => ⟨none, fun _ => n = 0 ∧ c = 0 ∧ css = []⟩
  | some ad => ⟨some ad.block, fun o => ad = ⟨ad.block, 0, none⟩ ∧ css.length = n ∧ (∀ cs ∈ css, cs.length = sz) ∧ n ≤ c ∧ c ≤ maxLen ∧ ∃ cur, o = some (.cells cur T (0, 0)) ∧ cur.size = c * sz ∧ cur.toList.take (n * sz) = css.flatten⟩
theorem row_owns {a : Option Addr} {n c T sz : Nat} {css : List (List Value)} {w : World} (h : (Res.row a n c T sz css).holds w) : w.ownsRow 0 T sz (.slice a n c) n css.flatten ∧ css.length = n ∧ (∀ cs ∈ css, cs.length = sz) := by
  cases a with
  | none => obtain ⟨rfl, rfl, rfl⟩ := h; exact ⟨⟨by simp, .inl ⟨rfl, rfl⟩⟩, rfl, by simp⟩
  | some ad =>
    obtain ⟨h1, h2, h3, h4, h5, cur, h6, h7, h8⟩ := h
    have hl : css.flatten.length = n * sz := by rw [flatten_len h3, h2]
    exact ⟨⟨hl, .inr ⟨ad.block, c, cur, by rw [h1], Nat.zero_le _, h6, h4, h5, h7, h8⟩⟩, h2, h3⟩
theorem owns_row {v : Value} {n T sz : Nat} {css : List (List Value)} {w : World} (hl : css.length = n) (hw : ∀ cs ∈ css, cs.length = sz) (h : w.ownsRow 0 T sz v n css.flatten) : ∃ a c, v = .slice a n c ∧ (Res.row a n c T sz css).holds w ∧ (Res.row a n c T sz css).blk = v.ownBlock := by
  rcases h.2 with ⟨rfl, rfl⟩ | ⟨g, cap, cur, rfl, _, h1, h2, h3, h4, h5⟩
  · exact ⟨none, 0, rfl, ⟨rfl, rfl, List.eq_nil_of_length_eq_zero hl⟩, rfl⟩
  · exact ⟨some ⟨g, 0, none⟩, cap, rfl, ⟨rfl, hl, hw, h2, h3, cur, h1, h4, h5⟩, rfl⟩
theorem Inv.grow {β : Base} {r r' : Res} {l : List Res} {κ : Kr} {w' : World} (h : Inv β (r :: l) κ) (hg : κ.w.grownBy w' r.blk) (hb : r'.blk = none ∨ r'.blk = r.blk ∨ r'.blk = some κ.w.heap.size) (hs : r'.holds w') (hlt : ∀ b, r'.blk = some b → b < w'.heap.size) :
    Inv β (r' :: l) ⟨w', κ.S⟩ ∧ Kle κ ⟨w', κ.S⟩ := by
  obtain ⟨hle, hfin, hown, hblk, hnd⟩ := h
  have hother : ∀ i, i < κ.w.heap.size → r.blk ≠ some i → w'.heap[i]? = κ.w.heap[i]? := fun i hi hne => hg.block i hi (fun e => hne e.symm)
  have hr := hblk r (by simp)
  have hk : Kle κ ⟨w', κ.S⟩ := ⟨hg.size, fun _ h => h, fun i hi => hother i (hfin i hi) fun e => (hr i e).2.1 hi⟩
  have hr' : ∀ b, r'.blk = some b → (r.blk = some b ∨ κ.w.heap.size = b) := fun b e => by
    rcases hb with h | h | h
    · rw [h] at e; cases e
    · rw [h] at e; exact .inl e
    · rw [h] at e; injection e with e; exact .inr e
  refine ⟨⟨⟨hle.kle.trans hk, fun i hi hm => (hother i (Nat.lt_of_lt_of_le hi hle.kle.size) fun e => ?_).trans (hle.same i hi hm), hle.shNew, hg.os.trans hle.os, hg.tape.trans hle.tape, hg.output.trans hle.output⟩, fun i hi => Nat.lt_of_lt_of_le (hfin i hi) hg.size, ?_, ?_, ?_⟩, hk⟩
  · exact (hr i e).2.2.elim (fun h => absurd hi (by omega)) hm
  · intro s hs'
    rcases List.mem_cons.1 hs' with rfl | hs'
    · exact hs
    · exact Res.holds_of (hown s (List.mem_cons_of_mem _ hs')) fun i hi => hother i (hblk s (List.mem_cons_of_mem _ hs') i hi).1 fun e => (List.pairwise_cons.1 hnd).1 s hs' i e hi
  · intro s hs' i hi
    rcases List.mem_cons.1 hs' with rfl | hs'
    · refine ⟨hlt i hi, fun hS => ?_, ?_⟩
      · rcases hr' i hi with h | h
        · exact (hr i h).2.1 hS
        · exact absurd (hfin i hS) (by omega)
      · rcases hr' i hi with h | h
        · exact (hr i h).2.2
        · exact .inl (by have := hle.kle.size; omega)
    · obtain ⟨h1, h2, h3⟩ := hblk s (List.mem_cons_of_mem _ hs') i hi
      exact ⟨Nat.lt_of_lt_of_le h1 hg.size, h2, h3⟩
  · refine List.Pairwise.cons (fun s hs' i hi hi' => ?_) (List.pairwise_cons.1 hnd).2
    rcases hr' i hi with h | h
    · exact (List.pairwise_cons.1 hnd).1 s hs' i h hi'
    · have := (hblk s (List.mem_cons_of_mem _ hs') i hi').1; omega
theorem Inv.nilrow {β : Base} {ρ : List Res} {κ : Kr} (h : Inv β ρ κ) (T sz : Nat) : Inv β (Res.row none 0 0 T sz [] :: ρ) κ :=
  ⟨h.le, h.fin, fun r hr => by rcases List.mem_cons.1 hr with rfl | hr; exact ⟨rfl, rfl, rfl⟩; exact h.own r hr, fun r hr => by rcases List.mem_cons.1 hr with rfl | hr; (intro b hb; cases hb); exact h.blk r hr, List.Pairwise.cons (fun _ _ b hb => by cases hb) h.nd⟩

section
variable {β : Base} {o : Oper} {σ : Env} {ρ : List Res} {κ : Kr} {K : Value → List Res → Kr → Prop}
theorem wc_nilrow {n : Nat} {x : Code} {K : Exit → Post} (T sz : Nat) (h : WC β n x K σ (Res.row none 0 0 T sz [] :: ρ) κ) : WC β n x K σ ρ κ := fun hi => h (hi.nilrow T sz)
theorem heap_some_lt {w : World} {b : Nat} {o : Obj} (h : w.heap[b]? = some o) : b < w.heap.size := by
  rcases Nat.lt_or_ge b w.heap.size with h' | h'
  · exact h'
  · rw [Array.getElem?_eq_none h'] at h; cases h
theorem row_lt {a : Option Addr} {n c T sz : Nat} {css : List (List Value)} {w : World} (h : (Res.row a n c T sz css).holds w) (b : Nat) (hb : (Res.row a n c T sz css).blk = some b) : b < w.heap.size := by
  cases a with
  | none => cases hb
  | some ad =>
    obtain ⟨h1, h2, h3, h4, h5, cur, h6, h7, h8⟩ := h
    injection hb with hb; subst hb
    exact heap_some_lt h6
theorem run_append_none {t ty T : Nat} {a : Option Addr} {n c c2 : Nat} {z : Value} {sz by' : Nat} (hu : und t = some (.slice T)) (hi : inf T = some (z, sz, by')) (hc : n ≤ c) (w : World) : (Builtin.append_ #[t, t] ty #[.slice a n c, .slice none 0 c2]).run Tryz.prog w = .ok (.slice a n c) w := by
  have hnc : n + 0 ≤ c := by omega
  cases a <;> simp [Builtin.append_, run_underlying (und_ok hu), run_sizeOf hi, Builtin.lenOf, Builtin.firstCells, hc, storeCells]
/-- append onto a slice of the call's own. -/
theorem ol_append {s x : Operand} {t T : Nat} {a a2 : Option Addr} {n c m c2 sz by' : Nat} {z : Value} {css css2 : List (List Value)} {l : List Res}
    (ho : o.op = .call { callee := .builtin .append, args := #[s, x], argTypes := #[t, t] }) (hu : und t = some (.slice T)) (hi : inf T = some (z, sz, by')) (hz : Nat.beq z.cells.size sz = true) (h0 : Nat.blt 0 sz = true)
    (hs : ev σ s = .slice a n c) (hx : ev σ x = .slice a2 m c2) (hp : Pick ρ (Res.row a n c T sz css) l) (hr : Rd ρ κ a2 m sz css2) (h1 : ∀ cs ∈ css2, ∀ u ∈ cs, u.oneCell' = true)
    (hb : (n + m) * by' ≤ 140737488355328 ∧ n + m ≤ 140737488355328) (h : ∀ a' c' κ', Kle κ κ' → K (.slice a' (n + m) c') (Res.row a' (n + m) c' T sz (css ++ css2) :: l) κ') : OpL o σ ρ κ K := fun β hinv Nx hk => by
  have hi2 := hinv.perm hp
  have hrow := hi2.own _ (List.mem_cons_self)
  obtain ⟨hown, hl1, hw1⟩ := row_owns hrow
  obtain ⟨i, hinf, hz0, hsz, hby⟩ := inf_get hi
  have hsz0 : 0 < sz := by have h := h0; simp [Nat.blt] at h; omega
  have hcl : (css ++ css2).length = n + m := by rw [List.length_append, hl1, hr.len]
  have hcw : ∀ cs ∈ css ++ css2, cs.length = sz := fun cs hcs => (List.mem_append.1 hcs).elim (hw1 cs) (hr.wid cs)
  have key : ∃ v' w', (Builtin.append_ #[t, t] o.type #[.slice a n c, .slice a2 m c2]).run Tryz.prog κ.w = .ok v' w' ∧ w'.ownsRow 0 T sz v' (n + m) (css ++ css2).flatten ∧ κ.w.grownBy w' (Value.slice a n c).ownBlock ∧ (v'.ownBlock = (Value.slice a n c).ownBlock ∨ v'.ownBlock = some κ.w.heap.size) := by
    rw [List.flatten_append]
    cases a2 with
    | none =>
      have hm0 : m = 0 := by
        rcases Nat.eq_zero_or_pos m with h | h
        · exact h
        · obtain ⟨ad, e, _⟩ := hr.at_ h; cases e
      subst hm0
      have hc2 : css2 = [] := List.eq_nil_of_length_eq_zero hr.len
      subst hc2
      have hnc : n ≤ c := by
        rcases hown.2 with ⟨e, rfl⟩ | ⟨g, cap, cur, e, _, _, e2, _⟩
        · omega
        · injection e with _ _ e; omega
      exact ⟨_, κ.w, run_append_none hu hi hnc κ.w, by simpa using hown, World.grownBy.refl _ _, .inl rfl⟩
    | some ad =>
      have hnews : ∀ j u, css2.flatten[j]? = some u → κ.w.cell? (ad.add j) = some u := fun j u hu' => by
        rcases Nat.eq_zero_or_pos m with h | h
        · have hc2 : css2 = [] := List.eq_nil_of_length_eq_zero (by rw [hr.len, h])
          subst hc2; simp at hu'
        · obtain ⟨ad', e, hcell⟩ := hr.at_ h
          injection e with e; subst e
          exact hcell _ hinv.stab j u hu'
      obtain ⟨v', w', g1, g2, g3, _, g5⟩ := run_append_own_at (P := Tryz.prog) κ.w 0 t o.type T i z sz by' (und_ok hu) hinf hz0 hsz hby (Nat.eq_of_beq_eq_true hz) hsz0 (.slice a n c) n css.flatten hown ad m c2 css2.flatten (by rw [flatten_len hr.wid, hr.len]) hnews (fun u hu' => by obtain ⟨cs, h3, h4⟩ := List.mem_flatten.1 hu'; exact h1 cs h3 u h4) (by have := hb.2; unfold maxLen; omega) hb.1 (Nat.zero_le _)
      exact ⟨v', w', g1, g2, g3, g5⟩
  obtain ⟨v', w', g1, g2, g3, g4⟩ := key
  obtain ⟨a', c', rfl, k1, k2⟩ := owns_row hcl hcw g2
  have hblk : (Res.row a n c T sz css).blk = (Value.slice a n c).ownBlock := by cases a <;> rfl
  obtain ⟨hi3, hk3⟩ := hi2.grow (r' := Res.row a' (n + m) c' T sz (css ++ css2)) (by rw [hblk]; exact g3) (by rw [hblk, k2]; exact .inr g4) k1 (row_lt k1)
  unfold execOp
  simp only [ho, resolve, invoke, builtin, Sem.run_bind, Sem.run_pure, Result.andThen_ok, List.map_toArray, List.map_cons, List.map_nil, hs, hx, g1, OutV]
  exact hk _ _ _ hi3 hk3 (h _ _ _ hk3)
end
end SX
end Go.Proofs.YtfcecieppoljlaaGreatDoor
