/- Our calculus, eighth text: small helpers for walks. No statement of the seat is proved here. -/
import Derived.Test.YtfcecieppoljlaaGreatDoorSx7
set_option maxRecDepth 100000
namespace Go.Proofs.YtfcecieppoljlaaGreatDoor
namespace SX
open Go
section
variable {β : Base} {n : Nat} {x y : Code} {K : Exit → Post} {σ : Env} {ρ : List Res} {κ : Kr} {c : Operand}
theorem wc_dec {P : Prop} [Decidable P] (hc : ev σ c = .bool (decide P)) (ht : P → WC β n x K σ ρ κ) (hf : ¬ P → WC β n y K σ ρ κ) : WC β n (.cond c x y) K σ ρ κ :=
  wc_cond hc (fun h => ht (of_decide_eq_true h)) (fun h => hf (of_decide_eq_false h))
theorem wc_ndec {P : Prop} [Decidable P] (hc : ev σ c = .bool (!decide P)) (ht : ¬ P → WC β n x K σ ρ κ) (hf : P → WC β n y K σ ρ κ) : WC β n (.cond c x y) K σ ρ κ :=
  wc_cond hc (fun h => ht (by simpa using h)) (fun h => hf (by simpa using h))
theorem Sl.take {κ : Kr} {a : Option Addr} {n c sz m : Nat} {css : List (List Value)} (h : Sl κ a n c sz css) (hm : m ≤ n) : Sl κ a m c sz (css.take m) :=
  ⟨by rw [List.length_take, h.len]; omega, Nat.le_trans hm h.cap, fun cs hcs => h.wid cs (List.mem_of_mem_take hcs), fun h0 => by
    obtain ⟨b, off, h1, h2⟩ := h.at_ (by omega)
    exact ⟨b, off, h1, fun j cs hj => h2 j cs (by rw [List.getElem?_take] at hj; split at hj; exact hj; cases hj)⟩⟩
theorem Sl.nil {κ : Kr} {sz : Nat} : Sl κ none 0 0 sz [] := ⟨rfl, Nat.le_refl _, by simp, fun h => absurd h (by omega)⟩
/-- Slices of one cell an element. -/
def ints (xs : List Int) : List (List Value) := xs.map fun x => [.int .i64 x]
def strs (xs : List ByteArray) : List (List Value) := xs.map fun x => [.string x]
theorem ints_get {xs : List Int} {k : Nat} {cs : List Value} (h : (ints xs)[k]? = some cs) : ∃ x, xs[k]? = some x ∧ cs = [.int .i64 x] := by
  simp only [ints, List.getElem?_map] at h
  cases hx : xs[k]? with
  | none => rw [hx] at h; cases h
  | some x => rw [hx] at h; simp at h; exact ⟨x, rfl, h.symm⟩
theorem strs_get {xs : List ByteArray} {k : Nat} {cs : List Value} (h : (strs xs)[k]? = some cs) : ∃ x, xs[k]? = some x ∧ cs = [.string x] := by
  simp only [strs, List.getElem?_map] at h
  cases hx : xs[k]? with
  | none => rw [hx] at h; cases h
  | some x => rw [hx] at h; simp at h; exact ⟨x, rfl, h.symm⟩
theorem ints_take (xs : List Int) (m : Nat) : (ints xs).take m = ints (xs.take m) := by simp [ints, List.map_take]
theorem Sl.int {κ : Kr} {a : Option Addr} {n c k : Nat} {xs : List Int} (h : Sl κ a n c 1 (ints xs)) (hk : k < n) : ∃ b off x, a = some ⟨b, off, none⟩ ∧ xs[k]? = some x ∧ Sh κ b (off + k * 1) [.int .i64 x] := by
  obtain ⟨b, off, cs, h1, h2, _, h4⟩ := h.get hk
  obtain ⟨x, h5, rfl⟩ := ints_get h2
  exact ⟨b, off, x, h1, h5, h4⟩
theorem Sl.str {κ : Kr} {a : Option Addr} {n c k : Nat} {xs : List ByteArray} (h : Sl κ a n c 1 (strs xs)) (hk : k < n) : ∃ b off x, a = some ⟨b, off, none⟩ ∧ xs[k]? = some x ∧ Sh κ b (off + k * 1) [.string x] := by
  obtain ⟨b, off, cs, h1, h2, _, h4⟩ := h.get hk
  obtain ⟨x, h5, rfl⟩ := strs_get h2
  exact ⟨b, off, x, h1, h5, h4⟩
theorem Sl.len_int {κ : Kr} {a : Option Addr} {n c : Nat} {xs : List Int} (h : Sl κ a n c 1 (ints xs)) : xs.length = n := by have := h.len; simpa [ints] using this
theorem Sl.len_str {κ : Kr} {a : Option Addr} {n c : Nat} {xs : List ByteArray} (h : Sl κ a n c 1 (strs xs)) : xs.length = n := by have := h.len; simpa [strs] using this
/-- A cut behind a piece of code. -/
theorem wc_join {X : Type} (L : X → List (Nat × Value)) (R : X → List Res) (J : X → Kr → Prop) (h : WC β n x (midK L R J K) σ ρ κ) (h2 : ∀ z τ κ', Kle κ κ' → J z κ' → WC β n y K (upds τ (L z)) (R z) κ') : WC β n x (seqK β n y K) σ ρ κ :=
  wc_mono h fun e σ' ρ' κ' hk g => by
    cases e with
    | normal =>
      obtain ⟨z, h3, h4, h5⟩ := g
      exact wc_sub h4 (by have := h2 z σ' κ' hk h5; rwa [upds_self h3] at this)
    | _ => exact g
theorem Holds.nil : Holds σ [] := trivial
theorem Holds.cons {d : Nat} {v : Value} {l : List (Nat × Value)} (h : σ d = v) (h' : Holds σ l) : Holds σ ((d, v) :: l) := ⟨h, h'⟩
theorem Pick.perm {ρ l : List Res} {r : Res} (h : Pick ρ r l) : ρ.Perm ([r] ++ l) := h
/-- Another view of the same block. -/
theorem Inv.view {l : List Res} {r r' : Res} (h : Inv β ρ κ) (hp : Pick ρ r l) (hb : r'.blk = r.blk) (hs : ∀ o, r.says o → r'.says o) : Inv β (r' :: l) κ := by
  have h2 := h.perm hp
  refine ⟨h2.le, h2.fin, fun s hs' => ?_, fun s hs' b hb' => ?_, List.Pairwise.cons (fun s hs' b hb' => ?_) (List.pairwise_cons.1 h2.nd).2⟩
  · rcases List.mem_cons.1 hs' with rfl | hs'
    · have := h2.own r (by simp); unfold Res.holds at *; rw [hb]; cases e : r.blk <;> rw [e] at this <;> exact hs _ this
    · exact h2.own s (by simp [hs'])
  · rcases List.mem_cons.1 hs' with rfl | hs'
    · exact h2.blk r (by simp) b (hb ▸ hb')
    · exact h2.blk s (by simp [hs']) b hb'
  · exact (List.pairwise_cons.1 h2.nd).1 s hs' b (hb ▸ hb')
theorem wc_view {l : List Res} {r r' : Res} (hp : Pick ρ r l) (hb : r'.blk = r.blk) (hs : ∀ o, r.says o → r'.says o) (h : WC β n x K σ (r' :: l) κ) : WC β n x K σ ρ κ := fun hi => h (hi.view hp hb hs)
theorem wl_view {ops : Array Oper} {lo : List Oper} {K : Post} {l : List Res} {r r' : Res} (hp : Pick ρ r l) (hb : r'.blk = r.blk) (hs : ∀ o, r.says o → r'.says o) (h : WL β n ops lo K σ (r' :: l) κ) : WL β n ops lo K σ ρ κ := fun hi => h (hi.view hp hb hs)
theorem row_of_b {b T sz m : Nat} {cs : List Value} {css : List (List Value)} (hf : css.flatten = cs) (hl : css.length = m) (hw : ∀ c ∈ css, c.length = sz) (hm : m ≤ 140737488355328) : ∀ o, (Res.b b T cs).says o → (Res.row (some ⟨b, 0, none⟩) m m T sz css).says o := fun o h => by
  have ho : o = some (.cells cs.toArray T (0, 0)) := h
  refine ⟨rfl, hl, hw, Nat.le_refl _, by unfold maxLen; omega, cs.toArray, ho, ?_, ?_⟩
  · have := flatten_len hw; rw [hf, hl] at this; simpa using this
  · have := flatten_len hw; rw [hf, hl] at this; rw [hf, ← this]; simp
theorem wc_row {l : List Res} {b T sz m : Nat} {cs : List Value} (css : List (List Value)) (hp : Pick ρ (Res.b b T cs) l) (hf : css.flatten = cs) (hl : css.length = m) (hw : ∀ c ∈ css, c.length = sz) (hm : m ≤ 140737488355328) (h : WC β n x K σ (Res.row (some ⟨b, 0, none⟩) m m T sz css :: l) κ) : WC β n x K σ ρ κ := wc_view (r' := Res.row (some ⟨b, 0, none⟩) m m T sz css) hp rfl (row_of_b hf hl hw hm) h
theorem wl_row {ops : Array Oper} {lo : List Oper} {K : Post} {l : List Res} {b T sz m : Nat} {cs : List Value} (css : List (List Value)) (hp : Pick ρ (Res.b b T cs) l) (hf : css.flatten = cs) (hl : css.length = m) (hw : ∀ c ∈ css, c.length = sz) (hm : m ≤ 140737488355328) (h : WL β n ops lo K σ (Res.row (some ⟨b, 0, none⟩) m m T sz css :: l) κ) : WL β n ops lo K σ ρ κ := wl_view (r' := Res.row (some ⟨b, 0, none⟩) m m T sz css) hp rfl (row_of_b hf hl hw hm) h
/-- What an own slice reads. -/
theorem rd_row {a : Option Addr} {m c' T sz : Nat} {css : List (List Value)} (hm : Res.row a m c' T sz css ∈ ρ) (ha : 0 < m → a ≠ none) (hl : css.length = m) (hw : ∀ c ∈ css, c.length = sz) : Rd ρ κ a m sz css :=
  ⟨hl, hw, fun h0 => by
    cases a with
    | none => exact absurd rfl (ha h0)
    | some ad => exact ⟨ad, rfl, fun w hs j u hu => by
        obtain ⟨h1, h2, h3, h4, h5, cur, h6, h7, h8⟩ : (Res.row (some ad) m c' T sz css).holds w := hs.own _ hm
        have hj : j < css.flatten.length := by rcases Nat.lt_or_ge j css.flatten.length with h | h; exact h; rw [List.getElem?_eq_none h] at hu; cases hu
        rw [flatten_len h3, h2] at hj
        rw [h1, add_none, Nat.zero_add]
        have hc2 : w.cell? ⟨ad.block, j, none⟩ = cur.toList[j]? := by simp [World.cell?, h6]
        rw [hc2]
        rw [← h8, List.getElem?_take, if_pos hj] at hu; exact hu⟩⟩
/-- What the resources say. -/
theorem wc_fact {P : Prop} (hf : ∀ β, Inv β ρ κ → P) (h : P → WC β n x K σ ρ κ) : WC β n x K σ ρ κ := fun hi => h (hf β hi) hi
theorem wl_fact {P : Prop} {ops : Array Oper} {lo : List Oper} {K : Post} (hf : ∀ β, Inv β ρ κ → P) (h : P → WL β n ops lo K σ ρ κ) : WL β n ops lo K σ ρ κ := fun hi => h (hf β hi) hi
theorem row_some {a : Option Addr} {m c' T sz : Nat} {css : List (List Value)} (hm : Res.row a m c' T sz css ∈ ρ) : ∀ β, Inv β ρ κ → (css.length = m ∧ m ≤ c') ∧ (0 < m → ∃ b, a = some ⟨b, 0, none⟩) := fun β hi => by
  have h := hi.own _ hm
  cases a with
  | none => obtain ⟨rfl, rfl, rfl⟩ := h; exact ⟨⟨rfl, Nat.le_refl _⟩, fun h => absurd h (by omega)⟩
  | some ad => obtain ⟨h1, h2, h3, h4, h5, cur, h6, h7, h8⟩ := h; exact ⟨⟨h2, h4⟩, fun _ => ⟨ad.block, by rw [h1]⟩⟩
/-! What was own and is now shared. -/
theorem sh_pub {b T : Nat} {cs : List Value} (hS : κ.S b) (h : (Res.b b T cs).says κ.w.heap[b]?) : Sh κ b 0 cs := ⟨hS, fun j u hu => by
  have hb : κ.w.heap[b]? = some (.cells cs.toArray T (0, 0)) := h
  rw [Nat.zero_add, cell_of_cells hb]; exact hu⟩
theorem sl_row {b m c' T sz : Nat} {css : List (List Value)} (hS : κ.S b) (h : (Res.row (some ⟨b, 0, none⟩) m c' T sz css).says κ.w.heap[b]?) : Sl κ (some ⟨b, 0, none⟩) m c' sz css := by
  obtain ⟨h1, h2, h3, h4, h5, cur, h6, h7, h8⟩ := h
  refine ⟨h2, h4, h3, fun h0 => ⟨b, 0, rfl, fun j cs hj => ⟨hS, fun i u hu => ?_⟩⟩⟩
  have hi : i < sz := by
    have := h3 cs (List.mem_of_getElem? hj)
    rcases Nat.lt_or_ge i cs.length with h | h
    · omega
    · rw [List.getElem?_eq_none h] at hu; cases hu
  have hg := flatten_get h3 hj hi
  have hjm : j < m := by rw [← h2]; exact (List.getElem?_eq_some_iff.1 hj).1
  have hlt : j * sz + i < m * sz := by
    have : (j + 1) * sz ≤ m * sz := Nat.mul_le_mul_right _ hjm
    rw [Nat.add_mul] at this; omega
  have hc2 : κ.w.cell? ⟨b, 0 + j * sz + i, none⟩ = cur.toList[j * sz + i]? := by simp [World.cell?, h6]
  rw [hc2]
  rw [← h8, List.getElem?_take, if_pos hlt] at hg
  rw [hg]; exact hu
def pubK (κ : Kr) : Option Addr → Kr
  | none => κ
  | some ad => ⟨κ.w, fun i => κ.S i ∨ i = ad.block⟩
theorem pubK_w (κ : Kr) (a : Option Addr) : (pubK κ a).w = κ.w := by cases a <;> rfl
theorem pub_row {a : Option Addr} {m c' T sz : Nat} {css : List (List Value)} {l : List Res} (hi : Inv β (Res.row a m c' T sz css :: l) κ) : Inv β l (pubK κ a) ∧ Kle κ (pubK κ a) ∧ Sl (pubK κ a) a m c' sz css := by
  have ho := hi.own _ (List.mem_cons_self)
  cases a with
  | none =>
    obtain ⟨rfl, rfl, rfl⟩ := ho
    exact ⟨hi.sub (List.sublist_cons_self _ _), .refl _, .nil⟩
  | some ad =>
    obtain ⟨h1, h2⟩ := hi.pub (r := Res.row (some ad) m c' T sz css) (b := ad.block) rfl
    have e : ad = ⟨ad.block, 0, none⟩ := ho.1
    refine ⟨h1, h2, ?_⟩
    have ho' : (Res.row (some ad) m c' T sz css).says κ.w.heap[ad.block]? := ho
    unfold pubK
    rw [e] at ho' ⊢
    exact sl_row (κ := ⟨κ.w, fun i => κ.S i ∨ i = ad.block⟩) (.inr rfl) ho'
theorem RV1.sub {rv : ResultVar} {v : Value} {ρ' : List Res} (hs : ∀ r ∈ ρ', r ∈ ρ) (h : RV1 rv σ ρ' v) : RV1 rv σ ρ v := by
  cases rv with
  | tmp t => exact h
  | cell t T => obtain ⟨b, off, Tb, cs, h1, h2, h3⟩ := h; exact ⟨b, off, Tb, cs, h1, hs _ h2, h3⟩
theorem RV.sub {rs : List ResultVar} {v : Value} {ρ' : List Res} (hs : ∀ r ∈ ρ', r ∈ ρ) (h : RV rs σ ρ' v) : RV rs σ ρ v := by
  match rs, h with
  | [], h => exact h
  | [r], h => exact RV1.sub hs h
  | [r, s], ⟨v1, v2, h1, h2, h3⟩ => exact ⟨v1, v2, h1.sub hs, h2.sub hs, h3⟩
  | [r, s, t], ⟨v1, v2, v3, h1, h2, h3, h4⟩ => exact ⟨v1, v2, v3, h1.sub hs, h2.sub hs, h3.sub hs, h4⟩
/-- At the return an own slice becomes shared. -/
theorem ret_pubrow {rs : List ResultVar} {R : Value → List Res → Kr → Prop} {a : Option Addr} {m c' T sz : Nat} {css : List (List Value)} {l : List Res} (hp : Pick ρ (Res.row a m c' T sz css) l) (h : ∀ κ', Kle κ κ' → Sl κ' a m c' sz css → retK rs R .ret σ l κ') : retK rs R .ret σ ρ κ := fun β hi => by
  obtain ⟨h1, h2, h3⟩ := pub_row (hi.perm hp)
  obtain ⟨v, ρ', κ', g1, g2, g3⟩ := h _ h2 h3 β h1
  refine ⟨v, ρ', κ', g1.sub fun r hr => hp.mem_iff.2 (by simp [hr]), ⟨g2.1.trans (pubK_w κ a), fun β' hi' => ?_⟩, g3⟩
  obtain ⟨k1, k2, _⟩ := pub_row (hi'.perm hp)
  exact ⟨(g2.2 β' k1).1, k2.trans (g2.2 β' k1).2⟩
theorem ret_pub {rs : List ResultVar} {R : Value → List Res → Kr → Prop} {r : Res} {b : Nat} {l : List Res} (hp : Pick ρ r l) (hb : r.blk = some b) (h : ∀ κ', Kle κ κ' → κ'.S b → r.says κ'.w.heap[b]? → retK rs R .ret σ l κ') : retK rs R .ret σ ρ κ := fun β hi => by
  have hi2 := hi.perm hp
  obtain ⟨h1, h2⟩ := hi2.pub hb
  have hs := hi2.own r (by simp)
  unfold Res.holds at hs; rw [hb] at hs
  obtain ⟨v, ρ', κ', g1, g2, g3⟩ := h _ h2 (.inr rfl) hs β h1
  refine ⟨v, ρ', κ', g1.sub fun r hr => hp.mem_iff.2 (by simp [hr]), ⟨g2.1, fun β' hi' => ?_⟩, g3⟩
  obtain ⟨k1, k2⟩ := (hi'.perm hp).pub hb
  exact ⟨(g2.2 β' k1).1, k2.trans (g2.2 β' k1).2⟩
theorem wc_pubrow {a : Option Addr} {m c' T sz : Nat} {css : List (List Value)} {l : List Res} (hp : Pick ρ (Res.row a m c' T sz css) l) (h : ∀ κ', Kle κ κ' → Sl κ' a m c' sz css → WC β n x K σ l κ') : WC β n x K σ ρ κ := fun hi A hr Q hq => by
  obtain ⟨h2, h3, h4⟩ := pub_row (hi.perm hp)
  have h1 := pubK_w κ a
  have := h _ h3 h4 h2 A hr Q fun e a' σ' ρ' κ'' g1 g2 g3 g4 => hq e a' σ' ρ' κ'' g1 g2 (h3.trans g3) g4
  rwa [h1] at this
theorem wl_pubrow {ops : Array Oper} {lo : List Oper} {K : Post} {a : Option Addr} {m c' T sz : Nat} {css : List (List Value)} {l : List Res} (hp : Pick ρ (Res.row a m c' T sz css) l) (h : ∀ κ', Kle κ κ' → Sl κ' a m c' sz css → WL β n ops lo K σ l κ') : WL β n ops lo K σ ρ κ := fun hi A hr Q hq => by
  obtain ⟨h2, h3, h4⟩ := pub_row (hi.perm hp)
  have h1 := pubK_w κ a
  have := h _ h3 h4 h2 A hr Q fun a' σ' ρ' κ'' g1 g2 g3 g4 => hq a' σ' ρ' κ'' g1 g2 (h3.trans g3) g4
  rwa [h1] at this
theorem wl_pub {ops : Array Oper} {lo : List Oper} {K : Post} {r : Res} {l : List Res} {b : Nat} (hp : Pick ρ r l) (hb : r.blk = some b) (h : ∀ κ', Kle κ κ' → κ'.S b → r.says κ'.w.heap[b]? → WL β n ops lo K σ l κ') : WL β n ops lo K σ ρ κ := fun hi a hr Q hq => by
  have hi2 := hi.perm hp
  obtain ⟨h1, h2⟩ := hi2.pub hb
  have hs := hi2.own r (by simp)
  unfold Res.holds at hs; rw [hb] at hs
  exact h _ h2 (.inr rfl) hs h1 a hr Q fun a' σ' ρ' κ' g1 g2 g3 g4 => hq a' σ' ρ' κ' g1 g2 (h2.trans g3) g4
theorem sl_pub {b T sz m : Nat} {cs : List Value} (css : List (List Value)) (hS : κ.S b) (h : (Res.b b T cs).says κ.w.heap[b]?) (hf : css.flatten = cs) (hl : css.length = m) (hw : ∀ c ∈ css, c.length = sz) (hm : m ≤ 140737488355328) : Sl κ (some ⟨b, 0, none⟩) m m sz css := sl_row hS (row_of_b hf hl hw hm _ h)
theorem wrap_u8 {r : Int} (h : 0 ≤ r ∧ r ≤ 255) : IntKind.u8.wrap r = r := by
  have e : IntKind.u8.wrap r = r % 256 := rfl
  rw [e]; omega
theorem wrap_u64 {r : Int} (h : 0 ≤ r ∧ r ≤ 18446744073709551615) : IntKind.u64.wrap r = r := by
  have e : IntKind.u64.wrap r = r % 18446744073709551616 := rfl
  rw [e]; omega
variable {o : Oper} {x y : Operand} {c : Bool} {t t' : Nat} {a b : Int}
theorem oq_arithU {op : BinOp} {r : Int} (ho : o.op = .binOp op t x y t') (hx : Ev σ c x (.int .u64 a)) (hy : Ev σ c y (.int .u64 b))
    (hr : (match op with | .add => some (a + b) | .sub => some (a - b) | .mul => some (a * b) | _ => none) = some r) (hb : c = true → 0 ≤ r ∧ r ≤ 18446744073709551615) : OpQ c o σ ρ κ (.int .u64 r) := fun hc => by
  have h := oq_arith (ρ := ρ) (κ := κ) ho hx hy hr hc
  rwa [wrap_u64 (hb hc)] at h
theorem oq_quoP (ho : o.op = .binOp .quo t x y t') (hx : Ev σ c x (.int .i64 a)) (hy : Ev σ c y (.int .i64 b)) (ha : c = true → 0 ≤ a ∧ a ≤ 9223372036854775807) (hb : c = true → 0 < b) : OpQ c o σ ρ κ (.int .i64 (a / b)) := fun hc => by
  have h1 := ha hc; have h2 := hb hc
  refine oq_quo ho hx hy (fun _ => by omega) ?_ hc
  rw [Int.tdiv_eq_ediv_of_nonneg h1.1]
  have h3 := Int.ediv_nonneg h1.1 (Int.le_of_lt h2)
  have h4 := Int.ediv_le_self b h1.1
  exact wrap_i64 ⟨by omega, by omega⟩
theorem oq_remP {k : IntKind} (ho : o.op = .binOp .rem t x y t') (hx : Ev σ c x (.int k a)) (hy : Ev σ c y (.int k b)) (ha : c = true → 0 ≤ a) (hb : c = true → 0 < b) : OpQ c o σ ρ κ (.int k (a % b)) := fun hc => by
  have h1 := ha hc; have h2 := hb hc
  exact oq_rem ho hx hy (fun _ => by omega) (Int.tmod_eq_emod_of_nonneg h1) hc
/-! Slice literals whose elements stand in order -/
def Lit (σ : Env) : Nat → List (Nat × Operand) → List (List Value) → Prop
  | _, [], css => css = []
  | k, (i, x) :: r, css => ∃ cs css', css = cs :: css' ∧ i = k ∧ cellsL (ev σ x) = cs ∧ Lit σ (k + 1) r css'
theorem Lit.nil {k : Nat} : Lit σ k [] [] := rfl
theorem Lit.one {k : Nat} {x : Operand} {v : Value} {r : List (Nat × Operand)} {css : List (List Value)} (h1 : ev σ x = v) (h2 : cellsL v = [v]) (h : Lit σ (k + 1) r css) : Lit σ k ((k, x) :: r) ([v] :: css) := ⟨_, _, rfl, rfl, by rw [h1]; exact h2, h⟩
theorem Lit.agg {k : Nat} {x : Operand} {cs : List Value} {r : List (Nat × Operand)} {css : List (List Value)} (h1 : ev σ x = .agg cs.toArray) (h : Lit σ (k + 1) r css) : Lit σ k ((k, x) :: r) (cs :: css) := ⟨_, _, rfl, rfl, by rw [h1]; rfl, h⟩
theorem Lit.spec : ∀ {k : Nat} {parts : List (Nat × Operand)} {css : List (List Value)}, Lit σ k parts css → parts.map (fun p => (p.1, ev σ p.2)) = ((parts.map fun p => ev σ p.2).zipIdx k).map (fun p => (p.2, p.1)) ∧ (parts.map fun p => ev σ p.2).map cellsL = css
  | _, [], _, h => by subst h; exact ⟨rfl, rfl⟩
  | k, (i, x) :: r, _, ⟨cs, css', e1, e2, h1, h2⟩ => by
    subst e1; subst e2
    obtain ⟨h3, h4⟩ := h2.spec
    refine ⟨?_, ?_⟩
    · simp only [List.map_cons, List.zipIdx_cons, h3]
    · simp only [List.map_cons, h4, h1]
theorem late_lit {t E len sz by' : Nat} {z : Value} {parts : List (Nat × Operand)} {css : List (List Value)} (hg : o.guard = none) (ho : o.op = .buildSlice t len parts.toArray) (hu : und t = some (.slice E)) (hi : inf E = some (z, sz, by')) (hz : Nat.beq z.cells.size sz = true)
    (hp : Lit σ 0 parts css) (hl : Nat.beq css.length len = true) (hw : (css.all fun cs => Nat.beq cs.length sz) = true) (hb : Nat.ble (len * sz) 16777216 = true) : LateRun o σ E css.flatten (fun b => .slice (some ⟨b, 0, none⟩) len len) := by
  obtain ⟨h1, h2⟩ := hp.spec
  have h3 := late_bs (o := o) (σ := σ) (parts.map fun p => ev σ p.2) hg ho hu hi hz h1 (by have := congrArg List.length h2; have h4 := Nat.eq_of_beq_eq_true hl; simp at this ⊢; omega) (fun v hv => by
    have : cellsL v ∈ css := by rw [← h2]; exact List.mem_map_of_mem hv
    exact Nat.eq_of_beq_eq_true (List.all_eq_true.1 hw _ this)) (Nat.le_of_ble_eq_true hb)
  rwa [List.flatMap_def, h2] at h3
theorem ol_lit {K : Value → List Res → Kr → Prop} {t E len sz by' : Nat} {z : Value} {parts : List (Nat × Operand)} {css : List (List Value)} (hg : o.guard = none) (ho : o.op = .buildSlice t len parts.toArray) (hu : und t = some (.slice E)) (hi : inf E = some (z, sz, by')) (hz : Nat.beq z.cells.size sz = true)
    (hp : Lit σ 0 parts css) (hl : Nat.beq css.length len = true) (hw : (css.all fun cs => Nat.beq cs.length sz) = true) (hb : Nat.ble (len * sz) 16777216 = true) (hb2 : Nat.ble len 16777216 = true) (h : ∀ b κ', Kle κ κ' → K (.slice (some ⟨b, 0, none⟩) len len) (Res.row (some ⟨b, 0, none⟩) len len E sz css :: ρ) κ') : OpL o σ ρ κ K := fun β hinv Nx hk => by
  refine ol_late (late_lit hg ho hu hi hz hp hl hw hb) (K := fun v ρ' κ' => ∃ b, v = .slice (some ⟨b, 0, none⟩) len len ∧ ρ' = Res.b b E css.flatten :: ρ ∧ K v (Res.row (some ⟨b, 0, none⟩) len len E sz css :: ρ) κ') (fun b κ' hk => ⟨b, rfl, rfl, h b κ' hk⟩) β hinv Nx fun v ρ' κ' h1 h2 h3 => ?_
  obtain ⟨b, rfl, rfl, h4⟩ := h3
  have hbb := Nat.le_of_ble_eq_true hb2
  exact hk _ _ κ' (h1.view (r' := Res.row (some ⟨b, 0, none⟩) len len E sz css) Pick.h rfl (row_of_b rfl (Nat.eq_of_beq_eq_true hl) (fun c hc => Nat.eq_of_beq_eq_true (List.all_eq_true.1 hw c hc)) (by omega))) h2 h4
end
end SX
end Go.Proofs.YtfcecieppoljlaaGreatDoor
