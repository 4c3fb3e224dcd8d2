/- Our calculus over pure values, fourth text: typed lengths, parts of slices and strings, function values, arguments under a guard. No statement of the seat is proved here. -/
import Derived.Test.YtfcecieppoljlaaGreatDoorPx3
set_option maxRecDepth 100000
namespace Go.Proofs.YtfcecieppoljlaaGreatDoor
namespace SX
open Go
def cat (s u : ByteArray) : Option ByteArray := if s.size + u.size ≤ 140737488355328 then some (s ++ u) else none
theorem cat_some {s u z : ByteArray} (h : cat s u = some z) : s.size + u.size ≤ 140737488355328 ∧ z = s ++ u := by
  unfold cat at h; split at h
  · injection h with h; exact ⟨by assumption, h.symm⟩
  · cases h
def sub {α : Type} (xs : List α) (lo hi : Int) : Option (List α) := if 0 ≤ lo ∧ lo ≤ hi ∧ hi.toNat ≤ xs.length then some ((xs.take hi.toNat).drop lo.toNat) else none
theorem sub_some {α : Type} {xs zs : List α} {lo hi : Int} (h : sub xs lo hi = some zs) : (0 ≤ lo ∧ lo ≤ hi ∧ hi.toNat ≤ xs.length) ∧ zs = (xs.take hi.toNat).drop lo.toNat := by
  unfold sub at h; split at h
  · injection h with h; exact ⟨by assumption, h.symm⟩
  · cases h
def ssub (s : ByteArray) (lo hi : Int) : Option ByteArray := if 0 ≤ lo ∧ lo ≤ hi ∧ hi.toNat ≤ s.size then some (s.extract lo.toNat hi.toNat) else none
theorem ssub_some {s z : ByteArray} {lo hi : Int} (h : ssub s lo hi = some z) : (0 ≤ lo ∧ lo ≤ hi ∧ hi.toNat ≤ s.size) ∧ z = s.extract lo.toNat hi.toNat := by
  unfold ssub at h; split at h
  · injection h with h; exact ⟨by assumption, h.symm⟩
  · cases h
theorem idx_pos {α : Type} {xs : List α} {i : Int} {m : α} (h : idx xs i = some m) : 0 < xs.length := by
  have := (List.getElem?_eq_some_iff.1 (idx_some h).2).1; omega
theorem pargs_nil {σ : PEnv} {c : Bool} : c = true → ([] : List Operand).map (pevc σ) = [] := fun _ => rfl
theorem pargs_cons {σ : PEnv} {c : Bool} {x : Operand} {l : List Operand} {p : PV} {ps : List PV} (h : PEv σ c x p) (hs : c = true → l.map (pevc σ) = ps) : c = true → (x :: l).map (pevc σ) = p :: ps := fun hc => by rw [List.map_cons, h hc, hs hc]
section
variable {o : Oper} {σ : PEnv} {ρ : List PRes} {c : Bool} {x y y2 : Operand} {t : Nat} {k k2 : IntKind} {a b : Int} {α : Type} {enc : α → List PV} {xs zs : List α}
theorem pq_lenT {E : Nat} (ho : o.op = .call { callee := .builtin .len, args := #[x], argTypes := #[t] }) (hu : und t = some (.slice E)) (hx : PEv σ c x (.slc (xs.map enc))) : POpQ c o σ ρ (.v (.int .i64 (xs.length : Int))) := by
  have h := pq_len (ρ := ρ) ho hu hx
  rwa [List.length_map] at h
theorem pq_catT {s u z : ByteArray} {t t' : Nat} (ho : o.op = .binOp .add t x y t') (hx : PEv σ c x (.v (.string s))) (hy : PEv σ c y (.v (.string u))) (hb : c = true → cat s u = some z) : POpQ c o σ ρ (.v (.string z)) := fun κ σ' ρ' g hs hr => by
  cases c with
  | false => exact noq
  | true =>
    obtain ⟨h1, rfl⟩ := cat_some (hb rfl)
    exact pq_cat ho hx hy (fun _ => h1) κ σ' ρ' g hs hr
theorem pq_makeFunc {f : Nat} {l : List Operand} (ho : o.op = .makeFunc (.func f) #[] l.toArray) : POpQ true o σ ρ (.fn f (l.map (pevc σ))) := fun κ σ' ρ' g hs hr =>
  ⟨.func (.func f) #[] (l.map (ev σ')).toArray, fun _ => .fn (rps_args hs l), by
    have h := oq_makeFunc (o := o) (σ := σ') (ρ := ρ') (κ := κ) (fn := .func f) (l1 := []) (l2 := l) (by rw [ho])
    simpa using h⟩
theorem Sl.dropT {κ : Kr} {a : Option Addr} {n c sz m : Nat} {css : List (List Value)} (h : Sl κ a n c sz css) (hm : m ≤ n) : Sl κ (if c = m then a else a.map (·.add (m * sz))) (n - m) (c - m) sz (css.drop m) :=
  ⟨by rw [List.length_drop, h.len], by have := h.cap; omega, fun cs hcs => h.wid cs (List.mem_of_mem_drop hcs), fun h0 => by
    obtain ⟨b, off, h1, h2⟩ := h.at_ (by omega)
    have hc := h.cap
    rw [if_neg (by omega), h1]
    refine ⟨b, off + m * sz, by rw [Option.map_some, add_none], fun j cs hj => ?_⟩
    have := h2 (m + j) cs (by rwa [List.getElem?_drop] at hj)
    rwa [Nat.add_mul, ← Nat.add_assoc] at this⟩
theorem ones_sub {dss dss' : List (List Value)} (h : Ones dss) (hs : ∀ d ∈ dss', d ∈ dss) : Ones dss' := fun d hd => h d (hs d hd)
theorem pq_sliceH {E sz by' : Nat} {z : Value} (ho : o.op = .slice t x none (some y) none) (hu : und t = some (.slice E)) (hi : inf E = some (z, sz, by')) (hw : ∀ m, Nat.beq (enc m).length sz = true) (hx : PEv σ c x (.slc (xs.map enc))) (hy : PEv σ c y (.v (.int k b))) (hm : c = true → sub xs 0 b = some zs) : POpQ c o σ ρ (.slc (zs.map enc)) := fun κ σ' ρ' g hs hrr => by
  cases c with
  | false => exact noq
  | true =>
    obtain ⟨⟨h0, h1, h2⟩, rfl⟩ := sub_some (hm rfl)
    have h := hs.pe hx rfl
    generalize he : ev σ' x = w at h
    cases h with
    | slc hsl hb ho1 hss =>
      rename_i ad n cp sz' css
      have hl : xs.length = n := by rw [← hsl.len, ← hss.len]; simp
      have hcap := hsl.cap
      refine ⟨.slice ad b.toNat cp, fun _ => ?_, oq_sliceHi (c := true) (k := b.toNat) ho hu hi (.p he) (hs.ve hy) (fun _ => by omega) (fun _ => by omega)⟩
      have := Rp.slc (hsl.take (m := b.toNat) (by omega)) (by omega) (ones_sub ho1 fun d hd => List.mem_of_mem_take hd) (hss.take b.toNat)
      rw [← List.map_take] at this
      simpa using this
theorem pq_sliceL {E sz by' : Nat} {z : Value} (ho : o.op = .slice t x (some y) none none) (hu : und t = some (.slice E)) (hi : inf E = some (z, sz, by')) (hw : ∀ m, Nat.beq (enc m).length sz = true) (hx : PEv σ c x (.slc (xs.map enc))) (hy : PEv σ c y (.v (.int k a))) (hm : c = true → sub xs a (xs.length : Int) = some zs) : POpQ c o σ ρ (.slc (zs.map enc)) := fun κ σ' ρ' g hs hrr => by
  cases c with
  | false => exact noq
  | true =>
    obtain ⟨⟨h0, h1, h2⟩, rfl⟩ := sub_some (hm rfl)
    have h := hs.pe hx rfl
    generalize he : ev σ' x = w at h
    cases h with
    | slc hsl hb ho1 hss =>
      rename_i ad n cp sz' css
      have hl : xs.length = n := by rw [← hsl.len, ← hss.len]; simp
      have hcap := hsl.cap
      have hq := oq_sliceLo (c := true) (ρ := ρ') (κ := κ) (k := a.toNat) ho hu hi (.p he) (hs.ve hy) (fun _ => by omega) (fun _ => by omega)
      have hd := hsl.dropT (m := a.toNat) (by omega)
      have e2 : List.drop a.toNat (List.take (xs.length : Int).toNat xs) = xs.drop a.toNat := by rw [Int.toNat_natCast, List.take_length]
      rw [e2]
      by_cases hz : n - a.toNat = 0
      · refine ⟨_, fun _ => ?_, hq⟩
        have e3 : xs.drop a.toNat = [] := List.drop_of_length_le (by omega)
        rw [e3]
        exact .slc (sz := sz) (css := []) ⟨by simp [hz], by omega, by simp, fun h => absurd h (by omega)⟩ (by omega) (fun _ h => by cases h) .nil
      · have hszz : sz' = sz := by
          have hlen := hsl.len
          match css, hlen with
          | [], hlen => simp only [List.length_nil] at hlen; omega
          | d :: ds, _ => rw [← hsl.wid d (by simp), rpss_wd hw hss d (by simp)]
        subst hszz
        refine ⟨_, fun _ => ?_, hq⟩
        have := Rp.slc hd (by omega) (ones_sub ho1 fun d hd => List.mem_of_mem_drop hd) (hss.drop a.toNat)
        rwa [← List.map_drop] at this
theorem ext_size {s : ByteArray} {l h : Nat} (hh : h ≤ s.size) : (s.extract l h).size = h - l := by rw [ByteArray.size_extract]; omega
theorem okb_ext {s : ByteArray} {l h : Nat} (hk : okb (.string s) = true) : okb (.string (s.extract l h)) = true := by
  have := Nat.le_of_ble_eq_true hk
  have h2 : (s.extract l h).size ≤ s.size := by rw [ByteArray.size_extract]; omega
  exact Nat.ble_eq_true_of_le (by omega)
theorem pq_ssliceLH {s z : ByteArray} (ho : o.op = .slice t x (some y) (some y2) none) (hu : und t = some .string) (hx : PEv σ c x (.v (.string s))) (hy : PEv σ c y (.v (.int k a))) (hy2 : PEv σ c y2 (.v (.int k2 b))) (hm : c = true → ssub s a b = some z) : POpQ c o σ ρ (.v (.string z)) := fun κ σ' ρ' g hs hrr => by
  cases c with
  | false => exact noq
  | true =>
    obtain ⟨⟨h0, h1, h2⟩, rfl⟩ := ssub_some (hm rfl)
    exact ⟨_, fun _ => .v (okb_ext (hs.pe hx rfl).ok), oq_sliceS (l := a.toNat) (h := b.toNat) ho hu (hs.ve hx) (hs.ve hy) (hs.ve hy2) (fun _ => by omega) (fun _ => by omega) (fun _ => by omega) (fun _ => by omega)⟩
theorem pq_ssliceH {s z : ByteArray} (ho : o.op = .slice t x none (some y2) none) (hu : und t = some .string) (hx : PEv σ c x (.v (.string s))) (hy2 : PEv σ c y2 (.v (.int k2 b))) (hm : c = true → ssub s 0 b = some z) : POpQ c o σ ρ (.v (.string z)) := fun κ σ' ρ' g hs hrr => by
  cases c with
  | false => exact noq
  | true =>
    obtain ⟨⟨h0, h1, h2⟩, rfl⟩ := ssub_some (hm rfl)
    exact ⟨_, fun _ => .v (okb_ext (hs.pe hx rfl).ok), oq_sliceSHi (h := b.toNat) ho hu (hs.ve hx) (hs.ve hy2) (fun _ => by omega) (fun _ => by omega)⟩
theorem pq_ssliceL {s z : ByteArray} (ho : o.op = .slice t x (some y) none none) (hu : und t = some .string) (hx : PEv σ c x (.v (.string s))) (hy : PEv σ c y (.v (.int k a))) (hm : c = true → ssub s a (s.size : Int) = some z) : POpQ c o σ ρ (.v (.string z)) := fun κ σ' ρ' g hs hrr => by
  cases c with
  | false => exact noq
  | true =>
    obtain ⟨⟨h0, h1, h2⟩, rfl⟩ := ssub_some (hm rfl)
    have := oq_sliceSLo (c := true) (ρ := ρ') (κ := κ) (l := a.toNat) ho hu (hs.ve hx) (hs.ve hy) (fun _ => by omega) (fun _ => by omega)
    exact ⟨_, fun _ => .v (okb_ext (hs.pe hx rfl).ok), by rw [Int.toNat_natCast]; exact this⟩
end
end SX
end Go.Proofs.YtfcecieppoljlaaGreatDoor
