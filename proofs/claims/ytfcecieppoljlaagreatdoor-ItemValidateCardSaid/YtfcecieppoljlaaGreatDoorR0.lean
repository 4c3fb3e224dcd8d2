/- From what the arguments read as to pure values: the openers. No statement of the seat is proved here. -/
import Derived.Test.YtfcecieppoljlaaGreatDoorPx7
import Derived.ChangeArms
import Derived.DataReads
import GoSem.ClaimJoined
set_option maxRecDepth 100000
namespace Go.Proofs.YtfcecieppoljlaaGreatDoor
namespace SX
open Go
/-- All blocks are shared. -/
def k0 (W : World) : Kr := ⟨W, fun b => b < W.heap.size⟩
theorem cellsOf_eq {t : Nat} {z : Value} {s b : Nat} (h : inf t = some (z, s, b)) : Tryz.prog.cellsOf t = s ∧ Tryz.prog.bytesOf t = b := by
  obtain ⟨i, h1, h2, h3, h4⟩ := inf_get h
  constructor
  · simp [Program.cellsOf, h1, h3]
  · simp [Program.bytesOf, h1, h4]
def Light {H : Type} (t : Nat) (d : DataW H) : Prop := ∀ n ∈ d.weights Tryz.prog t, n ≤ reachBytes
/-- What reads as a datum of type t is told by a value of α. -/
def Opens {H : Type} (eh : TypeId × Value → H) {α : Type} (t : Nat) (e : α → List PV) : Prop :=
  ∀ (W : World) (fuel : Nat) (cs : List Value) (x : DataW H × List MemPlace), DataW.trod eh Tryz.prog W 0 (fun _ => true) true fuel t cs = some x → Light t x.1 → ∃ m, Rps (k0 W) (e m) cs ∧ One cs
section
variable {H : Type} {eh : TypeId × Value → H}
theorem one1 {v : Value} (h : v.oneCell' = true) : One [v] := fun u hu => by rw [List.mem_singleton.1 hu]; exact h
theorem opens_int {t : Nat} {k : IntKind} (h : und t = some (.int k)) : Opens eh t (fun x : Int => [.v (.int k x)]) := fun W fuel cs x hx _ => by
  obtain ⟨n, rfl, _, _⟩ := DataW.trod_int (und_ok h) hx
  exact ⟨n, .cons (.v rfl) .nil, one1 rfl⟩
theorem opens_bool {t : Nat} (h : und t = some .bool) : Opens eh t eT := fun W fuel cs x hx _ => by
  obtain ⟨n, rfl, _⟩ := DataW.trod_bool (und_ok h) hx
  exact ⟨n, .cons (.v rfl) .nil, one1 rfl⟩
theorem opens_str {t : Nat} (h : und t = some .string) : Opens eh t eS := fun W fuel cs x hx hw => by
  obtain ⟨s, rfl, rfl, _⟩ := DataW.trod_string (und_ok h) hx
  have := hw s.data.toList.length (by simp [DataW.weights])
  refine ⟨s, .cons (.v ?_) .nil, one1 rfl⟩
  unfold reachBytes at this
  have e : s.data.toList.length = s.size := by simp
  exact Nat.ble_eq_true_of_le (by omega)
theorem weightsAll_mem {e : Nat} : ∀ {l : List (DataW H)} {d : DataW H} {n : Nat}, d ∈ l → n ∈ d.weights Tryz.prog e → n ∈ DataW.weightsAll Tryz.prog e l
  | d' :: l, d, n, hd, hn => by
    simp only [DataW.weightsAll, List.mem_append]
    rcases List.mem_cons.1 hd with rfl | hd
    · exact .inl hn
    · exact .inr (weightsAll_mem hd hn)
theorem list_of {α β : Type} {R : α → β → Prop} : ∀ (l : List β), (∀ b ∈ l, ∃ a, R a b) → ∃ la : List α, la.length = l.length ∧ ∀ (i : Nat) (b : β), l[i]? = some b → ∃ a, la[i]? = some a ∧ R a b
  | [], _ => ⟨[], rfl, fun i b h => by simp at h⟩
  | b :: l, h => by
    obtain ⟨a, ha⟩ := h b (by simp)
    obtain ⟨la, h1, h2⟩ := list_of l fun b hb => h b (by simp [hb])
    refine ⟨a :: la, by simp [h1], fun i b' hb => ?_⟩
    cases i with
    | zero => simp only [List.getElem?_cons_zero, Option.some.injEq] at hb; subst hb; exact ⟨a, rfl, ha⟩
    | succ i => simp only [List.getElem?_cons_succ] at hb ⊢; exact h2 i b' hb
theorem opens_slice {α : Type} {t E sz by' : Nat} {z : Value} {e : α → List PV} (hu : und t = some (.slice E)) (hi : inf E = some (z, sz, by')) (h0 : Nat.blt 0 sz = true) (hb0 : Nat.blt 0 by' = true) (hE : Opens eh E e) : Opens eh t (eL e) := fun W fuel cs x hx hw => by
  obtain ⟨hcz, hby⟩ := cellsOf_eq hi
  have hsz : 0 < sz := by have := h0; simp [Nat.blt] at this; omega
  have hbp : 0 < by' := by have := hb0; simp [Nat.blt] at this; omega
  rcases DataW.trod_slice (und_ok hu) hx with ⟨rfl, _⟩ | ⟨a, len, cap, elems, rest, n, rfl, rfl, rfl, _, hl, hm, hlen, hel, _, _⟩
  · exact ⟨[], .cons (.slc (sz := sz) (css := []) Sl.nil (by omega) (fun _ h => by cases h) .nil) .nil, one1 rfl⟩
  · rw [hcz] at hel
    have hwl : (elems.length + rest.length) * by' ≤ reachBytes := by
      have := hw ((elems.length + rest.length) * by') (by simp only [DataW.weights, und_ok hu, hby, List.length_map]; exact List.mem_cons_self)
      exact this
    have hn : len ≤ 140737488355328 := by
      unfold reachBytes at hwl
      have : elems.length * 1 ≤ (elems.length + rest.length) * by' := Nat.mul_le_mul (by omega) (by omega)
      omega
    have hcells : ∀ i ∈ List.range len, ∃ p : α × List Value, W.cells? 0 (a.add (i * sz)) sz = some p.2 ∧ Rps (k0 W) (e p.1) p.2 ∧ One p.2 := fun i hi' => by
      have hi' : i < len := List.mem_range.1 hi'
      have h1 := hel i hi'
      have hlt : i < elems.length := by omega
      rw [List.getElem?_eq_getElem hlt] at h1
      obtain ⟨cs, h2, h3⟩ := Option.bind_eq_some_iff.1 h1
      obtain ⟨m, k1, k2⟩ := hE W n cs _ h3 fun q hq => hw q (by
        simp only [DataW.weights, und_ok hu]
        exact List.mem_cons_of_mem _ (List.mem_append.2 (.inl (weightsAll_mem (List.mem_map.2 ⟨_, List.getElem_mem hlt, rfl⟩) hq))))
      exact ⟨(m, cs), h2, k1, k2⟩
    obtain ⟨ps, g1, g2⟩ := list_of (R := fun (p : α × List Value) i => W.cells? 0 (a.add (i * sz)) sz = some p.2 ∧ Rps (k0 W) (e p.1) p.2 ∧ One p.2) (List.range len) hcells
    rw [List.length_range] at g1
    have g3 : ∀ (i : Nat) (p : α × List Value), ps[i]? = some p → W.cells? 0 (a.add (i * sz)) sz = some p.2 ∧ Rps (k0 W) (e p.1) p.2 ∧ One p.2 := fun i p hp => by
      have hlt := (List.getElem?_eq_some_iff.1 hp).1
      obtain ⟨p', h1, h2⟩ := g2 i i (by rw [List.getElem?_range (by omega)])
      rw [hp] at h1; injection h1 with h1; subst h1; exact h2
    refine ⟨ps.map (·.1), .cons (.slc (sz := sz) (css := ps.map (·.2)) ⟨by simp [g1], hl, ?_, ?_⟩ hn ?_ ?_) .nil, one1 rfl⟩
    · intro c hc
      obtain ⟨p, hp, rfl⟩ := List.mem_map.1 hc
      obtain ⟨i, hi', rfl⟩ := List.getElem_of_mem hp
      exact (World.cells?_some (g3 i _ (List.getElem?_eq_getElem hi')).1).2.1
    · intro hpos
      have hp0 : 0 < ps.length := by omega
      have hc0 := (World.cells?_some (g3 0 _ (List.getElem?_eq_getElem hp0)).1)
      have hread := hc0.2.2 0 hsz
      have hspot : a.spot = none := by
        have hlt : 0 < (ps[0]).2.length := by rw [hc0.2.1]; exact hsz
        rw [List.getElem?_eq_getElem hlt] at hread
        unfold World.cell? at hread
        cases hs : a.spot with
        | none => rfl
        | some q =>
          have hsp : ((a.add (0 * sz)).add 0).spot.isSome = true := by simp [Addr.add, hs]
          split at hread
          · rw [if_pos hsp] at hread; cases hread
          · cases hread
      obtain ⟨ab, ao, asp⟩ := a
      simp only at hspot; subst hspot
      refine ⟨ab, ao, rfl, fun j c hj => ?_⟩
      rw [List.getElem?_map] at hj
      cases hpj : ps[j]? with
      | none => rw [hpj] at hj; cases hj
      | some p =>
        rw [hpj] at hj; simp only [Option.map_some, Option.some.injEq] at hj; subst hj
        have hcj := World.cells?_some (g3 j p hpj).1
        refine ⟨?_, fun i u hu' => ?_⟩
        · have h1 := hcj.2.2 0 hsz
          have hlt : 0 < p.2.length := by rw [hcj.2.1]; exact hsz
          rw [List.getElem?_eq_getElem hlt, add_none, add_none] at h1
          unfold World.cell? at h1
          split at h1
          · rename_i heq
            have := heap_some_lt heq
            exact this
          · cases h1
        · have hlt : i < sz := by have := (List.getElem?_eq_some_iff.1 hu').1; omega
          have h1 := hcj.2.2 i hlt
          rw [add_none, add_none] at h1
          rw [← hu']; exact h1
    · intro c hc
      obtain ⟨p, hp, rfl⟩ := List.mem_map.1 hc
      obtain ⟨i, hi', rfl⟩ := List.getElem_of_mem hp
      exact (g3 i _ (List.getElem?_eq_getElem hi')).2.2
    · have : ∀ (l : List (α × List Value)), (∀ p ∈ l, Rps (k0 W) (e p.1) p.2) → Rpss (k0 W) ((l.map (·.1)).map e) (l.map (·.2)) := fun l => by
        induction l with
        | nil => exact fun _ => .nil
        | cons p l ih => exact fun h => .cons (h p (by simp)) (ih fun q hq => h q (by simp [hq]))
      refine this ps fun p hp => ?_
      obtain ⟨i, hi', rfl⟩ := List.getElem_of_mem hp
      exact (g3 i _ (List.getElem?_eq_getElem hi')).2.1
/-! structs, field by field -/
theorem rps_step {κ : Kr} {cs : List Value} {off sz : Nat} {ps qs : List PV} (h : Rps κ ps ((cs.drop off).take sz)) (h2 : Rps κ qs (cs.drop (off + sz))) : Rps κ (ps ++ qs) (cs.drop off) := by
  have e : cs.drop off = (cs.drop off).take sz ++ cs.drop (off + sz) := by rw [← List.drop_drop, List.take_append_drop]
  rw [e]; exact h.app h2
theorem one_step {cs : List Value} {off sz : Nat} (h : One ((cs.drop off).take sz)) (h2 : One (cs.drop (off + sz))) : One (cs.drop off) := by
  have e : cs.drop off = (cs.drop off).take sz ++ cs.drop (off + sz) := by rw [← List.drop_drop, List.take_append_drop]
  rw [e]; exact fun u hu => (List.mem_append.1 hu).elim (h u) (h2 u)
theorem rps_end {κ : Kr} {cs : List Value} {off : Nat} (h : cs.length = off) : Rps κ [] (cs.drop off) := by rw [List.drop_of_length_le (by omega)]; exact .nil
theorem one_end {cs : List Value} {off : Nat} (h : cs.length = off) : One (cs.drop off) := by rw [List.drop_of_length_le (by omega)]; exact fun _ h => by cases h
end
end SX
end Go.Proofs.YtfcecieppoljlaaGreatDoor
