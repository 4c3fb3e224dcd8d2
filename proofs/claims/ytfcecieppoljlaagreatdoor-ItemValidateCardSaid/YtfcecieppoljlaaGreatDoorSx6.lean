/- Our calculus, sixth text: composite values, slices made and cut, reading and writing the call's own slices, bytes and strings, equality of structs. No statement of the seat is proved here. -/
import Derived.Test.YtfcecieppoljlaaGreatDoorSx5
import Derived.Laws.MakeOwn
set_option maxRecDepth 100000
namespace Go.Proofs.YtfcecieppoljlaaGreatDoor
namespace SX
open Go

/-! ### Struct literals -/
def SpliceAt (cs : List Value) (k : Nat) (vs cs' : List Value) : Prop := cs' = cs.take k ++ vs ++ cs.drop (k + vs.length) ∧ k + vs.length ≤ cs.length
theorem SpliceAt.nil {cs : List Value} : SpliceAt cs 0 [] cs := ⟨by simp, by simp⟩
theorem SpliceAt.c {x v : Value} {l l' vs : List Value} (h : SpliceAt l 0 vs l') : SpliceAt (x :: l) 0 (v :: vs) (v :: l') := by
  obtain ⟨h1, h2⟩ := h
  refine ⟨?_, by simp at h2 ⊢; omega⟩
  rw [h1]; simp [Nat.add_comm]
theorem SpliceAt.t {x : Value} {l l' vs : List Value} {k : Nat} (h : SpliceAt l k vs l') : SpliceAt (x :: l) (k + 1) vs (x :: l') := by
  obtain ⟨h1, h2⟩ := h
  refine ⟨?_, by simp at h2 ⊢; omega⟩
  rw [h1, show k + 1 + vs.length = (k + vs.length) + 1 by omega]; simp
/-- The parts of a struct literal laid into its cells. -/
def FillR (σ : Env) (fl : List (Nat × Nat)) : List Value → List (Nat × Operand) → List Value → Prop
  | zs, [], cs => zs = cs
  | zs, (i, x) :: r, cs => ∃ k ty vs zs' z by', fl[i]? = some (k, ty) ∧ inf ty = some (z, vs.length, by') ∧ cellsL (ev σ x) = vs ∧ SpliceAt zs k vs zs' ∧ FillR σ fl zs' r cs
theorem FillR.nil {σ : Env} {fl : List (Nat × Nat)} {zs : List Value} : FillR σ fl zs [] zs := rfl
theorem FillR.one {σ : Env} {fl : List (Nat × Nat)} {zs zs' cs : List Value} {i k ty by' : Nat} {z v : Value} {x : Operand} {r : List (Nat × Operand)} (h1 : fl[i]? = some (k, ty)) (h2 : inf ty = some (z, 1, by')) (h3 : ev σ x = v) (h3' : cellsL v = [v]) (h4 : SetAt zs k v zs') (h5 : FillR σ fl zs' r cs) : FillR σ fl zs ((i, x) :: r) cs :=
  ⟨k, ty, [v], zs', z, by', h1, h2, by rw [h3]; exact h3', ⟨by rw [h4.1, set_eq_take h4.2]; rfl, by have := h4.2; simp; omega⟩, h5⟩
theorem FillR.agg {σ : Env} {fl : List (Nat × Nat)} {zs zs' cs vs : List Value} {i k ty sz by' : Nat} {z : Value} {x : Operand} {r : List (Nat × Operand)} (h1 : fl[i]? = some (k, ty)) (h2 : inf ty = some (z, sz, by')) (h3 : ev σ x = .agg vs.toArray) (h3' : vs.length = sz) (h4 : SpliceAt zs k vs zs') (h5 : FillR σ fl zs' r cs) : FillR σ fl zs ((i, x) :: r) cs :=
  ⟨k, ty, vs, zs', z, by', h1, by rw [h3']; exact h2, by rw [h3]; rfl, h4, h5⟩
theorem fill_struct {σ : Env} {fl : List (Nat × Nat)} {place : Nat → Option (Nat × Nat)} (hpl : ∀ i k ty z sz by', fl[i]? = some (k, ty) → inf ty = some (z, sz, by') → place i = some (k, sz)) :
    ∀ (parts : List (Nat × Operand)) (zs cs : List Value), FillR σ fl zs parts cs → Instr.fill place zs.toArray (parts.map fun p => (p.1, ev σ p.2)) = some cs.toArray
  | [], zs, cs, h => by cases h; simp [Instr.fill]
  | (i, x) :: r, zs, cs, ⟨k, ty, vs, zs', z, by', h1, h2, h3, h4, h5⟩ => by
    simp only [List.map_cons]
    rw [fill_cons (hpl i k ty z vs.length by' h1 h2) (by rw [h3]) h4.2, h3, ← h4.1]
    exact fill_struct hpl r zs' cs h5
def placeSem (f : Field) : Sem (Nat × Nat) := do pure (f.offset, ← sizeOf f.type)
theorem run_places (w : World) : ∀ (fs : List Field), (∀ f ∈ fs, ∃ z sz by', inf f.type = some (z, sz, by')) → ∃ ps : List (Nat × Nat), (fs.mapM placeSem).run Tryz.prog w = .ok ps w ∧ ∀ (i : Nat) (f : Field) z sz by', fs[i]? = some f → inf f.type = some (z, sz, by') → ps[i]? = some (f.offset, sz)
  | [], _ => ⟨[], by simp, by simp⟩
  | f :: fs, h => by
    obtain ⟨ps, h1, h2⟩ := run_places w fs fun g hg => h g (by simp [hg])
    obtain ⟨z, sz, by', hf⟩ := h f (by simp)
    refine ⟨(f.offset, sz) :: ps, ?_, ?_⟩
    · have h0 : (placeSem f).run Tryz.prog w = .ok (f.offset, sz) w := by unfold placeSem; simp [run_sizeOf hf]
      simp only [List.mapM_cons, Sem.run_bind, h0, Result.andThen_ok, h1, Sem.run_pure]
    · intro i g z' sz' by'' hi hz
      cases i with
      | zero => simp only [List.getElem?_cons_zero, Option.some.injEq] at hi; subst hi; rw [hf] at hz; simp only [Option.some.injEq, Prod.mk.injEq] at hz; simp [hz.2.1]
      | succ i => simp only [List.getElem?_cons_succ] at hi ⊢; exact h2 i g z' sz' by'' hi hz
section
variable {o : Oper} {σ : Env} {ρ : List Res} {κ : Kr} {c : Bool} {x y : Operand}
theorem oq_build {t sz by' : Nat} {parts : List (Nat × Operand)} {fl : List (Nat × Nat)} {zs cs : List Value} (ho : o.op = .build t parts.toArray) (hz : inf t = some (.agg zs.toArray, sz, by')) (hf : fldL t = some fl) (hall : (fl.all fun p => (inf p.2).isSome) = true) (h : FillR σ fl zs parts cs) : OpQ true o σ ρ κ (.agg cs.toArray) := fun _ w _ => by
  obtain ⟨fs, hu, hfl⟩ := fldL_ok hf
  have hin : ∀ f ∈ fs.toList, ∃ z sz by', inf f.type = some (z, sz, by') := fun f hf => by
    have := List.all_eq_true.1 hall (f.offset, f.type) (by rw [← hfl]; exact List.mem_map.2 ⟨f, hf, rfl⟩)
    obtain ⟨⟨z, sz, by'⟩, h⟩ := Option.isSome_iff_exists.1 this
    exact ⟨z, sz, by', h⟩
  obtain ⟨ps, hp1, hp2⟩ := run_places w fs.toList hin
  have hm : (fs.mapM placeSem).run Tryz.prog w = .ok ps.toArray w := by
    have : fs = fs.toList.toArray := by simp
    rw [this, List.mapM_toArray, Sem.run_map, hp1]; rfl
  have hfill := fill_struct (σ := σ) (fl := fl) (place := (ps.toArray[·]?)) (fun i k ty z sz by' h1 h2 => by
    rw [← hfl, List.getElem?_map] at h1
    cases hfi : fs.toList[i]? with
    | none => rw [hfi] at h1; cases h1
    | some f =>
      rw [hfi] at h1; simp only [Option.map_some, Option.some.injEq, Prod.mk.injEq] at h1
      obtain ⟨rfl, rfl⟩ := h1
      simpa using hp2 i f z sz by' hfi h2) parts zs cs h
  have hb : (Instr.build t (parts.map fun p => (p.1, ev σ p.2)).toArray).run Tryz.prog w = .ok (.agg cs.toArray) w := by
    unfold Instr.build
    simp only [Sem.run_bind, run_zeroValue hz, Result.andThen_ok, run_underlying (und_ok hu)]
    have hm' : Sem.run Tryz.prog (fs.mapM fun f => do pure (f.offset, ← sizeOf f.type)) w = .ok ps.toArray w := hm
    rw [hm']
    simp only [Result.andThen_ok, Value.cells, hfill, Sem.run_pure]
  simp only [execOp, ho, Sem.run_bind, List.map_toArray]
  have : (parts.map fun (p : Nat × Operand) => match p with | (i, x) => (i, ev σ x)) = parts.map fun p => (p.1, ev σ p.2) := rfl
  rw [this, hb]
  simp

/-! ### Slice literals, make -/
theorem bs_map (parts : List (Nat × Operand)) (vs : List Value) (h : parts.map (fun p => (p.1, ev σ p.2)) = vs.zipIdx.map fun p => (p.2, p.1)) : (parts.toArray.map fun (p : Nat × Operand) => match p with | (i, x) => (i, ev σ x)) = (vs.zipIdx.map fun p => (p.2, p.1)).toArray := by
  rw [List.map_toArray, ← h]
theorem late_bs {t E len sz by' : Nat} {z : Value} {parts : List (Nat × Operand)} (vs : List Value) (hg : o.guard = none) (ho : o.op = .buildSlice t len parts.toArray) (hu : und t = some (.slice E)) (hi : inf E = some (z, sz, by')) (hz : Nat.beq z.cells.size sz = true)
    (hp : parts.map (fun p => (p.1, ev σ p.2)) = vs.zipIdx.map fun p => (p.2, p.1)) (hl : vs.length = len) (hw : ∀ v ∈ vs, (cellsL v).length = sz) (hb : len * sz ≤ 16777216) : LateRun o σ E (vs.flatMap cellsL) (fun b => .slice (some ⟨b, 0, none⟩) len len) :=
  ⟨hg, fun w => by
    subst hl
    have h := run_buildSlice hu hi (Nat.eq_of_beq_eq_true hz) vs hw hb w
    simp only [execOp, ho, bs_map parts vs hp, Sem.run_bind, h, Result.andThen_ok, Sem.run_pure]⟩
theorem late_alloc {T : Nat} {z : Value} {sz by' : Nat} {cs : List Value} (hg : o.guard = none) (ho : o.op = .alloc T) (hz : inf T = some (z, sz, by')) (hc : cellsL z = cs) : LateRun o σ T cs (fun b => .pointer (some ⟨b, 0, none⟩)) := by
  subst hc
  exact ⟨hg, fun w => late_run (T := T) (cs := cellsL z) (mk := fun b => .pointer (some ⟨b, 0, none⟩)) (by unfold lateOf; rw [ho]; simp only [hz]) σ w⟩
theorem late_allocA {T : Nat} {sz by' : Nat} {cs : List Value} (hg : o.guard = none) (ho : o.op = .alloc T) (hz : inf T = some (.agg cs.toArray, sz, by')) : LateRun o σ T cs (fun b => .pointer (some ⟨b, 0, none⟩)) := late_alloc hg ho hz rfl
theorem made_eq {z : Array Value} {n : Nat} (h : 0 < z.size) : madeCells z (n * z.size) = ((List.replicate n z.toList).flatten).toArray := by
  have hw : ∀ cs ∈ List.replicate n z.toList, cs.length = z.size := fun cs hcs => by rw [(List.mem_replicate.1 hcs).2]; simp
  apply Array.ext'
  apply List.ext_getElem?
  intro i
  unfold madeCells
  simp only [Array.toList_map, Array.toList_range, List.getElem?_map]
  by_cases hi : i < n * z.size
  · have hq : i / z.size < n := Nat.div_lt_of_lt_mul (by rwa [Nat.mul_comm] at hi)
    have hm : i % z.size < z.size := Nat.mod_lt _ h
    have hd : i / z.size * z.size + i % z.size = i := by have := Nat.div_add_mod i z.size; rw [Nat.mul_comm] at this; exact this
    have hg := flatten_get hw (j := i / z.size) (i := i % z.size) (cs := z.toList) (by simp [hq]) hm
    rw [hd] at hg
    rw [hg, List.getElem?_range hi]
    simp [hm]
  · rw [List.getElem?_eq_none (by simpa using hi), List.getElem?_eq_none (by rw [flatten_len hw]; simpa using hi)]; rfl
theorem late_make {t E sz by' n : Nat} {z : Value} {zs : List Value} (hg : o.guard = none) (ho : o.op = .makeSlice t x x) (hx : ev σ x = .int .i64 (n : Int)) (hu : und t = some (.slice E)) (hi : inf E = some (z, sz, by')) (hz : cellsL z = zs) (hzl : zs.length = sz) (h0 : Nat.blt 0 sz = true) (hb : by' * n ≤ 281474976710656 ∧ n ≤ 281474976710656) : LateRun o σ E (List.replicate n zs).flatten (fun b => .slice (some ⟨b, 0, none⟩) n n) :=
  ⟨hg, fun w => by
    obtain ⟨i, hinf, hz0, hsz, hby⟩ := inf_get hi
    have hr := run_make (P := Tryz.prog) w t E i z (und_ok hu) hinf hz0 .i64 .i64 n n (by omega) (by omega) (by rw [hby]; have := hb.1; omega) (by omega)
    simp only [Int.toNat_natCast] at hr
    have hcs : z.cells = zs.toArray := by rw [← hz, ← cellsL_eq]
    have hsz' : z.cells.size = sz := by rw [hcs]; simpa using hzl
    have h0' : 0 < z.cells.size := by rw [hsz']; have h := h0; simp [Nat.blt] at h; omega
    rw [hsz, ← hsz', made_eq h0', hcs] at hr
    simp only [execOp, ho, hx, Sem.run_bind, hr, Result.andThen_ok, Sem.run_pure]⟩
theorem ol_late {T : Nat} {cs : List Value} {mk : Nat → Value} {K : Value → List Res → Kr → Prop} (h : LateRun o σ T cs mk) (hk : ∀ b κ', Kle κ κ' → K (mk b) (Res.b b T cs :: ρ) κ') : OpL o σ ρ κ K := fun β hi Nx hn => by
  rw [h.2]
  exact hn _ _ ⟨κ.w.alloc (.cells cs.toArray T), κ.S⟩ (hi.alloc _ (Res.b κ.w.heap.size T cs) rfl rfl) (kle_alloc hi.fin _) (hk _ _ (kle_alloc hi.fin _))
end
end SX
end Go.Proofs.YtfcecieppoljlaaGreatDoor
