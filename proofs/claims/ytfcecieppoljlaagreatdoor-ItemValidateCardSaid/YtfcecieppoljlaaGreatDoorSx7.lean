/- Our calculus, seventh text: cutting slices and strings, reading and writing slices of the call's own, bytes to strings. No statement of the seat is proved here. -/
import Derived.Test.YtfcecieppoljlaaGreatDoorSx6
import Derived.Laws.BytesArg
set_option maxRecDepth 100000
namespace Go.Proofs.YtfcecieppoljlaaGreatDoor
namespace SX
open Go
section
variable {o : Oper} {σ : Env} {ρ : List Res} {κ : Kr} {c : Bool} {x y y2 : Operand}
theorem map_add0 (a : Option Addr) : a.map (·.add 0) = a := by cases a <;> simp [Addr.add]
theorem run_bound {i : Int} {k m : Nat} {code : BoundsCode} (h : i = (k : Int)) (hk : k ≤ m) (kd : IntKind) (w : World) : (Instr.sliceBound (.int kd i) m code).run Tryz.prog w = .ok k w := by
  subst h
  simp [Instr.sliceBound, asIntOf, hk]
theorem oq_sliceHi {t E sz by' n cp k : Nat} {z : Value} {a : Option Addr} {kd : IntKind} {i : Int} (ho : o.op = .slice t x none (some y) none) (hu : und t = some (.slice E)) (hi : inf E = some (z, sz, by')) (hx : Ev σ c x (.slice a n cp)) (hy : Ev σ c y (.int kd i)) (hik : c = true → i = (k : Int)) (hk : c = true → k ≤ cp) : OpQ c o σ ρ κ (.slice a k cp) := fun hc w _ => by
  simp only [execOp, ho, Option.map_none, Option.map_some, hx hc, hy hc, Instr.sliceAt, Instr.slice, Instr.sliceBounds, Sem.run_bind, run_underlying (und_ok hu), Result.andThen_ok, Sem.run_pure, run_bound (hik hc) (hk hc), run_sizeOf hi]
  simp [map_add0]
theorem oq_sliceLo {t E sz by' n cp k : Nat} {z : Value} {a : Option Addr} {kd : IntKind} {i : Int} (ho : o.op = .slice t x (some y) none none) (hu : und t = some (.slice E)) (hi : inf E = some (z, sz, by')) (hx : Ev σ c x (.slice a n cp)) (hy : Ev σ c y (.int kd i)) (hik : c = true → i = (k : Int)) (hk : c = true → k ≤ n) : OpQ c o σ ρ κ (.slice (if cp = k then a else a.map (·.add (k * sz))) (n - k) (cp - k)) := fun hc w _ => by
  simp only [execOp, ho, Option.map_none, Option.map_some, hx hc, hy hc, Instr.sliceAt, Instr.slice, Instr.sliceBounds, Sem.run_bind, run_underlying (und_ok hu), Result.andThen_ok, Sem.run_pure, run_bound (hik hc) (hk hc), run_sizeOf hi]
theorem oq_sliceS {t l h : Nat} {s : ByteArray} {kd kd2 : IntKind} {i j : Int} (ho : o.op = .slice t x (some y) (some y2) none) (hu : und t = some .string) (hx : Ev σ c x (.string s)) (hy : Ev σ c y (.int kd i)) (hy2 : Ev σ c y2 (.int kd2 j)) (hil : c = true → i = (l : Int)) (hjh : c = true → j = (h : Int)) (hlh : c = true → l ≤ h) (hk : c = true → h ≤ s.size) : OpQ c o σ ρ κ (.string (s.extract l h)) := fun hc w _ => by
  simp only [execOp, ho, Option.map_none, Option.map_some, hx hc, hy hc, hy2 hc, Instr.sliceAt, Instr.slice, Instr.sliceBounds, Sem.run_bind, run_underlying (und_ok hu), Result.andThen_ok, Sem.run_pure]
  simp [run_bound (code := .sliceAlen) (hjh hc) (hk hc), run_bound (code := .sliceB) (hil hc) (hlh hc)]
theorem oq_sliceSHi {t h : Nat} {s : ByteArray} {kd2 : IntKind} {j : Int} (ho : o.op = .slice t x none (some y2) none) (hu : und t = some .string) (hx : Ev σ c x (.string s)) (hy2 : Ev σ c y2 (.int kd2 j)) (hjh : c = true → j = (h : Int)) (hk : c = true → h ≤ s.size) : OpQ c o σ ρ κ (.string (s.extract 0 h)) := fun hc w _ => by
  simp only [execOp, ho, Option.map_none, Option.map_some, hx hc, hy2 hc, Instr.sliceAt, Instr.slice, Instr.sliceBounds, Sem.run_bind, run_underlying (und_ok hu), Result.andThen_ok, Sem.run_pure]
  simp [run_bound (code := .sliceAlen) (hjh hc) (hk hc)]
theorem oq_sliceSLo {t l : Nat} {s : ByteArray} {kd : IntKind} {i : Int} (ho : o.op = .slice t x (some y) none none) (hu : und t = some .string) (hx : Ev σ c x (.string s)) (hy : Ev σ c y (.int kd i)) (hil : c = true → i = (l : Int)) (hk : c = true → l ≤ s.size) : OpQ c o σ ρ κ (.string (s.extract l s.size)) := fun hc w _ => by
  simp only [execOp, ho, Option.map_none, Option.map_some, hx hc, hy hc, Instr.sliceAt, Instr.slice, Instr.sliceBounds, Sem.run_bind, run_underlying (und_ok hu), Result.andThen_ok, Sem.run_pure]
  simp [run_bound (code := .sliceB) (hil hc) (hk hc)]
/-- A load from an own block at whatever place. -/
theorem oq_load_bx {t b off T : Nat} {cs ds : List Value} {v : Value} (ho : o.op = .load t x) (hx : Ev σ c x (.pointer (some ⟨b, off, none⟩))) (hm : Res.b b T cs ∈ ρ) (hd : c = true → ∀ j u, ds[j]? = some u → cs[off + j]? = some u) (hr : readAs t ds 0 = some v) : OpQ c o σ ρ κ v := fun hc w hs => by
  have hb : w.heap[b]? = some (.cells cs.toArray T (0, 0)) := hs.own _ hm
  have := run_readAs (w := w) (t := t) (b := b) (off := off) (cs := ds) (v := v) (fun j u hu => by rw [cell_of_cells hb]; exact hd hc j u hu) hr
  simp [execOp, ho, hx hc, Instr.loadAt, Instr.sureAddr, this]
/-- A load from a slice of the call's own. -/
theorem oq_load_row {t b T n cp sz k : Nat} {css : List (List Value)} {cs : List Value} {v : Value} (ho : o.op = .load t x) (hx : Ev σ c x (.pointer (some ⟨b, 0 + k * sz, none⟩))) (hm : Res.row (some ⟨b, 0, none⟩) n cp T sz css ∈ ρ) (hk : c = true → css[k]? = some cs) (hr : readAs t cs 0 = some v) : OpQ c o σ ρ κ v := fun hc w hs => by
  obtain ⟨h1, h2, h3, h4, h5, cur, h6, h7, h8⟩ : (Res.row (some ⟨b, 0, none⟩) n cp T sz css).holds w := hs.own _ hm
  have hck := hk hc
  have hcl := h3 cs (List.mem_of_getElem? hck)
  have := run_readAs (w := w) (t := t) (b := b) (off := 0 + k * sz) (cs := cs) (v := v) (fun j u hu => by
    have hj : j < sz := by rcases Nat.lt_or_ge j cs.length with h | h; (omega); rw [List.getElem?_eq_none h] at hu; cases hu
    have hg := flatten_get h3 hck hj
    have hkn : k < n := by rw [← h2]; exact (List.getElem?_eq_some_iff.1 hck).1
    have hlt : k * sz + j < n * sz := by
      have : (k + 1) * sz ≤ n * sz := Nat.mul_le_mul_right _ hkn
      rw [Nat.add_mul] at this; omega
    have hc2 : w.cell? ⟨b, 0 + k * sz + j, none⟩ = cur.toList[k * sz + j]? := by simp [World.cell?, h6]
    rw [hc2]
    rw [← h8, List.getElem?_take, if_pos hlt] at hg
    rw [hg]; exact hu) hr
  simp only [Nat.zero_add] at this
  simp [execOp, ho, hx hc, Instr.loadAt, Instr.sureAddr, this]
/-- string(b): the bytes of a slice. -/
theorem flat_one {α : Type} (f : α → Value) : ∀ (bs : List α), (bs.map fun b => [f b]).flatten = bs.map f
  | [] => rfl
  | b :: bs => by rw [List.map_cons, List.flatten_cons, flat_one f bs]; rfl
theorem oq_bytes {s d e n cp : Nat} {a : Option Addr} {xs : List Int} (ho : o.op = .convert s d x) (hs : und s = some (.slice e)) (he : und e = some (.int .u8)) (hd : und d = some .string) (hx : Ev σ c x (.slice a n cp)) (hr : c = true → Rd ρ κ a n 1 (xs.map fun b => [.int .u8 b])) : OpQ c o σ ρ κ (.string (strOfNums xs)) := fun hc w hst => by
  have hrd := hr hc
  have hlen : xs.length = n := by have := hrd.len; simpa using this
  have hrun : (convert s d (.slice a n cp)).run Tryz.prog w = .ok (.string (strOfNums xs)) w := by
    rw [run_convert_bytes_string w s d e a n cp (und_ok hs) (und_ok he) (und_ok hd)]
    cases a with
    | none =>
      have hn : n = 0 := by
        rcases Nat.eq_zero_or_pos n with h | h
        · exact h
        · obtain ⟨ad, e, _⟩ := hrd.at_ h; cases e
      have hb : xs = [] := List.eq_nil_of_length_eq_zero (by omega)
      subst hb
      simp [Conv.bytesToString]; rfl
    | some ad =>
      have hcells : ∀ j u, (xs.map (Value.int .u8))[j]? = some u → w.cell? (ad.add j) = some u := fun j u hu => by
        have hpos : 0 < n := by
          rcases Nat.eq_zero_or_pos n with h | h
          · have hb : xs = [] := List.eq_nil_of_length_eq_zero (by omega)
            subst hb; simp at hu
          · exact h
        obtain ⟨ad', e, h2⟩ := hrd.at_ hpos
        injection e with e; subst e
        refine h2 w hst j u ?_
        rw [flat_one]; exact hu
      have hl := run_loadCells_list (P := Tryz.prog) w ad (xs.map (Value.int .u8)) hcells
      simp only [List.length_map, hlen] at hl
      rw [run_bytesToString w _ n cp xs hl, foldl_push_bytes]
      simp [strOfNums, ByteArray.empty, ByteArray.emptyWithCapacity]
      rfl
  simp [execOp, ho, hx hc, hrun]
end
end SX
end Go.Proofs.YtfcecieppoljlaaGreatDoor
