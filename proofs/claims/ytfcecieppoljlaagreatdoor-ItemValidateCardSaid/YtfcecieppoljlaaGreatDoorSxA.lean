/- Our calculus, tenth text: arrays, stores at an index, rows of the call's own. No statement of the seat is proved here. -/
import Derived.Test.YtfcecieppoljlaaGreatDoorSx9
set_option maxRecDepth 100000
namespace Go.Proofs.YtfcecieppoljlaaGreatDoor
namespace SX
open Go
section
variable {o : Oper} {σ : Env} {ρ : List Res} {κ : Kr} {c : Bool} {x y : Operand} {K : Value → List Res → Kr → Prop}
/-- An element of one cell of an array value. -/
theorem oq_indexA {t E len by' : Nat} {cs : List Value} {v z : Value} {k : IntKind} {i : Int} {j : Nat} {d : TypeDesc} (ho : o.op = .index t x y) (hu : und t = some (.array len E)) (hE : und E = some d) (hd : isAggD d = false) (hi : inf E = some (z, 1, by'))
    (hx : Ev σ c x (.agg cs.toArray)) (hy : Ev σ c y (.int k i)) (hj : c = true → i = (j : Int)) (hlt : c = true → j < len) (hv : c = true → cs[j]? = some v) : OpQ c o σ ρ κ v := fun hc w _ => by
  have h1 := hj hc; have h2 := hlt hc; have h3 := hv hc
  simp only [execOp, ho, hx hc, hy hc, Instr.index, asIntOf, Sem.run_bind, Sem.run_pure, Result.andThen_ok, run_underlying (und_ok hu), run_sizeOf hi, part, run_isAgg hE, hd]
  simp [h1, h2, h3, run_sizeOf hi, run_isAgg hE, hd, part]
/-- The address of an element of an array in memory. -/
theorem oq_indexP {t E len b off sz by' : Nat} {z : Value} {k : IntKind} {i : Int} {j : Nat} (ho : o.op = .indexAddr t x y) (hu : und t = some (.array len E)) (hi : inf E = some (z, sz, by'))
    (hx : Ev σ c x (.pointer (some ⟨b, off, none⟩))) (hy : Ev σ c y (.int k i)) (hj : c = true → i = (j : Int)) (hlt : c = true → j < len) : OpQ c o σ ρ κ (.pointer (some ⟨b, off + j * sz, none⟩)) := fun hc w _ => by
  have h1 := hj hc; have h2 := hlt hc
  simp only [execOp, ho, hx hc, hy hc, Instr.indexAt, asIntOf, Instr.sureAddr, Sem.run_bind, Sem.run_pure, Result.andThen_ok, run_underlying (und_ok hu)]
  simp [h1, h2, run_sizeOf hi, add_none]
/-- A store of one cell at some place of an own block. -/
theorem ol_storeI {t : Nat} {b off T by' : Nat} {z v : Value} {cs : List Value} {ρ' : List Res} (ho : o.op = .store t x y) (hx : ev σ x = .pointer (some ⟨b, off, none⟩)) (hv : ev σ y = v) (hv1 : cellsL v = [v])
    (hz : inf t = some (z, 1, by')) (h1 : v.oneCell' = true) (hu : Upd ρ (Res.b b T cs) (Res.b b T (cs.set off v)) ρ') (hl : off < cs.length)
    (h : ∀ κ', Kle κ κ' → K undef ρ' κ') : OpL o σ ρ κ K := by
  rw [set_eq_take hl] at hu
  exact ol_store ho hx (by rw [hv]; exact hv1) hz rfl (by simp [h1]) (Nat.ble_eq_true_of_le (by simp only [List.length_cons, List.length_nil]; omega)) hu h
/-- Laying cells into an element of a row. -/
theorem flat_take {sz : Nat} : ∀ {css : List (List Value)} {k : Nat}, (∀ cs ∈ css, cs.length = sz) → k ≤ css.length → css.flatten.take (k * sz) = (css.take k).flatten
  | [], k, _, h => by simp
  | c :: css, 0, _, _ => by simp
  | c :: css, k + 1, hw, h => by
    have hc := hw c (by simp)
    rw [List.flatten_cons, List.take_succ_cons, List.flatten_cons, ← flat_take (fun cs h => hw cs (by simp [h])) (by simpa using h)]
    rw [List.take_append, hc]
    have e1 : List.take ((k + 1) * sz) c = c := List.take_of_length_le (by rw [hc, Nat.add_mul]; omega)
    have e2 : (k + 1) * sz - sz = k * sz := by rw [Nat.add_mul]; omega
    rw [e1, e2]
theorem flat_drop {sz : Nat} : ∀ {css : List (List Value)} {k : Nat}, (∀ cs ∈ css, cs.length = sz) → k ≤ css.length → css.flatten.drop (k * sz) = (css.drop k).flatten
  | [], k, _, h => by simp
  | c :: css, 0, _, _ => by simp
  | c :: css, k + 1, hw, h => by
    have hc := hw c (by simp)
    rw [List.flatten_cons, List.drop_succ_cons, ← flat_drop (fun cs h => hw cs (by simp [h])) (by simpa using h)]
    rw [List.drop_append, hc]
    have e1 : List.drop ((k + 1) * sz) c = [] := List.drop_of_length_le (by rw [hc, Nat.add_mul]; omega)
    have e2 : (k + 1) * sz - sz = k * sz := by rw [Nat.add_mul]; omega
    rw [e1, e2]; rfl
theorem flat_set {sz : Nat} {css : List (List Value)} {k j : Nat} {cs vs : List Value} (hw : ∀ cs ∈ css, cs.length = sz) (hk : css[k]? = some cs) (hj : j + vs.length ≤ sz) :
    css.flatten.take (k * sz + j) ++ vs ++ css.flatten.drop (k * sz + j + vs.length) = (css.set k (cs.take j ++ vs ++ cs.drop (j + vs.length))).flatten := by
  have hlt : k < css.length := (List.getElem?_eq_some_iff.1 hk).1
  have hcs : css[k] = cs := (List.getElem?_eq_some_iff.1 hk).2
  have hcl : cs.length = sz := hw cs (List.mem_of_getElem? hk)
  have hsplit : css = css.take k ++ cs :: css.drop (k + 1) := by
    rw [← hcs, ← List.drop_eq_getElem_cons hlt, List.take_append_drop]
  have hpre : (css.take k).flatten.length = k * sz := by rw [flatten_len (fun c h => hw c (List.mem_of_mem_take h)), List.length_take, Nat.min_eq_left (by omega)]
  rw [List.set_eq_take_append_cons_drop, if_pos hlt]
  have hf : css.flatten = (css.take k).flatten ++ (cs ++ (css.drop (k + 1)).flatten) := by
    conv => lhs; rw [hsplit]
    simp
  rw [hf]
  have t1 : List.take (k * sz + j) ((css.take k).flatten ++ (cs ++ (css.drop (k + 1)).flatten)) = (css.take k).flatten ++ cs.take j := by
    rw [List.take_append, hpre, List.take_of_length_le (by omega), Nat.add_sub_cancel_left, List.take_append_of_le_length (by omega)]
  have t2 : List.drop (k * sz + j + vs.length) ((css.take k).flatten ++ (cs ++ (css.drop (k + 1)).flatten)) = cs.drop (j + vs.length) ++ (css.drop (k + 1)).flatten := by
    rw [List.drop_append, hpre, List.drop_of_length_le (by omega), show k * sz + j + vs.length - k * sz = j + vs.length by omega, List.drop_append_of_le_length (by omega)]; rfl
  rw [t1, t2]
  simp
theorem take_mid {A V D : List Value} {N : Nat} (h : A.length + V.length ≤ N) : (A ++ V ++ D).take N = A ++ V ++ D.take (N - (A.length + V.length)) := by
  rw [List.take_append, List.take_of_length_le (by rw [List.length_append]; exact h), List.length_append]
/-- A store into an element of an own slice. -/
theorem ol_rowstore {t b n c' T sz sz2 by' off k j : Nat} {z : Value} {css : List (List Value)} {cs vs : List Value} {ρ' : List Res} (ho : o.op = .store t x y) (hx : ev σ x = .pointer (some ⟨b, off, none⟩)) (hoff : off = k * sz + j) (hv : cellsL (ev σ y) = vs)
    (hz : inf t = some (z, sz2, by')) (hsz : vs.length = sz2) (h1 : vs.all Value.oneCell' = true) (hk : css[k]? = some cs) (hj : j + vs.length ≤ sz) (hu : Upd ρ (Res.row (some ⟨b, 0, none⟩) n c' T sz css) (Res.row (some ⟨b, 0, none⟩) n c' T sz (css.set k (cs.take j ++ vs ++ cs.drop (j + vs.length)))) ρ')
    (h : ∀ κ', Kle κ κ' → K undef ρ' κ') : OpL o σ ρ κ K := fun β hi Nx hkk => by
  obtain ⟨l1, l2, hρ, hρ'⟩ := hu
  obtain ⟨g0, g1, g2, g3, g4, cur, g5, g6, g7⟩ : (Res.row (some ⟨b, 0, none⟩) n c' T sz css).holds κ.w := hi.own _ (by rw [hρ]; simp)
  have hlt : k < css.length := (List.getElem?_eq_some_iff.1 hk).1
  have hb : κ.w.heap[b]? = some (.cells cur.toList.toArray T (0, 0)) := by simpa using g5
  have hkn : k * sz + sz ≤ n * sz := by rw [← Nat.succ_mul]; exact Nat.mul_le_mul_right _ (by omega)
  have hnc : n * sz ≤ c' * sz := Nat.mul_le_mul_right _ g3
  have hl : off + vs.length ≤ cur.toList.length := by simp only [Array.length_toList, g6, hoff]; omega
  obtain ⟨w', hrun, e1, e2, e3, e4, e5, e6⟩ := run_store_own hb hl h1
  have hcs : (ev σ y).cells = vs.toArray := by rw [← hv, ← cellsL_eq]
  have hsz' : vs.toArray.size = sz2 := by simpa using hsz
  unfold execOp
  simp only [ho, hx, Instr.storeAt, Instr.sureAddr, storeVar, Sem.run_bind, Sem.run_pure, Result.andThen_ok, run_sizeOf hz, hcs, hsz', ne_eq, not_true_eq_false, if_false, hrun, OutV]
  have hlen : (css.set k (cs.take j ++ vs ++ cs.drop (j + vs.length))).length = n := by simp [g1]
  have hcl : cs.length = sz := g2 cs (List.mem_of_getElem? hk)
  have hsays : (Res.row (some ⟨b, 0, none⟩) n c' T sz (css.set k (cs.take j ++ vs ++ cs.drop (j + vs.length)))).says w'.heap[b]? := by
    refine ⟨rfl, hlen, fun d hd => ?_, g3, g4, _, e3, ?_, ?_⟩
    · rcases List.mem_or_eq_of_mem_set hd with hd | hd
      · exact g2 d hd
      · rw [hd]; simp only [List.length_append, List.length_take, List.length_drop]; omega
    · have := hl; simp only [Array.length_toList, g6] at this
      simp only [List.size_toArray, List.length_append, List.length_take, List.length_drop, Array.length_toList, g6]; omega
    · rw [← flat_set g2 hk hj, ← g7, hoff]
      have hcl2 : cur.toList.length = c' * sz := by simp [g6]
      have hA : (List.take (k * sz + j) cur.toList).length = k * sz + j := by rw [List.length_take, hcl2]; omega
      rw [take_mid (by rw [hA]; omega), hA]
      have a1 : List.take (k * sz + j) (List.take (n * sz) cur.toList) = List.take (k * sz + j) cur.toList := by rw [List.take_take, Nat.min_eq_left (by omega)]
      have a2 : List.drop (k * sz + j + vs.length) (List.take (n * sz) cur.toList) = List.take (n * sz - (k * sz + j + vs.length)) (List.drop (k * sz + j + vs.length) cur.toList) := by rw [List.drop_take]
      rw [a1, a2]
  obtain ⟨hi', hk'⟩ := hi.turn (r := Res.row (some ⟨b, 0, none⟩) n c' T sz css) (r' := Res.row (some ⟨b, 0, none⟩) n c' T sz (css.set k (cs.take j ++ vs ++ cs.drop (j + vs.length)))) hρ rfl rfl e1 e2 hsays e4 e5 e6
  rw [← hρ'] at hi'
  exact hkk _ _ _ hi' hk' (h _ hk')
end
end SX
end Go.Proofs.YtfcecieppoljlaaGreatDoor
