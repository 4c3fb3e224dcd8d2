/- From a contract over pure values to a row's statement. No statement of the seat is proved here. -/
import Derived.Test.YtfcecieppoljlaaGreatDoorR1
import Derived.ChangeOld
import Derived.SevenTiedAt
set_option maxRecDepth 100000
namespace Go.Proofs.YtfcecieppoljlaaGreatDoor
open Go Go.ChangeShapes Go.WideShapes Go.RowKit
namespace SX
theorem inv0 (W : World) : Inv ⟨k0 W, []⟩ [] (k0 W) := ⟨.refl _ _, fun _ h => h, (fun _ h => by cases h), (fun _ h => by cases h), .nil⟩
theorem below_of {W : World} {ρ : List Res} {κ : Kr} (h : Inv ⟨k0 W, []⟩ ρ κ) : Below W.heap.size W κ.w := ⟨h.le.os, h.le.tape, h.le.output, h.le.kle.size, fun k hk => h.le.same k hk (by simp)⟩
section
variable {H : Type} {eh : TypeId × Value → H}
theorem trodAll_below {W W' : World} (hb : Below W.heap.size W W') {ts : List TypeId} (hr : ∀ t ∈ ts, Tryz.prog.readableRec t = true ∧ t < Tryz.prog.types.size) : ∀ {vs : List Value} {ds : List (DataW H)} {ps : List MemPlace}, DataW.TrodAll eh Tryz.prog W 0 (fun _ => true) true ts vs ds ps → (∀ p ∈ ps, p.block < W.heap.size) → DataW.TrodAll eh Tryz.prog W' 0 (fun b => decide (b < W.heap.size)) true ts vs ds ps := by
  induction ts with
  | nil => intro vs ds ps h _; cases vs <;> cases ds <;> first | exact h | cases h
  | cons t ts ih =>
    intro vs ds ps h hlt
    cases vs with
    | nil => cases h
    | cons v vs =>
      cases ds with
      | nil => cases h
      | cons d ds =>
        obtain ⟨p, q, h1, h2, e⟩ := h
        have ht := hr t (by simp)
        exact ⟨p, q, Below.trod laidOut_ok ht.1 ht.2 h1 hb (fun x hx => hlt x (by rw [e]; simp [hx])), ih (fun u hu => hr u (by simp [hu])) h2 (fun x hx => hlt x (by rw [e]; simp [hx])), e⟩
theorem readB {ts : List TypeId} (h : (ts.all fun t => Tryz.prog.readableRec t && Nat.blt t Tryz.prog.types.size) = true) : ∀ t ∈ ts, Tryz.prog.readableRec t = true ∧ t < Tryz.prog.types.size := fun t ht => by
  have := List.all_eq_true.1 h t ht
  rw [Bool.and_eq_true] at this
  exact ⟨this.1, by have h2 := this.2; exact Nat.le_of_ble_eq_true h2⟩
theorem row_post {f tb : Nat} {fn : Func} {s : ChangeSpec} {W : World} {args : Array Value} {ds gs : List (DataW H)} {before : List MemPlace} {pargs : List PV}
    (hrd : ∀ t ∈ fn.params.toList, Tryz.prog.readableRec t = true ∧ t < Tryz.prog.types.size) (hres : fn.resultTypes = #[tb]) (hub : Tryz.prog.underlying tb = some .bool) (hvars : s.vars = [])
    (hspec : s.fn H ds = { results := [.lit (.bool true)], args := ds }) (hW : DataW.Whole eh Tryz.prog fn.params.toList s.vars false W args.toList ds gs before) (hG : GOK (k0 W)) (hargs : Rps (k0 W) pargs args.toList) (hPF : PF f pargs (.v (.bool true))) :
    Calls Tryz.prog f args W fun e W' => ∃ v, e = .returned v ∧ s.post eh Tryz.prog fn false true false false W args v W' := by
  have hc := (hPF (k0 W) args.toList hG hargs).2 (inv0 W)
  have e : args.toList.toArray = args := by simp
  rw [e] at hc
  refine Calls.mono hc fun en W' ⟨v, ρ', κ', h1, h2, h3, h4, h5⟩ => ⟨v, h1, ?_⟩
  subst h2
  have hv := h5.val
  subst hv
  have hb := below_of h3
  have hW' := hW
  obtain ⟨p, q, hA, hV, rfl, hfz, hnd⟩ := hW
  rw [hvars] at hV
  obtain ⟨rfl, rfl⟩ : gs = [] ∧ q = [] := by
    cases gs with
    | nil => exact ⟨rfl, hV⟩
    | cons g r => exact absurd hV (by intro h; cases h)
  refine ⟨ds, [], _, [], p, [], hW', ?_, ?_, ?_, hb.frame _, fun h => by cases h⟩
  · rw [List.append_nil, hspec, hres]; exact trodAll_mk1 (shut_bool hub true)
  · rw [List.append_nil, hspec]; exact trodAll_below hb hrd hA (DataW.TrodAll.lt hA)
  · rw [hvars, List.append_nil, hspec]; rfl
/-! The arguments, one by one -/
theorem trodAll_cons {W : World} {t : TypeId} {ts : List TypeId} {vs : List Value} {ds : List (DataW H)} {ps : List MemPlace} (h : DataW.TrodAll eh Tryz.prog W 0 (fun _ => true) true (t :: ts) vs ds ps) : ∃ v vs' d ds' p q, vs = v :: vs' ∧ ds = d :: ds' ∧ DataW.Trod eh Tryz.prog W 0 (fun _ => true) true t v d p ∧ DataW.TrodAll eh Tryz.prog W 0 (fun _ => true) true ts vs' ds' q := by
  cases vs with
  | nil => cases h
  | cons v vs =>
    cases ds with
    | nil => cases h
    | cons d ds => obtain ⟨p, q, h1, h2, _⟩ := h; exact ⟨v, vs, d, ds, p, q, rfl, rfl, h1, h2⟩
theorem trodAll_nil {W : World} {vs : List Value} {ds : List (DataW H)} {ps : List MemPlace} (h : DataW.TrodAll eh Tryz.prog W 0 (fun _ => true) true [] vs ds ps) : vs = [] ∧ ds = [] := by
  cases vs <;> cases ds <;> first | exact ⟨rfl, rfl⟩ | cases h
theorem standIns_no {l : Array TypeId} (h : (l.toList.all fun t => !Tryz.prog.wantsStandIn t) = true) {j : Nat} {t : TypeId} (ht : l[j]? = some t) : Tryz.prog.wantsStandIn t = false := by
  have := List.all_eq_true.1 h t (by have := Array.mem_of_getElem? ht; simpa using this)
  simpa using this
theorem light_head {t : Nat} {ts : List Nat} {d : DataW H} {ds : List (DataW H)} (h : (DataW.weightsEach Tryz.prog (t :: ts) (d :: ds)).all (· ≤ reachBytes) = true) : Light t d ∧ (DataW.weightsEach Tryz.prog ts ds).all (· ≤ reachBytes) = true := by
  simp only [DataW.weightsEach, List.all_append, Bool.and_eq_true] at h
  exact ⟨fun n hn => by simpa using List.all_eq_true.1 h.1 n hn, h.2⟩
def isPlainD : TypeDesc → Bool
  | .int _ | .bool | .string | .slice _ => true
  | _ => false
theorem not_agg {W : World} {r : Reach} {base t : Nat} {v : Value} {D : TypeDesc} (hu : und t = some D) (hD : isPlainD D = true) (h : Value.okWide Tryz.prog W r base t v) : ∀ cs, v.cells.toList = [cs] → v = cs := fun cs he => by
  cases v with
  | agg arr =>
    exfalso
    unfold Value.okWide at h
    rw [und_ok hu] at h
    cases D <;> first | (revert hD; simp [isPlainD]; done) | (simp only at h; unfold Cell.okWide at h; rw [und_ok hu] at h; simp only at h; unfold Cell.ok at h; rw [und_ok hu] at h; simp at h)
  | _ => simpa [Value.cells] using he
theorem arg_agg {W : World} {r : Reach} {base t : Nat} {v : Value} {D : TypeDesc} {α : Type} {e : α → List PV} {d : DataW H} {ps : List MemPlace} (hu : und t = some D) (hD : isAggD D = true) (hO : Opens eh t e) (h : Value.okWide Tryz.prog W r base t v) (hd : DataW.Trod eh Tryz.prog W 0 (fun _ => true) true t v d ps) (hl : Light t d) : ∃ m, Rp (k0 W) (.agg (e m)) v := by
  obtain ⟨fuel, hf⟩ := hd
  obtain ⟨m, h1, h2⟩ := hO W fuel _ _ hf hl
  have : ∃ cs, v = .agg cs := by
    unfold Value.okWide at h
    rw [und_ok hu] at h
    cases D <;> first | (revert hD; simp [isAggD]; done) | (obtain ⟨cs, e, _⟩ := h; exact ⟨cs, e⟩)
  obtain ⟨cs, rfl⟩ := this
  refine ⟨m, ?_⟩
  have e2 : (Value.agg cs) = .agg cs.toList.toArray := by simp
  rw [e2]
  exact .agg h2 h1
theorem arg_one {W : World} {r : Reach} {base t : Nat} {v : Value} {D : TypeDesc} {α : Type} {e : α → List PV} {d : DataW H} {ps : List MemPlace} (hu : und t = some D) (hD : isPlainD D = true) (hO : Opens eh t e) (h1 : ∀ m, ∃ p, e m = [p]) (h : Value.okWide Tryz.prog W r base t v) (hd : DataW.Trod eh Tryz.prog W 0 (fun _ => true) true t v d ps) (hl : Light t d) : ∃ m, Rps (k0 W) (e m) [v] := by
  obtain ⟨fuel, hf⟩ := hd
  obtain ⟨m, h2, _⟩ := hO W fuel _ _ hf hl
  refine ⟨m, ?_⟩
  obtain ⟨p, hp⟩ := h1 m
  rw [hp] at h2
  generalize hc : v.cells.toList = cs at h2
  obtain ⟨w, ws, rfl, h3, h4⟩ := h2.cons_inv
  rw [h4.nil_inv] at hc
  rw [not_agg hu hD h w hc, hp]
  exact .cons h3 .nil
end
/-! What pure values that stand in memory have -/
theorem rps_str {κ : Kr} {ps : List PV} {vs : List Value} {k : Nat} {s : ByteArray} (h : Rps κ ps vs) (hk : ps[k]? = some (.v (.string s))) : s.size ≤ 140737488355328 := by
  obtain ⟨v, _, h2⟩ := h.get hk
  exact Nat.le_of_ble_eq_true h2.ok
theorem rps_slc {κ : Kr} {ps : List PV} {vs : List Value} {k : Nat} {xs : List (List PV)} (h : Rps κ ps vs) (hk : ps[k]? = some (.slc xs)) : xs.length ≤ 140737488355328 := by
  obtain ⟨v, _, h2⟩ := h.get hk
  cases h2 with
  | slc hs hb _ hss => rw [hss.len, hs.len]; exact hb
theorem rps_agg {κ : Kr} {cs : List PV} {vs : List Value} (h : Rps κ [.agg cs] vs) : ∃ ds, Rps κ cs ds := by
  obtain ⟨v, ws, rfl, h1, _⟩ := h.cons_inv
  cases h1 with
  | agg _ hc => exact ⟨_, hc⟩
theorem rps_elem {κ : Kr} {ps : List PV} {vs : List Value} {k : Nat} {xs : List (List PV)} {x : List PV} (h : Rps κ ps vs) (hk : ps[k]? = some (.slc xs)) (hx : x ∈ xs) : ∃ ds, Rps κ x ds := by
  obtain ⟨v, _, h2⟩ := h.get hk
  cases h2 with
  | slc hs hb _ hss =>
    obtain ⟨i, hi, rfl⟩ := List.getElem_of_mem hx
    obtain ⟨ds, _, h3⟩ := hss.get (List.getElem?_eq_getElem hi)
    exact ⟨ds, h3⟩
end SX
end Go.Proofs.YtfcecieppoljlaaGreatDoor
