/- Our calculus over pure values, seventh text: a slice held against nil; the entry math/bits.Add64. No statement of the seat is proved here. -/
import Derived.Test.YtfcecieppoljlaaGreatDoorPx6
import Derived.Laws.Cover3
import Derived.Laws.Externs
set_option maxRecDepth 100000
namespace Go.Proofs.YtfcecieppoljlaaGreatDoor
namespace SX
open Go
theorem run_eqnil {t E : Nat} (hu : und t = some (.slice E)) (a : Option Addr) (n c : Nat) (x y : Operand) (w : World) : ((eqGuard .eql t x y (.slice a n c) (.slice none 0 0)).run Tryz.prog w = .ok () w) ∧ (binOp .eql t (.slice a n c) (.slice none 0 0)).run Tryz.prog w = .ok (.bool a.isNone) w := by
  constructor
  · cases a <;> simp [eqGuard]
  · simp only [binOp, Sem.run_bind, run_equal_slice_nil w t E a n c (und_ok hu), Result.andThen_ok, Sem.run_pure]
theorem pwl_eqnil {n : Nat} {ops : Array Oper} {o : Oper} {rest : List Oper} {K : PPost} {σ : PEnv} {ρ : List PRes} {d t t' E : Nat} {x : Operand} {xs : List (List PV)} (hg : o.guard = none) (hd : o.dst = some d) (hlt : Nat.blt d n = true) (ho : o.op = .binOp .eql t x (.const (.slice none 0 0)) t') (hu : und t = some (.slice E)) (hx : pevc σ x = .slc xs) (h : ∀ b : Bool, (b = true → xs = []) → PWL n ops rest K (pupd σ d (.v (.bool b))) ρ) : PWL n ops (o :: rest) K σ ρ := fun β κ σ' ρ' g hs hr => by
  have he := hs.ev x
  rw [hx] at he
  generalize hw' : ev σ' x = w at he
  cases he with
  | slc hsl hb h1 hss =>
    rename_i a m c sz css
    have hq : OpQ true o σ' ρ' κ (.bool a.isNone) := fun _ w _ => by
      obtain ⟨g1, g2⟩ := run_eqnil hu a m c x (.const (.slice none 0 0)) w
      have e2 : ev σ' (.const (.slice none 0 0)) = .slice none 0 0 := rfl
      simp only [execOp, ho, hw', e2, Sem.run_bind, g1, Result.andThen_ok, g2, Sem.run_pure]
    refine wl_q hg hd hlt hq (h a.isNone (fun hn => ?_) β κ _ ρ' g (hs.upd (.v rfl)) hr)
    cases a with
    | some ad => cases hn
    | none =>
      have : m = 0 := by
        rcases Nat.eq_zero_or_pos m with h | h
        · exact h
        · obtain ⟨b, off, e, _⟩ := hsl.at_ h; cases e
      subst this
      have e1 := hss.len; have e2 := hsl.len
      exact List.eq_nil_of_length_eq_zero (by omega)
theorem set_same {α : Type} (l : List α) (k : Nat) (v : α) (h : l[k]? = some v) : l.set k v = l := by
  apply List.ext_getElem?; intro i; rw [List.getElem?_set]; split
  · rename_i hik; subst hik; rw [h]; have := (List.getElem?_eq_some_iff.1 h).1; simp [this]
  · rfl
section
variable {n : Nat} {x : Code} {K : Exit → PPost} {KL : PPost} {σ : PEnv} {ρ : List PRes} {ops : Array Oper} {lo : List Oper} {cs : List PV} {a : Option Addr} {m c : Nat} {css : List (List PV)}
theorem agg_nil {κ : Kr} {w : Value} {k : Nat} (h : Rp κ (.agg cs) w) (hk : cs[k]? = some (.v (.slice none 0 0))) : Rp κ (.agg (cs.set k (.slc []))) w := by
  cases h with
  | agg ho hc =>
    obtain ⟨v, hv, hp⟩ := hc.get hk
    have hset := hc.set (k := k) (p := .slc []) (v := v) (by rw [hp.val]; exact rp_nil)
    rw [set_same _ _ _ hv] at hset
    exact .agg ho hset
theorem agg_frz {κ : Kr} {w : Value} {k : Nat} {r : Res} (h : Rp κ (.agg cs) w) (hk : cs[k]? = some (.v (.slice a m c))) (hf : RRel κ (.frz a m c css) r) : Rp κ (.agg (cs.set k (.slc css))) w := by
  cases h with
  | agg ho hc =>
    obtain ⟨v, hv, hp⟩ := hc.get hk
    have hset := hc.set (k := k) (p := .slc css) (v := v) (frz_rp hf hp.val)
    rw [set_same _ _ _ hv] at hset
    exact .agg ho hset
theorem pwl_aggnil (t k : Nat) (ht : σ t = .agg cs) (hk : cs[k]? = some (.v (.slice none 0 0))) (h : PWL n ops lo KL (pupd σ t (.agg (cs.set k (.slc [])))) ρ) : PWL n ops lo KL σ ρ := fun β κ σ' ρ' g hs hr => h β κ σ' ρ' g (sim_view hs (agg_nil (by have := hs t; rwa [ht] at this) hk)) hr
theorem pwc_aggnil (t k : Nat) (ht : σ t = .agg cs) (hk : cs[k]? = some (.v (.slice none 0 0))) (h : PWC n x K (pupd σ t (.agg (cs.set k (.slc [])))) ρ) : PWC n x K σ ρ := fun β κ σ' ρ' g hs hr => h β κ σ' ρ' g (sim_view hs (agg_nil (by have := hs t; rwa [ht] at this) hk)) hr
theorem pwl_aggview (t k : Nat) (ht : σ t = .agg cs) (hk : cs[k]? = some (.v (.slice a m c))) (hm : PRes.frz a m c css ∈ ρ) (h : PWL n ops lo KL (pupd σ t (.agg (cs.set k (.slc css)))) ρ) : PWL n ops lo KL σ ρ := fun β κ σ' ρ' g hs hr => by
  obtain ⟨r, _, h2⟩ := hr.mem hm
  exact h β κ σ' ρ' g (sim_view hs (agg_frz (by have := hs t; rwa [ht] at this) hk h2)) hr
theorem pwc_aggview (t k : Nat) (ht : σ t = .agg cs) (hk : cs[k]? = some (.v (.slice a m c))) (hm : PRes.frz a m c css ∈ ρ) (h : PWC n x K (pupd σ t (.agg (cs.set k (.slc css)))) ρ) : PWC n x K σ ρ := fun β κ σ' ρ' g hs hr => by
  obtain ⟨r, _, h2⟩ := hr.mem hm
  exact h β κ σ' ρ' g (sim_view hs (agg_frz (by have := hs t; rwa [ht] at this) hk h2)) hr
end
/-- A struct literal whose empty slices count as shared. -/
def zpv : Value → PV
  | .slice none 0 0 => .slc []
  | x => cond (okb x) (.v x) .any
theorem rps_zpv {κ : Kr} : ∀ (l : List Value), Rps κ (l.map zpv) l
  | [] => .nil
  | x :: l => .cons (by unfold zpv; split; exact rp_nil; exact rp_cond) (rps_zpv l)
theorem pq_buildZ {o : Oper} {σ : PEnv} {ρ : List PRes} {c : Bool} {t sz by' : Nat} {parts : List (Nat × Operand)} {fl : List (Nat × Nat)} {zs : List Value} {zp cs : List PV} (hc : c = true) (ho : o.op = .build t parts.toArray) (hz : inf t = some (.agg zs.toArray, sz, by')) (hf : fldL t = some fl) (hall : (fl.all fun p => (inf p.2).isSome) = true) (hzp : zs.map zpv = zp) (hz1 : zs.all Value.oneCell' = true) (h : PFill σ fl zp parts cs) : POpQ c o σ ρ (.agg cs) := fun κ σ' ρ' g hs hr => by
  subst hc
  obtain ⟨cv, h1, h2, h3⟩ := h.real hs (zv := zs) (by rw [← hzp]; exact rps_zpv zs) (fun u hu => List.all_eq_true.1 hz1 u hu)
  exact ⟨_, fun _ => .agg h3 h2, oq_build ho hz hf hall h1⟩
def math_bits_Add64 (x y c : Int) : Option (Int × Int) := if 0 ≤ x ∧ 0 ≤ y ∧ 0 ≤ c ∧ c ≤ 1 then some ((x + y + c) % 18446744073709551616, (x + y + c) / 18446744073709551616) else none
theorem pl_add64 {o : Oper} {σ : PEnv} {ρ : List PRes} {l : List Operand} {ts : Array Nat} {x y c : Int} {r : Int × Int} {K : PV → List PRes → Prop} (ho : o.op = .call { callee := .value (.func 122), args := l.toArray, argTypes := ts }) (ha : l.map (pevc σ) = [.v (.int .u64 x), .v (.int .u64 y), .v (.int .u64 c)]) (hr : math_bits_Add64 x y c = some r) (h : K (.tup [.v (.int .u64 r.1), .v (.int .u64 r.2)]) ρ) : POpL o σ ρ K := fun κ σ' ρ' g hs hrr => by
  unfold math_bits_Add64 at hr
  split at hr
  · rename_i hh
    injection hr with hr; subst hr
    have hargs := rps_args hs l
    rw [ha] at hargs
    obtain ⟨v1, w1, e1, h1, hargs⟩ := hargs.cons_inv
    obtain ⟨v2, w2, rfl, h2, hargs⟩ := hargs.cons_inv
    obtain ⟨v3, w3, rfl, h3, hargs⟩ := hargs.cons_inv
    rw [hargs.nil_inv, h1.val, h2.val, h3.val] at e1
    have hq : OpQ true o σ' ρ' κ (.tuple #[.int .u64 ((x + y + c) % 18446744073709551616), .int .u64 ((x + y + c) / 18446744073709551616)]) := fun _ w _ => by
      have hcall := run_callFunc_extern (P := Tryz.prog) Tryz.func122 (by kernel_rfl) (by kernel_rfl) (by kernel_rfl) (e := add64Entry) (by kernel_rfl) #[.int .u64 x, .int .u64 y, .int .u64 c] w
      rw [run_add64 x y c hh.1 hh.2.1 hh.2.2.1 hh.2.2.2] at hcall
      simp only [Result.andThen_ok] at hcall
      unfold execOp
      simp only [ho, ev, resolve, Deferred.ofValue, Sem.run_bind, Sem.run_pure, Result.andThen_ok, invoke, List.map_toArray, e1]
      simp only [Array.append_empty, Array.empty_append, hcall]
    exact ol_q hq ⟨_, ρ, .tup (ws := [_, _]) (.cons (.v rfl) (.cons (.v rfl) .nil)), hrr, h⟩
  · cases hr
end SX
end Go.Proofs.YtfcecieppoljlaaGreatDoor
