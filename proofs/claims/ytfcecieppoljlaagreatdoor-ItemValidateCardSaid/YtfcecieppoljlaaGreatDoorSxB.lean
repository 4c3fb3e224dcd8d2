/- Our calculus, eleventh text: guarded calls of functions that compute. No statement of the seat is proved here. -/
import Derived.Test.YtfcecieppoljlaaGreatDoorSxA
set_option maxRecDepth 100000
namespace Go.Proofs.YtfcecieppoljlaaGreatDoor
namespace SX
open Go
section
variable {β : Base} {n : Nat} {ops : Array Oper} {o : Oper} {σ : Env} {ρ : List Res} {κ : Kr} {c : Bool} {K : Post} {rest : List Oper} {f d : Nat} {l : List Operand} {ts : Array Nat} {args : List Value} {u : Value}
theorem gv_eq {c : Bool} {v u : Value} (h : c = true → v = u) : gv c v = gv c u := by
  cases c
  · rw [gv_false, gv_false]
  · rw [h rfl]
/-- A call of a function that computes u. -/
theorem wl_fun (hg : o.guard = none) (hd : o.dst = some d) (hlt : Nat.blt d n = true) (ho : o.op = .call { callee := .value (.func f), args := l.toArray, argTypes := ts })
    (ha : l.map (ev σ) = args) (hc : CallP f args κ fun v _ => v = u) (h : ∀ κ', Kle κ κ' → WL β n ops rest K (upd σ d u) ρ κ') : WL β n ops (o :: rest) K σ ρ κ :=
  wl_l hg hd hlt (ol_callP ho ha hc fun v κ' hk hv => by subst hv; exact h κ' hk)
theorem wl_gfun (hg : GuardIs ops σ o c) (hd : o.dst = some d) (hlt : Nat.blt d n = true) (ho : o.op = .call { callee := .value (.func f), args := l.toArray, argTypes := ts })
    (ha : c = true → l.map (ev σ) = args) (hc : c = true → CallP f args κ fun v _ => v = u) (h : ∀ κ', Kle κ κ' → WL β n ops rest K (upd σ d (gv c u)) ρ κ') : WL β n ops (o :: rest) K σ ρ κ :=
  wl_g hg hd hlt (og_callP ho ha hc fun v κ' hk hv => by rw [gv_eq hv]; exact h κ' hk)
theorem wd_fun {r : List (Nat × Oper)} {ρd ρs : List Res} (hg : o.guard = none) (hd : o.dst = some d) (hlt : Nat.blt d n = true) (ho : o.op = .call { callee := .value (.func f), args := l.toArray, argTypes := ts })
    (ha : l.map (ev σ) = args) (hc : ∀ κ1, Kle κ κ1 → CallP f args κ1 fun v _ => v = u) (h : ∀ κ', Kle κ κ' → WD β n ops K r (upd σ d u) ρd ρs κ') : WD β n ops K ((1, o) :: r) σ ρd ρs κ :=
  wd_callP hg hd hlt ho ha hc fun v κ' hk hv => by subst hv; exact h κ' hk
theorem wd_gfun {r : List (Nat × Oper)} {ρd ρs : List Res} (hg : GuardIs ops σ o c) (hd : o.dst = some d) (hlt : Nat.blt d n = true) (ho : o.op = .call { callee := .value (.func f), args := l.toArray, argTypes := ts })
    (ha : c = true → l.map (ev σ) = args) (hc : c = true → ∀ κ1, Kle κ κ1 → CallP f args κ1 fun v _ => v = u) (h : ∀ κ', Kle κ κ' → WD β n ops K r (upd σ d (gv c u)) ρd ρs κ') : WD β n ops K ((1, o) :: r) σ ρd ρs κ :=
  wd_callPg hg hd hlt ho ha hc fun v κ' hk hv => by rw [gv_eq hv]; exact h κ' hk
theorem ar1 {x : Operand} {v : Value} (h : Ev σ c x v) : c = true → [x].map (ev σ) = [v] := fun hc => by simp [h hc]
theorem ar2 {x y : Operand} {v u : Value} (h : Ev σ c x v) (h2 : Ev σ c y u) : c = true → [x, y].map (ev σ) = [v, u] := fun hc => by simp [h hc, h2 hc]
end
end SX
end Go.Proofs.YtfcecieppoljlaaGreatDoor
