/- Our calculus over pure values, fifth text: equality of structs, what becomes shared inside an operation, calls of function values under a guard, bytes, the entry Add64. No statement of the seat is proved here. -/
import Derived.Test.YtfcecieppoljlaaGreatDoorPx4
import Derived.Laws.Externs
set_option maxRecDepth 100000
namespace Go.Proofs.YtfcecieppoljlaaGreatDoor
namespace SX
open Go
/-! ### States that stand for others -/
section
variable {σ : PEnv} {ρ l : List PRes} {a : Option Addr} {m c T sz : Nat} {css : List (List PV)}
theorem cov_frz (hp : PPick ρ (.row a m c T sz css) l) : Cov σ ρ σ (.frz a m c css :: l) := fun _ _ _ h => pwc_frz hp h
theorem cov_frzt (t : Nat) (ht : σ t = .v (.slice a m c)) (hp : PPick ρ (.row a m c T sz css) l) : Cov σ ρ (pupd σ t (.slc css)) (.frz a m c css :: l) := fun _ _ _ h => pwc_frzt t ht hp h
theorem cov_view (t : Nat) (ht : σ t = .v (.slice a m c)) (hm : PRes.frz a m c css ∈ ρ) : Cov σ ρ (pupd σ t (.slc css)) ρ := fun _ _ _ h => pwc_view t ht hm h
theorem cov_nil (t : Nat) (ht : σ t = .v (.slice none 0 0)) : Cov σ ρ (pupd σ t (.slc [])) ρ := fun _ _ _ h => pwc_nil t ht h
theorem cov_nilrow (T sz : Nat) : Cov σ ρ σ (.row none 0 0 T sz [] :: ρ) := fun _ _ _ h => pwc_nilrow T sz h
theorem cov_viewb {b k : Nat} {cs : List PV} {ρ' : List PRes} (hk : cs[k]? = some (.v (.slice a m c))) (hm : PRes.frz a m c css ∈ ρ) (hu : PUpd ρ (.b b T cs) (.b b T (cs.set k (.slc css))) ρ') : Cov σ ρ σ ρ' := fun _ _ _ h => pwc_viewb hk hm hu h
theorem pwc_nilb {n : Nat} {x : Code} {K : Exit → PPost} {b k : Nat} {cs : List PV} {ρ' : List PRes} (hk : cs[k]? = some (.v (.slice none 0 0))) (hu : PUpd ρ (.b b T cs) (.b b T (cs.set k (.slc []))) ρ') (h : PWC n x K σ ρ') : PWC n x K σ ρ := fun β κ σ' r g hs hr => by
  obtain ⟨r0, l1, l2, rfl, h3, h4⟩ := hr.upd hu
  cases h3 with
  | b ho hc =>
    obtain ⟨v, hv, hp⟩ := hc.get hk
    have e := hp.val
    have hset := hc.set (k := k) (p := .slc []) (v := v) (by rw [e]; exact rp_nil)
    have : ∀ (l : List Value) (k : Nat) (v : Value), l[k]? = some v → l.set k v = l := fun l k v h => by
      apply List.ext_getElem?; intro i; rw [List.getElem?_set]; split
      · rename_i hik; subst hik; rw [h]; have := (List.getElem?_eq_some_iff.1 h).1; simp [this]
      · rfl
    rw [this _ _ _ hv] at hset
    exact h β κ σ' _ g hs (h4 κ _ (.refl _) (.b ho hset))
theorem cov_nilb {b k : Nat} {cs : List PV} {ρ' : List PRes} (hk : cs[k]? = some (.v (.slice none 0 0))) (hu : PUpd ρ (.b b T cs) (.b b T (cs.set k (.slc []))) ρ') : Cov σ ρ σ ρ' := fun _ _ _ h => pwc_nilb hk hu h
end
/-! ### Inside an operation -/
section
variable {o : Oper} {σ : PEnv} {ρ l : List PRes} {a : Option Addr} {m c T sz : Nat} {css : List (List PV)} {K : PV → List PRes → Prop}
/-- The own slice that an operation yields becomes shared at once. -/
theorem pl_fz (h : POpL o σ ρ fun p ρ' => ∃ a m c T sz css l, p = .v (.slice a m c) ∧ PPick ρ' (.row a m c T sz css) l ∧ K (.slc css) l) : POpL o σ ρ K := fun κ σ' ρ' g hs hr β hi Nx hn =>
  h κ σ' ρ' g hs hr β hi Nx fun v ρ1 κ1 h1 h2 ⟨p, ρp, k1, k2, a, m, c, T, sz, css, l, e, hp, hk⟩ => by
    subst e
    obtain ⟨r, l', j1, j2, j3⟩ := k2.pick hp
    cases j2 with
    | row hb ho hc =>
      obtain ⟨i1, i2, i3⟩ := pub_row (h1.perm j1)
      have hv := k1.val
      subst hv
      have := hn _ l' (pubK κ1 a) i1 (h2.trans i2) ⟨.slc css, l, .slc i3 hb ho (hc.mono i2), j3.mono i2, hk⟩
      rwa [pubK_w] at this
/-- An own slice that an operation takes becomes shared ahead of it. -/
theorem pl_frzt (t : Nat) (ht : σ t = .v (.slice a m c)) (hp : PPick ρ (.row a m c T sz css) l) (h : POpL o (pupd σ t (.slc css)) (.frz a m c css :: l) K) : POpL o σ ρ K := fun κ σ' ρ' g hs hr β hi Nx hn => by
  obtain ⟨r, l', j1, j2, j3⟩ := hr.pick hp
  cases j2 with
  | row hb ho hc =>
    obtain ⟨i1, i2, i3⟩ := pub_row (hi.perm j1)
    have hv : σ' t = .slice a m c := by have := hs t; rw [ht] at this; exact this.val
    have hfr : RRel (pubK κ a) (.frz a m c css) noRes := .frz i3 hb ho (hc.mono i2)
    have := h (pubK κ a) σ' (noRes :: l') (g.mono i2) (sim_view (hs.mono i2) (frz_rp hfr hv)) (.cons hfr (j3.mono i2)) β i1.nores Nx fun v ρ1 κ1 h1 h2 h3 => hn v ρ1 κ1 h1 (i2.trans h2) h3
    rwa [pubK_w] at this
theorem pl_view (t : Nat) (ht : σ t = .v (.slice a m c)) (hm : PRes.frz a m c css ∈ ρ) (h : POpL o (pupd σ t (.slc css)) ρ K) : POpL o σ ρ K := fun κ σ' ρ' g hs hr => by
  obtain ⟨r, _, h2⟩ := hr.mem hm
  exact h κ σ' ρ' g (sim_view hs (frz_rp h2 (by have := hs t; rw [ht] at this; exact this.val))) hr
theorem pl_nilv (t : Nat) (ht : σ t = .v (.slice none 0 0)) (h : POpL o (pupd σ t (.slc [])) ρ K) : POpL o σ ρ K := fun κ σ' ρ' g hs hr => h κ σ' ρ' g (sim_view hs (by have := hs t; rw [ht] at this; rw [this.val]; exact rp_nil)) hr
end
/-! ### Function values under a guard -/
section
variable {n : Nat} {ops : Array Oper} {o : Oper} {rest : List Oper} {K : PPost} {σ : PEnv} {ρ ρd ρs : List PRes} {d : Nat} {c : Bool} {l : List Operand} {ts : Array Nat} {pargs : List PV} {r pf : PV} {x : Operand} {lo : List (Nat × Oper)}
theorem og_pfv {κ : Kr} {σ' : Env} {ρ' : List Res} {KK : Value → Kr → Prop} (g : GOK κ) (hs : Sim κ σ σ') (ho : o.op = .call { callee := .value x, args := l.toArray, argTypes := ts }) (hx : PEv σ c x pf) (ha : c = true → l.map (pevc σ) = pargs) (hc : c = true → PFV pf pargs r) (h : ∀ v κ', Kle κ κ' → (c = true → Rp κ' r v) → KK v κ') : OpG c o σ' ρ' κ KK := by
  refine ⟨fun hct => ?_, fun hcf => h undef κ (.refl _) fun h => by rw [hcf] at h; cases h⟩
  obtain ⟨f, first, cap, h1, h2⟩ := hc hct κ _ _ g (hs.pe hx hct) (by rw [← ha hct]; exact rps_args hs l)
  exact ol_callvP ho h1 rfl h2 fun v κ' hk hv => ⟨rfl, h v κ' hk fun _ => hv⟩
theorem pwl_callvg (hg : PGuardIs ops σ o c) (hd : o.dst = some d) (hlt : Nat.blt d n = true) (ho : o.op = .call { callee := .value x, args := l.toArray, argTypes := ts }) (hx : PEv σ c x pf) (ha : c = true → l.map (pevc σ) = pargs) (hc : c = true → PFV pf pargs r) (h : PWL n ops rest K (pupd σ d (pgv c r)) ρ) : PWL n ops (o :: rest) K σ ρ := fun β κ σ' ρ' g hs hr =>
  wl_g (hg κ σ' hs) hd hlt (og_pfv g hs ho hx ha hc fun v κ' hk hv => h β κ' _ _ (g.mono hk) ((hs.mono hk).upd (rp_gv hv)) (hr.mono hk))
theorem pwd_callvg (hg : PGuardIs ops σ o c) (hd : o.dst = some d) (hlt : Nat.blt d n = true) (ho : o.op = .call { callee := .value x, args := l.toArray, argTypes := ts }) (hx : PEv σ c x pf) (ha : c = true → l.map (pevc σ) = pargs) (hc : c = true → PFV pf pargs r) (h : PWD n ops K lo (pupd σ d (pgv c r)) ρd ρs) : PWD n ops K ((1, o) :: lo) σ ρd ρs := fun β κ σ' rd rs g hs h1 h2 =>
  wd_g (hg κ σ' hs) hd hlt fun κ1 hk => og_pfv (g.mono hk) (hs.mono hk) ho hx ha hc fun v κ' hk' hv => h β κ' _ rd rs ((g.mono hk).mono hk') (((hs.mono hk).mono hk').upd (rp_gv hv)) ((h1.mono hk).mono hk') ((h2.mono hk).mono hk')
end
/-! ### Equality of structs of plain cells -/
def flatK : List Field → Nat → List Nat → Bool
  | [], _, [] => true
  | f :: fs, k, q :: ks => (f.name != "_") && Nat.beq f.offset k && (match und f.type, q with | some (.int _), 0 | some .bool, 1 | some .string, 2 => true | _, _ => false) && flatK fs (k + 1) ks
  | _, _, _ => false
def eqk : List Nat → List Value → List Value → Option Bool
  | [], [], [] => some true
  | 0 :: ks, .int k a :: xs, .int k' b :: ys => match eqk ks xs ys with | some r => cond (decide (k = k')) (some ((a == b) && r)) none | none => none
  | 1 :: ks, .bool a :: xs, .bool b :: ys => match eqk ks xs ys with | some r => some ((a == b) && r) | none => none
  | 2 :: ks, .string a :: xs, .string b :: ys => match eqk ks xs ys with | some r => some (decide (a = b) && r) | none => none
  | _, _, _ => none
theorem run_eqFlat (d : Nat) (w : World) : ∀ (fs : List Field) (k : Nat) (ks : List Nat) (xs ys ax ay : List Value) (r : Bool), flatK fs k ks = true → ax.drop k = xs → ay.drop k = ys → eqk ks xs ys = some r → (Op.eqFields (d + 1) ax.toArray ay.toArray fs).run Tryz.prog w = .ok r w
  | [], k, ks, xs, ys, ax, ay, r, hf, _, _, he => by
    cases ks with
    | nil =>
      cases xs <;> cases ys <;> simp only [eqk, reduceCtorEq, Option.some.injEq] at he
      subst he; simp [Op.eqFields]
    | cons q ks => cases hf
  | f :: fs, k, ks, xs, ys, ax, ay, r, hf, h1, h2, he => by
    cases ks with
    | nil => cases hf
    | cons q ks =>
      simp only [flatK, Bool.and_eq_true, bne_iff_ne, ne_eq] at hf
      obtain ⟨⟨⟨hn, hoff⟩, hty⟩, hrest⟩ := hf
      have hoff := Nat.eq_of_beq_eq_true hoff
      cases xs with
      | nil => unfold eqk at he; split at he <;> simp_all
      | cons x xs =>
        cases ys with
        | nil => unfold eqk at he; split at he <;> simp_all
        | cons y ys =>
          have g1 : ax[k]? = some x := by have := congrArg (·[0]?) h1; simpa [List.getElem?_drop] using this
          have g2 : ay[k]? = some y := by have := congrArg (·[0]?) h2; simpa [List.getElem?_drop] using this
          have d1 : ax.drop (k + 1) = xs := by have := congrArg (List.drop 1) h1; simpa [List.drop_drop] using this
          have d2 : ay.drop (k + 1) = ys := by have := congrArg (List.drop 1) h2; simpa [List.drop_drop] using this
          cases hd : und f.type with
          | none => rw [hd] at hty; cases hty
          | some D =>
            rw [hd] at hty
            have hag : isAggD D = false := by
              cases D <;> first | rfl | (exfalso; split at hty <;> simp_all)
            have p1 : (part f.type ax.toArray f.offset).run Tryz.prog w = .ok x w := by simp [part, run_isAgg hd, hag, hoff, g1]
            have p2 : (part f.type ay.toArray f.offset).run Tryz.prog w = .ok y w := by simp [part, run_isAgg hd, hag, hoff, g2]
            have fin : ∀ (q r' : Bool), (Op.equalIn (d + 1) f.type x y).run Tryz.prog w = .ok q w → eqk ks xs ys = some r' → (q && r') = r → (Op.eqFields (d + 1) ax.toArray ay.toArray (f :: fs)).run Tryz.prog w = .ok r w := fun q r' hq1 hq2 hq3 => by
              have ih := run_eqFlat d w fs (k + 1) ks xs ys ax ay r' hrest d1 d2 hq2
              simp only [Op.eqFields, if_pos hn, Sem.run_bind, p1, p2, Result.andThen_ok, hq1]
              cases q
              · simp at hq3; subst hq3; simp
              · simp at hq3; subst hq3; simp [ih]
            cases D with
            | int kk =>
              have hq0 : q = 0 := by rcases q with _ | _ | _ | q <;> first | rfl | (simp at hty)
              subst hq0
              cases x <;> cases y <;> simp only [eqk, reduceCtorEq] at he
              rename_i k1 a1 k2 b1
              cases hq : eqk ks xs ys with
              | none => rw [hq] at he; cases he
              | some r' =>
                rw [hq] at he
                cases hk : decide (k1 = k2) with
                | false => simp only [hk, cond_false, reduceCtorEq] at he
                | true =>
                  simp only [hk, cond_true, Option.some.injEq] at he
                  have hk := of_decide_eq_true hk; subst hk
                  exact fin (a1 == b1) r' (run_equalIn_int w d f.type k1 kk a1 b1 (und_ok hd)) hq he
            | bool =>
              have hq0 : q = 1 := by rcases q with _ | _ | _ | q <;> first | rfl | (simp at hty)
              subst hq0
              cases x <;> cases y <;> simp only [eqk, reduceCtorEq] at he
              rename_i a1 b1
              cases hq : eqk ks xs ys with
              | none => rw [hq] at he; cases he
              | some r' => rw [hq] at he; simp only [Option.some.injEq] at he; exact fin (a1 == b1) r' (run_equalIn_bool' w d f.type a1 b1 (und_ok hd)) hq he
            | string =>
              have hq0 : q = 2 := by rcases q with _ | _ | _ | q <;> first | rfl | (simp at hty)
              subst hq0
              cases x <;> cases y <;> simp only [eqk, reduceCtorEq] at he
              rename_i a1 b1
              cases hq : eqk ks xs ys with
              | none => rw [hq] at he; cases he
              | some r' => rw [hq] at he; simp only [Option.some.injEq] at he; exact fin (decide (a1 = b1)) r' (by rw [run_equalIn_string w d f.type a1 b1 (und_ok hd), beq_str]) hq he
            | _ => exfalso; revert hty; simp
def unV : List PV → Option (List Value)
  | [] => some []
  | .v x :: r => match unV r with | some l => some (x :: l) | none => none
  | _ => none
theorem unV_rps {κ : Kr} : ∀ {cs : List PV} {xs ds : List Value}, unV cs = some xs → Rps κ cs ds → ds = xs
  | [], xs, ds, h, hr => by simp only [unV, Option.some.injEq] at h; subst h; exact hr.nil_inv
  | c :: cs, xs, ds, h, hr => by
    obtain ⟨v, ws, rfl, h1, h2⟩ := hr.cons_inv
    cases c with
    | v x =>
      simp only [unV] at h
      cases hu : unV cs with
      | none => rw [hu] at h; cases h
      | some l => rw [hu] at h; simp only [Option.some.injEq] at h; subst h; rw [h1.val, unV_rps hu h2]
    | _ => cases h
theorem pq_eqst {o : Oper} {σ : PEnv} {ρ : List PRes} {c : Bool} {x y : Operand} {op : BinOp} {t t' : Nat} {cs ds : List PV} {xs ys : List Value} {r r' : Bool} (ks : List Nat) (ho : o.op = .binOp op t x y t') (h1 : Tryz.prog.underlying t = some (.struct (Tryz.prog.fieldsOf t))) (h2 : Tryz.prog.stoodInHeld t = false) (h3 : Tryz.prog.eqGuardType Tryz.prog.depth t = false) (h4 : flatK (Tryz.prog.fieldsOf t).toList 0 ks = true)
    (hx : PEv σ c x (.agg cs)) (hy : PEv σ c y (.agg ds)) (hxs : unV cs = some xs) (hys : unV ds = some ys) (he : eqk ks xs ys = some r) (hr : (match op with | .eql => some r | .neq => some (!r) | _ => none) = some r') : POpQ c o σ ρ (.v (.bool r')) := fun κ σ' ρ' g hs hrr => by
  cases c with
  | false => exact noq
  | true =>
    refine ⟨.bool r', fun _ => .v rfl, fun _ w _ => ?_⟩
    have e1 : ev σ' x = .agg xs.toArray := by
      have := hs.pe hx rfl; generalize ev σ' x = w1 at this; cases this with
      | agg ho hc => rw [unV_rps hxs hc]
    have e2 : ev σ' y = .agg ys.toArray := by
      have := hs.pe hy rfl; generalize ev σ' y = w1 at this; cases this with
      | agg ho hc => rw [unV_rps hys hc]
    have hrun : (Op.equalIn 10000 t (.agg xs.toArray) (.agg ys.toArray)).run Tryz.prog w = .ok r w := by
      rw [run_equalIn_struct w 9999 t _ _ h1 h2]
      exact run_eqFlat 9998 w _ 0 ks xs ys xs ys r h4 rfl rfl he
    simp only [execOp, ho, e1, e2, Sem.run_bind]
    rw [run_eqGuard_agg w op t x y _ _ h3]
    simp only [Result.andThen_ok]
    cases op <;> simp only [reduceCtorEq, Option.some.injEq] at hr
    · subst hr; rw [run_eql_struct, hrun]; simp
    · subst hr; rw [run_neq_struct, hrun]; simp
/-! ### Bytes -/
theorem pq_bytes {o : Oper} {σ : PEnv} {ρ : List PRes} {x : Operand} {s d e n cp T : Nat} {a : Option Addr} {xs : List Int} (ho : o.op = .convert s d x) (h1 : und s = some (.slice e)) (he : und e = some (.int .u8)) (hd : und d = some .string) (hx : pevc σ x = .v (.slice a n cp)) (hm : PRes.row a n cp T 1 (xs.map eB) ∈ ρ) (hn : n = xs.length) {K : PV → List PRes → Prop} (h : K (.v (.string (strOfNums xs))) ρ) : POpL o σ ρ K := fun κ σ' ρ' g hs hrr β hinv => by
  obtain ⟨r, hr1, hr2⟩ := hrr.mem hm
  cases hr2 with
  | row hb ho1 hss =>
    rename_i dss
    have hrow := row_some hr1 β hinv
    have hown := row_owns (hinv.own _ hr1)
    have hd2 : dss = xs.map fun b => [.int .u8 b] := by
      clear hrow hown hr1 ho1 hm hx h
      subst hn
      clear hb
      induction xs generalizing dss with
      | nil => rw [List.map_nil] at hss; rw [hss.nil_inv]; rfl
      | cons z zs ih =>
        rw [List.map_cons] at hss
        obtain ⟨v, ws, rfl, k1, k2⟩ := hss.cons_inv
        obtain ⟨v1, w1, rfl, k3, k4⟩ := k1.cons_inv
        rw [ih k2, k3.val, k4.nil_inv]; rfl
    subst hd2
    have hq := oq_bytes (c := true) (ρ := ρ') (κ := κ) ho h1 he hd (.p (hs.v1 hx)) (fun _ => rd_row hr1 (fun h => by obtain ⟨b, e⟩ := hrow.2 h; rw [e]; simp) hrow.1.1 hown.2.2)
    refine ol_q hq ⟨_, ρ, .v ?_, hrr, h⟩ β hinv
    have : (strOfNums xs).size = xs.length := by simp [strOfNums, ByteArray.size]
    simp only [okb, this]; exact Nat.ble_eq_true_of_le (by omega)
end SX
end Go.Proofs.YtfcecieppoljlaaGreatDoor
