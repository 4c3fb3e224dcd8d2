/- Our calculus, second text: the operations that only yield a value. No statement of the seat is proved here. -/
import Derived.Test.YtfcecieppoljlaaGreatDoorSx1
import Derived.Laws.CopyRow
import Derived.Laws.StructEq
set_option maxRecDepth 100000
namespace Go.Proofs.YtfcecieppoljlaaGreatDoor
namespace SX
open Go

theorem inf_get {t : Nat} {z : Value} {s b : Nat} (h : inf t = some (z, s, b)) : ∃ i, Tryz.prog.info? t = some i ∧ i.zero = some z ∧ i.size = s ∧ i.bytes = b := by
  have := inf_ok h
  cases hi : Tryz.prog.info? t with
  | none => rw [hi] at this; cases this
  | some i => rw [hi] at this; simp at this; exact ⟨i, rfl, this.1, this.2.1, this.2.2⟩
def isAggD : TypeDesc → Bool
  | .struct _ | .array _ _ => true
  | _ => false
theorem run_isAgg {t : Nat} {d : TypeDesc} (h : und t = some d) (w : World) : (isAgg t).run Tryz.prog w = .ok (isAggD d) w := by
  simp only [isAgg, Sem.run_bind, run_underlying (und_ok h), Result.andThen_ok]
  cases d <;> rfl
theorem run_sizeOf {t : Nat} {z : Value} {s b : Nat} (h : inf t = some (z, s, b)) (w : World) : (sizeOf t).run Tryz.prog w = .ok s w := by
  obtain ⟨i, hi, _, hs, _⟩ := inf_get h
  simp [sizeOf, typeInfo, hi, hs]
theorem run_zeroValue {t : Nat} {z : Value} {s b : Nat} (h : inf t = some (z, s, b)) (w : World) : (zeroValue t).run Tryz.prog w = .ok z w := by
  obtain ⟨i, hi, hz, _⟩ := inf_get h
  simp [zeroValue, typeInfo, hi, hz]

def Res.b (b : Nat) (T : Nat) (cs : List Value) : Res := ⟨some b, fun o => o = some (.cells cs.toArray T (0, 0))⟩
theorem add_none (b off k : Nat) : (⟨b, off, none⟩ : Addr).add k = ⟨b, off + k, none⟩ := by unfold Addr.add; split <;> simp_all

section
variable {o : Oper} {σ : Env} {ρ : List Res} {κ : Kr} {c : Bool} {x y : Operand}

theorem oq_move {v : Value} (ho : o.op = .move x) (hx : Ev σ c x v) : OpQ c o σ ρ κ v := fun hc w _ => by
  simp [execOp, ho, hx hc]
theorem oq_assign {v : Value} (ho : o.op = .assign x) (hx : Ev σ c x v) : OpQ c o σ ρ κ v := fun hc w _ => by
  simp [execOp, ho, hx hc]
theorem oq_or {cc a b : Operand} {p q : Bool} (ho : o.op = .pick cc a b) (h1 : Ev σ c cc (.bool p)) (h2 : Ev σ c a (.bool true)) (h3 : Ev σ (c && !p) b (.bool q)) : OpQ c o σ ρ κ (.bool (p || q)) := fun hc w _ => by
  subst hc
  simp only [execOp, ho, h1 rfl, h2 rfl]
  cases p
  · simp [h3 rfl, asBool]
  · simp [asBool]
theorem oq_and {cc a b : Operand} {p q : Bool} (ho : o.op = .pick cc a b) (h1 : Ev σ c cc (.bool p)) (h2 : Ev σ c b (.bool false)) (h3 : Ev σ (c && p) a (.bool q)) : OpQ c o σ ρ κ (.bool (p && q)) := fun hc w _ => by
  subst hc
  simp only [execOp, ho, h1 rfl, h2 rfl]
  cases p
  · simp [asBool]
  · simp [h3 rfl, asBool]

/-! binary operators on integers -/
section
variable {t t' : Nat} {k : IntKind} {a b : Int}
theorem run_eqGuard_int (op : BinOp) (w : World) : (eqGuard op t x y (.int k a) (.int k b)).run Tryz.prog w = .ok () w := by
  unfold eqGuard; split <;> simp
theorem oq_cmp {op : BinOp} {r : Bool} (ho : o.op = .binOp op t x y t') (hx : Ev σ c x (.int k a)) (hy : Ev σ c y (.int k b))
    (hr : (match op with | .eql => some (a == b) | .neq => some (a != b) | .lss => some (decide (a < b)) | .leq => some (decide (a ≤ b)) | .gtr => some (decide (b < a)) | .geq => some (decide (b ≤ a)) | _ => none) = some r) : OpQ c o σ ρ κ (.bool r) := fun hc w _ => by
  simp only [execOp, ho, hx hc, hy hc, Sem.run_bind, run_eqGuard_int, Result.andThen_ok]
  cases op <;> simp at hr <;> subst hr <;> simp [binOp, Op.intCmp]
theorem oq_arith {op : BinOp} {r : Int} (ho : o.op = .binOp op t x y t') (hx : Ev σ c x (.int k a)) (hy : Ev σ c y (.int k b))
    (hr : (match op with | .add => some (a + b) | .sub => some (a - b) | .mul => some (a * b) | _ => none) = some r) : OpQ c o σ ρ κ (.int k (k.wrap r)) := fun hc w _ => by
  simp only [execOp, ho, hx hc, hy hc, Sem.run_bind, run_eqGuard_int, Result.andThen_ok]
  cases op <;> simp at hr <;> subst hr <;> simp [binOp, Op.intArith]
theorem wrap_i64 {r : Int} (h : -9223372036854775808 ≤ r ∧ r ≤ 9223372036854775807) : IntKind.i64.wrap r = r := IntWalk.i64_in r h
theorem oq_arith64 {op : BinOp} {r : Int} (ho : o.op = .binOp op t x y t') (hx : Ev σ c x (.int .i64 a)) (hy : Ev σ c y (.int .i64 b))
    (hr : (match op with | .add => some (a + b) | .sub => some (a - b) | .mul => some (a * b) | _ => none) = some r) (hb : c = true → -9223372036854775808 ≤ r ∧ r ≤ 9223372036854775807) : OpQ c o σ ρ κ (.int .i64 r) := fun hc => by
  have h := oq_arith (ρ := ρ) (κ := κ) ho hx hy hr hc
  rwa [wrap_i64 (hb hc)] at h
theorem oq_quo {r : Int} (ho : o.op = .binOp .quo t x y t') (hx : Ev σ c x (.int k a)) (hy : Ev σ c y (.int k b)) (hb : c = true → b ≠ 0) (hr : k.wrap (a.tdiv b) = r) : OpQ c o σ ρ κ (.int k r) := fun hc w _ => by
  simp only [execOp, ho, hx hc, hy hc, Sem.run_bind, run_eqGuard_int, Result.andThen_ok]
  simp [binOp, Op.intDiv, hb hc, hr]
theorem oq_rem {r : Int} (ho : o.op = .binOp .rem t x y t') (hx : Ev σ c x (.int k a)) (hy : Ev σ c y (.int k b)) (hb : c = true → b ≠ 0) (hr : a.tmod b = r) : OpQ c o σ ρ κ (.int k r) := fun hc w _ => by
  simp only [execOp, ho, hx hc, hy hc, Sem.run_bind, run_eqGuard_int, Result.andThen_ok]
  simp [binOp, Op.intDiv, hb hc, hr]
theorem oq_bits {op : BinOp} {r : Int} (ho : o.op = .binOp op t x y t') (hx : Ev σ c x (.int k a)) (hy : Ev σ c y (.int k b))
    (hr : (match op with | .and => some (k.wrap ((BitVec.ofInt k.bits a &&& BitVec.ofInt k.bits b).toNat : Int)) | .or => some (k.wrap ((BitVec.ofInt k.bits a ||| BitVec.ofInt k.bits b).toNat : Int)) | .xor => some (k.wrap ((BitVec.ofInt k.bits a ^^^ BitVec.ofInt k.bits b).toNat : Int)) | _ => none) = some r) : OpQ c o σ ρ κ (.int k r) := fun hc w _ => by
  simp only [execOp, ho, hx hc, hy hc, Sem.run_bind, run_eqGuard_int, Result.andThen_ok]
  cases op <;> simp only [Option.some.injEq, reduceCtorEq] at hr <;> subst hr <;> simp [binOp, Op.intBits]
theorem oq_shift {op : BinOp} {k' : IntKind} {r : Int} (ho : o.op = .binOp op t x y t') (hx : Ev σ c x (.int k a)) (hy : Ev σ c y (.int k' b)) (h0 : c = true → 0 ≤ b)
    (hr : (match op with | .shl => some (k.wrap (a * 2 ^ min b.toNat k.bits)) | .shr => some (a.fdiv (2 ^ min b.toNat k.bits)) | _ => none) = some r) : OpQ c o σ ρ κ (.int k r) := fun hc w _ => by
  simp only [execOp, ho, hx hc, hy hc, Sem.run_bind]
  have h0' : ¬ b < 0 := by have := h0 hc; omega
  cases op <;> simp only [Option.some.injEq, reduceCtorEq] at hr <;> subst hr <;> simp [eqGuard, binOp, Op.shift, h0']
theorem oq_neg {r : Int} {ty : Nat} (ho : o.op = .unOp .neg ty x) (hx : Ev σ c x (.int k a)) (hr : k.wrap (0 - a) = r) : OpQ c o σ ρ κ (.int k r) := fun hc w _ => by
  simp [execOp, ho, hx hc, Op.unary, Op.intArith, ← hr]
theorem oq_conv {k' : IntKind} {r : Int} {s d : Nat} {ds : TypeDesc} (ho : o.op = .convert s d x) (hs : und s = some ds) (hd : und d = some (.int k')) (hx : Ev σ c x (.int k a)) (hr : k'.wrap a = r) : OpQ c o σ ρ κ (.int k' r) := fun hc w _ => by
  simp only [execOp, ho, hx hc, convert, Sem.run_bind, run_underlying (und_ok hs), run_underlying (und_ok hd), Result.andThen_ok]
  simp [Conv.intToInt, hr]
end
theorem oq_not {p : Bool} {ty : Nat} (ho : o.op = .unOp .not ty x) (hx : Ev σ c x (.bool p)) : OpQ c o σ ρ κ (.bool !p) := fun hc w _ => by
  simp [execOp, ho, hx hc, Op.unary]

/-! bools and strings -/
theorem run_equalIn_bool {t : Nat} {p q : Bool} (hu : und t = some .bool) (d : Nat) (w : World) : (Op.equalIn (d + 1) t (.bool p) (.bool q)).run Tryz.prog w = .ok (p == q) w := by
  simp [Op.equalIn, run_underlying (und_ok hu)]
theorem oq_eqB {op : BinOp} {t t' : Nat} {p q r : Bool} (ho : o.op = .binOp op t x y t') (hu : und t = some .bool) (hx : Ev σ c x (.bool p)) (hy : Ev σ c y (.bool q))
    (hr : (match op with | .eql => some (p == q) | .neq => some (p != q) | _ => none) = some r) : OpQ c o σ ρ κ (.bool r) := fun hc w _ => by
  have he : (Op.equal t (.bool p) (.bool q)).run Tryz.prog w = .ok (p == q) w := run_equalIn_bool hu 9999 w
  simp only [execOp, ho, hx hc, hy hc, Sem.run_bind]
  cases op <;> simp only [Option.some.injEq, reduceCtorEq] at hr <;> subst hr <;> simp [eqGuard, binOp, he, bne]
theorem beq_str (s u : ByteArray) : (s.toList == u.toList) = decide (s = u) := by
  rw [Bool.eq_iff_iff, ByteArray.toList_eq, ByteArray.toList_eq]
  simp only [beq_iff_eq, decide_eq_true_eq]
  constructor
  · intro h; obtain ⟨⟨x⟩⟩ := s; obtain ⟨⟨y⟩⟩ := u; simp at h; subst h; rfl
  · intro h; rw [h]
theorem oq_str {op : BinOp} {t t' : Nat} {s u : ByteArray} {r : Bool} (ho : o.op = .binOp op t x y t') (hx : Ev σ c x (.string s)) (hy : Ev σ c y (.string u))
    (hr : (match op with | .eql => some (decide (s = u)) | .neq => some (!decide (s = u)) | .lss => some (Op.bytesLess s.toList u.toList) | .leq => some (Op.bytesLess s.toList u.toList || decide (s = u)) | .gtr => some (!(Op.bytesLess s.toList u.toList || decide (s = u))) | .geq => some (!Op.bytesLess s.toList u.toList) | _ => none) = some r) : OpQ c o σ ρ κ (.bool r) := fun hc w _ => by
  simp only [execOp, ho, hx hc, hy hc, Sem.run_bind]
  cases op <;> simp only [Option.some.injEq, reduceCtorEq] at hr <;> subst hr <;> simp only [eqGuard, binOp, Op.stringOp, beq_str] <;> simp
theorem oq_cat {t t' : Nat} {s u : ByteArray} (ho : o.op = .binOp .add t x y t') (hx : Ev σ c x (.string s)) (hy : Ev σ c y (.string u)) (hb : c = true → s.size + u.size ≤ 9223372036854775807) : OpQ c o σ ρ κ (.string (s ++ u)) := fun hc w _ => by
  simp only [execOp, ho, hx hc, hy hc, Sem.run_bind]
  have hm : IntKind.i64.max = 9223372036854775807 := by decide
  have h : ¬ (((s.size + u.size : Nat) : Int) > IntKind.i64.max) := by have := hb hc; rw [hm]; omega
  simp only [eqGuard, binOp, Op.stringOp, if_neg h]
  simp

/-! addresses, fields, parts -/
theorem oq_nilCheck {a : Addr} (ho : o.op = .nilCheck x) (hx : Ev σ c x (.pointer (some a))) : OpQ c o σ ρ κ (.pointer (some a)) := fun hc w _ => by
  simp [execOp, ho, hx hc]
theorem fld_get {t f k ty : Nat} {l : List (Nat × Nat)} (h1 : fldL t = some l) (h2 : l[f]? = some (k, ty)) : ∃ (fs : Array Field) (fd : Field), und t = some (.struct fs) ∧ fs[f]? = some fd ∧ fd.offset = k ∧ fd.type = ty := by
  obtain ⟨fs, hu, hl⟩ := fldL_ok h1
  rw [← hl, List.getElem?_map] at h2
  cases hf : fs.toList[f]? with
  | none => rw [hf] at h2; cases h2
  | some fd =>
    rw [hf] at h2; simp only [Option.map_some, Option.some.injEq, Prod.mk.injEq] at h2
    exact ⟨fs, fd, hu, by simpa using hf, h2.1, h2.2⟩
theorem oq_fieldAddr {s f b off k ty : Nat} {l : List (Nat × Nat)} {z : Value} {sz by' : Nat} (ho : o.op = .fieldAddr s x f) (h1 : fldL s = some l) (h2 : l[f]? = some (k, ty)) (hi : inf ty = some (z, sz, by')) (h0 : Nat.blt 0 sz = true)
    (hx : Ev σ c x (.pointer (some ⟨b, off, none⟩))) : OpQ c o σ ρ κ (.pointer (some ⟨b, off + k, none⟩)) := fun hc w _ => by
  obtain ⟨fs, fd, hu, hf, rfl, rfl⟩ := fld_get h1 h2
  have hs : sz ≠ 0 := by intro h; subst h; cases h0
  simp only [execOp, ho, hx hc, Instr.fieldAt, Sem.run_bind, run_underlying (und_ok hu), Result.andThen_ok, hf, fieldPlace]
  simp [Instr.sureAddr, run_sizeOf hi, hs, add_none]
def cellsL (v : Value) : List Value := match v with | .agg cs => cs.toList | v => [v]
theorem cellsL_eq (v : Value) : v.cells.toList = cellsL v := by cases v <;> rfl
def readAs (t : Nat) (cs : List Value) (off : Nat) : Option Value :=
  match und t, inf t with
  | some d, some (_, sz, _) => cond (isAggD d) (cond (Nat.ble (off + sz) cs.length) (some (.agg ((cs.drop off).take sz).toArray)) none) cs[off]?
  | _, _ => none
theorem oq_field {t f k ty : Nat} {l : List (Nat × Nat)} {cs : List Value} {v : Value} (ho : o.op = .field t x f) (h1 : fldL t = some l) (h2 : l[f]? = some (k, ty)) (hx : Ev σ c x (.agg cs.toArray)) (hr : readAs ty cs k = some v) : OpQ c o σ ρ κ v := fun hc w _ => by
  obtain ⟨fs, fd, hu, hf, rfl, rfl⟩ := fld_get h1 h2
  simp only [execOp, ho, hx hc, Instr.field, Sem.run_bind, run_underlying (und_ok hu), Result.andThen_ok, hf]
  unfold readAs at hr
  split at hr
  · rename_i d z sz b hd hi
    simp only [asAgg, part, Sem.run_bind, Sem.run_pure, Result.andThen_ok, run_isAgg hd]
    cases hag : isAggD d
    · rw [hag] at hr; simp only [cond_false] at hr
      simp [hr]
    · rw [hag] at hr; simp only [cond_true] at hr
      cases hle : Nat.ble (fd.offset + sz) cs.length
      · rw [hle] at hr; cases hr
      · rw [hle] at hr; injection hr with hr; subst hr
        simp [run_sizeOf hi, List.extract_toArray]
  · cases hr
theorem oq_extract {i : Nat} {vs : List Value} {v : Value} (ho : o.op = .extract x i) (hx : Ev σ c x (.tuple vs.toArray)) (hr : vs[i]? = some v) : OpQ c o σ ρ κ v := fun hc w _ => by
  simp [execOp, ho, hx hc, Instr.extract, hr]
theorem oq_makeFunc {fn : Fn} {l1 l2 : List Operand} (ho : o.op = .makeFunc fn l1.toArray l2.toArray) : OpQ true o σ ρ κ (.func fn (l1.map (ev σ)).toArray (l2.map (ev σ)).toArray) := fun _ w _ => by
  simp [execOp, ho, Instr.makeFunc]

/-! loads -/
theorem cell_of_cells {w : World} {b T : Nat} {cs : List Value} {fr : Nat × Nat} (h : w.heap[b]? = some (.cells cs.toArray T fr)) (j : Nat) : w.cell? ⟨b, j, none⟩ = cs[j]? := by
  simp [World.cell?, h]
theorem run_readAs {w : World} {t b off : Nat} {cs : List Value} {v : Value} (hc : ∀ j u, cs[j]? = some u → w.cell? ⟨b, off + j, none⟩ = some u) (hr : readAs t cs 0 = some v) : (loadVar t ⟨b, off, none⟩).run Tryz.prog w = .ok v w := by
  unfold readAs at hr
  split at hr
  · rename_i d z sz by' hd hi
    simp only [loadVar, Sem.run_bind, run_isAgg hd, Result.andThen_ok]
    cases hag : isAggD d
    · rw [hag] at hr; simp only [cond_false] at hr
      have := hc 0 v hr
      simp only [Nat.add_zero] at this
      simp [this]
    · rw [hag] at hr; simp only [cond_true] at hr
      cases hle : Nat.ble (0 + sz) cs.length
      · rw [hle] at hr; cases hr
      · rw [hle] at hr; injection hr with hr; subst hr
        have hle' : sz ≤ cs.length := by have := Nat.le_of_ble_eq_true hle; omega
        have hl : (cs.take sz).length = sz := by simp; omega
        have h2 := run_loadCells_list (P := Tryz.prog) w ⟨b, off, none⟩ (cs.take sz) (fun j u hu => by
          rw [add_none]; refine hc j u ?_
          rw [List.getElem?_take] at hu; split at hu
          · exact hu
          · cases hu)
        rw [hl] at h2
        simp [run_sizeOf hi, h2]
  · cases hr
theorem oq_load_b {t b off T : Nat} {cs : List Value} {v : Value} (ho : o.op = .load t x) (hx : Ev σ c x (.pointer (some ⟨b, off, none⟩))) (hm : Res.b b T cs ∈ ρ) (hr : readAs t (cs.drop off) 0 = some v) : OpQ c o σ ρ κ v := fun hc w hs => by
  have hb : w.heap[b]? = some (.cells cs.toArray T (0, 0)) := hs.own _ hm
  have := run_readAs (w := w) (t := t) (b := b) (off := off) (cs := cs.drop off) (v := v) (fun j u hu => by rw [cell_of_cells hb]; rwa [List.getElem?_drop] at hu) hr
  simp [execOp, ho, hx hc, Instr.loadAt, Instr.sureAddr, this]
/-- The shared cells from ⟨b, off⟩ on are cs. -/
def Sh (κ : Kr) (b off : Nat) (cs : List Value) : Prop := κ.S b ∧ ∀ j u, cs[j]? = some u → κ.w.cell? ⟨b, off + j, none⟩ = some u
theorem Sh.mono {κ κ' : Kr} {b off : Nat} {cs : List Value} (h : Sh κ b off cs) (k : Kle κ κ') : Sh κ' b off cs :=
  ⟨k.sh b h.1, fun j u hu => by have := h.2 j u hu; unfold World.cell? at *; rw [k.keep b h.1]; exact this⟩
theorem oq_load_s {t b off : Nat} {cs : List Value} {v : Value} (ho : o.op = .load t x) (hx : Ev σ c x (.pointer (some ⟨b, off, none⟩))) (hm : c = true → Sh κ b off cs) (hr : readAs t cs 0 = some v) : OpQ c o σ ρ κ v := fun hc w hs => by
  have h := hm hc
  have := run_readAs (w := w) (t := t) (b := b) (off := off) (cs := cs) (v := v) (fun j u hu => by have := h.2 j u hu; unfold World.cell? at *; rw [hs.keep b h.1]; exact this) hr
  simp [execOp, ho, hx hc, Instr.loadAt, Instr.sureAddr, this]

/-! lengths, indexes, slices of slices -/
theorem oq_len {t n cp : Nat} {a : Option Addr} {E : Nat} (ho : o.op = .call { callee := .builtin .len, args := #[x], argTypes := #[t] }) (hu : und t = some (.slice E)) (hx : Ev σ c x (.slice a n cp)) : OpQ c o σ ρ κ (.int .i64 (n : Int)) := fun hc w _ => by
  simp [execOp, ho, resolve, invoke, builtin, Builtin.len_, hx hc, run_underlying (und_ok hu), goInt]
theorem oq_lenS {t : Nat} {s : ByteArray} (ho : o.op = .call { callee := .builtin .len, args := #[x], argTypes := #[t] }) (hu : und t = some .string) (hx : Ev σ c x (.string s)) : OpQ c o σ ρ κ (.int .i64 (s.size : Int)) := fun hc w _ => by
  simp [execOp, ho, resolve, invoke, builtin, Builtin.len_, hx hc, run_underlying (und_ok hu), goInt]
theorem oq_min {t : List Nat} {k : IntKind} {a b : Int} (ho : o.op = .call { callee := .builtin .min, args := #[x, y], argTypes := t.toArray }) (hx : Ev σ c x (.int k a)) (hy : Ev σ c y (.int k b)) : OpQ c o σ ρ κ (.int k (if b < a then b else a)) := fun hc w _ => by
  simp [execOp, ho, resolve, invoke, builtin, Builtin.min_, Builtin.min2, hx hc, hy hc]
theorem oq_max {t : List Nat} {k : IntKind} {a b : Int} (ho : o.op = .call { callee := .builtin .max, args := #[x, y], argTypes := t.toArray }) (hx : Ev σ c x (.int k a)) (hy : Ev σ c y (.int k b)) : OpQ c o σ ρ κ (.int k (if a < b then b else a)) := fun hc w _ => by
  simp [execOp, ho, resolve, invoke, builtin, Builtin.max_, Builtin.max2, hx hc, hy hc]
theorem oq_index {t b off n cp E sz by' : Nat} {k : IntKind} {i : Int} {j : Nat} {z : Value} (ho : o.op = .indexAddr t x y) (hu : und t = some (.slice E)) (hi : inf E = some (z, sz, by'))
    (hx : Ev σ c x (.slice (some ⟨b, off, none⟩) n cp)) (hy : Ev σ c y (.int k i)) (hj : c = true → i = (j : Int)) (hlt : c = true → j < n) : OpQ c o σ ρ κ (.pointer (some ⟨b, off + j * sz, none⟩)) := fun hc w _ => by
  have h1 := hj hc; have h2 := hlt hc
  simp only [execOp, ho, hx hc, hy hc, Instr.indexAt, asIntOf, Sem.run_bind, Sem.run_pure, Result.andThen_ok, run_underlying (und_ok hu)]
  simp [h1, h2, run_sizeOf hi, add_none]
theorem oq_indexS {t : Nat} {s : ByteArray} {k : IntKind} {i : Int} {j : Nat} (ho : o.op = .index t x y) (hu : und t = some .string)
    (hx : Ev σ c x (.string s)) (hy : Ev σ c y (.int k i)) (hj : c = true → i = (j : Int)) (hlt : c = true → j < s.size) : OpQ c o σ ρ κ (.int .u8 ((s.data.toList.getD j 0).toNat : Int)) := fun hc w _ => by
  have h1 := hj hc; have h2 := hlt hc
  have e : s[j]? = some (s.data.toList.getD j 0) := by
    have h3 : j < s.data.toList.length := by simpa using h2
    rw [getElem?_pos s j h2, List.getD_eq_getElem?_getD, List.getElem?_eq_getElem h3]; rfl
  simp only [execOp, ho, hx hc, hy hc, Instr.index, asIntOf, Sem.run_bind, Sem.run_pure, Result.andThen_ok, run_underlying (und_ok hu)]
  simp [h1, e]
end
end SX
end Go.Proofs.YtfcecieppoljlaaGreatDoor
