/- The package variables that the rows list: a world that lays them, and what they give the walks. No statement of the seat is proved here. -/
import Derived.Test.YtfcecieppoljlaaGreatDoorR0
import Derived.Test.YtfcecieppoljlaaGreatDoorRows
import Derived.ChangeSame
import Derived.ChangeVars
import Derived.JoinedOf
import Derived.RowKit
import Derived.RowKitTokens
import Derived.LaidLaws
import Derived.LaidHandle
import Derived.Carry
import Derived.Handed
set_option maxRecDepth 100000
namespace Go.Proofs.YtfcecieppoljlaaGreatDoor
open Go Go.ChangeShapes Go.WideShapes Go.RowKit
namespace SX
theorem own_ok : ownKnob Tryz.prog.godebug = none := by kernel_rfl
theorem laidOut_ok : laidOutB Tryz.prog = true := by kernel_rfl
def laidL : List (String × DataW Unit) := [("unicode/utf8.acceptRanges", Rows.laid_unicode_utf8_acceptRanges), ("customs/nomenclature.lengths", Rows.laid_customs_nomenclature_lengths), ("unicode/utf8.first", Rows.laid_unicode_utf8_first)]
mutual
def cellsD : DataW Unit → List Value
  | .lit (.int k n) => [.int k n]
  | .agg ds => cellsDs ds
  | _ => []
def cellsDs : List (DataW Unit) → List Value
  | [] => []
  | d :: r => cellsD d ++ cellsDs r
end
def c_acc : Array Value := (cellsD Rows.laid_unicode_utf8_acceptRanges).toArray
def c_len : Array Value := #[.int .i64 2, .int .i64 4, .int .i64 6, .int .i64 8]
def c_first : Array Value := (cellsD Rows.laid_unicode_utf8_first).toArray
def layAt (h : Array Obj) (g : Nat) (cs : Array Value) : Array Obj := h.modify g fun | .cells _ t frozen => .cells cs t frozen | o => o
noncomputable def laidWorld (os : Os) : World :=
  { World.holding Tryz.prog os ⟨#[], #[], []⟩ with heap := layAt (layAt (layAt (World.holding Tryz.prog os ⟨#[], #[], []⟩).heap 4 c_acc) 0 c_len) 3 c_first }
theorem laid_plain : (laidL.filter fun x => x.2.handleName?.isSome) = [] := by kernel_rfl
def placeB (w : World) : MemPlace → Bool
  | .cell b off => match w.heap[b]? with
    | some (.cells c _ (0, 0)) => match c[off]? with | some (.iface _ _) => false | _ => true
    | _ => false
  | _ => true
theorem placesB_ok {w : World} {ps : List MemPlace} (h : ps.all (placeB w) = true) : ∀ b off, MemPlace.cell b off ∈ ps → (∃ c t, w.heap[b]? = some (.cells c t (0, 0))) ∧ ∀ u v, w.cell? ⟨b, off, none⟩ = some (.iface u v) → Value.okWide Tryz.prog w .any 0 u v := fun b off hm => by
  have := List.all_eq_true.1 h _ hm
  unfold placeB at this
  split at this
  · rename_i b' off' e
    injection e with e1 e2; subst e1; subst e2
    split at this
    · rename_i c t heq
      refine ⟨⟨c, t, heq⟩, fun u v hc => ?_⟩
      simp only [World.cell?, heq] at hc
      split at this
      · cases this
      · rename_i hno; exact absurd hc (by simpa using hno u v)
    · cases this
  · rename_i hno; exact absurd rfl (hno b off)
theorem laidWorld_met (os : Os) (args : Array Value) : laidMetH Tryz.prog laidL ((laidWorld os).forCall (fun _ _ => 0) ⟨#[], args, []⟩).memory := by
  unfold laidMetH
  rw [laid_plain]
  refine ⟨_, ⟨4, 193, c_acc, 8, [], _, by kernel_rfl, by kernel_rfl, by kernel_rfl, by kernel_rfl, ⟨0, 94, c_len, 8, [], _, by kernel_rfl, by kernel_rfl, by kernel_rfl, by kernel_rfl, ⟨3, 190, c_first, 8, [], _, by kernel_rfl, by kernel_rfl, by kernel_rfl, by kernel_rfl, rfl, rfl⟩, rfl⟩, rfl⟩, ?_, ?_⟩
  · exact of_decide_eq_true (by kernel_rfl)
  · exact placesB_ok (by kernel_rfl)
theorem int_of_trod {H : Type} {eh : TypeId × Value → H} {P : Program} {w : World} {base : Nat} {sp : Nat → Bool} {held : Bool} {fuel : Nat} {t : TypeId} {k : IntKind} {c : Value} {y : DataW H × List MemPlace} (ht : P.underlying t = some (.int k)) (h : DataW.trod eh P w base sp held fuel t [c] = some y) : ∃ n, c = .int k n ∧ y = (.lit (.int k n), []) := by
  obtain ⟨n, h1, h2, _⟩ := DataW.trod_int ht h
  injection h1 with h1 _
  exact ⟨n, h1, h2⟩
/-- What the listed variables give the walks. -/
theorem gok_of_laid {W : World} (h : laidMetH Tryz.prog laidL W) : GOK (k0 W) := by
  unfold laidMetH at h
  rw [laid_plain] at h
  obtain ⟨ps, ⟨_, _, _, _, _, _, _, _, _, _, ⟨g, t, cs, fuel, p, q, hg, ht, hvar, hd, _, _⟩, _⟩, _⟩ := h
  obtain rfl := Option.some.inj ((show Tryz.prog.globalNamed "customs/nomenclature.lengths" = some 0 by kernel_rfl).symm.trans hg)
  obtain rfl := Option.some.inj ((show (Tryz.prog.globals[0]?).map (·.type) = some 94 by kernel_rfl).symm.trans ht)
  have hcs : cs = c_len := by
    obtain ⟨l⟩ := cs
    cases fuel with
    | zero => simp [DataW.trod] at hd
    | succ fuel =>
      have hc1 := (cellsOf_eq (t := 94) rfl).1
      have hc2 := (cellsOf_eq (t := 3) rfl).1
      have hu1 : Tryz.prog.underlying 94 = some (.array 4 3) := und_ok rfl
      simp only [DataW.trod, hu1, hc1, hc2] at hd
      split at hd
      · rename_i hl
        obtain ⟨c0, c1, c2, c3, rfl⟩ : ∃ c0 c1 c2 c3, l = [c0, c1, c2, c3] := by
          match l, hl with
          | [a, b, c, d], _ => exact ⟨a, b, c, d, rfl⟩
        have e : List.range 4 = [0, 1, 2, 3] := rfl
        rw [e] at hd
        simp only [Option.map_eq_some_iff, List.mapM_cons, List.mapM_nil, Option.bind_eq_bind, Option.bind_eq_some_iff, Option.pure_def, Option.some.injEq] at hd
        obtain ⟨xs, ⟨y0, h0, _, ⟨y1, h1, _, ⟨y2, h2, _, ⟨y3, h3, _, rfl, rfl⟩, rfl⟩, rfl⟩, rfl⟩, hx⟩ := hd
        have hui : Tryz.prog.underlying 3 = some (.int .i64) := und_ok rfl
        obtain ⟨n0, rfl, rfl⟩ := int_of_trod hui h0
        obtain ⟨n1, rfl, rfl⟩ := int_of_trod hui h1
        obtain ⟨n2, rfl, rfl⟩ := int_of_trod hui h2
        obtain ⟨n3, rfl, rfl⟩ := int_of_trod hui h3
        simp [Rows.laid_customs_nomenclature_lengths] at hx
        obtain ⟨⟨rfl, rfl, rfl, rfl⟩, _⟩ := hx
        rfl
      · cases hd
  subst hcs
  have hcell : ∀ j u, c_len[j]? = some u → W.cell? ⟨0, j, none⟩ = some u := fun j u hu => by
    have := World.var?_cell hg hvar j
    rw [this]; exact hu
  refine ⟨?_, fun j u hu => ?_⟩
  · have h0 := hcell 0 _ rfl
    unfold World.cell? at h0
    split at h0
    · rename_i heq; exact heap_some_lt heq
    · cases h0
  · rw [Nat.zero_add]; exact hcell j u (by simpa [c_len] using hu)
end SX
end Go.Proofs.YtfcecieppoljlaaGreatDoor
