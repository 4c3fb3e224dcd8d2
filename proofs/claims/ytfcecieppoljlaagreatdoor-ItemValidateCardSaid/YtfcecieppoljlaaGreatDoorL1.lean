/- ItemValidate: for every input the law returns true, and each argument reads afterwards as it read before. Conditions: the package variables are as the program's text lays them (the card ties them). -/
import Derived.Test.YtfcecieppoljlaaGreatDoorQ2
import Derived.Test.YtfcecieppoljlaaGreatDoorO
import Derived.Test.YtfcecieppoljlaaGreatDoorCards
import Derived.Test.YtfcecieppoljlaaGreatDoorTie
import Derived.SevenTiedAt
set_option maxRecDepth 100000
namespace Go.Proofs.YtfcecieppoljlaaGreatDoor
open Go Go.ChangeShapes Go.WideShapes Go.RowKit
open SX
theorem itemValidate_lifted (os : Os) (started : os.Started) (H : Type) (enc : TypeId × Value → H) :
    ReturnsInHanded {} Tryz.checked os 3 .any (fun w args => (Rows.itemValidateSpec.pre enc Tryz.prog Tryz.f3 [] false w args ∧ laidMetH Tryz.prog laidL w) ∧ sizedMet enc Tryz.prog Tryz.f3 (OpenSpec.ofChange Rows.itemValidateSpec) false w args)
      (Rows.itemValidateSpec.post enc Tryz.prog Tryz.f3 false true false false) := by
  refine returnsInHanded_of_change_and (C := Tryz.checked) (X := fun w _ => laidMetH Tryz.prog laidL w) (fun _ _ _ hh h => h.of_heap hh) own_ok started (by kernel_rfl) Tryz.func3
    (ChangeSpec.witness_at (enc := enc) (C := Tryz.checked) (os := os) (X := fun w _ => laidMetH Tryz.prog laidL w) false (laidWorld os) #[.agg #[.string ByteArray.empty, .string ByteArray.empty, .bool false, .int .i64 0, .int .i64 0, .int .i64 0, .int .i64 0, .int .i64 0], .slice none 0 0, .int .i64 0, .int .i64 0] 8 rfl (by kernel_rfl) (by kernel_rfl) (by kernel_rfl) (by kernel_rfl) (by kernel_rfl) (laidWorld_met os _)) ?_
  intro W base args ds gs before hval0 hW _ hwt hL _
  have hval : ∀ (j : Nat) t v, Tryz.f3.params[j]? = some t → args[j]? = some v → Value.okWide Tryz.prog W .any base t v := hval0
  have hW2 := hW
  obtain ⟨p, q, hA0, hV0, rfl, _, _⟩ := hW
  have hA : DataW.TrodAll enc Tryz.prog W 0 (fun _ => true) true [23, 24, 3, 3] args.toList ds p := hA0
  obtain ⟨rfl, rfl⟩ : gs = [] ∧ q = [] := by
    cases gs with
    | nil => exact ⟨rfl, hV0⟩
    | cons g r => exact absurd hV0 (by intro h; cases h)
  generalize hargs : args.toList = vs at hA
  have hval2 : ∀ (j : Nat) t v, [23, 24, 3, 3][j]? = some t → vs[j]? = some v → Value.okWide Tryz.prog W .any base t v := fun j t v h1 h2 => hval j t v (by rw [Tryz.params3]; simpa using h1) (by rw [← hargs] at h2; simpa using h2)
  obtain ⟨v0, vs0, d0, ds0, p0, q0, rfl, rfl, h0, hA⟩ := SX.trodAll_cons hA
  obtain ⟨v1, vs1, d1, ds1, p1, q1, rfl, rfl, h1, hA⟩ := SX.trodAll_cons hA
  obtain ⟨v2, vs2, d2, ds2, p2, q2, rfl, rfl, h2, hA⟩ := SX.trodAll_cons hA
  obtain ⟨v3, vs3, d3, ds3, p3, q3, rfl, rfl, h3, hA⟩ := SX.trodAll_cons hA
  obtain ⟨rfl, rfl⟩ := SX.trodAll_nil hA
  have hw : (DataW.weightsEach Tryz.prog [23, 24, 3, 3] [d0, d1, d2, d3]).all (· ≤ reachBytes) = true := hwt
  obtain ⟨l0, hw⟩ := SX.light_head hw
  obtain ⟨m0, r0⟩ := arg_agg rfl rfl op23 (hval2 0 23 v0 rfl rfl) h0 l0
  have s0 := Rps.cons r0 .nil
  obtain ⟨l1, hw⟩ := SX.light_head hw
  obtain ⟨m1, s1⟩ := arg_one rfl rfl op24 (fun _ => ⟨_, rfl⟩) (hval2 1 24 v1 rfl rfl) h1 l1
  obtain ⟨l2, hw⟩ := SX.light_head hw
  obtain ⟨m2, s2⟩ := arg_one rfl rfl op3 (fun _ => ⟨_, rfl⟩) (hval2 2 3 v2 rfl rfl) h2 l2
  obtain ⟨l3, hw⟩ := SX.light_head hw
  obtain ⟨m3, s3⟩ := arg_one rfl rfl op3 (fun _ => ⟨_, rfl⟩) (hval2 3 3 v3 rfl rfl) h3 l3
  exact row_post (readB (by kernel_rfl)) rfl (und_ok rfl) rfl (by simp [Rows.itemValidateSpec]) hW2 (gok_of_laid hL) (by rw [hargs]; exact (s0.app (s1.app (s2.app s3)))) (law20_ItemValidate_ok (itemValidate_law m0 m1 m2 m3 s0 s1 s2 s3))
theorem itemValidate_holds : Rows.ItemValidateSaid :=
  OpenClaim.holds_of_wide 3 Tryz.f3 rfl rfl rfl rfl rfl rfl rfl ⟨rfl, rfl, rfl, rfl, rfl⟩ rfl rfl rfl rfl rfl (by kernel_rfl) Tryz.func3 (by kernel_rfl)
    (of_decide_eq_true (by kernel_rfl)) (by unfold Func.isWrapper; rw [if_neg (of_decide_eq_false (by kernel_rfl))]; exact ⟨rfl, rfl⟩)
    (fun os started H enc _ => itemValidate_lifted os started H enc)
theorem itemValidate_card : Rows.ItemValidateCardSaid :=
  Claim7.holds_tied_plain_at .later [] [.data, .data, .pinned] true (true, "c44fdb8b3d3db5b11b14cf1358bdd2c8cf9d007e81e3e7ea20beffe313180608") false
    itemValidate_holds (fun _ h => by cases h) (by kernel_rfl) (fun _ h => by cases h) itemValidate_row_tie rfl ⟨rfl, rfl⟩ (by kernel_rfl) rfl
    (fun f fn hf hfn => by
      obtain rfl : f = 3 := Option.some.inj ((show Tryz.prog.funcNamed "customs/customslaw20.ItemValidate" = some 3 by kernel_rfl).symm.trans hf) |>.symm
      obtain rfl : fn = Tryz.f3 := (Option.some.inj (Tryz.func3.symm.trans hfn)).symm
      exact ⟨by kernel_rfl, fun j t ht => by
        rw [Tryz.params3] at ht
        exact standIns_no (by kernel_rfl) ht⟩)
    (by kernel_rfl)
#print axioms itemValidate_card
end Go.Proofs.YtfcecieppoljlaaGreatDoor
