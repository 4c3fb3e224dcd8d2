/-
  NARROWER THAN 'FOR EVERY INPUT', by the rows' own cells (each row's printed sentence says how): PlanValidate: laid · PlanChanged: laid · PlanComponents: laid · PlanOrder: laid · PlanReach: laid · PlanFind: laid.
  DERIVED. THE GIVEN ROWS OF THIS SEAT. 6 by the template 'for every input the law returns true; each argument reads behind the call as it read before'; 0 by the template 'total and deterministic' (their statements: YtipjgkapcgpgbaaDoorTotals.lean).
  GIVEN WITH THE SEED: the statements are not yours to turn. If you find one false, say at which input.
  Laid BY PROGRAM, IN A SANDBOX (cutbox-rows.mjs): the forced cells as the released guide's own fill.sh prints them over the translation a285149051d5eba0… (all of the seat's roots in one cut). By AI agents, Wed Nov 11 2026. No macro, syntax, notation, axiom, sorry.
-/
import Derived.Test.YtipjgkapcgpgbaaDoorChecked
import GoSem.PinnedTables
import GoSem.Claim
import GoSem.ClaimJoined
import GoSem.ClaimMapViews
import Derived.JoinedTies
import Derived.KernelRfl
namespace Go.Proofs.YtipjgkapcgpgbaaDoor
/- THE CELL 'sum', in the pinned program and in every row, IS THE sha256 OF THE DUMP (.gsa) THAT YtipjgkapcgpgbaaDoorProg.lean LOADS. Nothing in Lean hashes anything: it is a label: what it is worth is what the hold of that sum in a sandbox is worth. -/
noncomputable def Tryd.pinned : Pinned := { name := "ytipjgkapcgpgbaadoor", sum := "a285149051d5eba02c0d333ea74b77be3cea93b2742a68467a947e42c5aefe31", checked := Tryd.checked }
namespace Rows
def none {H : Type} : Left H := { results := [], args := [] }

/- WHAT THE LISTED PACKAGE-LEVEL VARIABLES READ AS WHEN THE CALL BEGINS. Each datum BY PROGRAM (the guide's laid-datum.mjs) off the statement by which the dump's own 'gosem.cut.vars' lays the variable. In a bare row this is a premise. The card (YtipjgkapcgpgbaaDoorCards.lean) ties it to the program's text. -/
def laid_unicode_utf8_acceptRanges {H : Type} : DataW H := .agg [.agg [.lit (.int .u8 128), .lit (.int .u8 191)], .agg [.lit (.int .u8 160), .lit (.int .u8 191)], .agg [.lit (.int .u8 128), .lit (.int .u8 159)], .agg [.lit (.int .u8 144), .lit (.int .u8 191)], .agg [.lit (.int .u8 128), .lit (.int .u8 143)], .agg [.lit (.int .u8 0), .lit (.int .u8 0)], .agg [.lit (.int .u8 0), .lit (.int .u8 0)], .agg [.lit (.int .u8 0), .lit (.int .u8 0)], .agg [.lit (.int .u8 0), .lit (.int .u8 0)], .agg [.lit (.int .u8 0), .lit (.int .u8 0)], .agg [.lit (.int .u8 0), .lit (.int .u8 0)], .agg [.lit (.int .u8 0), .lit (.int .u8 0)], .agg [.lit (.int .u8 0), .lit (.int .u8 0)], .agg [.lit (.int .u8 0), .lit (.int .u8 0)], .agg [.lit (.int .u8 0), .lit (.int .u8 0)], .agg [.lit (.int .u8 0), .lit (.int .u8 0)]]
def laid_customs_nomenclature_lengths {H : Type} : DataW H := .agg [.lit (.int .i64 2), .lit (.int .i64 4), .lit (.int .i64 6), .lit (.int .i64 8)]
/-- One of Go's own tables, pinned by name: the form's constant. -/
def laid_unicode_utf8_first : DataW Unit := Go.Pinned.utf8First

/-- 'customslaw13.PlanValidate': WHATEVER THE INPUT: true; the input reads as it did. -/
def planValidateSpec : ChangeSpec := { name := "planValidate", fn := fun _ => fun
  | [d1, d2, d3] => { results := [.lit (.bool true)], args := [d1, d2, d3] }
  | _ => none }
def planValidateRow : OpenClaim := { program := "ytipjgkapcgpgbaadoor", sum := "a285149051d5eba02c0d333ea74b77be3cea93b2742a68467a947e42c5aefe31", func := "customs/customslaw13.PlanValidate", spec := "planValidate", inPlace := ["internal/bytealg.IndexByteString", "internal/bytealg.IndexString"], unfollowed := true, recurses := true, named := ["customs/nomenclature.lengths", "unicode/utf8.first", "unicode/utf8.acceptRanges", "internal/bytealg.MaxLen"], apart := false, laid := [("unicode/utf8.acceptRanges", laid_unicode_utf8_acceptRanges), ("customs/nomenclature.lengths", laid_customs_nomenclature_lengths), ("unicode/utf8.first", laid_unicode_utf8_first)] }
def PlanValidateSaid : Prop := planValidateRow.holds Tryd.pinned (OpenSpec.ofChange planValidateSpec)

/-- ITS FALSE NEIGHBOUR: 'it returns false'. Refute it at one input. -/
def planValidateWrong : ChangeSpec := { name := "planValidate", fn := fun _ => fun
  | [d1, d2, d3] => { results := [.lit (.bool false)], args := [d1, d2, d3] }
  | _ => none }
def PlanValidateWrongFalsely : Prop := planValidateRow.holds Tryd.pinned (OpenSpec.ofChange planValidateWrong)

/-- 'customslaw13.PlanChanged': WHATEVER THE INPUT: true; the input reads as it did. -/
def planChangedSpec : ChangeSpec := { name := "planChanged", fn := fun _ => fun
  | [d1, d2, d3, d4, d5] => { results := [.lit (.bool true)], args := [d1, d2, d3, d4, d5] }
  | _ => none }
def planChangedRow : OpenClaim := { program := "ytipjgkapcgpgbaadoor", sum := "a285149051d5eba02c0d333ea74b77be3cea93b2742a68467a947e42c5aefe31", func := "customs/customslaw13.PlanChanged", spec := "planChanged", inPlace := ["internal/bytealg.IndexByteString", "internal/bytealg.IndexString"], unfollowed := true, recurses := true, named := ["customs/nomenclature.lengths", "unicode/utf8.first", "unicode/utf8.acceptRanges", "internal/bytealg.MaxLen"], apart := false, laid := [("unicode/utf8.acceptRanges", laid_unicode_utf8_acceptRanges), ("customs/nomenclature.lengths", laid_customs_nomenclature_lengths), ("unicode/utf8.first", laid_unicode_utf8_first)] }
def PlanChangedSaid : Prop := planChangedRow.holds Tryd.pinned (OpenSpec.ofChange planChangedSpec)

/-- ITS FALSE NEIGHBOUR: 'it returns false'. Refute it at one input. -/
def planChangedWrong : ChangeSpec := { name := "planChanged", fn := fun _ => fun
  | [d1, d2, d3, d4, d5] => { results := [.lit (.bool false)], args := [d1, d2, d3, d4, d5] }
  | _ => none }
def PlanChangedWrongFalsely : Prop := planChangedRow.holds Tryd.pinned (OpenSpec.ofChange planChangedWrong)

/-- 'customslaw13.PlanComponents': WHATEVER THE INPUT: true; the input reads as it did. -/
def planComponentsSpec : ChangeSpec := { name := "planComponents", fn := fun _ => fun
  | [d] => { results := [.lit (.bool true)], args := [d] }
  | _ => none }
def planComponentsRow : OpenClaim := { program := "ytipjgkapcgpgbaadoor", sum := "a285149051d5eba02c0d333ea74b77be3cea93b2742a68467a947e42c5aefe31", func := "customs/customslaw13.PlanComponents", spec := "planComponents", inPlace := ["internal/bytealg.IndexByteString", "internal/bytealg.IndexString"], unfollowed := true, recurses := true, named := ["customs/nomenclature.lengths", "unicode/utf8.first", "unicode/utf8.acceptRanges", "internal/bytealg.MaxLen"], apart := false, laid := [("unicode/utf8.acceptRanges", laid_unicode_utf8_acceptRanges), ("customs/nomenclature.lengths", laid_customs_nomenclature_lengths), ("unicode/utf8.first", laid_unicode_utf8_first)] }
def PlanComponentsSaid : Prop := planComponentsRow.holds Tryd.pinned (OpenSpec.ofChange planComponentsSpec)

/-- ITS FALSE NEIGHBOUR: 'it returns false'. Refute it at one input. -/
def planComponentsWrong : ChangeSpec := { name := "planComponents", fn := fun _ => fun
  | [d] => { results := [.lit (.bool false)], args := [d] }
  | _ => none }
def PlanComponentsWrongFalsely : Prop := planComponentsRow.holds Tryd.pinned (OpenSpec.ofChange planComponentsWrong)

/-- 'customslaw13.PlanOrder': WHATEVER THE INPUT: true; the input reads as it did. -/
def planOrderSpec : ChangeSpec := { name := "planOrder", fn := fun _ => fun
  | [d] => { results := [.lit (.bool true)], args := [d] }
  | _ => none }
def planOrderRow : OpenClaim := { program := "ytipjgkapcgpgbaadoor", sum := "a285149051d5eba02c0d333ea74b77be3cea93b2742a68467a947e42c5aefe31", func := "customs/customslaw13.PlanOrder", spec := "planOrder", inPlace := ["internal/bytealg.IndexByteString", "internal/bytealg.IndexString"], unfollowed := true, recurses := true, named := ["customs/nomenclature.lengths", "unicode/utf8.first", "unicode/utf8.acceptRanges", "internal/bytealg.MaxLen"], apart := false, laid := [("unicode/utf8.acceptRanges", laid_unicode_utf8_acceptRanges), ("customs/nomenclature.lengths", laid_customs_nomenclature_lengths), ("unicode/utf8.first", laid_unicode_utf8_first)] }
def PlanOrderSaid : Prop := planOrderRow.holds Tryd.pinned (OpenSpec.ofChange planOrderSpec)

/-- ITS FALSE NEIGHBOUR: 'it returns false'. Refute it at one input. -/
def planOrderWrong : ChangeSpec := { name := "planOrder", fn := fun _ => fun
  | [d] => { results := [.lit (.bool false)], args := [d] }
  | _ => none }
def PlanOrderWrongFalsely : Prop := planOrderRow.holds Tryd.pinned (OpenSpec.ofChange planOrderWrong)

/-- 'customslaw13.PlanReach': WHATEVER THE INPUT: true; the input reads as it did. -/
def planReachSpec : ChangeSpec := { name := "planReach", fn := fun _ => fun
  | [d1, d2] => { results := [.lit (.bool true)], args := [d1, d2] }
  | _ => none }
def planReachRow : OpenClaim := { program := "ytipjgkapcgpgbaadoor", sum := "a285149051d5eba02c0d333ea74b77be3cea93b2742a68467a947e42c5aefe31", func := "customs/customslaw13.PlanReach", spec := "planReach", inPlace := ["internal/bytealg.IndexByteString", "internal/bytealg.IndexString"], unfollowed := true, recurses := true, named := ["customs/nomenclature.lengths", "unicode/utf8.first", "unicode/utf8.acceptRanges", "internal/bytealg.MaxLen"], apart := false, laid := [("unicode/utf8.acceptRanges", laid_unicode_utf8_acceptRanges), ("customs/nomenclature.lengths", laid_customs_nomenclature_lengths), ("unicode/utf8.first", laid_unicode_utf8_first)] }
def PlanReachSaid : Prop := planReachRow.holds Tryd.pinned (OpenSpec.ofChange planReachSpec)

/-- ITS FALSE NEIGHBOUR: 'it returns false'. Refute it at one input. -/
def planReachWrong : ChangeSpec := { name := "planReach", fn := fun _ => fun
  | [d1, d2] => { results := [.lit (.bool false)], args := [d1, d2] }
  | _ => none }
def PlanReachWrongFalsely : Prop := planReachRow.holds Tryd.pinned (OpenSpec.ofChange planReachWrong)

/-- 'customslaw13.PlanFind': WHATEVER THE INPUT: true; the input reads as it did. -/
def planFindSpec : ChangeSpec := { name := "planFind", fn := fun _ => fun
  | [d1, d2, d3] => { results := [.lit (.bool true)], args := [d1, d2, d3] }
  | _ => none }
def planFindRow : OpenClaim := { program := "ytipjgkapcgpgbaadoor", sum := "a285149051d5eba02c0d333ea74b77be3cea93b2742a68467a947e42c5aefe31", func := "customs/customslaw13.PlanFind", spec := "planFind", inPlace := ["internal/bytealg.IndexByteString", "internal/bytealg.IndexString"], unfollowed := true, recurses := true, named := ["customs/nomenclature.lengths", "unicode/utf8.first", "unicode/utf8.acceptRanges", "internal/bytealg.MaxLen"], apart := false, laid := [("unicode/utf8.acceptRanges", laid_unicode_utf8_acceptRanges), ("customs/nomenclature.lengths", laid_customs_nomenclature_lengths), ("unicode/utf8.first", laid_unicode_utf8_first)] }
def PlanFindSaid : Prop := planFindRow.holds Tryd.pinned (OpenSpec.ofChange planFindSpec)

/-- ITS FALSE NEIGHBOUR: 'it returns false'. Refute it at one input. -/
def planFindWrong : ChangeSpec := { name := "planFind", fn := fun _ => fun
  | [d1, d2, d3] => { results := [.lit (.bool false)], args := [d1, d2, d3] }
  | _ => none }
def PlanFindWrongFalsely : Prop := planFindRow.holds Tryd.pinned (OpenSpec.ofChange planFindWrong)

/- THE SECOND FORM. 'bulk': how many values and letters a reading holds, each counted each time it is reached (what is shared counts as often as it is met; a slice's spare places count too). A statement '..UptoSaid' is the law's where the arguments, and the package variables that the reading takes, are together of bulk at most 1048576: NARROWER than '..Said'. Prove '..Said' where nothing that the law and all that it calls make is longer than what came in: it says more and counts as full. Else prove '..UptoSaid'. A law counts once. -/
mutual
def uptoBulk {H : Type} : DataW H → Nat
  | .lit (.string bytes) => bytes.length + 1
  | .lit _ => 1
  | .nil => 1
  | .ptr d => uptoBulk d + 1
  | .slice elems spare => uptoBulkAll elems + uptoBulkAll spare + 1
  | .agg parts => uptoBulkAll parts + 1
  | .iface _ d => uptoBulk d + 1
  | .map entries => uptoBulkEntries entries + 1
  | .held _ => 1
def uptoBulkAll {H : Type} : List (DataW H) → Nat
  | [] => 0
  | d :: r => uptoBulk d + uptoBulkAll r
def uptoBulkEntries {H : Type} : List (Lit × DataW H) → Nat
  | [] => 0
  | x :: r => uptoBulkEntry x + uptoBulkEntries r
def uptoBulkEntry {H : Type} : Lit × DataW H → Nat
  | (.string bytes, d) => bytes.length + uptoBulk d + 1
  | (_, d) => uptoBulk d + 1
 end
def uptoSmall : (H : Type) → List (DataW H) → Bool := fun _ ds => decide (uptoBulkAll ds ≤ 1048576)
def OpenSpec.upto (s : _root_.Go.ChangeSpec) : _root_.Go.OpenSpec := { _root_.Go.OpenSpec.ofChange s with cond := some uptoSmall }

/-- 'customslaw13.PlanValidate', WHERE WHAT IT READS IS OF BULK AT MOST 1048576: true; the input reads as it did. -/
def planValidateUptoRow : OpenClaim := { program := "ytipjgkapcgpgbaadoor", sum := "a285149051d5eba02c0d333ea74b77be3cea93b2742a68467a947e42c5aefe31", func := "customs/customslaw13.PlanValidate", spec := "planValidate", inPlace := ["internal/bytealg.IndexByteString", "internal/bytealg.IndexString"], unfollowed := true, recurses := true, named := ["customs/nomenclature.lengths", "unicode/utf8.first", "unicode/utf8.acceptRanges", "internal/bytealg.MaxLen"], apart := false, laid := [("unicode/utf8.acceptRanges", laid_unicode_utf8_acceptRanges), ("customs/nomenclature.lengths", laid_customs_nomenclature_lengths), ("unicode/utf8.first", laid_unicode_utf8_first)], narrowed := true }
def PlanValidateUptoSaid : Prop := planValidateUptoRow.holds Tryd.pinned (OpenSpec.upto planValidateSpec)

/-- 'customslaw13.PlanChanged', WHERE WHAT IT READS IS OF BULK AT MOST 1048576: true; the input reads as it did. -/
def planChangedUptoRow : OpenClaim := { program := "ytipjgkapcgpgbaadoor", sum := "a285149051d5eba02c0d333ea74b77be3cea93b2742a68467a947e42c5aefe31", func := "customs/customslaw13.PlanChanged", spec := "planChanged", inPlace := ["internal/bytealg.IndexByteString", "internal/bytealg.IndexString"], unfollowed := true, recurses := true, named := ["customs/nomenclature.lengths", "unicode/utf8.first", "unicode/utf8.acceptRanges", "internal/bytealg.MaxLen"], apart := false, laid := [("unicode/utf8.acceptRanges", laid_unicode_utf8_acceptRanges), ("customs/nomenclature.lengths", laid_customs_nomenclature_lengths), ("unicode/utf8.first", laid_unicode_utf8_first)], narrowed := true }
def PlanChangedUptoSaid : Prop := planChangedUptoRow.holds Tryd.pinned (OpenSpec.upto planChangedSpec)

/-- 'customslaw13.PlanComponents', WHERE WHAT IT READS IS OF BULK AT MOST 1048576: true; the input reads as it did. -/
def planComponentsUptoRow : OpenClaim := { program := "ytipjgkapcgpgbaadoor", sum := "a285149051d5eba02c0d333ea74b77be3cea93b2742a68467a947e42c5aefe31", func := "customs/customslaw13.PlanComponents", spec := "planComponents", inPlace := ["internal/bytealg.IndexByteString", "internal/bytealg.IndexString"], unfollowed := true, recurses := true, named := ["customs/nomenclature.lengths", "unicode/utf8.first", "unicode/utf8.acceptRanges", "internal/bytealg.MaxLen"], apart := false, laid := [("unicode/utf8.acceptRanges", laid_unicode_utf8_acceptRanges), ("customs/nomenclature.lengths", laid_customs_nomenclature_lengths), ("unicode/utf8.first", laid_unicode_utf8_first)], narrowed := true }
def PlanComponentsUptoSaid : Prop := planComponentsUptoRow.holds Tryd.pinned (OpenSpec.upto planComponentsSpec)

/-- 'customslaw13.PlanOrder', WHERE WHAT IT READS IS OF BULK AT MOST 1048576: true; the input reads as it did. -/
def planOrderUptoRow : OpenClaim := { program := "ytipjgkapcgpgbaadoor", sum := "a285149051d5eba02c0d333ea74b77be3cea93b2742a68467a947e42c5aefe31", func := "customs/customslaw13.PlanOrder", spec := "planOrder", inPlace := ["internal/bytealg.IndexByteString", "internal/bytealg.IndexString"], unfollowed := true, recurses := true, named := ["customs/nomenclature.lengths", "unicode/utf8.first", "unicode/utf8.acceptRanges", "internal/bytealg.MaxLen"], apart := false, laid := [("unicode/utf8.acceptRanges", laid_unicode_utf8_acceptRanges), ("customs/nomenclature.lengths", laid_customs_nomenclature_lengths), ("unicode/utf8.first", laid_unicode_utf8_first)], narrowed := true }
def PlanOrderUptoSaid : Prop := planOrderUptoRow.holds Tryd.pinned (OpenSpec.upto planOrderSpec)

/-- 'customslaw13.PlanReach', WHERE WHAT IT READS IS OF BULK AT MOST 1048576: true; the input reads as it did. -/
def planReachUptoRow : OpenClaim := { program := "ytipjgkapcgpgbaadoor", sum := "a285149051d5eba02c0d333ea74b77be3cea93b2742a68467a947e42c5aefe31", func := "customs/customslaw13.PlanReach", spec := "planReach", inPlace := ["internal/bytealg.IndexByteString", "internal/bytealg.IndexString"], unfollowed := true, recurses := true, named := ["customs/nomenclature.lengths", "unicode/utf8.first", "unicode/utf8.acceptRanges", "internal/bytealg.MaxLen"], apart := false, laid := [("unicode/utf8.acceptRanges", laid_unicode_utf8_acceptRanges), ("customs/nomenclature.lengths", laid_customs_nomenclature_lengths), ("unicode/utf8.first", laid_unicode_utf8_first)], narrowed := true }
def PlanReachUptoSaid : Prop := planReachUptoRow.holds Tryd.pinned (OpenSpec.upto planReachSpec)

/-- 'customslaw13.PlanFind', WHERE WHAT IT READS IS OF BULK AT MOST 1048576: true; the input reads as it did. -/
def planFindUptoRow : OpenClaim := { program := "ytipjgkapcgpgbaadoor", sum := "a285149051d5eba02c0d333ea74b77be3cea93b2742a68467a947e42c5aefe31", func := "customs/customslaw13.PlanFind", spec := "planFind", inPlace := ["internal/bytealg.IndexByteString", "internal/bytealg.IndexString"], unfollowed := true, recurses := true, named := ["customs/nomenclature.lengths", "unicode/utf8.first", "unicode/utf8.acceptRanges", "internal/bytealg.MaxLen"], apart := false, laid := [("unicode/utf8.acceptRanges", laid_unicode_utf8_acceptRanges), ("customs/nomenclature.lengths", laid_customs_nomenclature_lengths), ("unicode/utf8.first", laid_unicode_utf8_first)], narrowed := true }
def PlanFindUptoSaid : Prop := planFindUptoRow.holds Tryd.pinned (OpenSpec.upto planFindSpec)

end Rows
end Go.Proofs.YtipjgkapcgpgbaaDoor
