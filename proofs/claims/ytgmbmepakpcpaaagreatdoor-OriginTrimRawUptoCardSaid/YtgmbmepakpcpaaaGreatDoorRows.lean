/-
  NARROWER THAN 'FOR EVERY INPUT', by the rows' own cells (each row's printed sentence says how): CaseForm: laid · OriginCheckChanged: laid · OriginCheckErrors: loops, laid · OriginErrors: loops, laid · OriginClaims: laid · OriginTrim: laid · OriginTrimRaw: laid · OriginCheckSound: laid · OriginCheckAccepts: laid.
  DERIVED. THE GIVEN ROWS OF THIS SEAT. 9 by the template 'for every input the law returns true; each argument reads behind the call as it read before'; 0 by the template 'total and deterministic' (their statements: YtgmbmepakpcpaaaGreatDoorTotals.lean).
  GIVEN WITH THE SEED: the statements are not yours to turn. If you find one false, say at which input.
  Laid BY PROGRAM, IN A SANDBOX (cutbox-rows.mjs): the forced cells as the released guide's own fill.sh prints them over the translation 6ecddba3f8299e20… (all of the seat's roots in one cut). By AI agents, Wed Nov 11 2026. No macro, syntax, notation, axiom, sorry.
-/
import Derived.Test.YtgmbmepakpcpaaaGreatDoorChecked
import GoSem.PinnedTables
import GoSem.Claim
import GoSem.ClaimJoined
import GoSem.ClaimMapViews
import Derived.JoinedTies
import Derived.KernelRfl
namespace Go.Proofs.YtgmbmepakpcpaaaGreatDoor
/- THE CELL 'sum', in the pinned program and in every row, IS THE sha256 OF THE DUMP (.gsa) THAT YtgmbmepakpcpaaaGreatDoorProg.lean LOADS. Nothing in Lean hashes anything: it is a label: what it is worth is what the hold of that sum in a sandbox is worth. -/
noncomputable def Tryz.pinned : Pinned := { name := "ytgmbmepakpcpaaagreatdoor", sum := "6ecddba3f8299e20abeeeebe7759600c9df742e134f9832051e68a338f88750b", checked := Tryz.checked }
namespace Rows
def none {H : Type} : Left H := { results := [], args := [] }

/- WHAT THE LISTED PACKAGE-LEVEL VARIABLES READ AS WHEN THE CALL BEGINS. Each datum BY PROGRAM (the guide's laid-datum.mjs) off the statement by which the dump's own 'gosem.cut.vars' lays the variable. In a bare row this is a premise. The card (YtgmbmepakpcpaaaGreatDoorCards.lean) ties it to the program's text. -/
def laid_unicode_utf8_acceptRanges {H : Type} : DataW H := .agg [.agg [.lit (.int .u8 128), .lit (.int .u8 191)], .agg [.lit (.int .u8 160), .lit (.int .u8 191)], .agg [.lit (.int .u8 128), .lit (.int .u8 159)], .agg [.lit (.int .u8 144), .lit (.int .u8 191)], .agg [.lit (.int .u8 128), .lit (.int .u8 143)], .agg [.lit (.int .u8 0), .lit (.int .u8 0)], .agg [.lit (.int .u8 0), .lit (.int .u8 0)], .agg [.lit (.int .u8 0), .lit (.int .u8 0)], .agg [.lit (.int .u8 0), .lit (.int .u8 0)], .agg [.lit (.int .u8 0), .lit (.int .u8 0)], .agg [.lit (.int .u8 0), .lit (.int .u8 0)], .agg [.lit (.int .u8 0), .lit (.int .u8 0)], .agg [.lit (.int .u8 0), .lit (.int .u8 0)], .agg [.lit (.int .u8 0), .lit (.int .u8 0)], .agg [.lit (.int .u8 0), .lit (.int .u8 0)], .agg [.lit (.int .u8 0), .lit (.int .u8 0)]]
def laid_customs_nomenclature_lengths {H : Type} : DataW H := .agg [.lit (.int .i64 2), .lit (.int .i64 4), .lit (.int .i64 6), .lit (.int .i64 8)]
/-- One of Go's own tables, pinned by name: the form's constant. -/
def laid_unicode_utf8_first : DataW Unit := Go.Pinned.utf8First

/-- 'customslaw14.CaseForm': WHATEVER THE INPUT: true; the input reads as it did. -/
def caseFormSpec : ChangeSpec := { name := "caseForm", fn := fun _ => fun
  | [d1, d2, d3, d4, d5, d6] => { results := [.lit (.bool true)], args := [d1, d2, d3, d4, d5, d6] }
  | _ => none }
def caseFormRow : OpenClaim := { program := "ytgmbmepakpcpaaagreatdoor", sum := "6ecddba3f8299e20abeeeebe7759600c9df742e134f9832051e68a338f88750b", func := "customs/customslaw14.CaseForm", spec := "caseForm", inPlace := ["internal/bytealg.IndexByteString", "internal/bytealg.IndexString"], unfollowed := true, recurses := true, named := ["customs/nomenclature.lengths", "unicode/utf8.first", "unicode/utf8.acceptRanges", "math/bits.divideError", "math/bits.overflowError", "internal/bytealg.MaxLen"], plainKeys := false, apart := false, laid := [("unicode/utf8.acceptRanges", laid_unicode_utf8_acceptRanges), ("customs/nomenclature.lengths", laid_customs_nomenclature_lengths), ("unicode/utf8.first", laid_unicode_utf8_first)] }
def CaseFormSaid : Prop := caseFormRow.holds Tryz.pinned (OpenSpec.ofChange caseFormSpec)

/-- ITS FALSE NEIGHBOUR: 'it returns false'. Refute it at one input. -/
def caseFormWrong : ChangeSpec := { name := "caseForm", fn := fun _ => fun
  | [d1, d2, d3, d4, d5, d6] => { results := [.lit (.bool false)], args := [d1, d2, d3, d4, d5, d6] }
  | _ => none }
def CaseFormWrongFalsely : Prop := caseFormRow.holds Tryz.pinned (OpenSpec.ofChange caseFormWrong)

/-- 'customslaw16.OriginCheckChanged': WHATEVER THE INPUT: true; the input reads as it did. -/
def originCheckChangedSpec : ChangeSpec := { name := "originCheckChanged", fn := fun _ => fun
  | [d1, d2, d3, d4, d5, d6, d7, d8, d9] => { results := [.lit (.bool true)], args := [d1, d2, d3, d4, d5, d6, d7, d8, d9] }
  | _ => none }
def originCheckChangedRow : OpenClaim := { program := "ytgmbmepakpcpaaagreatdoor", sum := "6ecddba3f8299e20abeeeebe7759600c9df742e134f9832051e68a338f88750b", func := "customs/customslaw16.OriginCheckChanged", spec := "originCheckChanged", inPlace := ["internal/bytealg.IndexByteString", "internal/bytealg.IndexString"], unfollowed := true, recurses := true, named := ["customs/nomenclature.lengths", "unicode/utf8.first", "unicode/utf8.acceptRanges", "math/bits.divideError", "math/bits.overflowError", "internal/bytealg.MaxLen"], plainKeys := false, apart := false, laid := [("unicode/utf8.acceptRanges", laid_unicode_utf8_acceptRanges), ("customs/nomenclature.lengths", laid_customs_nomenclature_lengths), ("unicode/utf8.first", laid_unicode_utf8_first)] }
def OriginCheckChangedSaid : Prop := originCheckChangedRow.holds Tryz.pinned (OpenSpec.ofChange originCheckChangedSpec)

/-- ITS FALSE NEIGHBOUR: 'it returns false'. Refute it at one input. -/
def originCheckChangedWrong : ChangeSpec := { name := "originCheckChanged", fn := fun _ => fun
  | [d1, d2, d3, d4, d5, d6, d7, d8, d9] => { results := [.lit (.bool false)], args := [d1, d2, d3, d4, d5, d6, d7, d8, d9] }
  | _ => none }
def OriginCheckChangedWrongFalsely : Prop := originCheckChangedRow.holds Tryz.pinned (OpenSpec.ofChange originCheckChangedWrong)

/-- 'customslaw16.OriginCheckErrors': WHATEVER THE INPUT: true; the input reads as it did. -/
def originCheckErrorsSpec : ChangeSpec := { name := "originCheckErrors", fn := fun _ => fun
  | [d1, d2, d3, d4, d5, d6] => { results := [.lit (.bool true)], args := [d1, d2, d3, d4, d5, d6] }
  | _ => none }
def originCheckErrorsRow : OpenClaim := { program := "ytgmbmepakpcpaaagreatdoor", sum := "6ecddba3f8299e20abeeeebe7759600c9df742e134f9832051e68a338f88750b", func := "customs/customslaw16.OriginCheckErrors", spec := "originCheckErrors", inPlace := ["internal/bytealg.IndexByteString", "internal/bytealg.IndexString"], unfollowed := true, recurses := true, named := ["customs/nomenclature.lengths", "unicode/utf8.first", "unicode/utf8.acceptRanges", "math/bits.divideError", "math/bits.overflowError", "internal/bytealg.MaxLen"], loops := true, plainKeys := false, apart := false, laid := [("unicode/utf8.acceptRanges", laid_unicode_utf8_acceptRanges), ("customs/nomenclature.lengths", laid_customs_nomenclature_lengths), ("unicode/utf8.first", laid_unicode_utf8_first)] }
def OriginCheckErrorsSaid : Prop := originCheckErrorsRow.holds Tryz.pinned (OpenSpec.ofChange originCheckErrorsSpec)

/-- ITS FALSE NEIGHBOUR: 'it returns false'. Refute it at one input. -/
def originCheckErrorsWrong : ChangeSpec := { name := "originCheckErrors", fn := fun _ => fun
  | [d1, d2, d3, d4, d5, d6] => { results := [.lit (.bool false)], args := [d1, d2, d3, d4, d5, d6] }
  | _ => none }
def OriginCheckErrorsWrongFalsely : Prop := originCheckErrorsRow.holds Tryz.pinned (OpenSpec.ofChange originCheckErrorsWrong)

/-- 'customslaw15.OriginErrors': WHATEVER THE INPUT: true; the input reads as it did. -/
def originErrorsSpec : ChangeSpec := { name := "originErrors", fn := fun _ => fun
  | [d1, d2, d3, d4, d5, d6] => { results := [.lit (.bool true)], args := [d1, d2, d3, d4, d5, d6] }
  | _ => none }
def originErrorsRow : OpenClaim := { program := "ytgmbmepakpcpaaagreatdoor", sum := "6ecddba3f8299e20abeeeebe7759600c9df742e134f9832051e68a338f88750b", func := "customs/customslaw15.OriginErrors", spec := "originErrors", inPlace := ["internal/bytealg.IndexByteString", "internal/bytealg.IndexString"], unfollowed := true, recurses := true, named := ["customs/nomenclature.lengths", "unicode/utf8.first", "unicode/utf8.acceptRanges", "math/bits.divideError", "math/bits.overflowError", "internal/bytealg.MaxLen"], loops := true, plainKeys := false, apart := false, laid := [("unicode/utf8.acceptRanges", laid_unicode_utf8_acceptRanges), ("customs/nomenclature.lengths", laid_customs_nomenclature_lengths), ("unicode/utf8.first", laid_unicode_utf8_first)] }
def OriginErrorsSaid : Prop := originErrorsRow.holds Tryz.pinned (OpenSpec.ofChange originErrorsSpec)

/-- ITS FALSE NEIGHBOUR: 'it returns false'. Refute it at one input. -/
def originErrorsWrong : ChangeSpec := { name := "originErrors", fn := fun _ => fun
  | [d1, d2, d3, d4, d5, d6] => { results := [.lit (.bool false)], args := [d1, d2, d3, d4, d5, d6] }
  | _ => none }
def OriginErrorsWrongFalsely : Prop := originErrorsRow.holds Tryz.pinned (OpenSpec.ofChange originErrorsWrong)

/-- 'customslaw16.OriginClaims': WHATEVER THE INPUT: true; the input reads as it did. -/
def originClaimsSpec : ChangeSpec := { name := "originClaims", fn := fun _ => fun
  | [d1, d2, d3, d4] => { results := [.lit (.bool true)], args := [d1, d2, d3, d4] }
  | _ => none }
def originClaimsRow : OpenClaim := { program := "ytgmbmepakpcpaaagreatdoor", sum := "6ecddba3f8299e20abeeeebe7759600c9df742e134f9832051e68a338f88750b", func := "customs/customslaw16.OriginClaims", spec := "originClaims", inPlace := ["internal/bytealg.IndexByteString", "internal/bytealg.IndexString"], unfollowed := true, recurses := true, named := ["customs/nomenclature.lengths", "unicode/utf8.first", "unicode/utf8.acceptRanges", "math/bits.divideError", "math/bits.overflowError", "internal/bytealg.MaxLen"], plainKeys := false, apart := false, laid := [("unicode/utf8.acceptRanges", laid_unicode_utf8_acceptRanges), ("customs/nomenclature.lengths", laid_customs_nomenclature_lengths), ("unicode/utf8.first", laid_unicode_utf8_first)] }
def OriginClaimsSaid : Prop := originClaimsRow.holds Tryz.pinned (OpenSpec.ofChange originClaimsSpec)

/-- ITS FALSE NEIGHBOUR: 'it returns false'. Refute it at one input. -/
def originClaimsWrong : ChangeSpec := { name := "originClaims", fn := fun _ => fun
  | [d1, d2, d3, d4] => { results := [.lit (.bool false)], args := [d1, d2, d3, d4] }
  | _ => none }
def OriginClaimsWrongFalsely : Prop := originClaimsRow.holds Tryz.pinned (OpenSpec.ofChange originClaimsWrong)

/-- 'customslaw15.OriginTrim': WHATEVER THE INPUT: true; the input reads as it did. -/
def originTrimSpec : ChangeSpec := { name := "originTrim", fn := fun _ => fun
  | [d1, d2, d3, d4, d5] => { results := [.lit (.bool true)], args := [d1, d2, d3, d4, d5] }
  | _ => none }
def originTrimRow : OpenClaim := { program := "ytgmbmepakpcpaaagreatdoor", sum := "6ecddba3f8299e20abeeeebe7759600c9df742e134f9832051e68a338f88750b", func := "customs/customslaw15.OriginTrim", spec := "originTrim", inPlace := ["internal/bytealg.IndexByteString", "internal/bytealg.IndexString"], unfollowed := true, recurses := true, named := ["customs/nomenclature.lengths", "unicode/utf8.first", "unicode/utf8.acceptRanges", "math/bits.divideError", "math/bits.overflowError", "internal/bytealg.MaxLen"], plainKeys := false, apart := false, laid := [("unicode/utf8.acceptRanges", laid_unicode_utf8_acceptRanges), ("customs/nomenclature.lengths", laid_customs_nomenclature_lengths), ("unicode/utf8.first", laid_unicode_utf8_first)] }
def OriginTrimSaid : Prop := originTrimRow.holds Tryz.pinned (OpenSpec.ofChange originTrimSpec)

/-- ITS FALSE NEIGHBOUR: 'it returns false'. Refute it at one input. -/
def originTrimWrong : ChangeSpec := { name := "originTrim", fn := fun _ => fun
  | [d1, d2, d3, d4, d5] => { results := [.lit (.bool false)], args := [d1, d2, d3, d4, d5] }
  | _ => none }
def OriginTrimWrongFalsely : Prop := originTrimRow.holds Tryz.pinned (OpenSpec.ofChange originTrimWrong)

/-- 'customslaw15.OriginTrimRaw': WHATEVER THE INPUT: true; the input reads as it did. -/
def originTrimRawSpec : ChangeSpec := { name := "originTrimRaw", fn := fun _ => fun
  | [d1, d2, d3] => { results := [.lit (.bool true)], args := [d1, d2, d3] }
  | _ => none }
def originTrimRawRow : OpenClaim := { program := "ytgmbmepakpcpaaagreatdoor", sum := "6ecddba3f8299e20abeeeebe7759600c9df742e134f9832051e68a338f88750b", func := "customs/customslaw15.OriginTrimRaw", spec := "originTrimRaw", inPlace := ["internal/bytealg.IndexByteString", "internal/bytealg.IndexString"], unfollowed := true, recurses := true, named := ["customs/nomenclature.lengths", "unicode/utf8.first", "unicode/utf8.acceptRanges", "math/bits.divideError", "math/bits.overflowError", "internal/bytealg.MaxLen"], plainKeys := false, apart := false, laid := [("unicode/utf8.acceptRanges", laid_unicode_utf8_acceptRanges), ("customs/nomenclature.lengths", laid_customs_nomenclature_lengths), ("unicode/utf8.first", laid_unicode_utf8_first)] }
def OriginTrimRawSaid : Prop := originTrimRawRow.holds Tryz.pinned (OpenSpec.ofChange originTrimRawSpec)

/-- ITS FALSE NEIGHBOUR: 'it returns false'. Refute it at one input. -/
def originTrimRawWrong : ChangeSpec := { name := "originTrimRaw", fn := fun _ => fun
  | [d1, d2, d3] => { results := [.lit (.bool false)], args := [d1, d2, d3] }
  | _ => none }
def OriginTrimRawWrongFalsely : Prop := originTrimRawRow.holds Tryz.pinned (OpenSpec.ofChange originTrimRawWrong)

/-- 'customslaw16.OriginCheckSound': WHATEVER THE INPUT: true; the input reads as it did. -/
def originCheckSoundSpec : ChangeSpec := { name := "originCheckSound", fn := fun _ => fun
  | [d1, d2, d3, d4, d5, d6, d7] => { results := [.lit (.bool true)], args := [d1, d2, d3, d4, d5, d6, d7] }
  | _ => none }
def originCheckSoundRow : OpenClaim := { program := "ytgmbmepakpcpaaagreatdoor", sum := "6ecddba3f8299e20abeeeebe7759600c9df742e134f9832051e68a338f88750b", func := "customs/customslaw16.OriginCheckSound", spec := "originCheckSound", inPlace := ["internal/bytealg.IndexByteString", "internal/bytealg.IndexString"], unfollowed := true, recurses := true, named := ["customs/nomenclature.lengths", "unicode/utf8.first", "unicode/utf8.acceptRanges", "math/bits.divideError", "math/bits.overflowError", "internal/bytealg.MaxLen"], plainKeys := false, apart := false, laid := [("unicode/utf8.acceptRanges", laid_unicode_utf8_acceptRanges), ("customs/nomenclature.lengths", laid_customs_nomenclature_lengths), ("unicode/utf8.first", laid_unicode_utf8_first)] }
def OriginCheckSoundSaid : Prop := originCheckSoundRow.holds Tryz.pinned (OpenSpec.ofChange originCheckSoundSpec)

/-- ITS FALSE NEIGHBOUR: 'it returns false'. Refute it at one input. -/
def originCheckSoundWrong : ChangeSpec := { name := "originCheckSound", fn := fun _ => fun
  | [d1, d2, d3, d4, d5, d6, d7] => { results := [.lit (.bool false)], args := [d1, d2, d3, d4, d5, d6, d7] }
  | _ => none }
def OriginCheckSoundWrongFalsely : Prop := originCheckSoundRow.holds Tryz.pinned (OpenSpec.ofChange originCheckSoundWrong)

/-- 'customslaw16.OriginCheckAccepts': WHATEVER THE INPUT: true; the input reads as it did. -/
def originCheckAcceptsSpec : ChangeSpec := { name := "originCheckAccepts", fn := fun _ => fun
  | [d1, d2, d3, d4] => { results := [.lit (.bool true)], args := [d1, d2, d3, d4] }
  | _ => none }
def originCheckAcceptsRow : OpenClaim := { program := "ytgmbmepakpcpaaagreatdoor", sum := "6ecddba3f8299e20abeeeebe7759600c9df742e134f9832051e68a338f88750b", func := "customs/customslaw16.OriginCheckAccepts", spec := "originCheckAccepts", inPlace := ["internal/bytealg.IndexByteString", "internal/bytealg.IndexString"], unfollowed := true, recurses := true, named := ["customs/nomenclature.lengths", "unicode/utf8.first", "unicode/utf8.acceptRanges", "math/bits.divideError", "math/bits.overflowError", "internal/bytealg.MaxLen"], plainKeys := false, apart := false, laid := [("unicode/utf8.acceptRanges", laid_unicode_utf8_acceptRanges), ("customs/nomenclature.lengths", laid_customs_nomenclature_lengths), ("unicode/utf8.first", laid_unicode_utf8_first)] }
def OriginCheckAcceptsSaid : Prop := originCheckAcceptsRow.holds Tryz.pinned (OpenSpec.ofChange originCheckAcceptsSpec)

/-- ITS FALSE NEIGHBOUR: 'it returns false'. Refute it at one input. -/
def originCheckAcceptsWrong : ChangeSpec := { name := "originCheckAccepts", fn := fun _ => fun
  | [d1, d2, d3, d4] => { results := [.lit (.bool false)], args := [d1, d2, d3, d4] }
  | _ => none }
def OriginCheckAcceptsWrongFalsely : Prop := originCheckAcceptsRow.holds Tryz.pinned (OpenSpec.ofChange originCheckAcceptsWrong)

/- THE SECOND FORM. 'bulk': how many values and letters a reading holds, each counted each time it is reached (what is shared counts as often as it is met; a slice's spare places count too). A statement '..UptoSaid' is the law's where the arguments, and the package variables that the reading takes, are together of bulk at most 1048576: NARROWER than '..Said'. Prove '..Said' where nothing that the law and all that it calls make is longer than what came in: it says more and counts as full. Else prove '..UptoSaid'. A law counts once. -/
mutual
def uptoBulk {H : Type} : DataW H → Nat
  | .lit (.string bytes) => bytes.length + 1
  | .lit _ => 1
  | .nil => 1
  | .ptr d => uptoBulk d + 1
  | .slice elems spare => uptoBulkAll elems + uptoBulkAll spare + 1
  | .agg parts => uptoBulkAll parts + 1
  | .iface _ d => uptoBulk d + 1
  | .map entries => uptoBulkEntries entries + 1
  | .held _ => 1
def uptoBulkAll {H : Type} : List (DataW H) → Nat
  | [] => 0
  | d :: r => uptoBulk d + uptoBulkAll r
def uptoBulkEntries {H : Type} : List (Lit × DataW H) → Nat
  | [] => 0
  | x :: r => uptoBulkEntry x + uptoBulkEntries r
def uptoBulkEntry {H : Type} : Lit × DataW H → Nat
  | (.string bytes, d) => bytes.length + uptoBulk d + 1
  | (_, d) => uptoBulk d + 1
 end
def uptoSmall : (H : Type) → List (DataW H) → Bool := fun _ ds => decide (uptoBulkAll ds ≤ 1048576)
def OpenSpec.upto (s : _root_.Go.ChangeSpec) : _root_.Go.OpenSpec := { _root_.Go.OpenSpec.ofChange s with cond := some uptoSmall }

/-- 'customslaw14.CaseForm', WHERE WHAT IT READS IS OF BULK AT MOST 1048576: true; the input reads as it did. -/
def caseFormUptoRow : OpenClaim := { program := "ytgmbmepakpcpaaagreatdoor", sum := "6ecddba3f8299e20abeeeebe7759600c9df742e134f9832051e68a338f88750b", func := "customs/customslaw14.CaseForm", spec := "caseForm", inPlace := ["internal/bytealg.IndexByteString", "internal/bytealg.IndexString"], unfollowed := true, recurses := true, named := ["customs/nomenclature.lengths", "unicode/utf8.first", "unicode/utf8.acceptRanges", "math/bits.divideError", "math/bits.overflowError", "internal/bytealg.MaxLen"], plainKeys := false, apart := false, laid := [("unicode/utf8.acceptRanges", laid_unicode_utf8_acceptRanges), ("customs/nomenclature.lengths", laid_customs_nomenclature_lengths), ("unicode/utf8.first", laid_unicode_utf8_first)], narrowed := true }
def CaseFormUptoSaid : Prop := caseFormUptoRow.holds Tryz.pinned (OpenSpec.upto caseFormSpec)

/-- 'customslaw16.OriginCheckChanged', WHERE WHAT IT READS IS OF BULK AT MOST 1048576: true; the input reads as it did. -/
def originCheckChangedUptoRow : OpenClaim := { program := "ytgmbmepakpcpaaagreatdoor", sum := "6ecddba3f8299e20abeeeebe7759600c9df742e134f9832051e68a338f88750b", func := "customs/customslaw16.OriginCheckChanged", spec := "originCheckChanged", inPlace := ["internal/bytealg.IndexByteString", "internal/bytealg.IndexString"], unfollowed := true, recurses := true, named := ["customs/nomenclature.lengths", "unicode/utf8.first", "unicode/utf8.acceptRanges", "math/bits.divideError", "math/bits.overflowError", "internal/bytealg.MaxLen"], plainKeys := false, apart := false, laid := [("unicode/utf8.acceptRanges", laid_unicode_utf8_acceptRanges), ("customs/nomenclature.lengths", laid_customs_nomenclature_lengths), ("unicode/utf8.first", laid_unicode_utf8_first)], narrowed := true }
def OriginCheckChangedUptoSaid : Prop := originCheckChangedUptoRow.holds Tryz.pinned (OpenSpec.upto originCheckChangedSpec)

/-- 'customslaw16.OriginCheckErrors', WHERE WHAT IT READS IS OF BULK AT MOST 1048576: true; the input reads as it did. -/
def originCheckErrorsUptoRow : OpenClaim := { program := "ytgmbmepakpcpaaagreatdoor", sum := "6ecddba3f8299e20abeeeebe7759600c9df742e134f9832051e68a338f88750b", func := "customs/customslaw16.OriginCheckErrors", spec := "originCheckErrors", inPlace := ["internal/bytealg.IndexByteString", "internal/bytealg.IndexString"], unfollowed := true, recurses := true, named := ["customs/nomenclature.lengths", "unicode/utf8.first", "unicode/utf8.acceptRanges", "math/bits.divideError", "math/bits.overflowError", "internal/bytealg.MaxLen"], loops := true, plainKeys := false, apart := false, laid := [("unicode/utf8.acceptRanges", laid_unicode_utf8_acceptRanges), ("customs/nomenclature.lengths", laid_customs_nomenclature_lengths), ("unicode/utf8.first", laid_unicode_utf8_first)], narrowed := true }
def OriginCheckErrorsUptoSaid : Prop := originCheckErrorsUptoRow.holds Tryz.pinned (OpenSpec.upto originCheckErrorsSpec)

/-- 'customslaw15.OriginErrors', WHERE WHAT IT READS IS OF BULK AT MOST 1048576: true; the input reads as it did. -/
def originErrorsUptoRow : OpenClaim := { program := "ytgmbmepakpcpaaagreatdoor", sum := "6ecddba3f8299e20abeeeebe7759600c9df742e134f9832051e68a338f88750b", func := "customs/customslaw15.OriginErrors", spec := "originErrors", inPlace := ["internal/bytealg.IndexByteString", "internal/bytealg.IndexString"], unfollowed := true, recurses := true, named := ["customs/nomenclature.lengths", "unicode/utf8.first", "unicode/utf8.acceptRanges", "math/bits.divideError", "math/bits.overflowError", "internal/bytealg.MaxLen"], loops := true, plainKeys := false, apart := false, laid := [("unicode/utf8.acceptRanges", laid_unicode_utf8_acceptRanges), ("customs/nomenclature.lengths", laid_customs_nomenclature_lengths), ("unicode/utf8.first", laid_unicode_utf8_first)], narrowed := true }
def OriginErrorsUptoSaid : Prop := originErrorsUptoRow.holds Tryz.pinned (OpenSpec.upto originErrorsSpec)

/-- 'customslaw16.OriginClaims', WHERE WHAT IT READS IS OF BULK AT MOST 1048576: true; the input reads as it did. -/
def originClaimsUptoRow : OpenClaim := { program := "ytgmbmepakpcpaaagreatdoor", sum := "6ecddba3f8299e20abeeeebe7759600c9df742e134f9832051e68a338f88750b", func := "customs/customslaw16.OriginClaims", spec := "originClaims", inPlace := ["internal/bytealg.IndexByteString", "internal/bytealg.IndexString"], unfollowed := true, recurses := true, named := ["customs/nomenclature.lengths", "unicode/utf8.first", "unicode/utf8.acceptRanges", "math/bits.divideError", "math/bits.overflowError", "internal/bytealg.MaxLen"], plainKeys := false, apart := false, laid := [("unicode/utf8.acceptRanges", laid_unicode_utf8_acceptRanges), ("customs/nomenclature.lengths", laid_customs_nomenclature_lengths), ("unicode/utf8.first", laid_unicode_utf8_first)], narrowed := true }
def OriginClaimsUptoSaid : Prop := originClaimsUptoRow.holds Tryz.pinned (OpenSpec.upto originClaimsSpec)

/-- 'customslaw15.OriginTrim', WHERE WHAT IT READS IS OF BULK AT MOST 1048576: true; the input reads as it did. -/
def originTrimUptoRow : OpenClaim := { program := "ytgmbmepakpcpaaagreatdoor", sum := "6ecddba3f8299e20abeeeebe7759600c9df742e134f9832051e68a338f88750b", func := "customs/customslaw15.OriginTrim", spec := "originTrim", inPlace := ["internal/bytealg.IndexByteString", "internal/bytealg.IndexString"], unfollowed := true, recurses := true, named := ["customs/nomenclature.lengths", "unicode/utf8.first", "unicode/utf8.acceptRanges", "math/bits.divideError", "math/bits.overflowError", "internal/bytealg.MaxLen"], plainKeys := false, apart := false, laid := [("unicode/utf8.acceptRanges", laid_unicode_utf8_acceptRanges), ("customs/nomenclature.lengths", laid_customs_nomenclature_lengths), ("unicode/utf8.first", laid_unicode_utf8_first)], narrowed := true }
def OriginTrimUptoSaid : Prop := originTrimUptoRow.holds Tryz.pinned (OpenSpec.upto originTrimSpec)

/-- 'customslaw15.OriginTrimRaw', WHERE WHAT IT READS IS OF BULK AT MOST 1048576: true; the input reads as it did. -/
def originTrimRawUptoRow : OpenClaim := { program := "ytgmbmepakpcpaaagreatdoor", sum := "6ecddba3f8299e20abeeeebe7759600c9df742e134f9832051e68a338f88750b", func := "customs/customslaw15.OriginTrimRaw", spec := "originTrimRaw", inPlace := ["internal/bytealg.IndexByteString", "internal/bytealg.IndexString"], unfollowed := true, recurses := true, named := ["customs/nomenclature.lengths", "unicode/utf8.first", "unicode/utf8.acceptRanges", "math/bits.divideError", "math/bits.overflowError", "internal/bytealg.MaxLen"], plainKeys := false, apart := false, laid := [("unicode/utf8.acceptRanges", laid_unicode_utf8_acceptRanges), ("customs/nomenclature.lengths", laid_customs_nomenclature_lengths), ("unicode/utf8.first", laid_unicode_utf8_first)], narrowed := true }
def OriginTrimRawUptoSaid : Prop := originTrimRawUptoRow.holds Tryz.pinned (OpenSpec.upto originTrimRawSpec)

/-- 'customslaw16.OriginCheckSound', WHERE WHAT IT READS IS OF BULK AT MOST 1048576: true; the input reads as it did. -/
def originCheckSoundUptoRow : OpenClaim := { program := "ytgmbmepakpcpaaagreatdoor", sum := "6ecddba3f8299e20abeeeebe7759600c9df742e134f9832051e68a338f88750b", func := "customs/customslaw16.OriginCheckSound", spec := "originCheckSound", inPlace := ["internal/bytealg.IndexByteString", "internal/bytealg.IndexString"], unfollowed := true, recurses := true, named := ["customs/nomenclature.lengths", "unicode/utf8.first", "unicode/utf8.acceptRanges", "math/bits.divideError", "math/bits.overflowError", "internal/bytealg.MaxLen"], plainKeys := false, apart := false, laid := [("unicode/utf8.acceptRanges", laid_unicode_utf8_acceptRanges), ("customs/nomenclature.lengths", laid_customs_nomenclature_lengths), ("unicode/utf8.first", laid_unicode_utf8_first)], narrowed := true }
def OriginCheckSoundUptoSaid : Prop := originCheckSoundUptoRow.holds Tryz.pinned (OpenSpec.upto originCheckSoundSpec)

/-- 'customslaw16.OriginCheckAccepts', WHERE WHAT IT READS IS OF BULK AT MOST 1048576: true; the input reads as it did. -/
def originCheckAcceptsUptoRow : OpenClaim := { program := "ytgmbmepakpcpaaagreatdoor", sum := "6ecddba3f8299e20abeeeebe7759600c9df742e134f9832051e68a338f88750b", func := "customs/customslaw16.OriginCheckAccepts", spec := "originCheckAccepts", inPlace := ["internal/bytealg.IndexByteString", "internal/bytealg.IndexString"], unfollowed := true, recurses := true, named := ["customs/nomenclature.lengths", "unicode/utf8.first", "unicode/utf8.acceptRanges", "math/bits.divideError", "math/bits.overflowError", "internal/bytealg.MaxLen"], plainKeys := false, apart := false, laid := [("unicode/utf8.acceptRanges", laid_unicode_utf8_acceptRanges), ("customs/nomenclature.lengths", laid_customs_nomenclature_lengths), ("unicode/utf8.first", laid_unicode_utf8_first)], narrowed := true }
def OriginCheckAcceptsUptoSaid : Prop := originCheckAcceptsUptoRow.holds Tryz.pinned (OpenSpec.upto originCheckAcceptsSpec)

end Rows
end Go.Proofs.YtgmbmepakpcpaaaGreatDoor
