/-
  NARROWER THAN 'FOR EVERY INPUT', by the rows' own cells (each row's printed sentence says how): AgreementValidate: loops, laid · AgreementChanged: loops, laid · AgreementRuleOf: laid · AgreementPartners: laid · CasePremises: laid · CaseForm: laid · CaseMonotone: laid.
  DERIVED. THE GIVEN ROWS OF THIS SEAT. 7 by the template 'for every input the law returns true; each argument reads behind the call as it read before'; 0 by the template 'total and deterministic' (their statements: YtiijbkaiipjpkaaGreatDoorTotals.lean).
  GIVEN WITH THE SEED: the statements are not yours to turn. If you find one false, say at which input.
  Laid BY PROGRAM, IN A SANDBOX (cutbox-rows.mjs): the forced cells as the released guide's own fill.sh prints them over the translation 434a887194523ee7… (all of the seat's roots in one cut). By AI agents, Wed Nov 11 2026. No macro, syntax, notation, axiom, sorry.
-/
import Derived.Test.YtiijbkaiipjpkaaGreatDoorChecked
import GoSem.PinnedTables
import GoSem.Claim
import GoSem.ClaimJoined
import GoSem.ClaimMapViews
import Derived.JoinedTies
import Derived.KernelRfl
namespace Go.Proofs.YtiijbkaiipjpkaaGreatDoor
/- THE CELL 'sum', in the pinned program and in every row, IS THE sha256 OF THE DUMP (.gsa) THAT YtiijbkaiipjpkaaGreatDoorProg.lean LOADS. Nothing in Lean hashes anything: it is a label: what it is worth is what the hold of that sum in a sandbox is worth. -/
noncomputable def Tryz.pinned : Pinned := { name := "ytiijbkaiipjpkaagreatdoor", sum := "434a887194523ee724e1ba4d4ada25348da133980664ea57fb3e1fa315738f98", checked := Tryz.checked }
namespace Rows
def none {H : Type} : Left H := { results := [], args := [] }

/- WHAT THE LISTED PACKAGE-LEVEL VARIABLES READ AS WHEN THE CALL BEGINS. Each datum BY PROGRAM (the guide's laid-datum.mjs) off the statement by which the dump's own 'gosem.cut.vars' lays the variable. In a bare row this is a premise. The card (YtiijbkaiipjpkaaGreatDoorCards.lean) ties it to the program's text. -/
def laid_unicode_utf8_acceptRanges {H : Type} : DataW H := .agg [.agg [.lit (.int .u8 128), .lit (.int .u8 191)], .agg [.lit (.int .u8 160), .lit (.int .u8 191)], .agg [.lit (.int .u8 128), .lit (.int .u8 159)], .agg [.lit (.int .u8 144), .lit (.int .u8 191)], .agg [.lit (.int .u8 128), .lit (.int .u8 143)], .agg [.lit (.int .u8 0), .lit (.int .u8 0)], .agg [.lit (.int .u8 0), .lit (.int .u8 0)], .agg [.lit (.int .u8 0), .lit (.int .u8 0)], .agg [.lit (.int .u8 0), .lit (.int .u8 0)], .agg [.lit (.int .u8 0), .lit (.int .u8 0)], .agg [.lit (.int .u8 0), .lit (.int .u8 0)], .agg [.lit (.int .u8 0), .lit (.int .u8 0)], .agg [.lit (.int .u8 0), .lit (.int .u8 0)], .agg [.lit (.int .u8 0), .lit (.int .u8 0)], .agg [.lit (.int .u8 0), .lit (.int .u8 0)], .agg [.lit (.int .u8 0), .lit (.int .u8 0)]]
def laid_customs_nomenclature_lengths {H : Type} : DataW H := .agg [.lit (.int .i64 2), .lit (.int .i64 4), .lit (.int .i64 6), .lit (.int .i64 8)]
/-- One of Go's own tables, pinned by name: the form's constant. -/
def laid_unicode_utf8_first : DataW Unit := Go.Pinned.utf8First

/-- 'customslaw14.AgreementValidate': WHATEVER THE INPUT: true; the input reads as it did. -/
def agreementValidateSpec : ChangeSpec := { name := "agreementValidate", fn := fun _ => fun
  | [d1, d2] => { results := [.lit (.bool true)], args := [d1, d2] }
  | _ => none }
def agreementValidateRow : OpenClaim := { program := "ytiijbkaiipjpkaagreatdoor", sum := "434a887194523ee724e1ba4d4ada25348da133980664ea57fb3e1fa315738f98", func := "customs/customslaw14.AgreementValidate", spec := "agreementValidate", inPlace := ["internal/bytealg.IndexByteString", "internal/bytealg.IndexString"], unfollowed := true, recurses := true, named := ["customs/nomenclature.lengths", "unicode/utf8.first", "unicode/utf8.acceptRanges", "math/bits.divideError", "math/bits.overflowError", "internal/bytealg.MaxLen"], loops := true, plainKeys := false, apart := false, laid := [("unicode/utf8.acceptRanges", laid_unicode_utf8_acceptRanges), ("customs/nomenclature.lengths", laid_customs_nomenclature_lengths), ("unicode/utf8.first", laid_unicode_utf8_first)] }
def AgreementValidateSaid : Prop := agreementValidateRow.holds Tryz.pinned (OpenSpec.ofChange agreementValidateSpec)

/-- ITS FALSE NEIGHBOUR: 'it returns false'. Refute it at one input. -/
def agreementValidateWrong : ChangeSpec := { name := "agreementValidate", fn := fun _ => fun
  | [d1, d2] => { results := [.lit (.bool false)], args := [d1, d2] }
  | _ => none }
def AgreementValidateWrongFalsely : Prop := agreementValidateRow.holds Tryz.pinned (OpenSpec.ofChange agreementValidateWrong)

/-- 'customslaw14.AgreementChanged': WHATEVER THE INPUT: true; the input reads as it did. -/
def agreementChangedSpec : ChangeSpec := { name := "agreementChanged", fn := fun _ => fun
  | [d1, d2, d3, d4, d5, d6] => { results := [.lit (.bool true)], args := [d1, d2, d3, d4, d5, d6] }
  | _ => none }
def agreementChangedRow : OpenClaim := { program := "ytiijbkaiipjpkaagreatdoor", sum := "434a887194523ee724e1ba4d4ada25348da133980664ea57fb3e1fa315738f98", func := "customs/customslaw14.AgreementChanged", spec := "agreementChanged", inPlace := ["internal/bytealg.IndexByteString", "internal/bytealg.IndexString"], unfollowed := true, recurses := true, named := ["customs/nomenclature.lengths", "unicode/utf8.first", "unicode/utf8.acceptRanges", "math/bits.divideError", "math/bits.overflowError", "internal/bytealg.MaxLen"], loops := true, plainKeys := false, apart := false, laid := [("unicode/utf8.acceptRanges", laid_unicode_utf8_acceptRanges), ("customs/nomenclature.lengths", laid_customs_nomenclature_lengths), ("unicode/utf8.first", laid_unicode_utf8_first)] }
def AgreementChangedSaid : Prop := agreementChangedRow.holds Tryz.pinned (OpenSpec.ofChange agreementChangedSpec)

/-- ITS FALSE NEIGHBOUR: 'it returns false'. Refute it at one input. -/
def agreementChangedWrong : ChangeSpec := { name := "agreementChanged", fn := fun _ => fun
  | [d1, d2, d3, d4, d5, d6] => { results := [.lit (.bool false)], args := [d1, d2, d3, d4, d5, d6] }
  | _ => none }
def AgreementChangedWrongFalsely : Prop := agreementChangedRow.holds Tryz.pinned (OpenSpec.ofChange agreementChangedWrong)

/-- 'customslaw14.AgreementRuleOf': WHATEVER THE INPUT: true; the input reads as it did. -/
def agreementRuleOfSpec : ChangeSpec := { name := "agreementRuleOf", fn := fun _ => fun
  | [d1, d2, d3, d4, d5] => { results := [.lit (.bool true)], args := [d1, d2, d3, d4, d5] }
  | _ => none }
def agreementRuleOfRow : OpenClaim := { program := "ytiijbkaiipjpkaagreatdoor", sum := "434a887194523ee724e1ba4d4ada25348da133980664ea57fb3e1fa315738f98", func := "customs/customslaw14.AgreementRuleOf", spec := "agreementRuleOf", inPlace := ["internal/bytealg.IndexByteString", "internal/bytealg.IndexString"], unfollowed := true, recurses := true, named := ["customs/nomenclature.lengths", "unicode/utf8.first", "unicode/utf8.acceptRanges", "math/bits.divideError", "math/bits.overflowError", "internal/bytealg.MaxLen"], plainKeys := false, apart := false, laid := [("unicode/utf8.acceptRanges", laid_unicode_utf8_acceptRanges), ("customs/nomenclature.lengths", laid_customs_nomenclature_lengths), ("unicode/utf8.first", laid_unicode_utf8_first)] }
def AgreementRuleOfSaid : Prop := agreementRuleOfRow.holds Tryz.pinned (OpenSpec.ofChange agreementRuleOfSpec)

/-- ITS FALSE NEIGHBOUR: 'it returns false'. Refute it at one input. -/
def agreementRuleOfWrong : ChangeSpec := { name := "agreementRuleOf", fn := fun _ => fun
  | [d1, d2, d3, d4, d5] => { results := [.lit (.bool false)], args := [d1, d2, d3, d4, d5] }
  | _ => none }
def AgreementRuleOfWrongFalsely : Prop := agreementRuleOfRow.holds Tryz.pinned (OpenSpec.ofChange agreementRuleOfWrong)

/-- 'customslaw14.AgreementPartners': WHATEVER THE INPUT: true; the input reads as it did. -/
def agreementPartnersSpec : ChangeSpec := { name := "agreementPartners", fn := fun _ => fun
  | [d1, d2, d3, d4, d5, d6] => { results := [.lit (.bool true)], args := [d1, d2, d3, d4, d5, d6] }
  | _ => none }
def agreementPartnersRow : OpenClaim := { program := "ytiijbkaiipjpkaagreatdoor", sum := "434a887194523ee724e1ba4d4ada25348da133980664ea57fb3e1fa315738f98", func := "customs/customslaw14.AgreementPartners", spec := "agreementPartners", inPlace := ["internal/bytealg.IndexByteString", "internal/bytealg.IndexString"], unfollowed := true, recurses := true, named := ["customs/nomenclature.lengths", "unicode/utf8.first", "unicode/utf8.acceptRanges", "math/bits.divideError", "math/bits.overflowError", "internal/bytealg.MaxLen"], plainKeys := false, apart := false, laid := [("unicode/utf8.acceptRanges", laid_unicode_utf8_acceptRanges), ("customs/nomenclature.lengths", laid_customs_nomenclature_lengths), ("unicode/utf8.first", laid_unicode_utf8_first)] }
def AgreementPartnersSaid : Prop := agreementPartnersRow.holds Tryz.pinned (OpenSpec.ofChange agreementPartnersSpec)

/-- ITS FALSE NEIGHBOUR: 'it returns false'. Refute it at one input. -/
def agreementPartnersWrong : ChangeSpec := { name := "agreementPartners", fn := fun _ => fun
  | [d1, d2, d3, d4, d5, d6] => { results := [.lit (.bool false)], args := [d1, d2, d3, d4, d5, d6] }
  | _ => none }
def AgreementPartnersWrongFalsely : Prop := agreementPartnersRow.holds Tryz.pinned (OpenSpec.ofChange agreementPartnersWrong)

/-- 'customslaw14.CasePremises': WHATEVER THE INPUT: true; the input reads as it did. -/
def casePremisesSpec : ChangeSpec := { name := "casePremises", fn := fun _ => fun
  | [d1, d2, d3, d4, d5, d6] => { results := [.lit (.bool true)], args := [d1, d2, d3, d4, d5, d6] }
  | _ => none }
def casePremisesRow : OpenClaim := { program := "ytiijbkaiipjpkaagreatdoor", sum := "434a887194523ee724e1ba4d4ada25348da133980664ea57fb3e1fa315738f98", func := "customs/customslaw14.CasePremises", spec := "casePremises", inPlace := ["internal/bytealg.IndexByteString", "internal/bytealg.IndexString"], unfollowed := true, recurses := true, named := ["customs/nomenclature.lengths", "unicode/utf8.first", "unicode/utf8.acceptRanges", "math/bits.divideError", "math/bits.overflowError", "internal/bytealg.MaxLen"], plainKeys := false, apart := false, laid := [("unicode/utf8.acceptRanges", laid_unicode_utf8_acceptRanges), ("customs/nomenclature.lengths", laid_customs_nomenclature_lengths), ("unicode/utf8.first", laid_unicode_utf8_first)] }
def CasePremisesSaid : Prop := casePremisesRow.holds Tryz.pinned (OpenSpec.ofChange casePremisesSpec)

/-- ITS FALSE NEIGHBOUR: 'it returns false'. Refute it at one input. -/
def casePremisesWrong : ChangeSpec := { name := "casePremises", fn := fun _ => fun
  | [d1, d2, d3, d4, d5, d6] => { results := [.lit (.bool false)], args := [d1, d2, d3, d4, d5, d6] }
  | _ => none }
def CasePremisesWrongFalsely : Prop := casePremisesRow.holds Tryz.pinned (OpenSpec.ofChange casePremisesWrong)

/-- 'customslaw14.CaseForm': WHATEVER THE INPUT: true; the input reads as it did. -/
def caseFormSpec : ChangeSpec := { name := "caseForm", fn := fun _ => fun
  | [d1, d2, d3, d4, d5, d6] => { results := [.lit (.bool true)], args := [d1, d2, d3, d4, d5, d6] }
  | _ => none }
def caseFormRow : OpenClaim := { program := "ytiijbkaiipjpkaagreatdoor", sum := "434a887194523ee724e1ba4d4ada25348da133980664ea57fb3e1fa315738f98", func := "customs/customslaw14.CaseForm", spec := "caseForm", inPlace := ["internal/bytealg.IndexByteString", "internal/bytealg.IndexString"], unfollowed := true, recurses := true, named := ["customs/nomenclature.lengths", "unicode/utf8.first", "unicode/utf8.acceptRanges", "math/bits.divideError", "math/bits.overflowError", "internal/bytealg.MaxLen"], plainKeys := false, apart := false, laid := [("unicode/utf8.acceptRanges", laid_unicode_utf8_acceptRanges), ("customs/nomenclature.lengths", laid_customs_nomenclature_lengths), ("unicode/utf8.first", laid_unicode_utf8_first)] }
def CaseFormSaid : Prop := caseFormRow.holds Tryz.pinned (OpenSpec.ofChange caseFormSpec)

/-- ITS FALSE NEIGHBOUR: 'it returns false'. Refute it at one input. -/
def caseFormWrong : ChangeSpec := { name := "caseForm", fn := fun _ => fun
  | [d1, d2, d3, d4, d5, d6] => { results := [.lit (.bool false)], args := [d1, d2, d3, d4, d5, d6] }
  | _ => none }
def CaseFormWrongFalsely : Prop := caseFormRow.holds Tryz.pinned (OpenSpec.ofChange caseFormWrong)

/-- 'customslaw14.CaseMonotone': WHATEVER THE INPUT: true; the input reads as it did. -/
def caseMonotoneSpec : ChangeSpec := { name := "caseMonotone", fn := fun _ => fun
  | [d1, d2, d3, d4, d5, d6, d7, d8] => { results := [.lit (.bool true)], args := [d1, d2, d3, d4, d5, d6, d7, d8] }
  | _ => none }
def caseMonotoneRow : OpenClaim := { program := "ytiijbkaiipjpkaagreatdoor", sum := "434a887194523ee724e1ba4d4ada25348da133980664ea57fb3e1fa315738f98", func := "customs/customslaw14.CaseMonotone", spec := "caseMonotone", inPlace := ["internal/bytealg.IndexByteString", "internal/bytealg.IndexString"], unfollowed := true, recurses := true, named := ["customs/nomenclature.lengths", "unicode/utf8.first", "unicode/utf8.acceptRanges", "math/bits.divideError", "math/bits.overflowError", "internal/bytealg.MaxLen"], plainKeys := false, apart := false, laid := [("unicode/utf8.acceptRanges", laid_unicode_utf8_acceptRanges), ("customs/nomenclature.lengths", laid_customs_nomenclature_lengths), ("unicode/utf8.first", laid_unicode_utf8_first)] }
def CaseMonotoneSaid : Prop := caseMonotoneRow.holds Tryz.pinned (OpenSpec.ofChange caseMonotoneSpec)

/-- ITS FALSE NEIGHBOUR: 'it returns false'. Refute it at one input. -/
def caseMonotoneWrong : ChangeSpec := { name := "caseMonotone", fn := fun _ => fun
  | [d1, d2, d3, d4, d5, d6, d7, d8] => { results := [.lit (.bool false)], args := [d1, d2, d3, d4, d5, d6, d7, d8] }
  | _ => none }
def CaseMonotoneWrongFalsely : Prop := caseMonotoneRow.holds Tryz.pinned (OpenSpec.ofChange caseMonotoneWrong)

/- THE SECOND FORM. 'bulk': how many values and letters a reading holds, each counted each time it is reached (what is shared counts as often as it is met; a slice's spare places count too). A statement '..UptoSaid' is the law's where the arguments, and the package variables that the reading takes, are together of bulk at most 1048576: NARROWER than '..Said'. Prove '..Said' where nothing that the law and all that it calls make is longer than what came in: it says more and counts as full. Else prove '..UptoSaid'. A law counts once. -/
mutual
def uptoBulk {H : Type} : DataW H → Nat
  | .lit (.string bytes) => bytes.length + 1
  | .lit _ => 1
  | .nil => 1
  | .ptr d => uptoBulk d + 1
  | .slice elems spare => uptoBulkAll elems + uptoBulkAll spare + 1
  | .agg parts => uptoBulkAll parts + 1
  | .iface _ d => uptoBulk d + 1
  | .map entries => uptoBulkEntries entries + 1
  | .held _ => 1
def uptoBulkAll {H : Type} : List (DataW H) → Nat
  | [] => 0
  | d :: r => uptoBulk d + uptoBulkAll r
def uptoBulkEntries {H : Type} : List (Lit × DataW H) → Nat
  | [] => 0
  | x :: r => uptoBulkEntry x + uptoBulkEntries r
def uptoBulkEntry {H : Type} : Lit × DataW H → Nat
  | (.string bytes, d) => bytes.length + uptoBulk d + 1
  | (_, d) => uptoBulk d + 1
 end
def uptoSmall : (H : Type) → List (DataW H) → Bool := fun _ ds => decide (uptoBulkAll ds ≤ 1048576)
def OpenSpec.upto (s : _root_.Go.ChangeSpec) : _root_.Go.OpenSpec := { _root_.Go.OpenSpec.ofChange s with cond := some uptoSmall }

/-- 'customslaw14.AgreementValidate', WHERE WHAT IT READS IS OF BULK AT MOST 1048576: true; the input reads as it did. -/
def agreementValidateUptoRow : OpenClaim := { program := "ytiijbkaiipjpkaagreatdoor", sum := "434a887194523ee724e1ba4d4ada25348da133980664ea57fb3e1fa315738f98", func := "customs/customslaw14.AgreementValidate", spec := "agreementValidate", inPlace := ["internal/bytealg.IndexByteString", "internal/bytealg.IndexString"], unfollowed := true, recurses := true, named := ["customs/nomenclature.lengths", "unicode/utf8.first", "unicode/utf8.acceptRanges", "math/bits.divideError", "math/bits.overflowError", "internal/bytealg.MaxLen"], loops := true, plainKeys := false, apart := false, laid := [("unicode/utf8.acceptRanges", laid_unicode_utf8_acceptRanges), ("customs/nomenclature.lengths", laid_customs_nomenclature_lengths), ("unicode/utf8.first", laid_unicode_utf8_first)], narrowed := true }
def AgreementValidateUptoSaid : Prop := agreementValidateUptoRow.holds Tryz.pinned (OpenSpec.upto agreementValidateSpec)

/-- 'customslaw14.AgreementChanged', WHERE WHAT IT READS IS OF BULK AT MOST 1048576: true; the input reads as it did. -/
def agreementChangedUptoRow : OpenClaim := { program := "ytiijbkaiipjpkaagreatdoor", sum := "434a887194523ee724e1ba4d4ada25348da133980664ea57fb3e1fa315738f98", func := "customs/customslaw14.AgreementChanged", spec := "agreementChanged", inPlace := ["internal/bytealg.IndexByteString", "internal/bytealg.IndexString"], unfollowed := true, recurses := true, named := ["customs/nomenclature.lengths", "unicode/utf8.first", "unicode/utf8.acceptRanges", "math/bits.divideError", "math/bits.overflowError", "internal/bytealg.MaxLen"], loops := true, plainKeys := false, apart := false, laid := [("unicode/utf8.acceptRanges", laid_unicode_utf8_acceptRanges), ("customs/nomenclature.lengths", laid_customs_nomenclature_lengths), ("unicode/utf8.first", laid_unicode_utf8_first)], narrowed := true }
def AgreementChangedUptoSaid : Prop := agreementChangedUptoRow.holds Tryz.pinned (OpenSpec.upto agreementChangedSpec)

/-- 'customslaw14.AgreementRuleOf', WHERE WHAT IT READS IS OF BULK AT MOST 1048576: true; the input reads as it did. -/
def agreementRuleOfUptoRow : OpenClaim := { program := "ytiijbkaiipjpkaagreatdoor", sum := "434a887194523ee724e1ba4d4ada25348da133980664ea57fb3e1fa315738f98", func := "customs/customslaw14.AgreementRuleOf", spec := "agreementRuleOf", inPlace := ["internal/bytealg.IndexByteString", "internal/bytealg.IndexString"], unfollowed := true, recurses := true, named := ["customs/nomenclature.lengths", "unicode/utf8.first", "unicode/utf8.acceptRanges", "math/bits.divideError", "math/bits.overflowError", "internal/bytealg.MaxLen"], plainKeys := false, apart := false, laid := [("unicode/utf8.acceptRanges", laid_unicode_utf8_acceptRanges), ("customs/nomenclature.lengths", laid_customs_nomenclature_lengths), ("unicode/utf8.first", laid_unicode_utf8_first)], narrowed := true }
def AgreementRuleOfUptoSaid : Prop := agreementRuleOfUptoRow.holds Tryz.pinned (OpenSpec.upto agreementRuleOfSpec)

/-- 'customslaw14.AgreementPartners', WHERE WHAT IT READS IS OF BULK AT MOST 1048576: true; the input reads as it did. -/
def agreementPartnersUptoRow : OpenClaim := { program := "ytiijbkaiipjpkaagreatdoor", sum := "434a887194523ee724e1ba4d4ada25348da133980664ea57fb3e1fa315738f98", func := "customs/customslaw14.AgreementPartners", spec := "agreementPartners", inPlace := ["internal/bytealg.IndexByteString", "internal/bytealg.IndexString"], unfollowed := true, recurses := true, named := ["customs/nomenclature.lengths", "unicode/utf8.first", "unicode/utf8.acceptRanges", "math/bits.divideError", "math/bits.overflowError", "internal/bytealg.MaxLen"], plainKeys := false, apart := false, laid := [("unicode/utf8.acceptRanges", laid_unicode_utf8_acceptRanges), ("customs/nomenclature.lengths", laid_customs_nomenclature_lengths), ("unicode/utf8.first", laid_unicode_utf8_first)], narrowed := true }
def AgreementPartnersUptoSaid : Prop := agreementPartnersUptoRow.holds Tryz.pinned (OpenSpec.upto agreementPartnersSpec)

/-- 'customslaw14.CasePremises', WHERE WHAT IT READS IS OF BULK AT MOST 1048576: true; the input reads as it did. -/
def casePremisesUptoRow : OpenClaim := { program := "ytiijbkaiipjpkaagreatdoor", sum := "434a887194523ee724e1ba4d4ada25348da133980664ea57fb3e1fa315738f98", func := "customs/customslaw14.CasePremises", spec := "casePremises", inPlace := ["internal/bytealg.IndexByteString", "internal/bytealg.IndexString"], unfollowed := true, recurses := true, named := ["customs/nomenclature.lengths", "unicode/utf8.first", "unicode/utf8.acceptRanges", "math/bits.divideError", "math/bits.overflowError", "internal/bytealg.MaxLen"], plainKeys := false, apart := false, laid := [("unicode/utf8.acceptRanges", laid_unicode_utf8_acceptRanges), ("customs/nomenclature.lengths", laid_customs_nomenclature_lengths), ("unicode/utf8.first", laid_unicode_utf8_first)], narrowed := true }
def CasePremisesUptoSaid : Prop := casePremisesUptoRow.holds Tryz.pinned (OpenSpec.upto casePremisesSpec)

/-- 'customslaw14.CaseForm', WHERE WHAT IT READS IS OF BULK AT MOST 1048576: true; the input reads as it did. -/
def caseFormUptoRow : OpenClaim := { program := "ytiijbkaiipjpkaagreatdoor", sum := "434a887194523ee724e1ba4d4ada25348da133980664ea57fb3e1fa315738f98", func := "customs/customslaw14.CaseForm", spec := "caseForm", inPlace := ["internal/bytealg.IndexByteString", "internal/bytealg.IndexString"], unfollowed := true, recurses := true, named := ["customs/nomenclature.lengths", "unicode/utf8.first", "unicode/utf8.acceptRanges", "math/bits.divideError", "math/bits.overflowError", "internal/bytealg.MaxLen"], plainKeys := false, apart := false, laid := [("unicode/utf8.acceptRanges", laid_unicode_utf8_acceptRanges), ("customs/nomenclature.lengths", laid_customs_nomenclature_lengths), ("unicode/utf8.first", laid_unicode_utf8_first)], narrowed := true }
def CaseFormUptoSaid : Prop := caseFormUptoRow.holds Tryz.pinned (OpenSpec.upto caseFormSpec)

/-- 'customslaw14.CaseMonotone', WHERE WHAT IT READS IS OF BULK AT MOST 1048576: true; the input reads as it did. -/
def caseMonotoneUptoRow : OpenClaim := { program := "ytiijbkaiipjpkaagreatdoor", sum := "434a887194523ee724e1ba4d4ada25348da133980664ea57fb3e1fa315738f98", func := "customs/customslaw14.CaseMonotone", spec := "caseMonotone", inPlace := ["internal/bytealg.IndexByteString", "internal/bytealg.IndexString"], unfollowed := true, recurses := true, named := ["customs/nomenclature.lengths", "unicode/utf8.first", "unicode/utf8.acceptRanges", "math/bits.divideError", "math/bits.overflowError", "internal/bytealg.MaxLen"], plainKeys := false, apart := false, laid := [("unicode/utf8.acceptRanges", laid_unicode_utf8_acceptRanges), ("customs/nomenclature.lengths", laid_customs_nomenclature_lengths), ("unicode/utf8.first", laid_unicode_utf8_first)], narrowed := true }
def CaseMonotoneUptoSaid : Prop := caseMonotoneUptoRow.holds Tryz.pinned (OpenSpec.upto caseMonotoneSpec)

end Rows
end Go.Proofs.YtiijbkaiipjpkaaGreatDoor
