/-
  NARROWER THAN 'FOR EVERY INPUT', by the rows' own cells (each row's printed sentence says how): SemiringOperations: laid · SemiringLimits: laid · SemiringMonusLaws: laid · SemiringRing: laid · SemiringAbsorption: laid · SemiringMonus: laid · SemiringOrder: laid · SemiringText: laid · SemiringElements: laid · SemiringScaling: laid.
  DERIVED. THE GIVEN ROWS OF THIS SEAT. 10 by the template 'for every input the law returns true; each argument reads behind the call as it read before'; 0 by the template 'total and deterministic' (their statements: YtomdjkcoodaheaaGreatDoorTotals.lean).
  GIVEN WITH THE SEED: the statements are not yours to turn. If you find one false, say at which input.
  Laid BY PROGRAM, IN A SANDBOX (cutbox-rows.mjs): the forced cells as the released guide's own fill.sh prints them over the translation 7fc952f09fa0c373… (all of the seat's roots in one cut). By AI agents, Wed Nov 11 2026. No macro, syntax, notation, axiom, sorry.
-/
import Derived.Test.YtomdjkcoodaheaaGreatDoorChecked
import GoSem.PinnedTables
import GoSem.Claim
import GoSem.ClaimJoined
import GoSem.ClaimMapViews
import Derived.JoinedTies
import Derived.KernelRfl
namespace Go.Proofs.YtomdjkcoodaheaaGreatDoor
/- THE CELL 'sum', in the pinned program and in every row, IS THE sha256 OF THE DUMP (.gsa) THAT YtomdjkcoodaheaaGreatDoorProg.lean LOADS. Nothing in Lean hashes anything: it is a label: what it is worth is what the hold of that sum in a sandbox is worth. -/
noncomputable def Tryz.pinned : Pinned := { name := "ytomdjkcoodaheaagreatdoor", sum := "7fc952f09fa0c3736e5bd440780fa7a525ef965e9e99516d427babe447f493fc", checked := Tryz.checked }
namespace Rows
def none {H : Type} : Left H := { results := [], args := [] }

/- WHAT THE LISTED PACKAGE-LEVEL VARIABLES READ AS WHEN THE CALL BEGINS. Each datum BY PROGRAM (the guide's laid-datum.mjs) off the statement by which the dump's own 'gosem.cut.vars' lays the variable. In a bare row this is a premise. The card (YtomdjkcoodaheaaGreatDoorCards.lean) ties it to the program's text. -/
def laid_math_bits_deBruijn32tab {H : Type} : DataW H := .agg [.lit (.int .u8 0), .lit (.int .u8 1), .lit (.int .u8 28), .lit (.int .u8 2), .lit (.int .u8 29), .lit (.int .u8 14), .lit (.int .u8 24), .lit (.int .u8 3), .lit (.int .u8 30), .lit (.int .u8 22), .lit (.int .u8 20), .lit (.int .u8 15), .lit (.int .u8 25), .lit (.int .u8 17), .lit (.int .u8 4), .lit (.int .u8 8), .lit (.int .u8 31), .lit (.int .u8 27), .lit (.int .u8 13), .lit (.int .u8 23), .lit (.int .u8 21), .lit (.int .u8 19), .lit (.int .u8 16), .lit (.int .u8 7), .lit (.int .u8 26), .lit (.int .u8 12), .lit (.int .u8 18), .lit (.int .u8 6), .lit (.int .u8 11), .lit (.int .u8 5), .lit (.int .u8 10), .lit (.int .u8 9)]
def laid_math_bits_deBruijn64tab {H : Type} : DataW H := .agg [.lit (.int .u8 0), .lit (.int .u8 1), .lit (.int .u8 56), .lit (.int .u8 2), .lit (.int .u8 57), .lit (.int .u8 49), .lit (.int .u8 28), .lit (.int .u8 3), .lit (.int .u8 61), .lit (.int .u8 58), .lit (.int .u8 42), .lit (.int .u8 50), .lit (.int .u8 38), .lit (.int .u8 29), .lit (.int .u8 17), .lit (.int .u8 4), .lit (.int .u8 62), .lit (.int .u8 47), .lit (.int .u8 59), .lit (.int .u8 36), .lit (.int .u8 45), .lit (.int .u8 43), .lit (.int .u8 51), .lit (.int .u8 22), .lit (.int .u8 53), .lit (.int .u8 39), .lit (.int .u8 33), .lit (.int .u8 30), .lit (.int .u8 24), .lit (.int .u8 18), .lit (.int .u8 12), .lit (.int .u8 5), .lit (.int .u8 63), .lit (.int .u8 55), .lit (.int .u8 48), .lit (.int .u8 27), .lit (.int .u8 60), .lit (.int .u8 41), .lit (.int .u8 37), .lit (.int .u8 16), .lit (.int .u8 46), .lit (.int .u8 35), .lit (.int .u8 44), .lit (.int .u8 21), .lit (.int .u8 52), .lit (.int .u8 32), .lit (.int .u8 23), .lit (.int .u8 11), .lit (.int .u8 54), .lit (.int .u8 26), .lit (.int .u8 40), .lit (.int .u8 15), .lit (.int .u8 34), .lit (.int .u8 20), .lit (.int .u8 31), .lit (.int .u8 10), .lit (.int .u8 25), .lit (.int .u8 14), .lit (.int .u8 19), .lit (.int .u8 9), .lit (.int .u8 13), .lit (.int .u8 8), .lit (.int .u8 7), .lit (.int .u8 6)]
def laid_internal_strconv_uint64pow10 {H : Type} : DataW H := .agg [.lit (.int .u64 1), .lit (.int .u64 10), .lit (.int .u64 100), .lit (.int .u64 1000), .lit (.int .u64 10000), .lit (.int .u64 100000), .lit (.int .u64 1000000), .lit (.int .u64 10000000), .lit (.int .u64 100000000), .lit (.int .u64 1000000000), .lit (.int .u64 10000000000), .lit (.int .u64 100000000000), .lit (.int .u64 1000000000000), .lit (.int .u64 10000000000000), .lit (.int .u64 100000000000000), .lit (.int .u64 1000000000000000), .lit (.int .u64 10000000000000000), .lit (.int .u64 100000000000000000), .lit (.int .u64 1000000000000000000), .lit (.int .u64 10000000000000000000)]
def laid_unicode_utf8_acceptRanges {H : Type} : DataW H := .agg [.agg [.lit (.int .u8 128), .lit (.int .u8 191)], .agg [.lit (.int .u8 160), .lit (.int .u8 191)], .agg [.lit (.int .u8 128), .lit (.int .u8 159)], .agg [.lit (.int .u8 144), .lit (.int .u8 191)], .agg [.lit (.int .u8 128), .lit (.int .u8 143)], .agg [.lit (.int .u8 0), .lit (.int .u8 0)], .agg [.lit (.int .u8 0), .lit (.int .u8 0)], .agg [.lit (.int .u8 0), .lit (.int .u8 0)], .agg [.lit (.int .u8 0), .lit (.int .u8 0)], .agg [.lit (.int .u8 0), .lit (.int .u8 0)], .agg [.lit (.int .u8 0), .lit (.int .u8 0)], .agg [.lit (.int .u8 0), .lit (.int .u8 0)], .agg [.lit (.int .u8 0), .lit (.int .u8 0)], .agg [.lit (.int .u8 0), .lit (.int .u8 0)], .agg [.lit (.int .u8 0), .lit (.int .u8 0)], .agg [.lit (.int .u8 0), .lit (.int .u8 0)]]
def laid_strconv_ErrRange {H : Type} : DataW H := .iface "*errors.errorString" (.ptr (.agg [.lit (.string [118, 97, 108, 117, 101, 32, 111, 117, 116, 32, 111, 102, 32, 114, 97, 110, 103, 101])]))
def laid_strconv_ErrSyntax {H : Type} : DataW H := .iface "*errors.errorString" (.ptr (.agg [.lit (.string [105, 110, 118, 97, 108, 105, 100, 32, 115, 121, 110, 116, 97, 120])]))
def laid_lineage_semiring_levels {H : Type} : DataW H := .slice [.lit (.string [112, 117, 98, 108, 105, 99]), .lit (.string [105, 110, 116, 101, 114, 110, 97, 108]), .lit (.string [115, 101, 99, 114, 101, 116]), .lit (.string [116, 111, 112, 115, 101, 99, 114, 101, 116]), .lit (.string [110, 111, 98, 111, 100, 121])] []
/-- One of Go's own tables, pinned by name: the form's constant. -/
def laid_unicode_utf8_first : DataW Unit := Go.Pinned.utf8First

/-- 'lineagelaw06.SemiringOperations': WHATEVER THE INPUT: true; the input reads as it did. -/
def semiringOperationsSpec : ChangeSpec := { name := "semiringOperations", fn := fun _ => fun
  | [d1, d2, d3] => { results := [.lit (.bool true)], args := [d1, d2, d3] }
  | _ => none }
def semiringOperationsRow : OpenClaim := { program := "ytomdjkcoodaheaagreatdoor", sum := "7fc952f09fa0c3736e5bd440780fa7a525ef965e9e99516d427babe447f493fc", func := "lineage/lineagelaw06.SemiringOperations", spec := "semiringOperations", inPlace := ["internal/bytealg.IndexByteString", "internal/bytealg.IndexString", "internal/abi.NoEscape", "internal/bytealg.MakeNoZero", "internal/bytealg.CountString"], unfollowed := true, recurses := true, named := ["internal/strconv.uint64pow10", "math/bits.deBruijn32tab", "math/bits.deBruijn64tab", "strconv.ErrSyntax", "strconv.ErrRange", "lineage/semiring.levels", "internal/bytealg.MaxLen", "unicode/utf8.first", "unicode/utf8.acceptRanges"], apart := false, laid := [("math/bits.deBruijn32tab", laid_math_bits_deBruijn32tab), ("math/bits.deBruijn64tab", laid_math_bits_deBruijn64tab), ("internal/strconv.uint64pow10", laid_internal_strconv_uint64pow10), ("unicode/utf8.acceptRanges", laid_unicode_utf8_acceptRanges), ("strconv.ErrRange", laid_strconv_ErrRange), ("strconv.ErrSyntax", laid_strconv_ErrSyntax), ("lineage/semiring.levels", laid_lineage_semiring_levels), ("unicode/utf8.first", laid_unicode_utf8_first)] }
def SemiringOperationsSaid : Prop := semiringOperationsRow.holds Tryz.pinned (OpenSpec.ofChange semiringOperationsSpec)

/-- ITS FALSE NEIGHBOUR: 'it returns false'. Refute it at one input. -/
def semiringOperationsWrong : ChangeSpec := { name := "semiringOperations", fn := fun _ => fun
  | [d1, d2, d3] => { results := [.lit (.bool false)], args := [d1, d2, d3] }
  | _ => none }
def SemiringOperationsWrongFalsely : Prop := semiringOperationsRow.holds Tryz.pinned (OpenSpec.ofChange semiringOperationsWrong)

/-- 'lineagelaw06.SemiringLimits': WHATEVER THE INPUT: true; the input reads as it did. -/
def semiringLimitsSpec : ChangeSpec := { name := "semiringLimits", fn := fun _ => fun
  | [d1, d2] => { results := [.lit (.bool true)], args := [d1, d2] }
  | _ => none }
def semiringLimitsRow : OpenClaim := { program := "ytomdjkcoodaheaagreatdoor", sum := "7fc952f09fa0c3736e5bd440780fa7a525ef965e9e99516d427babe447f493fc", func := "lineage/lineagelaw06.SemiringLimits", spec := "semiringLimits", inPlace := ["internal/bytealg.IndexByteString", "internal/bytealg.IndexString", "internal/abi.NoEscape", "internal/bytealg.MakeNoZero", "internal/bytealg.CountString"], unfollowed := true, recurses := true, named := ["internal/strconv.uint64pow10", "math/bits.deBruijn32tab", "math/bits.deBruijn64tab", "strconv.ErrSyntax", "strconv.ErrRange", "lineage/semiring.levels", "internal/bytealg.MaxLen", "unicode/utf8.first", "unicode/utf8.acceptRanges"], apart := false, laid := [("math/bits.deBruijn32tab", laid_math_bits_deBruijn32tab), ("math/bits.deBruijn64tab", laid_math_bits_deBruijn64tab), ("internal/strconv.uint64pow10", laid_internal_strconv_uint64pow10), ("unicode/utf8.acceptRanges", laid_unicode_utf8_acceptRanges), ("strconv.ErrRange", laid_strconv_ErrRange), ("strconv.ErrSyntax", laid_strconv_ErrSyntax), ("lineage/semiring.levels", laid_lineage_semiring_levels), ("unicode/utf8.first", laid_unicode_utf8_first)] }
def SemiringLimitsSaid : Prop := semiringLimitsRow.holds Tryz.pinned (OpenSpec.ofChange semiringLimitsSpec)

/-- ITS FALSE NEIGHBOUR: 'it returns false'. Refute it at one input. -/
def semiringLimitsWrong : ChangeSpec := { name := "semiringLimits", fn := fun _ => fun
  | [d1, d2] => { results := [.lit (.bool false)], args := [d1, d2] }
  | _ => none }
def SemiringLimitsWrongFalsely : Prop := semiringLimitsRow.holds Tryz.pinned (OpenSpec.ofChange semiringLimitsWrong)

/-- 'lineagelaw06.SemiringMonusLaws': WHATEVER THE INPUT: true; the input reads as it did. -/
def semiringMonusLawsSpec : ChangeSpec := { name := "semiringMonusLaws", fn := fun _ => fun
  | [d1, d2, d3, d4] => { results := [.lit (.bool true)], args := [d1, d2, d3, d4] }
  | _ => none }
def semiringMonusLawsRow : OpenClaim := { program := "ytomdjkcoodaheaagreatdoor", sum := "7fc952f09fa0c3736e5bd440780fa7a525ef965e9e99516d427babe447f493fc", func := "lineage/lineagelaw06.SemiringMonusLaws", spec := "semiringMonusLaws", inPlace := ["internal/bytealg.IndexByteString", "internal/bytealg.IndexString", "internal/abi.NoEscape", "internal/bytealg.MakeNoZero", "internal/bytealg.CountString"], unfollowed := true, recurses := true, named := ["internal/strconv.uint64pow10", "math/bits.deBruijn32tab", "math/bits.deBruijn64tab", "strconv.ErrSyntax", "strconv.ErrRange", "lineage/semiring.levels", "internal/bytealg.MaxLen", "unicode/utf8.first", "unicode/utf8.acceptRanges"], apart := false, laid := [("math/bits.deBruijn32tab", laid_math_bits_deBruijn32tab), ("math/bits.deBruijn64tab", laid_math_bits_deBruijn64tab), ("internal/strconv.uint64pow10", laid_internal_strconv_uint64pow10), ("unicode/utf8.acceptRanges", laid_unicode_utf8_acceptRanges), ("strconv.ErrRange", laid_strconv_ErrRange), ("strconv.ErrSyntax", laid_strconv_ErrSyntax), ("lineage/semiring.levels", laid_lineage_semiring_levels), ("unicode/utf8.first", laid_unicode_utf8_first)] }
def SemiringMonusLawsSaid : Prop := semiringMonusLawsRow.holds Tryz.pinned (OpenSpec.ofChange semiringMonusLawsSpec)

/-- ITS FALSE NEIGHBOUR: 'it returns false'. Refute it at one input. -/
def semiringMonusLawsWrong : ChangeSpec := { name := "semiringMonusLaws", fn := fun _ => fun
  | [d1, d2, d3, d4] => { results := [.lit (.bool false)], args := [d1, d2, d3, d4] }
  | _ => none }
def SemiringMonusLawsWrongFalsely : Prop := semiringMonusLawsRow.holds Tryz.pinned (OpenSpec.ofChange semiringMonusLawsWrong)

/-- 'lineagelaw06.SemiringRing': WHATEVER THE INPUT: true; the input reads as it did. -/
def semiringRingSpec : ChangeSpec := { name := "semiringRing", fn := fun _ => fun
  | [d1, d2, d3, d4] => { results := [.lit (.bool true)], args := [d1, d2, d3, d4] }
  | _ => none }
def semiringRingRow : OpenClaim := { program := "ytomdjkcoodaheaagreatdoor", sum := "7fc952f09fa0c3736e5bd440780fa7a525ef965e9e99516d427babe447f493fc", func := "lineage/lineagelaw06.SemiringRing", spec := "semiringRing", inPlace := ["internal/bytealg.IndexByteString", "internal/bytealg.IndexString", "internal/abi.NoEscape", "internal/bytealg.MakeNoZero", "internal/bytealg.CountString"], unfollowed := true, recurses := true, named := ["internal/strconv.uint64pow10", "math/bits.deBruijn32tab", "math/bits.deBruijn64tab", "strconv.ErrSyntax", "strconv.ErrRange", "lineage/semiring.levels", "internal/bytealg.MaxLen", "unicode/utf8.first", "unicode/utf8.acceptRanges"], apart := false, laid := [("math/bits.deBruijn32tab", laid_math_bits_deBruijn32tab), ("math/bits.deBruijn64tab", laid_math_bits_deBruijn64tab), ("internal/strconv.uint64pow10", laid_internal_strconv_uint64pow10), ("unicode/utf8.acceptRanges", laid_unicode_utf8_acceptRanges), ("strconv.ErrRange", laid_strconv_ErrRange), ("strconv.ErrSyntax", laid_strconv_ErrSyntax), ("lineage/semiring.levels", laid_lineage_semiring_levels), ("unicode/utf8.first", laid_unicode_utf8_first)] }
def SemiringRingSaid : Prop := semiringRingRow.holds Tryz.pinned (OpenSpec.ofChange semiringRingSpec)

/-- ITS FALSE NEIGHBOUR: 'it returns false'. Refute it at one input. -/
def semiringRingWrong : ChangeSpec := { name := "semiringRing", fn := fun _ => fun
  | [d1, d2, d3, d4] => { results := [.lit (.bool false)], args := [d1, d2, d3, d4] }
  | _ => none }
def SemiringRingWrongFalsely : Prop := semiringRingRow.holds Tryz.pinned (OpenSpec.ofChange semiringRingWrong)

/-- 'lineagelaw06.SemiringAbsorption': WHATEVER THE INPUT: true; the input reads as it did. -/
def semiringAbsorptionSpec : ChangeSpec := { name := "semiringAbsorption", fn := fun _ => fun
  | [d1, d2, d3] => { results := [.lit (.bool true)], args := [d1, d2, d3] }
  | _ => none }
def semiringAbsorptionRow : OpenClaim := { program := "ytomdjkcoodaheaagreatdoor", sum := "7fc952f09fa0c3736e5bd440780fa7a525ef965e9e99516d427babe447f493fc", func := "lineage/lineagelaw06.SemiringAbsorption", spec := "semiringAbsorption", inPlace := ["internal/bytealg.IndexByteString", "internal/bytealg.IndexString", "internal/abi.NoEscape", "internal/bytealg.MakeNoZero", "internal/bytealg.CountString"], unfollowed := true, recurses := true, named := ["internal/strconv.uint64pow10", "math/bits.deBruijn32tab", "math/bits.deBruijn64tab", "strconv.ErrSyntax", "strconv.ErrRange", "lineage/semiring.levels", "internal/bytealg.MaxLen", "unicode/utf8.first", "unicode/utf8.acceptRanges"], apart := false, laid := [("math/bits.deBruijn32tab", laid_math_bits_deBruijn32tab), ("math/bits.deBruijn64tab", laid_math_bits_deBruijn64tab), ("internal/strconv.uint64pow10", laid_internal_strconv_uint64pow10), ("unicode/utf8.acceptRanges", laid_unicode_utf8_acceptRanges), ("strconv.ErrRange", laid_strconv_ErrRange), ("strconv.ErrSyntax", laid_strconv_ErrSyntax), ("lineage/semiring.levels", laid_lineage_semiring_levels), ("unicode/utf8.first", laid_unicode_utf8_first)] }
def SemiringAbsorptionSaid : Prop := semiringAbsorptionRow.holds Tryz.pinned (OpenSpec.ofChange semiringAbsorptionSpec)

/-- ITS FALSE NEIGHBOUR: 'it returns false'. Refute it at one input. -/
def semiringAbsorptionWrong : ChangeSpec := { name := "semiringAbsorption", fn := fun _ => fun
  | [d1, d2, d3] => { results := [.lit (.bool false)], args := [d1, d2, d3] }
  | _ => none }
def SemiringAbsorptionWrongFalsely : Prop := semiringAbsorptionRow.holds Tryz.pinned (OpenSpec.ofChange semiringAbsorptionWrong)

/-- 'lineagelaw06.SemiringMonus': WHATEVER THE INPUT: true; the input reads as it did. -/
def semiringMonusSpec : ChangeSpec := { name := "semiringMonus", fn := fun _ => fun
  | [d1, d2, d3, d4] => { results := [.lit (.bool true)], args := [d1, d2, d3, d4] }
  | _ => none }
def semiringMonusRow : OpenClaim := { program := "ytomdjkcoodaheaagreatdoor", sum := "7fc952f09fa0c3736e5bd440780fa7a525ef965e9e99516d427babe447f493fc", func := "lineage/lineagelaw06.SemiringMonus", spec := "semiringMonus", inPlace := ["internal/bytealg.IndexByteString", "internal/bytealg.IndexString", "internal/abi.NoEscape", "internal/bytealg.MakeNoZero", "internal/bytealg.CountString"], unfollowed := true, recurses := true, named := ["internal/strconv.uint64pow10", "math/bits.deBruijn32tab", "math/bits.deBruijn64tab", "strconv.ErrSyntax", "strconv.ErrRange", "lineage/semiring.levels", "internal/bytealg.MaxLen", "unicode/utf8.first", "unicode/utf8.acceptRanges"], apart := false, laid := [("math/bits.deBruijn32tab", laid_math_bits_deBruijn32tab), ("math/bits.deBruijn64tab", laid_math_bits_deBruijn64tab), ("internal/strconv.uint64pow10", laid_internal_strconv_uint64pow10), ("unicode/utf8.acceptRanges", laid_unicode_utf8_acceptRanges), ("strconv.ErrRange", laid_strconv_ErrRange), ("strconv.ErrSyntax", laid_strconv_ErrSyntax), ("lineage/semiring.levels", laid_lineage_semiring_levels), ("unicode/utf8.first", laid_unicode_utf8_first)] }
def SemiringMonusSaid : Prop := semiringMonusRow.holds Tryz.pinned (OpenSpec.ofChange semiringMonusSpec)

/-- ITS FALSE NEIGHBOUR: 'it returns false'. Refute it at one input. -/
def semiringMonusWrong : ChangeSpec := { name := "semiringMonus", fn := fun _ => fun
  | [d1, d2, d3, d4] => { results := [.lit (.bool false)], args := [d1, d2, d3, d4] }
  | _ => none }
def SemiringMonusWrongFalsely : Prop := semiringMonusRow.holds Tryz.pinned (OpenSpec.ofChange semiringMonusWrong)

/-- 'lineagelaw06.SemiringOrder': WHATEVER THE INPUT: true; the input reads as it did. -/
def semiringOrderSpec : ChangeSpec := { name := "semiringOrder", fn := fun _ => fun
  | [d1, d2, d3, d4] => { results := [.lit (.bool true)], args := [d1, d2, d3, d4] }
  | _ => none }
def semiringOrderRow : OpenClaim := { program := "ytomdjkcoodaheaagreatdoor", sum := "7fc952f09fa0c3736e5bd440780fa7a525ef965e9e99516d427babe447f493fc", func := "lineage/lineagelaw06.SemiringOrder", spec := "semiringOrder", inPlace := ["internal/bytealg.IndexByteString", "internal/bytealg.IndexString", "internal/abi.NoEscape", "internal/bytealg.MakeNoZero", "internal/bytealg.CountString"], unfollowed := true, recurses := true, named := ["internal/strconv.uint64pow10", "math/bits.deBruijn32tab", "math/bits.deBruijn64tab", "strconv.ErrSyntax", "strconv.ErrRange", "lineage/semiring.levels", "internal/bytealg.MaxLen", "unicode/utf8.first", "unicode/utf8.acceptRanges"], apart := false, laid := [("math/bits.deBruijn32tab", laid_math_bits_deBruijn32tab), ("math/bits.deBruijn64tab", laid_math_bits_deBruijn64tab), ("internal/strconv.uint64pow10", laid_internal_strconv_uint64pow10), ("unicode/utf8.acceptRanges", laid_unicode_utf8_acceptRanges), ("strconv.ErrRange", laid_strconv_ErrRange), ("strconv.ErrSyntax", laid_strconv_ErrSyntax), ("lineage/semiring.levels", laid_lineage_semiring_levels), ("unicode/utf8.first", laid_unicode_utf8_first)] }
def SemiringOrderSaid : Prop := semiringOrderRow.holds Tryz.pinned (OpenSpec.ofChange semiringOrderSpec)

/-- ITS FALSE NEIGHBOUR: 'it returns false'. Refute it at one input. -/
def semiringOrderWrong : ChangeSpec := { name := "semiringOrder", fn := fun _ => fun
  | [d1, d2, d3, d4] => { results := [.lit (.bool false)], args := [d1, d2, d3, d4] }
  | _ => none }
def SemiringOrderWrongFalsely : Prop := semiringOrderRow.holds Tryz.pinned (OpenSpec.ofChange semiringOrderWrong)

/-- 'lineagelaw06.SemiringText': WHATEVER THE INPUT: true; the input reads as it did. -/
def semiringTextSpec : ChangeSpec := { name := "semiringText", fn := fun _ => fun
  | [d1, d2, d3] => { results := [.lit (.bool true)], args := [d1, d2, d3] }
  | _ => none }
def semiringTextRow : OpenClaim := { program := "ytomdjkcoodaheaagreatdoor", sum := "7fc952f09fa0c3736e5bd440780fa7a525ef965e9e99516d427babe447f493fc", func := "lineage/lineagelaw06.SemiringText", spec := "semiringText", inPlace := ["internal/bytealg.IndexByteString", "internal/bytealg.IndexString", "internal/abi.NoEscape", "internal/bytealg.MakeNoZero", "internal/bytealg.CountString"], unfollowed := true, recurses := true, named := ["internal/strconv.uint64pow10", "math/bits.deBruijn32tab", "math/bits.deBruijn64tab", "strconv.ErrSyntax", "strconv.ErrRange", "lineage/semiring.levels", "internal/bytealg.MaxLen", "unicode/utf8.first", "unicode/utf8.acceptRanges"], apart := false, laid := [("math/bits.deBruijn32tab", laid_math_bits_deBruijn32tab), ("math/bits.deBruijn64tab", laid_math_bits_deBruijn64tab), ("internal/strconv.uint64pow10", laid_internal_strconv_uint64pow10), ("unicode/utf8.acceptRanges", laid_unicode_utf8_acceptRanges), ("strconv.ErrRange", laid_strconv_ErrRange), ("strconv.ErrSyntax", laid_strconv_ErrSyntax), ("lineage/semiring.levels", laid_lineage_semiring_levels), ("unicode/utf8.first", laid_unicode_utf8_first)] }
def SemiringTextSaid : Prop := semiringTextRow.holds Tryz.pinned (OpenSpec.ofChange semiringTextSpec)

/-- ITS FALSE NEIGHBOUR: 'it returns false'. Refute it at one input. -/
def semiringTextWrong : ChangeSpec := { name := "semiringText", fn := fun _ => fun
  | [d1, d2, d3] => { results := [.lit (.bool false)], args := [d1, d2, d3] }
  | _ => none }
def SemiringTextWrongFalsely : Prop := semiringTextRow.holds Tryz.pinned (OpenSpec.ofChange semiringTextWrong)

/-- 'lineagelaw06.SemiringElements': WHATEVER THE INPUT: true; the input reads as it did. -/
def semiringElementsSpec : ChangeSpec := { name := "semiringElements", fn := fun _ => fun
  | [d1, d2, d3] => { results := [.lit (.bool true)], args := [d1, d2, d3] }
  | _ => none }
def semiringElementsRow : OpenClaim := { program := "ytomdjkcoodaheaagreatdoor", sum := "7fc952f09fa0c3736e5bd440780fa7a525ef965e9e99516d427babe447f493fc", func := "lineage/lineagelaw06.SemiringElements", spec := "semiringElements", inPlace := ["internal/bytealg.IndexByteString", "internal/bytealg.IndexString", "internal/abi.NoEscape", "internal/bytealg.MakeNoZero", "internal/bytealg.CountString"], unfollowed := true, recurses := true, named := ["internal/strconv.uint64pow10", "math/bits.deBruijn32tab", "math/bits.deBruijn64tab", "strconv.ErrSyntax", "strconv.ErrRange", "lineage/semiring.levels", "internal/bytealg.MaxLen", "unicode/utf8.first", "unicode/utf8.acceptRanges"], apart := false, laid := [("math/bits.deBruijn32tab", laid_math_bits_deBruijn32tab), ("math/bits.deBruijn64tab", laid_math_bits_deBruijn64tab), ("internal/strconv.uint64pow10", laid_internal_strconv_uint64pow10), ("unicode/utf8.acceptRanges", laid_unicode_utf8_acceptRanges), ("strconv.ErrRange", laid_strconv_ErrRange), ("strconv.ErrSyntax", laid_strconv_ErrSyntax), ("lineage/semiring.levels", laid_lineage_semiring_levels), ("unicode/utf8.first", laid_unicode_utf8_first)] }
def SemiringElementsSaid : Prop := semiringElementsRow.holds Tryz.pinned (OpenSpec.ofChange semiringElementsSpec)

/-- ITS FALSE NEIGHBOUR: 'it returns false'. Refute it at one input. -/
def semiringElementsWrong : ChangeSpec := { name := "semiringElements", fn := fun _ => fun
  | [d1, d2, d3] => { results := [.lit (.bool false)], args := [d1, d2, d3] }
  | _ => none }
def SemiringElementsWrongFalsely : Prop := semiringElementsRow.holds Tryz.pinned (OpenSpec.ofChange semiringElementsWrong)

/-- 'lineagelaw06.SemiringScaling': WHATEVER THE INPUT: true; the input reads as it did. -/
def semiringScalingSpec : ChangeSpec := { name := "semiringScaling", fn := fun _ => fun
  | [d1, d2, d3, d4] => { results := [.lit (.bool true)], args := [d1, d2, d3, d4] }
  | _ => none }
def semiringScalingRow : OpenClaim := { program := "ytomdjkcoodaheaagreatdoor", sum := "7fc952f09fa0c3736e5bd440780fa7a525ef965e9e99516d427babe447f493fc", func := "lineage/lineagelaw06.SemiringScaling", spec := "semiringScaling", inPlace := ["internal/bytealg.IndexByteString", "internal/bytealg.IndexString", "internal/abi.NoEscape", "internal/bytealg.MakeNoZero", "internal/bytealg.CountString"], unfollowed := true, recurses := true, named := ["internal/strconv.uint64pow10", "math/bits.deBruijn32tab", "math/bits.deBruijn64tab", "strconv.ErrSyntax", "strconv.ErrRange", "lineage/semiring.levels", "internal/bytealg.MaxLen", "unicode/utf8.first", "unicode/utf8.acceptRanges"], apart := false, laid := [("math/bits.deBruijn32tab", laid_math_bits_deBruijn32tab), ("math/bits.deBruijn64tab", laid_math_bits_deBruijn64tab), ("internal/strconv.uint64pow10", laid_internal_strconv_uint64pow10), ("unicode/utf8.acceptRanges", laid_unicode_utf8_acceptRanges), ("strconv.ErrRange", laid_strconv_ErrRange), ("strconv.ErrSyntax", laid_strconv_ErrSyntax), ("lineage/semiring.levels", laid_lineage_semiring_levels), ("unicode/utf8.first", laid_unicode_utf8_first)] }
def SemiringScalingSaid : Prop := semiringScalingRow.holds Tryz.pinned (OpenSpec.ofChange semiringScalingSpec)

/-- ITS FALSE NEIGHBOUR: 'it returns false'. Refute it at one input. -/
def semiringScalingWrong : ChangeSpec := { name := "semiringScaling", fn := fun _ => fun
  | [d1, d2, d3, d4] => { results := [.lit (.bool false)], args := [d1, d2, d3, d4] }
  | _ => none }
def SemiringScalingWrongFalsely : Prop := semiringScalingRow.holds Tryz.pinned (OpenSpec.ofChange semiringScalingWrong)

/- THE SECOND FORM. 'bulk': how many values and letters a reading holds, each counted each time it is reached (what is shared counts as often as it is met; a slice's spare places count too). A statement '..UptoSaid' is the law's where the arguments, and the package variables that the reading takes, are together of bulk at most 1048576: NARROWER than '..Said'. Prove '..Said' where nothing that the law and all that it calls make is longer than what came in: it says more and counts as full. Else prove '..UptoSaid'. A law counts once. -/
mutual
def uptoBulk {H : Type} : DataW H → Nat
  | .lit (.string bytes) => bytes.length + 1
  | .lit _ => 1
  | .nil => 1
  | .ptr d => uptoBulk d + 1
  | .slice elems spare => uptoBulkAll elems + uptoBulkAll spare + 1
  | .agg parts => uptoBulkAll parts + 1
  | .iface _ d => uptoBulk d + 1
  | .map entries => uptoBulkEntries entries + 1
  | .held _ => 1
def uptoBulkAll {H : Type} : List (DataW H) → Nat
  | [] => 0
  | d :: r => uptoBulk d + uptoBulkAll r
def uptoBulkEntries {H : Type} : List (Lit × DataW H) → Nat
  | [] => 0
  | x :: r => uptoBulkEntry x + uptoBulkEntries r
def uptoBulkEntry {H : Type} : Lit × DataW H → Nat
  | (.string bytes, d) => bytes.length + uptoBulk d + 1
  | (_, d) => uptoBulk d + 1
 end
def uptoSmall : (H : Type) → List (DataW H) → Bool := fun _ ds => decide (uptoBulkAll ds ≤ 1048576)
def OpenSpec.upto (s : _root_.Go.ChangeSpec) : _root_.Go.OpenSpec := { _root_.Go.OpenSpec.ofChange s with cond := some uptoSmall }

/-- 'lineagelaw06.SemiringOperations', WHERE WHAT IT READS IS OF BULK AT MOST 1048576: true; the input reads as it did. -/
def semiringOperationsUptoRow : OpenClaim := { program := "ytomdjkcoodaheaagreatdoor", sum := "7fc952f09fa0c3736e5bd440780fa7a525ef965e9e99516d427babe447f493fc", func := "lineage/lineagelaw06.SemiringOperations", spec := "semiringOperations", inPlace := ["internal/bytealg.IndexByteString", "internal/bytealg.IndexString", "internal/abi.NoEscape", "internal/bytealg.MakeNoZero", "internal/bytealg.CountString"], unfollowed := true, recurses := true, named := ["internal/strconv.uint64pow10", "math/bits.deBruijn32tab", "math/bits.deBruijn64tab", "strconv.ErrSyntax", "strconv.ErrRange", "lineage/semiring.levels", "internal/bytealg.MaxLen", "unicode/utf8.first", "unicode/utf8.acceptRanges"], apart := false, laid := [("math/bits.deBruijn32tab", laid_math_bits_deBruijn32tab), ("math/bits.deBruijn64tab", laid_math_bits_deBruijn64tab), ("internal/strconv.uint64pow10", laid_internal_strconv_uint64pow10), ("unicode/utf8.acceptRanges", laid_unicode_utf8_acceptRanges), ("strconv.ErrRange", laid_strconv_ErrRange), ("strconv.ErrSyntax", laid_strconv_ErrSyntax), ("lineage/semiring.levels", laid_lineage_semiring_levels), ("unicode/utf8.first", laid_unicode_utf8_first)], narrowed := true }
def SemiringOperationsUptoSaid : Prop := semiringOperationsUptoRow.holds Tryz.pinned (OpenSpec.upto semiringOperationsSpec)

/-- 'lineagelaw06.SemiringLimits', WHERE WHAT IT READS IS OF BULK AT MOST 1048576: true; the input reads as it did. -/
def semiringLimitsUptoRow : OpenClaim := { program := "ytomdjkcoodaheaagreatdoor", sum := "7fc952f09fa0c3736e5bd440780fa7a525ef965e9e99516d427babe447f493fc", func := "lineage/lineagelaw06.SemiringLimits", spec := "semiringLimits", inPlace := ["internal/bytealg.IndexByteString", "internal/bytealg.IndexString", "internal/abi.NoEscape", "internal/bytealg.MakeNoZero", "internal/bytealg.CountString"], unfollowed := true, recurses := true, named := ["internal/strconv.uint64pow10", "math/bits.deBruijn32tab", "math/bits.deBruijn64tab", "strconv.ErrSyntax", "strconv.ErrRange", "lineage/semiring.levels", "internal/bytealg.MaxLen", "unicode/utf8.first", "unicode/utf8.acceptRanges"], apart := false, laid := [("math/bits.deBruijn32tab", laid_math_bits_deBruijn32tab), ("math/bits.deBruijn64tab", laid_math_bits_deBruijn64tab), ("internal/strconv.uint64pow10", laid_internal_strconv_uint64pow10), ("unicode/utf8.acceptRanges", laid_unicode_utf8_acceptRanges), ("strconv.ErrRange", laid_strconv_ErrRange), ("strconv.ErrSyntax", laid_strconv_ErrSyntax), ("lineage/semiring.levels", laid_lineage_semiring_levels), ("unicode/utf8.first", laid_unicode_utf8_first)], narrowed := true }
def SemiringLimitsUptoSaid : Prop := semiringLimitsUptoRow.holds Tryz.pinned (OpenSpec.upto semiringLimitsSpec)

/-- 'lineagelaw06.SemiringMonusLaws', WHERE WHAT IT READS IS OF BULK AT MOST 1048576: true; the input reads as it did. -/
def semiringMonusLawsUptoRow : OpenClaim := { program := "ytomdjkcoodaheaagreatdoor", sum := "7fc952f09fa0c3736e5bd440780fa7a525ef965e9e99516d427babe447f493fc", func := "lineage/lineagelaw06.SemiringMonusLaws", spec := "semiringMonusLaws", inPlace := ["internal/bytealg.IndexByteString", "internal/bytealg.IndexString", "internal/abi.NoEscape", "internal/bytealg.MakeNoZero", "internal/bytealg.CountString"], unfollowed := true, recurses := true, named := ["internal/strconv.uint64pow10", "math/bits.deBruijn32tab", "math/bits.deBruijn64tab", "strconv.ErrSyntax", "strconv.ErrRange", "lineage/semiring.levels", "internal/bytealg.MaxLen", "unicode/utf8.first", "unicode/utf8.acceptRanges"], apart := false, laid := [("math/bits.deBruijn32tab", laid_math_bits_deBruijn32tab), ("math/bits.deBruijn64tab", laid_math_bits_deBruijn64tab), ("internal/strconv.uint64pow10", laid_internal_strconv_uint64pow10), ("unicode/utf8.acceptRanges", laid_unicode_utf8_acceptRanges), ("strconv.ErrRange", laid_strconv_ErrRange), ("strconv.ErrSyntax", laid_strconv_ErrSyntax), ("lineage/semiring.levels", laid_lineage_semiring_levels), ("unicode/utf8.first", laid_unicode_utf8_first)], narrowed := true }
def SemiringMonusLawsUptoSaid : Prop := semiringMonusLawsUptoRow.holds Tryz.pinned (OpenSpec.upto semiringMonusLawsSpec)

/-- 'lineagelaw06.SemiringRing', WHERE WHAT IT READS IS OF BULK AT MOST 1048576: true; the input reads as it did. -/
def semiringRingUptoRow : OpenClaim := { program := "ytomdjkcoodaheaagreatdoor", sum := "7fc952f09fa0c3736e5bd440780fa7a525ef965e9e99516d427babe447f493fc", func := "lineage/lineagelaw06.SemiringRing", spec := "semiringRing", inPlace := ["internal/bytealg.IndexByteString", "internal/bytealg.IndexString", "internal/abi.NoEscape", "internal/bytealg.MakeNoZero", "internal/bytealg.CountString"], unfollowed := true, recurses := true, named := ["internal/strconv.uint64pow10", "math/bits.deBruijn32tab", "math/bits.deBruijn64tab", "strconv.ErrSyntax", "strconv.ErrRange", "lineage/semiring.levels", "internal/bytealg.MaxLen", "unicode/utf8.first", "unicode/utf8.acceptRanges"], apart := false, laid := [("math/bits.deBruijn32tab", laid_math_bits_deBruijn32tab), ("math/bits.deBruijn64tab", laid_math_bits_deBruijn64tab), ("internal/strconv.uint64pow10", laid_internal_strconv_uint64pow10), ("unicode/utf8.acceptRanges", laid_unicode_utf8_acceptRanges), ("strconv.ErrRange", laid_strconv_ErrRange), ("strconv.ErrSyntax", laid_strconv_ErrSyntax), ("lineage/semiring.levels", laid_lineage_semiring_levels), ("unicode/utf8.first", laid_unicode_utf8_first)], narrowed := true }
def SemiringRingUptoSaid : Prop := semiringRingUptoRow.holds Tryz.pinned (OpenSpec.upto semiringRingSpec)

/-- 'lineagelaw06.SemiringAbsorption', WHERE WHAT IT READS IS OF BULK AT MOST 1048576: true; the input reads as it did. -/
def semiringAbsorptionUptoRow : OpenClaim := { program := "ytomdjkcoodaheaagreatdoor", sum := "7fc952f09fa0c3736e5bd440780fa7a525ef965e9e99516d427babe447f493fc", func := "lineage/lineagelaw06.SemiringAbsorption", spec := "semiringAbsorption", inPlace := ["internal/bytealg.IndexByteString", "internal/bytealg.IndexString", "internal/abi.NoEscape", "internal/bytealg.MakeNoZero", "internal/bytealg.CountString"], unfollowed := true, recurses := true, named := ["internal/strconv.uint64pow10", "math/bits.deBruijn32tab", "math/bits.deBruijn64tab", "strconv.ErrSyntax", "strconv.ErrRange", "lineage/semiring.levels", "internal/bytealg.MaxLen", "unicode/utf8.first", "unicode/utf8.acceptRanges"], apart := false, laid := [("math/bits.deBruijn32tab", laid_math_bits_deBruijn32tab), ("math/bits.deBruijn64tab", laid_math_bits_deBruijn64tab), ("internal/strconv.uint64pow10", laid_internal_strconv_uint64pow10), ("unicode/utf8.acceptRanges", laid_unicode_utf8_acceptRanges), ("strconv.ErrRange", laid_strconv_ErrRange), ("strconv.ErrSyntax", laid_strconv_ErrSyntax), ("lineage/semiring.levels", laid_lineage_semiring_levels), ("unicode/utf8.first", laid_unicode_utf8_first)], narrowed := true }
def SemiringAbsorptionUptoSaid : Prop := semiringAbsorptionUptoRow.holds Tryz.pinned (OpenSpec.upto semiringAbsorptionSpec)

/-- 'lineagelaw06.SemiringMonus', WHERE WHAT IT READS IS OF BULK AT MOST 1048576: true; the input reads as it did. -/
def semiringMonusUptoRow : OpenClaim := { program := "ytomdjkcoodaheaagreatdoor", sum := "7fc952f09fa0c3736e5bd440780fa7a525ef965e9e99516d427babe447f493fc", func := "lineage/lineagelaw06.SemiringMonus", spec := "semiringMonus", inPlace := ["internal/bytealg.IndexByteString", "internal/bytealg.IndexString", "internal/abi.NoEscape", "internal/bytealg.MakeNoZero", "internal/bytealg.CountString"], unfollowed := true, recurses := true, named := ["internal/strconv.uint64pow10", "math/bits.deBruijn32tab", "math/bits.deBruijn64tab", "strconv.ErrSyntax", "strconv.ErrRange", "lineage/semiring.levels", "internal/bytealg.MaxLen", "unicode/utf8.first", "unicode/utf8.acceptRanges"], apart := false, laid := [("math/bits.deBruijn32tab", laid_math_bits_deBruijn32tab), ("math/bits.deBruijn64tab", laid_math_bits_deBruijn64tab), ("internal/strconv.uint64pow10", laid_internal_strconv_uint64pow10), ("unicode/utf8.acceptRanges", laid_unicode_utf8_acceptRanges), ("strconv.ErrRange", laid_strconv_ErrRange), ("strconv.ErrSyntax", laid_strconv_ErrSyntax), ("lineage/semiring.levels", laid_lineage_semiring_levels), ("unicode/utf8.first", laid_unicode_utf8_first)], narrowed := true }
def SemiringMonusUptoSaid : Prop := semiringMonusUptoRow.holds Tryz.pinned (OpenSpec.upto semiringMonusSpec)

/-- 'lineagelaw06.SemiringOrder', WHERE WHAT IT READS IS OF BULK AT MOST 1048576: true; the input reads as it did. -/
def semiringOrderUptoRow : OpenClaim := { program := "ytomdjkcoodaheaagreatdoor", sum := "7fc952f09fa0c3736e5bd440780fa7a525ef965e9e99516d427babe447f493fc", func := "lineage/lineagelaw06.SemiringOrder", spec := "semiringOrder", inPlace := ["internal/bytealg.IndexByteString", "internal/bytealg.IndexString", "internal/abi.NoEscape", "internal/bytealg.MakeNoZero", "internal/bytealg.CountString"], unfollowed := true, recurses := true, named := ["internal/strconv.uint64pow10", "math/bits.deBruijn32tab", "math/bits.deBruijn64tab", "strconv.ErrSyntax", "strconv.ErrRange", "lineage/semiring.levels", "internal/bytealg.MaxLen", "unicode/utf8.first", "unicode/utf8.acceptRanges"], apart := false, laid := [("math/bits.deBruijn32tab", laid_math_bits_deBruijn32tab), ("math/bits.deBruijn64tab", laid_math_bits_deBruijn64tab), ("internal/strconv.uint64pow10", laid_internal_strconv_uint64pow10), ("unicode/utf8.acceptRanges", laid_unicode_utf8_acceptRanges), ("strconv.ErrRange", laid_strconv_ErrRange), ("strconv.ErrSyntax", laid_strconv_ErrSyntax), ("lineage/semiring.levels", laid_lineage_semiring_levels), ("unicode/utf8.first", laid_unicode_utf8_first)], narrowed := true }
def SemiringOrderUptoSaid : Prop := semiringOrderUptoRow.holds Tryz.pinned (OpenSpec.upto semiringOrderSpec)

/-- 'lineagelaw06.SemiringText', WHERE WHAT IT READS IS OF BULK AT MOST 1048576: true; the input reads as it did. -/
def semiringTextUptoRow : OpenClaim := { program := "ytomdjkcoodaheaagreatdoor", sum := "7fc952f09fa0c3736e5bd440780fa7a525ef965e9e99516d427babe447f493fc", func := "lineage/lineagelaw06.SemiringText", spec := "semiringText", inPlace := ["internal/bytealg.IndexByteString", "internal/bytealg.IndexString", "internal/abi.NoEscape", "internal/bytealg.MakeNoZero", "internal/bytealg.CountString"], unfollowed := true, recurses := true, named := ["internal/strconv.uint64pow10", "math/bits.deBruijn32tab", "math/bits.deBruijn64tab", "strconv.ErrSyntax", "strconv.ErrRange", "lineage/semiring.levels", "internal/bytealg.MaxLen", "unicode/utf8.first", "unicode/utf8.acceptRanges"], apart := false, laid := [("math/bits.deBruijn32tab", laid_math_bits_deBruijn32tab), ("math/bits.deBruijn64tab", laid_math_bits_deBruijn64tab), ("internal/strconv.uint64pow10", laid_internal_strconv_uint64pow10), ("unicode/utf8.acceptRanges", laid_unicode_utf8_acceptRanges), ("strconv.ErrRange", laid_strconv_ErrRange), ("strconv.ErrSyntax", laid_strconv_ErrSyntax), ("lineage/semiring.levels", laid_lineage_semiring_levels), ("unicode/utf8.first", laid_unicode_utf8_first)], narrowed := true }
def SemiringTextUptoSaid : Prop := semiringTextUptoRow.holds Tryz.pinned (OpenSpec.upto semiringTextSpec)

/-- 'lineagelaw06.SemiringElements', WHERE WHAT IT READS IS OF BULK AT MOST 1048576: true; the input reads as it did. -/
def semiringElementsUptoRow : OpenClaim := { program := "ytomdjkcoodaheaagreatdoor", sum := "7fc952f09fa0c3736e5bd440780fa7a525ef965e9e99516d427babe447f493fc", func := "lineage/lineagelaw06.SemiringElements", spec := "semiringElements", inPlace := ["internal/bytealg.IndexByteString", "internal/bytealg.IndexString", "internal/abi.NoEscape", "internal/bytealg.MakeNoZero", "internal/bytealg.CountString"], unfollowed := true, recurses := true, named := ["internal/strconv.uint64pow10", "math/bits.deBruijn32tab", "math/bits.deBruijn64tab", "strconv.ErrSyntax", "strconv.ErrRange", "lineage/semiring.levels", "internal/bytealg.MaxLen", "unicode/utf8.first", "unicode/utf8.acceptRanges"], apart := false, laid := [("math/bits.deBruijn32tab", laid_math_bits_deBruijn32tab), ("math/bits.deBruijn64tab", laid_math_bits_deBruijn64tab), ("internal/strconv.uint64pow10", laid_internal_strconv_uint64pow10), ("unicode/utf8.acceptRanges", laid_unicode_utf8_acceptRanges), ("strconv.ErrRange", laid_strconv_ErrRange), ("strconv.ErrSyntax", laid_strconv_ErrSyntax), ("lineage/semiring.levels", laid_lineage_semiring_levels), ("unicode/utf8.first", laid_unicode_utf8_first)], narrowed := true }
def SemiringElementsUptoSaid : Prop := semiringElementsUptoRow.holds Tryz.pinned (OpenSpec.upto semiringElementsSpec)

/-- 'lineagelaw06.SemiringScaling', WHERE WHAT IT READS IS OF BULK AT MOST 1048576: true; the input reads as it did. -/
def semiringScalingUptoRow : OpenClaim := { program := "ytomdjkcoodaheaagreatdoor", sum := "7fc952f09fa0c3736e5bd440780fa7a525ef965e9e99516d427babe447f493fc", func := "lineage/lineagelaw06.SemiringScaling", spec := "semiringScaling", inPlace := ["internal/bytealg.IndexByteString", "internal/bytealg.IndexString", "internal/abi.NoEscape", "internal/bytealg.MakeNoZero", "internal/bytealg.CountString"], unfollowed := true, recurses := true, named := ["internal/strconv.uint64pow10", "math/bits.deBruijn32tab", "math/bits.deBruijn64tab", "strconv.ErrSyntax", "strconv.ErrRange", "lineage/semiring.levels", "internal/bytealg.MaxLen", "unicode/utf8.first", "unicode/utf8.acceptRanges"], apart := false, laid := [("math/bits.deBruijn32tab", laid_math_bits_deBruijn32tab), ("math/bits.deBruijn64tab", laid_math_bits_deBruijn64tab), ("internal/strconv.uint64pow10", laid_internal_strconv_uint64pow10), ("unicode/utf8.acceptRanges", laid_unicode_utf8_acceptRanges), ("strconv.ErrRange", laid_strconv_ErrRange), ("strconv.ErrSyntax", laid_strconv_ErrSyntax), ("lineage/semiring.levels", laid_lineage_semiring_levels), ("unicode/utf8.first", laid_unicode_utf8_first)], narrowed := true }
def SemiringScalingUptoSaid : Prop := semiringScalingUptoRow.holds Tryz.pinned (OpenSpec.upto semiringScalingSpec)

end Rows
end Go.Proofs.YtomdjkcoodaheaaGreatDoor
