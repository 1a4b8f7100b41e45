/-
  NARROWER THAN 'FOR EVERY INPUT', by the rows' own cells (each row's printed sentence says how): PrintTells: laid · PrintFulls: laid · ParseTells: laid · QtextTells: laid · QtextParses: laid.
  DERIVED. THE GIVEN ROWS OF THIS SEAT. 5 by the template 'for every input the law returns true; each argument reads behind the call as it read before'; 0 by the template 'total and deterministic' (their statements: YtncfbleeidjflaaGreatDoorTotals.lean).
  GIVEN WITH THE SEED: the statements are not yours to turn. If you find one false, say at which input.
  Laid BY PROGRAM, IN A SANDBOX (cutbox-rows.mjs): the forced cells as the released guide's own fill.sh prints them over the translation 71a9a7893a6e05c8… (all of the seat's roots in one cut). By AI agents, Wed Nov 11 2026. No macro, syntax, notation, axiom, sorry.
-/
import Derived.Test.YtncfbleeidjflaaGreatDoorChecked
import GoSem.PinnedTables
import GoSem.Claim
import GoSem.ClaimJoined
import GoSem.ClaimMapViews
import Derived.JoinedTies
import Derived.KernelRfl
namespace Go.Proofs.YtncfbleeidjflaaGreatDoor
/- THE CELL 'sum', in the pinned program and in every row, IS THE sha256 OF THE DUMP (.gsa) THAT YtncfbleeidjflaaGreatDoorProg.lean LOADS. Nothing in Lean hashes anything: it is a label: what it is worth is what the hold of that sum in a sandbox is worth. -/
noncomputable def Tryz.pinned : Pinned := { name := "ytncfbleeidjflaagreatdoor", sum := "71a9a7893a6e05c892be6bfdc5ceefa7a7e74564b194ef05fe2791a4c1a909b5", checked := Tryz.checked }
namespace Rows
def none {H : Type} : Left H := { results := [], args := [] }

/- WHAT THE LISTED PACKAGE-LEVEL VARIABLES READ AS WHEN THE CALL BEGINS. Each datum BY PROGRAM (the guide's laid-datum.mjs) off the statement by which the dump's own 'gosem.cut.vars' lays the variable. In a bare row this is a premise. The card (YtncfbleeidjflaaGreatDoorCards.lean) ties it to the program's text. -/
def laid_math_bits_deBruijn32tab {H : Type} : DataW H := .agg [.lit (.int .u8 0), .lit (.int .u8 1), .lit (.int .u8 28), .lit (.int .u8 2), .lit (.int .u8 29), .lit (.int .u8 14), .lit (.int .u8 24), .lit (.int .u8 3), .lit (.int .u8 30), .lit (.int .u8 22), .lit (.int .u8 20), .lit (.int .u8 15), .lit (.int .u8 25), .lit (.int .u8 17), .lit (.int .u8 4), .lit (.int .u8 8), .lit (.int .u8 31), .lit (.int .u8 27), .lit (.int .u8 13), .lit (.int .u8 23), .lit (.int .u8 21), .lit (.int .u8 19), .lit (.int .u8 16), .lit (.int .u8 7), .lit (.int .u8 26), .lit (.int .u8 12), .lit (.int .u8 18), .lit (.int .u8 6), .lit (.int .u8 11), .lit (.int .u8 5), .lit (.int .u8 10), .lit (.int .u8 9)]
def laid_math_bits_deBruijn64tab {H : Type} : DataW H := .agg [.lit (.int .u8 0), .lit (.int .u8 1), .lit (.int .u8 56), .lit (.int .u8 2), .lit (.int .u8 57), .lit (.int .u8 49), .lit (.int .u8 28), .lit (.int .u8 3), .lit (.int .u8 61), .lit (.int .u8 58), .lit (.int .u8 42), .lit (.int .u8 50), .lit (.int .u8 38), .lit (.int .u8 29), .lit (.int .u8 17), .lit (.int .u8 4), .lit (.int .u8 62), .lit (.int .u8 47), .lit (.int .u8 59), .lit (.int .u8 36), .lit (.int .u8 45), .lit (.int .u8 43), .lit (.int .u8 51), .lit (.int .u8 22), .lit (.int .u8 53), .lit (.int .u8 39), .lit (.int .u8 33), .lit (.int .u8 30), .lit (.int .u8 24), .lit (.int .u8 18), .lit (.int .u8 12), .lit (.int .u8 5), .lit (.int .u8 63), .lit (.int .u8 55), .lit (.int .u8 48), .lit (.int .u8 27), .lit (.int .u8 60), .lit (.int .u8 41), .lit (.int .u8 37), .lit (.int .u8 16), .lit (.int .u8 46), .lit (.int .u8 35), .lit (.int .u8 44), .lit (.int .u8 21), .lit (.int .u8 52), .lit (.int .u8 32), .lit (.int .u8 23), .lit (.int .u8 11), .lit (.int .u8 54), .lit (.int .u8 26), .lit (.int .u8 40), .lit (.int .u8 15), .lit (.int .u8 34), .lit (.int .u8 20), .lit (.int .u8 31), .lit (.int .u8 10), .lit (.int .u8 25), .lit (.int .u8 14), .lit (.int .u8 19), .lit (.int .u8 9), .lit (.int .u8 13), .lit (.int .u8 8), .lit (.int .u8 7), .lit (.int .u8 6)]
def laid_internal_strconv_uint64pow10 {H : Type} : DataW H := .agg [.lit (.int .u64 1), .lit (.int .u64 10), .lit (.int .u64 100), .lit (.int .u64 1000), .lit (.int .u64 10000), .lit (.int .u64 100000), .lit (.int .u64 1000000), .lit (.int .u64 10000000), .lit (.int .u64 100000000), .lit (.int .u64 1000000000), .lit (.int .u64 10000000000), .lit (.int .u64 100000000000), .lit (.int .u64 1000000000000), .lit (.int .u64 10000000000000), .lit (.int .u64 100000000000000), .lit (.int .u64 1000000000000000), .lit (.int .u64 10000000000000000), .lit (.int .u64 100000000000000000), .lit (.int .u64 1000000000000000000), .lit (.int .u64 10000000000000000000)]
def laid_caliper_forms_forms {H : Type} : DataW H := .agg [.agg [.lit (.int .i64 0), .lit (.int .i64 0), .lit (.int .i64 0), .lit (.int .i64 0), .lit (.int .u64 0), .lit (.int .u64 0), .lit (.int .u64 0)], .agg [.lit (.int .i64 1), .lit (.int .i64 8), .lit (.int .i64 0), .lit (.int .i64 0), .lit (.int .u64 127), .lit (.int .u64 0), .lit (.int .u64 128)], .agg [.lit (.int .i64 1), .lit (.int .i64 16), .lit (.int .i64 0), .lit (.int .i64 0), .lit (.int .u64 32767), .lit (.int .u64 0), .lit (.int .u64 32768)], .agg [.lit (.int .i64 1), .lit (.int .i64 32), .lit (.int .i64 0), .lit (.int .i64 0), .lit (.int .u64 2147483647), .lit (.int .u64 0), .lit (.int .u64 2147483648)], .agg [.lit (.int .i64 1), .lit (.int .i64 64), .lit (.int .i64 0), .lit (.int .i64 0), .lit (.int .u64 9223372036854775807), .lit (.int .u64 0), .lit (.int .u64 9223372036854775808)], .agg [.lit (.int .i64 2), .lit (.int .i64 8), .lit (.int .i64 3), .lit (.int .i64 7), .lit (.int .u64 126), .lit (.int .u64 0), .lit (.int .u64 127)], .agg [.lit (.int .i64 2), .lit (.int .i64 8), .lit (.int .i64 2), .lit (.int .i64 15), .lit (.int .u64 123), .lit (.int .u64 124), .lit (.int .u64 126)], .agg [.lit (.int .i64 2), .lit (.int .i64 6), .lit (.int .i64 2), .lit (.int .i64 3), .lit (.int .u64 31), .lit (.int .u64 0), .lit (.int .u64 0)], .agg [.lit (.int .i64 2), .lit (.int .i64 6), .lit (.int .i64 3), .lit (.int .i64 1), .lit (.int .u64 31), .lit (.int .u64 0), .lit (.int .u64 0)], .agg [.lit (.int .i64 2), .lit (.int .i64 4), .lit (.int .i64 1), .lit (.int .i64 1), .lit (.int .u64 7), .lit (.int .u64 0), .lit (.int .u64 0)], .agg [.lit (.int .i64 3), .lit (.int .i64 8), .lit (.int .i64 6), .lit (.int .i64 0), .lit (.int .u64 127), .lit (.int .u64 0), .lit (.int .u64 0)], .agg [.lit (.int .i64 4), .lit (.int .i64 8), .lit (.int .i64 0), .lit (.int .i64 127), .lit (.int .u64 254), .lit (.int .u64 0), .lit (.int .u64 255)], .agg [.lit (.int .i64 2), .lit (.int .i64 16), .lit (.int .i64 10), .lit (.int .i64 15), .lit (.int .u64 31743), .lit (.int .u64 31744), .lit (.int .u64 32256)], .agg [.lit (.int .i64 2), .lit (.int .i64 32), .lit (.int .i64 23), .lit (.int .i64 127), .lit (.int .u64 2139095039), .lit (.int .u64 2139095040), .lit (.int .u64 2143289344)], .agg [.lit (.int .i64 2), .lit (.int .i64 64), .lit (.int .i64 52), .lit (.int .i64 1023), .lit (.int .u64 9218868437227405311), .lit (.int .u64 9218868437227405312), .lit (.int .u64 9221120237041090560)]]
def laid_caliper_value_numbers {H : Type} : DataW H := .iface "func table" (.map [(.int .i64 1, .iface "func" (.lit (.string [99, 97, 108, 105, 112, 101, 114, 47, 118, 97, 108, 117, 101, 46, 110, 117, 109, 98, 101, 114, 115, 36, 49]))), (.int .i64 2, .iface "func" (.lit (.string [99, 97, 108, 105, 112, 101, 114, 47, 118, 97, 108, 117, 101, 46, 110, 117, 109, 98, 101, 114, 115, 36, 50]))), (.int .i64 3, .iface "func" (.lit (.string [99, 97, 108, 105, 112, 101, 114, 47, 118, 97, 108, 117, 101, 46, 110, 117, 109, 98, 101, 114, 115, 36, 51]))), (.int .i64 4, .iface "func" (.lit (.string [99, 97, 108, 105, 112, 101, 114, 47, 118, 97, 108, 117, 101, 46, 110, 117, 109, 98, 101, 114, 115, 36, 52])))])
def laid_caliper_print_words {H : Type} : DataW H := .map [(.int .i64 1, .lit (.string [48])), (.int .i64 3, .lit (.string [105, 110, 102])), (.int .i64 4, .lit (.string [110, 97, 110]))]
def laid_unicode_utf8_acceptRanges {H : Type} : DataW H := .agg [.agg [.lit (.int .u8 128), .lit (.int .u8 191)], .agg [.lit (.int .u8 160), .lit (.int .u8 191)], .agg [.lit (.int .u8 128), .lit (.int .u8 159)], .agg [.lit (.int .u8 144), .lit (.int .u8 191)], .agg [.lit (.int .u8 128), .lit (.int .u8 143)], .agg [.lit (.int .u8 0), .lit (.int .u8 0)], .agg [.lit (.int .u8 0), .lit (.int .u8 0)], .agg [.lit (.int .u8 0), .lit (.int .u8 0)], .agg [.lit (.int .u8 0), .lit (.int .u8 0)], .agg [.lit (.int .u8 0), .lit (.int .u8 0)], .agg [.lit (.int .u8 0), .lit (.int .u8 0)], .agg [.lit (.int .u8 0), .lit (.int .u8 0)], .agg [.lit (.int .u8 0), .lit (.int .u8 0)], .agg [.lit (.int .u8 0), .lit (.int .u8 0)], .agg [.lit (.int .u8 0), .lit (.int .u8 0)], .agg [.lit (.int .u8 0), .lit (.int .u8 0)]]
def laid_strconv_ErrRange {H : Type} : DataW H := .iface "*errors.errorString" (.ptr (.agg [.lit (.string [118, 97, 108, 117, 101, 32, 111, 117, 116, 32, 111, 102, 32, 114, 97, 110, 103, 101])]))
def laid_strconv_ErrSyntax {H : Type} : DataW H := .iface "*errors.errorString" (.ptr (.agg [.lit (.string [105, 110, 118, 97, 108, 105, 100, 32, 115, 121, 110, 116, 97, 120])]))
/-- One of Go's own tables, pinned by name: the form's constant. -/
def laid_unicode_utf8_first : DataW Unit := Go.Pinned.utf8First

/-- 'caliperlaw13.PrintTells': WHATEVER THE INPUT: true; the input reads as it did. -/
def printTellsSpec : ChangeSpec := { name := "printTells", fn := fun _ => fun
  | [d1, d2] => { results := [.lit (.bool true)], args := [d1, d2] }
  | _ => none }
def printTellsRow : OpenClaim := { program := "ytncfbleeidjflaagreatdoor", sum := "71a9a7893a6e05c892be6bfdc5ceefa7a7e74564b194ef05fe2791a4c1a909b5", func := "caliper/caliperlaw13.PrintTells", spec := "printTells", inPlace := ["internal/abi.NoEscape", "internal/bytealg.MakeNoZero", "math/bits.Add64", "math/bits.Sub64"], unfollowed := true, recurses := true, named := ["caliper/print.words", "caliper/forms.forms", "caliper/value.numbers", "math/bits.divideError", "math/bits.overflowError", "internal/strconv.uint64pow10", "math/bits.deBruijn32tab", "math/bits.deBruijn64tab"], apart := false, laid := [("math/bits.deBruijn32tab", laid_math_bits_deBruijn32tab), ("math/bits.deBruijn64tab", laid_math_bits_deBruijn64tab), ("internal/strconv.uint64pow10", laid_internal_strconv_uint64pow10), ("caliper/forms.forms", laid_caliper_forms_forms), ("caliper/value.numbers", laid_caliper_value_numbers), ("caliper/print.words", laid_caliper_print_words)] }
def PrintTellsSaid : Prop := printTellsRow.holds Tryz.pinned (OpenSpec.ofChange printTellsSpec)

/-- ITS FALSE NEIGHBOUR: 'it returns false'. Refute it at one input. -/
def printTellsWrong : ChangeSpec := { name := "printTells", fn := fun _ => fun
  | [d1, d2] => { results := [.lit (.bool false)], args := [d1, d2] }
  | _ => none }
def PrintTellsWrongFalsely : Prop := printTellsRow.holds Tryz.pinned (OpenSpec.ofChange printTellsWrong)

/-- 'caliperlaw13.PrintFulls': WHATEVER THE INPUT: true; the input reads as it did. -/
def printFullsSpec : ChangeSpec := { name := "printFulls", fn := fun _ => fun
  | [d1, d2] => { results := [.lit (.bool true)], args := [d1, d2] }
  | _ => none }
def printFullsRow : OpenClaim := { program := "ytncfbleeidjflaagreatdoor", sum := "71a9a7893a6e05c892be6bfdc5ceefa7a7e74564b194ef05fe2791a4c1a909b5", func := "caliper/caliperlaw13.PrintFulls", spec := "printFulls", inPlace := ["internal/abi.NoEscape", "internal/bytealg.MakeNoZero", "math/bits.Add64", "math/bits.Sub64"], unfollowed := true, recurses := true, named := ["caliper/print.words", "caliper/forms.forms", "caliper/value.numbers", "math/bits.divideError", "math/bits.overflowError", "internal/strconv.uint64pow10", "math/bits.deBruijn32tab", "math/bits.deBruijn64tab"], apart := false, laid := [("math/bits.deBruijn32tab", laid_math_bits_deBruijn32tab), ("math/bits.deBruijn64tab", laid_math_bits_deBruijn64tab), ("internal/strconv.uint64pow10", laid_internal_strconv_uint64pow10), ("caliper/forms.forms", laid_caliper_forms_forms), ("caliper/value.numbers", laid_caliper_value_numbers), ("caliper/print.words", laid_caliper_print_words)] }
def PrintFullsSaid : Prop := printFullsRow.holds Tryz.pinned (OpenSpec.ofChange printFullsSpec)

/-- ITS FALSE NEIGHBOUR: 'it returns false'. Refute it at one input. -/
def printFullsWrong : ChangeSpec := { name := "printFulls", fn := fun _ => fun
  | [d1, d2] => { results := [.lit (.bool false)], args := [d1, d2] }
  | _ => none }
def PrintFullsWrongFalsely : Prop := printFullsRow.holds Tryz.pinned (OpenSpec.ofChange printFullsWrong)

/-- 'caliperlaw10.ParseTells': WHATEVER THE INPUT: true; the input reads as it did. -/
def parseTellsSpec : ChangeSpec := { name := "parseTells", fn := fun _ => fun
  | [d1, d2, d3] => { results := [.lit (.bool true)], args := [d1, d2, d3] }
  | _ => none }
def parseTellsRow : OpenClaim := { program := "ytncfbleeidjflaagreatdoor", sum := "71a9a7893a6e05c892be6bfdc5ceefa7a7e74564b194ef05fe2791a4c1a909b5", func := "caliper/caliperlaw10.ParseTells", spec := "parseTells", inPlace := ["internal/bytealg.IndexByteString", "internal/bytealg.IndexString", "math/bits.Add64"], unfollowed := true, recurses := true, named := ["caliper/forms.forms", "unicode/utf8.first", "unicode/utf8.acceptRanges", "strconv.ErrSyntax", "strconv.ErrRange", "internal/strconv.uint64pow10", "math/bits.deBruijn32tab", "math/bits.deBruijn64tab", "caliper/value.numbers", "internal/bytealg.MaxLen"], apart := false, laid := [("math/bits.deBruijn32tab", laid_math_bits_deBruijn32tab), ("math/bits.deBruijn64tab", laid_math_bits_deBruijn64tab), ("internal/strconv.uint64pow10", laid_internal_strconv_uint64pow10), ("unicode/utf8.acceptRanges", laid_unicode_utf8_acceptRanges), ("strconv.ErrRange", laid_strconv_ErrRange), ("strconv.ErrSyntax", laid_strconv_ErrSyntax), ("caliper/forms.forms", laid_caliper_forms_forms), ("caliper/value.numbers", laid_caliper_value_numbers), ("unicode/utf8.first", laid_unicode_utf8_first)] }
def ParseTellsSaid : Prop := parseTellsRow.holds Tryz.pinned (OpenSpec.ofChange parseTellsSpec)

/-- ITS FALSE NEIGHBOUR: 'it returns false'. Refute it at one input. -/
def parseTellsWrong : ChangeSpec := { name := "parseTells", fn := fun _ => fun
  | [d1, d2, d3] => { results := [.lit (.bool false)], args := [d1, d2, d3] }
  | _ => none }
def ParseTellsWrongFalsely : Prop := parseTellsRow.holds Tryz.pinned (OpenSpec.ofChange parseTellsWrong)

/-- 'caliperlaw16.QtextTells': WHATEVER THE INPUT: true; the input reads as it did. -/
def qtextTellsSpec : ChangeSpec := { name := "qtextTells", fn := fun _ => fun
  | [d1, d2, d3] => { results := [.lit (.bool true)], args := [d1, d2, d3] }
  | _ => none }
def qtextTellsRow : OpenClaim := { program := "ytncfbleeidjflaagreatdoor", sum := "71a9a7893a6e05c892be6bfdc5ceefa7a7e74564b194ef05fe2791a4c1a909b5", func := "caliper/caliperlaw16.QtextTells", spec := "qtextTells", inPlace := ["internal/abi.NoEscape", "internal/bytealg.MakeNoZero", "math/bits.Add64", "internal/bytealg.IndexByteString", "internal/bytealg.IndexString", "math/bits.Sub64"], unfollowed := true, recurses := true, named := ["math/bits.divideError", "math/bits.overflowError", "internal/strconv.uint64pow10", "math/bits.deBruijn32tab", "math/bits.deBruijn64tab", "unicode/utf8.first", "unicode/utf8.acceptRanges", "strconv.ErrSyntax", "strconv.ErrRange", "internal/bytealg.MaxLen"], apart := false, laid := [("math/bits.deBruijn32tab", laid_math_bits_deBruijn32tab), ("math/bits.deBruijn64tab", laid_math_bits_deBruijn64tab), ("internal/strconv.uint64pow10", laid_internal_strconv_uint64pow10), ("unicode/utf8.acceptRanges", laid_unicode_utf8_acceptRanges), ("strconv.ErrRange", laid_strconv_ErrRange), ("strconv.ErrSyntax", laid_strconv_ErrSyntax), ("unicode/utf8.first", laid_unicode_utf8_first)] }
def QtextTellsSaid : Prop := qtextTellsRow.holds Tryz.pinned (OpenSpec.ofChange qtextTellsSpec)

/-- ITS FALSE NEIGHBOUR: 'it returns false'. Refute it at one input. -/
def qtextTellsWrong : ChangeSpec := { name := "qtextTells", fn := fun _ => fun
  | [d1, d2, d3] => { results := [.lit (.bool false)], args := [d1, d2, d3] }
  | _ => none }
def QtextTellsWrongFalsely : Prop := qtextTellsRow.holds Tryz.pinned (OpenSpec.ofChange qtextTellsWrong)

/-- 'caliperlaw16.QtextParses': WHATEVER THE INPUT: true; the input reads as it did. -/
def qtextParsesSpec : ChangeSpec := { name := "qtextParses", fn := fun _ => fun
  | [d1, d2] => { results := [.lit (.bool true)], args := [d1, d2] }
  | _ => none }
def qtextParsesRow : OpenClaim := { program := "ytncfbleeidjflaagreatdoor", sum := "71a9a7893a6e05c892be6bfdc5ceefa7a7e74564b194ef05fe2791a4c1a909b5", func := "caliper/caliperlaw16.QtextParses", spec := "qtextParses", inPlace := ["internal/abi.NoEscape", "internal/bytealg.MakeNoZero", "math/bits.Add64", "internal/bytealg.IndexByteString", "internal/bytealg.IndexString", "math/bits.Sub64"], unfollowed := true, recurses := true, named := ["math/bits.divideError", "math/bits.overflowError", "internal/strconv.uint64pow10", "math/bits.deBruijn32tab", "math/bits.deBruijn64tab", "unicode/utf8.first", "unicode/utf8.acceptRanges", "strconv.ErrSyntax", "strconv.ErrRange", "internal/bytealg.MaxLen"], apart := false, laid := [("math/bits.deBruijn32tab", laid_math_bits_deBruijn32tab), ("math/bits.deBruijn64tab", laid_math_bits_deBruijn64tab), ("internal/strconv.uint64pow10", laid_internal_strconv_uint64pow10), ("unicode/utf8.acceptRanges", laid_unicode_utf8_acceptRanges), ("strconv.ErrRange", laid_strconv_ErrRange), ("strconv.ErrSyntax", laid_strconv_ErrSyntax), ("unicode/utf8.first", laid_unicode_utf8_first)] }
def QtextParsesSaid : Prop := qtextParsesRow.holds Tryz.pinned (OpenSpec.ofChange qtextParsesSpec)

/-- ITS FALSE NEIGHBOUR: 'it returns false'. Refute it at one input. -/
def qtextParsesWrong : ChangeSpec := { name := "qtextParses", fn := fun _ => fun
  | [d1, d2] => { results := [.lit (.bool false)], args := [d1, d2] }
  | _ => none }
def QtextParsesWrongFalsely : Prop := qtextParsesRow.holds Tryz.pinned (OpenSpec.ofChange qtextParsesWrong)

/- THE SECOND FORM. 'bulk': how many values and letters a reading holds, each counted each time it is reached (what is shared counts as often as it is met; a slice's spare places count too). A statement '..UptoSaid' is the law's where the arguments, and the package variables that the reading takes, are together of bulk at most 1048576: NARROWER than '..Said'. Prove '..Said' where nothing that the law and all that it calls make is longer than what came in: it says more and counts as full. Else prove '..UptoSaid'. A law counts once. -/
mutual
def uptoBulk {H : Type} : DataW H → Nat
  | .lit (.string bytes) => bytes.length + 1
  | .lit _ => 1
  | .nil => 1
  | .ptr d => uptoBulk d + 1
  | .slice elems spare => uptoBulkAll elems + uptoBulkAll spare + 1
  | .agg parts => uptoBulkAll parts + 1
  | .iface _ d => uptoBulk d + 1
  | .map entries => uptoBulkEntries entries + 1
  | .held _ => 1
def uptoBulkAll {H : Type} : List (DataW H) → Nat
  | [] => 0
  | d :: r => uptoBulk d + uptoBulkAll r
def uptoBulkEntries {H : Type} : List (Lit × DataW H) → Nat
  | [] => 0
  | x :: r => uptoBulkEntry x + uptoBulkEntries r
def uptoBulkEntry {H : Type} : Lit × DataW H → Nat
  | (.string bytes, d) => bytes.length + uptoBulk d + 1
  | (_, d) => uptoBulk d + 1
 end
def uptoSmall : (H : Type) → List (DataW H) → Bool := fun _ ds => decide (uptoBulkAll ds ≤ 1048576)
def OpenSpec.upto (s : _root_.Go.ChangeSpec) : _root_.Go.OpenSpec := { _root_.Go.OpenSpec.ofChange s with cond := some uptoSmall }

/-- 'caliperlaw13.PrintTells', WHERE WHAT IT READS IS OF BULK AT MOST 1048576: true; the input reads as it did. -/
def printTellsUptoRow : OpenClaim := { program := "ytncfbleeidjflaagreatdoor", sum := "71a9a7893a6e05c892be6bfdc5ceefa7a7e74564b194ef05fe2791a4c1a909b5", func := "caliper/caliperlaw13.PrintTells", spec := "printTells", inPlace := ["internal/abi.NoEscape", "internal/bytealg.MakeNoZero", "math/bits.Add64", "math/bits.Sub64"], unfollowed := true, recurses := true, named := ["caliper/print.words", "caliper/forms.forms", "caliper/value.numbers", "math/bits.divideError", "math/bits.overflowError", "internal/strconv.uint64pow10", "math/bits.deBruijn32tab", "math/bits.deBruijn64tab"], apart := false, laid := [("math/bits.deBruijn32tab", laid_math_bits_deBruijn32tab), ("math/bits.deBruijn64tab", laid_math_bits_deBruijn64tab), ("internal/strconv.uint64pow10", laid_internal_strconv_uint64pow10), ("caliper/forms.forms", laid_caliper_forms_forms), ("caliper/value.numbers", laid_caliper_value_numbers), ("caliper/print.words", laid_caliper_print_words)], narrowed := true }
def PrintTellsUptoSaid : Prop := printTellsUptoRow.holds Tryz.pinned (OpenSpec.upto printTellsSpec)

/-- 'caliperlaw13.PrintFulls', WHERE WHAT IT READS IS OF BULK AT MOST 1048576: true; the input reads as it did. -/
def printFullsUptoRow : OpenClaim := { program := "ytncfbleeidjflaagreatdoor", sum := "71a9a7893a6e05c892be6bfdc5ceefa7a7e74564b194ef05fe2791a4c1a909b5", func := "caliper/caliperlaw13.PrintFulls", spec := "printFulls", inPlace := ["internal/abi.NoEscape", "internal/bytealg.MakeNoZero", "math/bits.Add64", "math/bits.Sub64"], unfollowed := true, recurses := true, named := ["caliper/print.words", "caliper/forms.forms", "caliper/value.numbers", "math/bits.divideError", "math/bits.overflowError", "internal/strconv.uint64pow10", "math/bits.deBruijn32tab", "math/bits.deBruijn64tab"], apart := false, laid := [("math/bits.deBruijn32tab", laid_math_bits_deBruijn32tab), ("math/bits.deBruijn64tab", laid_math_bits_deBruijn64tab), ("internal/strconv.uint64pow10", laid_internal_strconv_uint64pow10), ("caliper/forms.forms", laid_caliper_forms_forms), ("caliper/value.numbers", laid_caliper_value_numbers), ("caliper/print.words", laid_caliper_print_words)], narrowed := true }
def PrintFullsUptoSaid : Prop := printFullsUptoRow.holds Tryz.pinned (OpenSpec.upto printFullsSpec)

/-- 'caliperlaw10.ParseTells', WHERE WHAT IT READS IS OF BULK AT MOST 1048576: true; the input reads as it did. -/
def parseTellsUptoRow : OpenClaim := { program := "ytncfbleeidjflaagreatdoor", sum := "71a9a7893a6e05c892be6bfdc5ceefa7a7e74564b194ef05fe2791a4c1a909b5", func := "caliper/caliperlaw10.ParseTells", spec := "parseTells", inPlace := ["internal/bytealg.IndexByteString", "internal/bytealg.IndexString", "math/bits.Add64"], unfollowed := true, recurses := true, named := ["caliper/forms.forms", "unicode/utf8.first", "unicode/utf8.acceptRanges", "strconv.ErrSyntax", "strconv.ErrRange", "internal/strconv.uint64pow10", "math/bits.deBruijn32tab", "math/bits.deBruijn64tab", "caliper/value.numbers", "internal/bytealg.MaxLen"], apart := false, laid := [("math/bits.deBruijn32tab", laid_math_bits_deBruijn32tab), ("math/bits.deBruijn64tab", laid_math_bits_deBruijn64tab), ("internal/strconv.uint64pow10", laid_internal_strconv_uint64pow10), ("unicode/utf8.acceptRanges", laid_unicode_utf8_acceptRanges), ("strconv.ErrRange", laid_strconv_ErrRange), ("strconv.ErrSyntax", laid_strconv_ErrSyntax), ("caliper/forms.forms", laid_caliper_forms_forms), ("caliper/value.numbers", laid_caliper_value_numbers), ("unicode/utf8.first", laid_unicode_utf8_first)], narrowed := true }
def ParseTellsUptoSaid : Prop := parseTellsUptoRow.holds Tryz.pinned (OpenSpec.upto parseTellsSpec)

/-- 'caliperlaw16.QtextTells', WHERE WHAT IT READS IS OF BULK AT MOST 1048576: true; the input reads as it did. -/
def qtextTellsUptoRow : OpenClaim := { program := "ytncfbleeidjflaagreatdoor", sum := "71a9a7893a6e05c892be6bfdc5ceefa7a7e74564b194ef05fe2791a4c1a909b5", func := "caliper/caliperlaw16.QtextTells", spec := "qtextTells", inPlace := ["internal/abi.NoEscape", "internal/bytealg.MakeNoZero", "math/bits.Add64", "internal/bytealg.IndexByteString", "internal/bytealg.IndexString", "math/bits.Sub64"], unfollowed := true, recurses := true, named := ["math/bits.divideError", "math/bits.overflowError", "internal/strconv.uint64pow10", "math/bits.deBruijn32tab", "math/bits.deBruijn64tab", "unicode/utf8.first", "unicode/utf8.acceptRanges", "strconv.ErrSyntax", "strconv.ErrRange", "internal/bytealg.MaxLen"], apart := false, laid := [("math/bits.deBruijn32tab", laid_math_bits_deBruijn32tab), ("math/bits.deBruijn64tab", laid_math_bits_deBruijn64tab), ("internal/strconv.uint64pow10", laid_internal_strconv_uint64pow10), ("unicode/utf8.acceptRanges", laid_unicode_utf8_acceptRanges), ("strconv.ErrRange", laid_strconv_ErrRange), ("strconv.ErrSyntax", laid_strconv_ErrSyntax), ("unicode/utf8.first", laid_unicode_utf8_first)], narrowed := true }
def QtextTellsUptoSaid : Prop := qtextTellsUptoRow.holds Tryz.pinned (OpenSpec.upto qtextTellsSpec)

/-- 'caliperlaw16.QtextParses', WHERE WHAT IT READS IS OF BULK AT MOST 1048576: true; the input reads as it did. -/
def qtextParsesUptoRow : OpenClaim := { program := "ytncfbleeidjflaagreatdoor", sum := "71a9a7893a6e05c892be6bfdc5ceefa7a7e74564b194ef05fe2791a4c1a909b5", func := "caliper/caliperlaw16.QtextParses", spec := "qtextParses", inPlace := ["internal/abi.NoEscape", "internal/bytealg.MakeNoZero", "math/bits.Add64", "internal/bytealg.IndexByteString", "internal/bytealg.IndexString", "math/bits.Sub64"], unfollowed := true, recurses := true, named := ["math/bits.divideError", "math/bits.overflowError", "internal/strconv.uint64pow10", "math/bits.deBruijn32tab", "math/bits.deBruijn64tab", "unicode/utf8.first", "unicode/utf8.acceptRanges", "strconv.ErrSyntax", "strconv.ErrRange", "internal/bytealg.MaxLen"], apart := false, laid := [("math/bits.deBruijn32tab", laid_math_bits_deBruijn32tab), ("math/bits.deBruijn64tab", laid_math_bits_deBruijn64tab), ("internal/strconv.uint64pow10", laid_internal_strconv_uint64pow10), ("unicode/utf8.acceptRanges", laid_unicode_utf8_acceptRanges), ("strconv.ErrRange", laid_strconv_ErrRange), ("strconv.ErrSyntax", laid_strconv_ErrSyntax), ("unicode/utf8.first", laid_unicode_utf8_first)], narrowed := true }
def QtextParsesUptoSaid : Prop := qtextParsesUptoRow.holds Tryz.pinned (OpenSpec.upto qtextParsesSpec)

end Rows
end Go.Proofs.YtncfbleeidjflaaGreatDoor
