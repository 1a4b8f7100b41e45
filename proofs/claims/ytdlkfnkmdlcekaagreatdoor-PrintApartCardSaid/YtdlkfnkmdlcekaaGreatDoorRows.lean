/-
  NARROWER THAN 'FOR EVERY INPUT', by the rows' own cells (each row's printed sentence says how): PrintApart: laid · PrintSigns: laid · ParseSigns: laid · ParseWords: laid · ParseFits: laid · ParseModes: laid · ParseRounds: laid · ParseHas: laid · PrintDigits: laid · PrintParsed: laid.
  DERIVED. THE GIVEN ROWS OF THIS SEAT. 10 by the template 'for every input the law returns true; each argument reads behind the call as it read before'; 0 by the template 'total and deterministic' (their statements: YtdlkfnkmdlcekaaGreatDoorTotals.lean).
  GIVEN WITH THE SEED: the statements are not yours to turn. If you find one false, say at which input.
  Laid BY PROGRAM, IN A SANDBOX (cutbox-rows.mjs): the forced cells as the released guide's own fill.sh prints them over the translation 97cfa6c984919f51… (all of the seat's roots in one cut). By AI agents, Wed Nov 11 2026. No macro, syntax, notation, axiom, sorry.
-/
import Derived.Test.YtdlkfnkmdlcekaaGreatDoorChecked
import GoSem.PinnedTables
import GoSem.Claim
import GoSem.ClaimJoined
import GoSem.ClaimMapViews
import Derived.JoinedTies
import Derived.KernelRfl
namespace Go.Proofs.YtdlkfnkmdlcekaaGreatDoor
/- THE CELL 'sum', in the pinned program and in every row, IS THE sha256 OF THE DUMP (.gsa) THAT YtdlkfnkmdlcekaaGreatDoorProg.lean LOADS. Nothing in Lean hashes anything: it is a label: what it is worth is what the hold of that sum in a sandbox is worth. -/
noncomputable def Tryz.pinned : Pinned := { name := "ytdlkfnkmdlcekaagreatdoor", sum := "97cfa6c984919f519431eb827aeba5349975b384b180ba20b4e385eafab85b42", checked := Tryz.checked }
namespace Rows
def none {H : Type} : Left H := { results := [], args := [] }

/- WHAT THE LISTED PACKAGE-LEVEL VARIABLES READ AS WHEN THE CALL BEGINS. Each datum BY PROGRAM (the guide's laid-datum.mjs) off the statement by which the dump's own 'gosem.cut.vars' lays the variable. In a bare row this is a premise. The card (YtdlkfnkmdlcekaaGreatDoorCards.lean) ties it to the program's text. -/
def laid_math_bits_deBruijn32tab {H : Type} : DataW H := .agg [.lit (.int .u8 0), .lit (.int .u8 1), .lit (.int .u8 28), .lit (.int .u8 2), .lit (.int .u8 29), .lit (.int .u8 14), .lit (.int .u8 24), .lit (.int .u8 3), .lit (.int .u8 30), .lit (.int .u8 22), .lit (.int .u8 20), .lit (.int .u8 15), .lit (.int .u8 25), .lit (.int .u8 17), .lit (.int .u8 4), .lit (.int .u8 8), .lit (.int .u8 31), .lit (.int .u8 27), .lit (.int .u8 13), .lit (.int .u8 23), .lit (.int .u8 21), .lit (.int .u8 19), .lit (.int .u8 16), .lit (.int .u8 7), .lit (.int .u8 26), .lit (.int .u8 12), .lit (.int .u8 18), .lit (.int .u8 6), .lit (.int .u8 11), .lit (.int .u8 5), .lit (.int .u8 10), .lit (.int .u8 9)]
def laid_math_bits_deBruijn64tab {H : Type} : DataW H := .agg [.lit (.int .u8 0), .lit (.int .u8 1), .lit (.int .u8 56), .lit (.int .u8 2), .lit (.int .u8 57), .lit (.int .u8 49), .lit (.int .u8 28), .lit (.int .u8 3), .lit (.int .u8 61), .lit (.int .u8 58), .lit (.int .u8 42), .lit (.int .u8 50), .lit (.int .u8 38), .lit (.int .u8 29), .lit (.int .u8 17), .lit (.int .u8 4), .lit (.int .u8 62), .lit (.int .u8 47), .lit (.int .u8 59), .lit (.int .u8 36), .lit (.int .u8 45), .lit (.int .u8 43), .lit (.int .u8 51), .lit (.int .u8 22), .lit (.int .u8 53), .lit (.int .u8 39), .lit (.int .u8 33), .lit (.int .u8 30), .lit (.int .u8 24), .lit (.int .u8 18), .lit (.int .u8 12), .lit (.int .u8 5), .lit (.int .u8 63), .lit (.int .u8 55), .lit (.int .u8 48), .lit (.int .u8 27), .lit (.int .u8 60), .lit (.int .u8 41), .lit (.int .u8 37), .lit (.int .u8 16), .lit (.int .u8 46), .lit (.int .u8 35), .lit (.int .u8 44), .lit (.int .u8 21), .lit (.int .u8 52), .lit (.int .u8 32), .lit (.int .u8 23), .lit (.int .u8 11), .lit (.int .u8 54), .lit (.int .u8 26), .lit (.int .u8 40), .lit (.int .u8 15), .lit (.int .u8 34), .lit (.int .u8 20), .lit (.int .u8 31), .lit (.int .u8 10), .lit (.int .u8 25), .lit (.int .u8 14), .lit (.int .u8 19), .lit (.int .u8 9), .lit (.int .u8 13), .lit (.int .u8 8), .lit (.int .u8 7), .lit (.int .u8 6)]
def laid_internal_strconv_uint64pow10 {H : Type} : DataW H := .agg [.lit (.int .u64 1), .lit (.int .u64 10), .lit (.int .u64 100), .lit (.int .u64 1000), .lit (.int .u64 10000), .lit (.int .u64 100000), .lit (.int .u64 1000000), .lit (.int .u64 10000000), .lit (.int .u64 100000000), .lit (.int .u64 1000000000), .lit (.int .u64 10000000000), .lit (.int .u64 100000000000), .lit (.int .u64 1000000000000), .lit (.int .u64 10000000000000), .lit (.int .u64 100000000000000), .lit (.int .u64 1000000000000000), .lit (.int .u64 10000000000000000), .lit (.int .u64 100000000000000000), .lit (.int .u64 1000000000000000000), .lit (.int .u64 10000000000000000000)]
def laid_caliper_forms_forms {H : Type} : DataW H := .agg [.agg [.lit (.int .i64 0), .lit (.int .i64 0), .lit (.int .i64 0), .lit (.int .i64 0), .lit (.int .u64 0), .lit (.int .u64 0), .lit (.int .u64 0)], .agg [.lit (.int .i64 1), .lit (.int .i64 8), .lit (.int .i64 0), .lit (.int .i64 0), .lit (.int .u64 127), .lit (.int .u64 0), .lit (.int .u64 128)], .agg [.lit (.int .i64 1), .lit (.int .i64 16), .lit (.int .i64 0), .lit (.int .i64 0), .lit (.int .u64 32767), .lit (.int .u64 0), .lit (.int .u64 32768)], .agg [.lit (.int .i64 1), .lit (.int .i64 32), .lit (.int .i64 0), .lit (.int .i64 0), .lit (.int .u64 2147483647), .lit (.int .u64 0), .lit (.int .u64 2147483648)], .agg [.lit (.int .i64 1), .lit (.int .i64 64), .lit (.int .i64 0), .lit (.int .i64 0), .lit (.int .u64 9223372036854775807), .lit (.int .u64 0), .lit (.int .u64 9223372036854775808)], .agg [.lit (.int .i64 2), .lit (.int .i64 8), .lit (.int .i64 3), .lit (.int .i64 7), .lit (.int .u64 126), .lit (.int .u64 0), .lit (.int .u64 127)], .agg [.lit (.int .i64 2), .lit (.int .i64 8), .lit (.int .i64 2), .lit (.int .i64 15), .lit (.int .u64 123), .lit (.int .u64 124), .lit (.int .u64 126)], .agg [.lit (.int .i64 2), .lit (.int .i64 6), .lit (.int .i64 2), .lit (.int .i64 3), .lit (.int .u64 31), .lit (.int .u64 0), .lit (.int .u64 0)], .agg [.lit (.int .i64 2), .lit (.int .i64 6), .lit (.int .i64 3), .lit (.int .i64 1), .lit (.int .u64 31), .lit (.int .u64 0), .lit (.int .u64 0)], .agg [.lit (.int .i64 2), .lit (.int .i64 4), .lit (.int .i64 1), .lit (.int .i64 1), .lit (.int .u64 7), .lit (.int .u64 0), .lit (.int .u64 0)], .agg [.lit (.int .i64 3), .lit (.int .i64 8), .lit (.int .i64 6), .lit (.int .i64 0), .lit (.int .u64 127), .lit (.int .u64 0), .lit (.int .u64 0)], .agg [.lit (.int .i64 4), .lit (.int .i64 8), .lit (.int .i64 0), .lit (.int .i64 127), .lit (.int .u64 254), .lit (.int .u64 0), .lit (.int .u64 255)], .agg [.lit (.int .i64 2), .lit (.int .i64 16), .lit (.int .i64 10), .lit (.int .i64 15), .lit (.int .u64 31743), .lit (.int .u64 31744), .lit (.int .u64 32256)], .agg [.lit (.int .i64 2), .lit (.int .i64 32), .lit (.int .i64 23), .lit (.int .i64 127), .lit (.int .u64 2139095039), .lit (.int .u64 2139095040), .lit (.int .u64 2143289344)], .agg [.lit (.int .i64 2), .lit (.int .i64 64), .lit (.int .i64 52), .lit (.int .i64 1023), .lit (.int .u64 9218868437227405311), .lit (.int .u64 9218868437227405312), .lit (.int .u64 9221120237041090560)]]
def laid_caliper_value_numbers {H : Type} : DataW H := .iface "func table" (.map [(.int .i64 1, .iface "func" (.lit (.string [99, 97, 108, 105, 112, 101, 114, 47, 118, 97, 108, 117, 101, 46, 110, 117, 109, 98, 101, 114, 115, 36, 49]))), (.int .i64 2, .iface "func" (.lit (.string [99, 97, 108, 105, 112, 101, 114, 47, 118, 97, 108, 117, 101, 46, 110, 117, 109, 98, 101, 114, 115, 36, 50]))), (.int .i64 3, .iface "func" (.lit (.string [99, 97, 108, 105, 112, 101, 114, 47, 118, 97, 108, 117, 101, 46, 110, 117, 109, 98, 101, 114, 115, 36, 51]))), (.int .i64 4, .iface "func" (.lit (.string [99, 97, 108, 105, 112, 101, 114, 47, 118, 97, 108, 117, 101, 46, 110, 117, 109, 98, 101, 114, 115, 36, 52])))])
def laid_caliper_print_words {H : Type} : DataW H := .map [(.int .i64 1, .lit (.string [48])), (.int .i64 3, .lit (.string [105, 110, 102])), (.int .i64 4, .lit (.string [110, 97, 110]))]
def laid_unicode_utf8_acceptRanges {H : Type} : DataW H := .agg [.agg [.lit (.int .u8 128), .lit (.int .u8 191)], .agg [.lit (.int .u8 160), .lit (.int .u8 191)], .agg [.lit (.int .u8 128), .lit (.int .u8 159)], .agg [.lit (.int .u8 144), .lit (.int .u8 191)], .agg [.lit (.int .u8 128), .lit (.int .u8 143)], .agg [.lit (.int .u8 0), .lit (.int .u8 0)], .agg [.lit (.int .u8 0), .lit (.int .u8 0)], .agg [.lit (.int .u8 0), .lit (.int .u8 0)], .agg [.lit (.int .u8 0), .lit (.int .u8 0)], .agg [.lit (.int .u8 0), .lit (.int .u8 0)], .agg [.lit (.int .u8 0), .lit (.int .u8 0)], .agg [.lit (.int .u8 0), .lit (.int .u8 0)], .agg [.lit (.int .u8 0), .lit (.int .u8 0)], .agg [.lit (.int .u8 0), .lit (.int .u8 0)], .agg [.lit (.int .u8 0), .lit (.int .u8 0)], .agg [.lit (.int .u8 0), .lit (.int .u8 0)]]
def laid_strconv_ErrRange {H : Type} : DataW H := .iface "*errors.errorString" (.ptr (.agg [.lit (.string [118, 97, 108, 117, 101, 32, 111, 117, 116, 32, 111, 102, 32, 114, 97, 110, 103, 101])]))
def laid_strconv_ErrSyntax {H : Type} : DataW H := .iface "*errors.errorString" (.ptr (.agg [.lit (.string [105, 110, 118, 97, 108, 105, 100, 32, 115, 121, 110, 116, 97, 120])]))
/-- One of Go's own tables, pinned by name: the form's constant. -/
def laid_unicode_utf8_first : DataW Unit := Go.Pinned.utf8First

/-- 'caliperlaw13.PrintApart': WHATEVER THE INPUT: true; the input reads as it did. -/
def printApartSpec : ChangeSpec := { name := "printApart", fn := fun _ => fun
  | [d1, d2, d3] => { results := [.lit (.bool true)], args := [d1, d2, d3] }
  | _ => none }
def printApartRow : OpenClaim := { program := "ytdlkfnkmdlcekaagreatdoor", sum := "97cfa6c984919f519431eb827aeba5349975b384b180ba20b4e385eafab85b42", func := "caliper/caliperlaw13.PrintApart", spec := "printApart", inPlace := ["internal/abi.NoEscape", "internal/bytealg.MakeNoZero", "math/bits.Add64", "math/bits.Sub64"], unfollowed := true, recurses := true, named := ["caliper/print.words", "caliper/forms.forms", "caliper/value.numbers", "math/bits.divideError", "math/bits.overflowError", "internal/strconv.uint64pow10", "math/bits.deBruijn32tab", "math/bits.deBruijn64tab"], apart := false, laid := [("math/bits.deBruijn32tab", laid_math_bits_deBruijn32tab), ("math/bits.deBruijn64tab", laid_math_bits_deBruijn64tab), ("internal/strconv.uint64pow10", laid_internal_strconv_uint64pow10), ("caliper/forms.forms", laid_caliper_forms_forms), ("caliper/value.numbers", laid_caliper_value_numbers), ("caliper/print.words", laid_caliper_print_words)] }
def PrintApartSaid : Prop := printApartRow.holds Tryz.pinned (OpenSpec.ofChange printApartSpec)

/-- ITS FALSE NEIGHBOUR: 'it returns false'. Refute it at one input. -/
def printApartWrong : ChangeSpec := { name := "printApart", fn := fun _ => fun
  | [d1, d2, d3] => { results := [.lit (.bool false)], args := [d1, d2, d3] }
  | _ => none }
def PrintApartWrongFalsely : Prop := printApartRow.holds Tryz.pinned (OpenSpec.ofChange printApartWrong)

/-- 'caliperlaw13.PrintSigns': WHATEVER THE INPUT: true; the input reads as it did. -/
def printSignsSpec : ChangeSpec := { name := "printSigns", fn := fun _ => fun
  | [d1, d2] => { results := [.lit (.bool true)], args := [d1, d2] }
  | _ => none }
def printSignsRow : OpenClaim := { program := "ytdlkfnkmdlcekaagreatdoor", sum := "97cfa6c984919f519431eb827aeba5349975b384b180ba20b4e385eafab85b42", func := "caliper/caliperlaw13.PrintSigns", spec := "printSigns", inPlace := ["internal/abi.NoEscape", "internal/bytealg.MakeNoZero", "math/bits.Add64", "math/bits.Sub64"], unfollowed := true, recurses := true, named := ["caliper/print.words", "caliper/forms.forms", "caliper/value.numbers", "math/bits.divideError", "math/bits.overflowError", "internal/strconv.uint64pow10", "math/bits.deBruijn32tab", "math/bits.deBruijn64tab"], apart := false, laid := [("math/bits.deBruijn32tab", laid_math_bits_deBruijn32tab), ("math/bits.deBruijn64tab", laid_math_bits_deBruijn64tab), ("internal/strconv.uint64pow10", laid_internal_strconv_uint64pow10), ("caliper/forms.forms", laid_caliper_forms_forms), ("caliper/value.numbers", laid_caliper_value_numbers), ("caliper/print.words", laid_caliper_print_words)] }
def PrintSignsSaid : Prop := printSignsRow.holds Tryz.pinned (OpenSpec.ofChange printSignsSpec)

/-- ITS FALSE NEIGHBOUR: 'it returns false'. Refute it at one input. -/
def printSignsWrong : ChangeSpec := { name := "printSigns", fn := fun _ => fun
  | [d1, d2] => { results := [.lit (.bool false)], args := [d1, d2] }
  | _ => none }
def PrintSignsWrongFalsely : Prop := printSignsRow.holds Tryz.pinned (OpenSpec.ofChange printSignsWrong)

/-- 'caliperlaw10.ParseSigns': WHATEVER THE INPUT: true; the input reads as it did. -/
def parseSignsSpec : ChangeSpec := { name := "parseSigns", fn := fun _ => fun
  | [d1, d2, d3] => { results := [.lit (.bool true)], args := [d1, d2, d3] }
  | _ => none }
def parseSignsRow : OpenClaim := { program := "ytdlkfnkmdlcekaagreatdoor", sum := "97cfa6c984919f519431eb827aeba5349975b384b180ba20b4e385eafab85b42", func := "caliper/caliperlaw10.ParseSigns", spec := "parseSigns", inPlace := ["internal/bytealg.IndexByteString", "internal/bytealg.IndexString", "math/bits.Add64"], unfollowed := true, recurses := true, named := ["caliper/forms.forms", "unicode/utf8.first", "unicode/utf8.acceptRanges", "strconv.ErrSyntax", "strconv.ErrRange", "internal/strconv.uint64pow10", "math/bits.deBruijn32tab", "math/bits.deBruijn64tab", "caliper/value.numbers", "internal/bytealg.MaxLen"], apart := false, laid := [("math/bits.deBruijn32tab", laid_math_bits_deBruijn32tab), ("math/bits.deBruijn64tab", laid_math_bits_deBruijn64tab), ("internal/strconv.uint64pow10", laid_internal_strconv_uint64pow10), ("unicode/utf8.acceptRanges", laid_unicode_utf8_acceptRanges), ("strconv.ErrRange", laid_strconv_ErrRange), ("strconv.ErrSyntax", laid_strconv_ErrSyntax), ("caliper/forms.forms", laid_caliper_forms_forms), ("caliper/value.numbers", laid_caliper_value_numbers), ("unicode/utf8.first", laid_unicode_utf8_first)] }
def ParseSignsSaid : Prop := parseSignsRow.holds Tryz.pinned (OpenSpec.ofChange parseSignsSpec)

/-- ITS FALSE NEIGHBOUR: 'it returns false'. Refute it at one input. -/
def parseSignsWrong : ChangeSpec := { name := "parseSigns", fn := fun _ => fun
  | [d1, d2, d3] => { results := [.lit (.bool false)], args := [d1, d2, d3] }
  | _ => none }
def ParseSignsWrongFalsely : Prop := parseSignsRow.holds Tryz.pinned (OpenSpec.ofChange parseSignsWrong)

/-- 'caliperlaw10.ParseWords': WHATEVER THE INPUT: true; the input reads as it did. -/
def parseWordsSpec : ChangeSpec := { name := "parseWords", fn := fun _ => fun
  | [d1, d2, d3, d4] => { results := [.lit (.bool true)], args := [d1, d2, d3, d4] }
  | _ => none }
def parseWordsRow : OpenClaim := { program := "ytdlkfnkmdlcekaagreatdoor", sum := "97cfa6c984919f519431eb827aeba5349975b384b180ba20b4e385eafab85b42", func := "caliper/caliperlaw10.ParseWords", spec := "parseWords", inPlace := ["internal/bytealg.IndexByteString", "internal/bytealg.IndexString", "math/bits.Add64"], unfollowed := true, recurses := true, named := ["caliper/forms.forms", "unicode/utf8.first", "unicode/utf8.acceptRanges", "strconv.ErrSyntax", "strconv.ErrRange", "internal/strconv.uint64pow10", "math/bits.deBruijn32tab", "math/bits.deBruijn64tab", "caliper/value.numbers", "internal/bytealg.MaxLen"], apart := false, laid := [("math/bits.deBruijn32tab", laid_math_bits_deBruijn32tab), ("math/bits.deBruijn64tab", laid_math_bits_deBruijn64tab), ("internal/strconv.uint64pow10", laid_internal_strconv_uint64pow10), ("unicode/utf8.acceptRanges", laid_unicode_utf8_acceptRanges), ("strconv.ErrRange", laid_strconv_ErrRange), ("strconv.ErrSyntax", laid_strconv_ErrSyntax), ("caliper/forms.forms", laid_caliper_forms_forms), ("caliper/value.numbers", laid_caliper_value_numbers), ("unicode/utf8.first", laid_unicode_utf8_first)] }
def ParseWordsSaid : Prop := parseWordsRow.holds Tryz.pinned (OpenSpec.ofChange parseWordsSpec)

/-- ITS FALSE NEIGHBOUR: 'it returns false'. Refute it at one input. -/
def parseWordsWrong : ChangeSpec := { name := "parseWords", fn := fun _ => fun
  | [d1, d2, d3, d4] => { results := [.lit (.bool false)], args := [d1, d2, d3, d4] }
  | _ => none }
def ParseWordsWrongFalsely : Prop := parseWordsRow.holds Tryz.pinned (OpenSpec.ofChange parseWordsWrong)

/-- 'caliperlaw10.ParseFits': WHATEVER THE INPUT: true; the input reads as it did. -/
def parseFitsSpec : ChangeSpec := { name := "parseFits", fn := fun _ => fun
  | [d1, d2, d3] => { results := [.lit (.bool true)], args := [d1, d2, d3] }
  | _ => none }
def parseFitsRow : OpenClaim := { program := "ytdlkfnkmdlcekaagreatdoor", sum := "97cfa6c984919f519431eb827aeba5349975b384b180ba20b4e385eafab85b42", func := "caliper/caliperlaw10.ParseFits", spec := "parseFits", inPlace := ["internal/bytealg.IndexByteString", "internal/bytealg.IndexString", "math/bits.Add64"], unfollowed := true, recurses := true, named := ["caliper/forms.forms", "unicode/utf8.first", "unicode/utf8.acceptRanges", "strconv.ErrSyntax", "strconv.ErrRange", "internal/strconv.uint64pow10", "math/bits.deBruijn32tab", "math/bits.deBruijn64tab", "caliper/value.numbers", "internal/bytealg.MaxLen"], apart := false, laid := [("math/bits.deBruijn32tab", laid_math_bits_deBruijn32tab), ("math/bits.deBruijn64tab", laid_math_bits_deBruijn64tab), ("internal/strconv.uint64pow10", laid_internal_strconv_uint64pow10), ("unicode/utf8.acceptRanges", laid_unicode_utf8_acceptRanges), ("strconv.ErrRange", laid_strconv_ErrRange), ("strconv.ErrSyntax", laid_strconv_ErrSyntax), ("caliper/forms.forms", laid_caliper_forms_forms), ("caliper/value.numbers", laid_caliper_value_numbers), ("unicode/utf8.first", laid_unicode_utf8_first)] }
def ParseFitsSaid : Prop := parseFitsRow.holds Tryz.pinned (OpenSpec.ofChange parseFitsSpec)

/-- ITS FALSE NEIGHBOUR: 'it returns false'. Refute it at one input. -/
def parseFitsWrong : ChangeSpec := { name := "parseFits", fn := fun _ => fun
  | [d1, d2, d3] => { results := [.lit (.bool false)], args := [d1, d2, d3] }
  | _ => none }
def ParseFitsWrongFalsely : Prop := parseFitsRow.holds Tryz.pinned (OpenSpec.ofChange parseFitsWrong)

/-- 'caliperlaw10.ParseModes': WHATEVER THE INPUT: true; the input reads as it did. -/
def parseModesSpec : ChangeSpec := { name := "parseModes", fn := fun _ => fun
  | [d1, d2] => { results := [.lit (.bool true)], args := [d1, d2] }
  | _ => none }
def parseModesRow : OpenClaim := { program := "ytdlkfnkmdlcekaagreatdoor", sum := "97cfa6c984919f519431eb827aeba5349975b384b180ba20b4e385eafab85b42", func := "caliper/caliperlaw10.ParseModes", spec := "parseModes", inPlace := ["internal/bytealg.IndexByteString", "internal/bytealg.IndexString", "math/bits.Add64"], unfollowed := true, recurses := true, named := ["caliper/forms.forms", "unicode/utf8.first", "unicode/utf8.acceptRanges", "strconv.ErrSyntax", "strconv.ErrRange", "internal/strconv.uint64pow10", "math/bits.deBruijn32tab", "math/bits.deBruijn64tab", "caliper/value.numbers", "internal/bytealg.MaxLen"], apart := false, laid := [("math/bits.deBruijn32tab", laid_math_bits_deBruijn32tab), ("math/bits.deBruijn64tab", laid_math_bits_deBruijn64tab), ("internal/strconv.uint64pow10", laid_internal_strconv_uint64pow10), ("unicode/utf8.acceptRanges", laid_unicode_utf8_acceptRanges), ("strconv.ErrRange", laid_strconv_ErrRange), ("strconv.ErrSyntax", laid_strconv_ErrSyntax), ("caliper/forms.forms", laid_caliper_forms_forms), ("caliper/value.numbers", laid_caliper_value_numbers), ("unicode/utf8.first", laid_unicode_utf8_first)] }
def ParseModesSaid : Prop := parseModesRow.holds Tryz.pinned (OpenSpec.ofChange parseModesSpec)

/-- ITS FALSE NEIGHBOUR: 'it returns false'. Refute it at one input. -/
def parseModesWrong : ChangeSpec := { name := "parseModes", fn := fun _ => fun
  | [d1, d2] => { results := [.lit (.bool false)], args := [d1, d2] }
  | _ => none }
def ParseModesWrongFalsely : Prop := parseModesRow.holds Tryz.pinned (OpenSpec.ofChange parseModesWrong)

/-- 'caliperlaw10.ParseRounds': WHATEVER THE INPUT: true; the input reads as it did. -/
def parseRoundsSpec : ChangeSpec := { name := "parseRounds", fn := fun _ => fun
  | [d1, d2, d3, d4, d5] => { results := [.lit (.bool true)], args := [d1, d2, d3, d4, d5] }
  | _ => none }
def parseRoundsRow : OpenClaim := { program := "ytdlkfnkmdlcekaagreatdoor", sum := "97cfa6c984919f519431eb827aeba5349975b384b180ba20b4e385eafab85b42", func := "caliper/caliperlaw10.ParseRounds", spec := "parseRounds", inPlace := ["internal/bytealg.IndexByteString", "internal/bytealg.IndexString", "math/bits.Add64", "internal/abi.NoEscape", "internal/bytealg.MakeNoZero"], unfollowed := true, recurses := true, named := ["caliper/forms.forms", "unicode/utf8.first", "unicode/utf8.acceptRanges", "strconv.ErrSyntax", "strconv.ErrRange", "internal/strconv.uint64pow10", "math/bits.deBruijn32tab", "math/bits.deBruijn64tab", "caliper/value.numbers", "math/bits.divideError", "math/bits.overflowError", "internal/bytealg.MaxLen"], apart := false, laid := [("math/bits.deBruijn32tab", laid_math_bits_deBruijn32tab), ("math/bits.deBruijn64tab", laid_math_bits_deBruijn64tab), ("internal/strconv.uint64pow10", laid_internal_strconv_uint64pow10), ("unicode/utf8.acceptRanges", laid_unicode_utf8_acceptRanges), ("strconv.ErrRange", laid_strconv_ErrRange), ("strconv.ErrSyntax", laid_strconv_ErrSyntax), ("caliper/forms.forms", laid_caliper_forms_forms), ("caliper/value.numbers", laid_caliper_value_numbers), ("unicode/utf8.first", laid_unicode_utf8_first)] }
def ParseRoundsSaid : Prop := parseRoundsRow.holds Tryz.pinned (OpenSpec.ofChange parseRoundsSpec)

/-- ITS FALSE NEIGHBOUR: 'it returns false'. Refute it at one input. -/
def parseRoundsWrong : ChangeSpec := { name := "parseRounds", fn := fun _ => fun
  | [d1, d2, d3, d4, d5] => { results := [.lit (.bool false)], args := [d1, d2, d3, d4, d5] }
  | _ => none }
def ParseRoundsWrongFalsely : Prop := parseRoundsRow.holds Tryz.pinned (OpenSpec.ofChange parseRoundsWrong)

/-- 'caliperlaw10.ParseHas': WHATEVER THE INPUT: true; the input reads as it did. -/
def parseHasSpec : ChangeSpec := { name := "parseHas", fn := fun _ => fun
  | [d1, d2, d3, d4, d5] => { results := [.lit (.bool true)], args := [d1, d2, d3, d4, d5] }
  | _ => none }
def parseHasRow : OpenClaim := { program := "ytdlkfnkmdlcekaagreatdoor", sum := "97cfa6c984919f519431eb827aeba5349975b384b180ba20b4e385eafab85b42", func := "caliper/caliperlaw10.ParseHas", spec := "parseHas", inPlace := ["internal/bytealg.IndexByteString", "internal/bytealg.IndexString", "math/bits.Add64", "internal/abi.NoEscape", "internal/bytealg.MakeNoZero"], unfollowed := true, recurses := true, named := ["caliper/forms.forms", "unicode/utf8.first", "unicode/utf8.acceptRanges", "strconv.ErrSyntax", "strconv.ErrRange", "internal/strconv.uint64pow10", "math/bits.deBruijn32tab", "math/bits.deBruijn64tab", "caliper/value.numbers", "math/bits.divideError", "math/bits.overflowError", "internal/bytealg.MaxLen"], apart := false, laid := [("math/bits.deBruijn32tab", laid_math_bits_deBruijn32tab), ("math/bits.deBruijn64tab", laid_math_bits_deBruijn64tab), ("internal/strconv.uint64pow10", laid_internal_strconv_uint64pow10), ("unicode/utf8.acceptRanges", laid_unicode_utf8_acceptRanges), ("strconv.ErrRange", laid_strconv_ErrRange), ("strconv.ErrSyntax", laid_strconv_ErrSyntax), ("caliper/forms.forms", laid_caliper_forms_forms), ("caliper/value.numbers", laid_caliper_value_numbers), ("unicode/utf8.first", laid_unicode_utf8_first)] }
def ParseHasSaid : Prop := parseHasRow.holds Tryz.pinned (OpenSpec.ofChange parseHasSpec)

/-- ITS FALSE NEIGHBOUR: 'it returns false'. Refute it at one input. -/
def parseHasWrong : ChangeSpec := { name := "parseHas", fn := fun _ => fun
  | [d1, d2, d3, d4, d5] => { results := [.lit (.bool false)], args := [d1, d2, d3, d4, d5] }
  | _ => none }
def ParseHasWrongFalsely : Prop := parseHasRow.holds Tryz.pinned (OpenSpec.ofChange parseHasWrong)

/-- 'caliperlaw13.PrintDigits': WHATEVER THE INPUT: true; the input reads as it did. -/
def printDigitsSpec : ChangeSpec := { name := "printDigits", fn := fun _ => fun
  | [d1, d2] => { results := [.lit (.bool true)], args := [d1, d2] }
  | _ => none }
def printDigitsRow : OpenClaim := { program := "ytdlkfnkmdlcekaagreatdoor", sum := "97cfa6c984919f519431eb827aeba5349975b384b180ba20b4e385eafab85b42", func := "caliper/caliperlaw13.PrintDigits", spec := "printDigits", inPlace := ["internal/abi.NoEscape", "internal/bytealg.MakeNoZero", "math/bits.Add64", "math/bits.Sub64", "internal/bytealg.IndexByteString", "internal/bytealg.IndexString"], unfollowed := true, recurses := true, named := ["caliper/print.words", "caliper/forms.forms", "caliper/value.numbers", "math/bits.divideError", "math/bits.overflowError", "internal/strconv.uint64pow10", "math/bits.deBruijn32tab", "math/bits.deBruijn64tab", "internal/bytealg.MaxLen", "strconv.ErrSyntax", "strconv.ErrRange", "unicode/utf8.first", "unicode/utf8.acceptRanges"], apart := false, laid := [("math/bits.deBruijn32tab", laid_math_bits_deBruijn32tab), ("math/bits.deBruijn64tab", laid_math_bits_deBruijn64tab), ("internal/strconv.uint64pow10", laid_internal_strconv_uint64pow10), ("unicode/utf8.acceptRanges", laid_unicode_utf8_acceptRanges), ("strconv.ErrRange", laid_strconv_ErrRange), ("strconv.ErrSyntax", laid_strconv_ErrSyntax), ("caliper/forms.forms", laid_caliper_forms_forms), ("caliper/value.numbers", laid_caliper_value_numbers), ("caliper/print.words", laid_caliper_print_words), ("unicode/utf8.first", laid_unicode_utf8_first)] }
def PrintDigitsSaid : Prop := printDigitsRow.holds Tryz.pinned (OpenSpec.ofChange printDigitsSpec)

/-- ITS FALSE NEIGHBOUR: 'it returns false'. Refute it at one input. -/
def printDigitsWrong : ChangeSpec := { name := "printDigits", fn := fun _ => fun
  | [d1, d2] => { results := [.lit (.bool false)], args := [d1, d2] }
  | _ => none }
def PrintDigitsWrongFalsely : Prop := printDigitsRow.holds Tryz.pinned (OpenSpec.ofChange printDigitsWrong)

/-- 'caliperlaw13.PrintParsed': WHATEVER THE INPUT: true; the input reads as it did. -/
def printParsedSpec : ChangeSpec := { name := "printParsed", fn := fun _ => fun
  | [d1, d2] => { results := [.lit (.bool true)], args := [d1, d2] }
  | _ => none }
def printParsedRow : OpenClaim := { program := "ytdlkfnkmdlcekaagreatdoor", sum := "97cfa6c984919f519431eb827aeba5349975b384b180ba20b4e385eafab85b42", func := "caliper/caliperlaw13.PrintParsed", spec := "printParsed", inPlace := ["internal/abi.NoEscape", "internal/bytealg.MakeNoZero", "math/bits.Add64", "math/bits.Sub64", "internal/bytealg.IndexByteString", "internal/bytealg.IndexString"], unfollowed := true, recurses := true, named := ["caliper/print.words", "caliper/forms.forms", "caliper/value.numbers", "math/bits.divideError", "math/bits.overflowError", "internal/strconv.uint64pow10", "math/bits.deBruijn32tab", "math/bits.deBruijn64tab", "unicode/utf8.first", "unicode/utf8.acceptRanges", "strconv.ErrSyntax", "strconv.ErrRange", "internal/bytealg.MaxLen"], apart := false, laid := [("math/bits.deBruijn32tab", laid_math_bits_deBruijn32tab), ("math/bits.deBruijn64tab", laid_math_bits_deBruijn64tab), ("internal/strconv.uint64pow10", laid_internal_strconv_uint64pow10), ("unicode/utf8.acceptRanges", laid_unicode_utf8_acceptRanges), ("strconv.ErrRange", laid_strconv_ErrRange), ("strconv.ErrSyntax", laid_strconv_ErrSyntax), ("caliper/forms.forms", laid_caliper_forms_forms), ("caliper/value.numbers", laid_caliper_value_numbers), ("caliper/print.words", laid_caliper_print_words), ("unicode/utf8.first", laid_unicode_utf8_first)] }
def PrintParsedSaid : Prop := printParsedRow.holds Tryz.pinned (OpenSpec.ofChange printParsedSpec)

/-- ITS FALSE NEIGHBOUR: 'it returns false'. Refute it at one input. -/
def printParsedWrong : ChangeSpec := { name := "printParsed", fn := fun _ => fun
  | [d1, d2] => { results := [.lit (.bool false)], args := [d1, d2] }
  | _ => none }
def PrintParsedWrongFalsely : Prop := printParsedRow.holds Tryz.pinned (OpenSpec.ofChange printParsedWrong)

/- THE SECOND FORM. 'bulk': how many values and letters a reading holds, each counted each time it is reached (what is shared counts as often as it is met; a slice's spare places count too). A statement '..UptoSaid' is the law's where the arguments, and the package variables that the reading takes, are together of bulk at most 1048576: NARROWER than '..Said'. Prove '..Said' where nothing that the law and all that it calls make is longer than what came in: it says more and counts as full. Else prove '..UptoSaid'. A law counts once. -/
mutual
def uptoBulk {H : Type} : DataW H → Nat
  | .lit (.string bytes) => bytes.length + 1
  | .lit _ => 1
  | .nil => 1
  | .ptr d => uptoBulk d + 1
  | .slice elems spare => uptoBulkAll elems + uptoBulkAll spare + 1
  | .agg parts => uptoBulkAll parts + 1
  | .iface _ d => uptoBulk d + 1
  | .map entries => uptoBulkEntries entries + 1
  | .held _ => 1
def uptoBulkAll {H : Type} : List (DataW H) → Nat
  | [] => 0
  | d :: r => uptoBulk d + uptoBulkAll r
def uptoBulkEntries {H : Type} : List (Lit × DataW H) → Nat
  | [] => 0
  | x :: r => uptoBulkEntry x + uptoBulkEntries r
def uptoBulkEntry {H : Type} : Lit × DataW H → Nat
  | (.string bytes, d) => bytes.length + uptoBulk d + 1
  | (_, d) => uptoBulk d + 1
 end
def uptoSmall : (H : Type) → List (DataW H) → Bool := fun _ ds => decide (uptoBulkAll ds ≤ 1048576)
def OpenSpec.upto (s : _root_.Go.ChangeSpec) : _root_.Go.OpenSpec := { _root_.Go.OpenSpec.ofChange s with cond := some uptoSmall }

/-- 'caliperlaw13.PrintApart', WHERE WHAT IT READS IS OF BULK AT MOST 1048576: true; the input reads as it did. -/
def printApartUptoRow : OpenClaim := { program := "ytdlkfnkmdlcekaagreatdoor", sum := "97cfa6c984919f519431eb827aeba5349975b384b180ba20b4e385eafab85b42", func := "caliper/caliperlaw13.PrintApart", spec := "printApart", inPlace := ["internal/abi.NoEscape", "internal/bytealg.MakeNoZero", "math/bits.Add64", "math/bits.Sub64"], unfollowed := true, recurses := true, named := ["caliper/print.words", "caliper/forms.forms", "caliper/value.numbers", "math/bits.divideError", "math/bits.overflowError", "internal/strconv.uint64pow10", "math/bits.deBruijn32tab", "math/bits.deBruijn64tab"], apart := false, laid := [("math/bits.deBruijn32tab", laid_math_bits_deBruijn32tab), ("math/bits.deBruijn64tab", laid_math_bits_deBruijn64tab), ("internal/strconv.uint64pow10", laid_internal_strconv_uint64pow10), ("caliper/forms.forms", laid_caliper_forms_forms), ("caliper/value.numbers", laid_caliper_value_numbers), ("caliper/print.words", laid_caliper_print_words)], narrowed := true }
def PrintApartUptoSaid : Prop := printApartUptoRow.holds Tryz.pinned (OpenSpec.upto printApartSpec)

/-- 'caliperlaw13.PrintSigns', WHERE WHAT IT READS IS OF BULK AT MOST 1048576: true; the input reads as it did. -/
def printSignsUptoRow : OpenClaim := { program := "ytdlkfnkmdlcekaagreatdoor", sum := "97cfa6c984919f519431eb827aeba5349975b384b180ba20b4e385eafab85b42", func := "caliper/caliperlaw13.PrintSigns", spec := "printSigns", inPlace := ["internal/abi.NoEscape", "internal/bytealg.MakeNoZero", "math/bits.Add64", "math/bits.Sub64"], unfollowed := true, recurses := true, named := ["caliper/print.words", "caliper/forms.forms", "caliper/value.numbers", "math/bits.divideError", "math/bits.overflowError", "internal/strconv.uint64pow10", "math/bits.deBruijn32tab", "math/bits.deBruijn64tab"], apart := false, laid := [("math/bits.deBruijn32tab", laid_math_bits_deBruijn32tab), ("math/bits.deBruijn64tab", laid_math_bits_deBruijn64tab), ("internal/strconv.uint64pow10", laid_internal_strconv_uint64pow10), ("caliper/forms.forms", laid_caliper_forms_forms), ("caliper/value.numbers", laid_caliper_value_numbers), ("caliper/print.words", laid_caliper_print_words)], narrowed := true }
def PrintSignsUptoSaid : Prop := printSignsUptoRow.holds Tryz.pinned (OpenSpec.upto printSignsSpec)

/-- 'caliperlaw10.ParseSigns', WHERE WHAT IT READS IS OF BULK AT MOST 1048576: true; the input reads as it did. -/
def parseSignsUptoRow : OpenClaim := { program := "ytdlkfnkmdlcekaagreatdoor", sum := "97cfa6c984919f519431eb827aeba5349975b384b180ba20b4e385eafab85b42", func := "caliper/caliperlaw10.ParseSigns", spec := "parseSigns", inPlace := ["internal/bytealg.IndexByteString", "internal/bytealg.IndexString", "math/bits.Add64"], unfollowed := true, recurses := true, named := ["caliper/forms.forms", "unicode/utf8.first", "unicode/utf8.acceptRanges", "strconv.ErrSyntax", "strconv.ErrRange", "internal/strconv.uint64pow10", "math/bits.deBruijn32tab", "math/bits.deBruijn64tab", "caliper/value.numbers", "internal/bytealg.MaxLen"], apart := false, laid := [("math/bits.deBruijn32tab", laid_math_bits_deBruijn32tab), ("math/bits.deBruijn64tab", laid_math_bits_deBruijn64tab), ("internal/strconv.uint64pow10", laid_internal_strconv_uint64pow10), ("unicode/utf8.acceptRanges", laid_unicode_utf8_acceptRanges), ("strconv.ErrRange", laid_strconv_ErrRange), ("strconv.ErrSyntax", laid_strconv_ErrSyntax), ("caliper/forms.forms", laid_caliper_forms_forms), ("caliper/value.numbers", laid_caliper_value_numbers), ("unicode/utf8.first", laid_unicode_utf8_first)], narrowed := true }
def ParseSignsUptoSaid : Prop := parseSignsUptoRow.holds Tryz.pinned (OpenSpec.upto parseSignsSpec)

/-- 'caliperlaw10.ParseWords', WHERE WHAT IT READS IS OF BULK AT MOST 1048576: true; the input reads as it did. -/
def parseWordsUptoRow : OpenClaim := { program := "ytdlkfnkmdlcekaagreatdoor", sum := "97cfa6c984919f519431eb827aeba5349975b384b180ba20b4e385eafab85b42", func := "caliper/caliperlaw10.ParseWords", spec := "parseWords", inPlace := ["internal/bytealg.IndexByteString", "internal/bytealg.IndexString", "math/bits.Add64"], unfollowed := true, recurses := true, named := ["caliper/forms.forms", "unicode/utf8.first", "unicode/utf8.acceptRanges", "strconv.ErrSyntax", "strconv.ErrRange", "internal/strconv.uint64pow10", "math/bits.deBruijn32tab", "math/bits.deBruijn64tab", "caliper/value.numbers", "internal/bytealg.MaxLen"], apart := false, laid := [("math/bits.deBruijn32tab", laid_math_bits_deBruijn32tab), ("math/bits.deBruijn64tab", laid_math_bits_deBruijn64tab), ("internal/strconv.uint64pow10", laid_internal_strconv_uint64pow10), ("unicode/utf8.acceptRanges", laid_unicode_utf8_acceptRanges), ("strconv.ErrRange", laid_strconv_ErrRange), ("strconv.ErrSyntax", laid_strconv_ErrSyntax), ("caliper/forms.forms", laid_caliper_forms_forms), ("caliper/value.numbers", laid_caliper_value_numbers), ("unicode/utf8.first", laid_unicode_utf8_first)], narrowed := true }
def ParseWordsUptoSaid : Prop := parseWordsUptoRow.holds Tryz.pinned (OpenSpec.upto parseWordsSpec)

/-- 'caliperlaw10.ParseFits', WHERE WHAT IT READS IS OF BULK AT MOST 1048576: true; the input reads as it did. -/
def parseFitsUptoRow : OpenClaim := { program := "ytdlkfnkmdlcekaagreatdoor", sum := "97cfa6c984919f519431eb827aeba5349975b384b180ba20b4e385eafab85b42", func := "caliper/caliperlaw10.ParseFits", spec := "parseFits", inPlace := ["internal/bytealg.IndexByteString", "internal/bytealg.IndexString", "math/bits.Add64"], unfollowed := true, recurses := true, named := ["caliper/forms.forms", "unicode/utf8.first", "unicode/utf8.acceptRanges", "strconv.ErrSyntax", "strconv.ErrRange", "internal/strconv.uint64pow10", "math/bits.deBruijn32tab", "math/bits.deBruijn64tab", "caliper/value.numbers", "internal/bytealg.MaxLen"], apart := false, laid := [("math/bits.deBruijn32tab", laid_math_bits_deBruijn32tab), ("math/bits.deBruijn64tab", laid_math_bits_deBruijn64tab), ("internal/strconv.uint64pow10", laid_internal_strconv_uint64pow10), ("unicode/utf8.acceptRanges", laid_unicode_utf8_acceptRanges), ("strconv.ErrRange", laid_strconv_ErrRange), ("strconv.ErrSyntax", laid_strconv_ErrSyntax), ("caliper/forms.forms", laid_caliper_forms_forms), ("caliper/value.numbers", laid_caliper_value_numbers), ("unicode/utf8.first", laid_unicode_utf8_first)], narrowed := true }
def ParseFitsUptoSaid : Prop := parseFitsUptoRow.holds Tryz.pinned (OpenSpec.upto parseFitsSpec)

/-- 'caliperlaw10.ParseModes', WHERE WHAT IT READS IS OF BULK AT MOST 1048576: true; the input reads as it did. -/
def parseModesUptoRow : OpenClaim := { program := "ytdlkfnkmdlcekaagreatdoor", sum := "97cfa6c984919f519431eb827aeba5349975b384b180ba20b4e385eafab85b42", func := "caliper/caliperlaw10.ParseModes", spec := "parseModes", inPlace := ["internal/bytealg.IndexByteString", "internal/bytealg.IndexString", "math/bits.Add64"], unfollowed := true, recurses := true, named := ["caliper/forms.forms", "unicode/utf8.first", "unicode/utf8.acceptRanges", "strconv.ErrSyntax", "strconv.ErrRange", "internal/strconv.uint64pow10", "math/bits.deBruijn32tab", "math/bits.deBruijn64tab", "caliper/value.numbers", "internal/bytealg.MaxLen"], apart := false, laid := [("math/bits.deBruijn32tab", laid_math_bits_deBruijn32tab), ("math/bits.deBruijn64tab", laid_math_bits_deBruijn64tab), ("internal/strconv.uint64pow10", laid_internal_strconv_uint64pow10), ("unicode/utf8.acceptRanges", laid_unicode_utf8_acceptRanges), ("strconv.ErrRange", laid_strconv_ErrRange), ("strconv.ErrSyntax", laid_strconv_ErrSyntax), ("caliper/forms.forms", laid_caliper_forms_forms), ("caliper/value.numbers", laid_caliper_value_numbers), ("unicode/utf8.first", laid_unicode_utf8_first)], narrowed := true }
def ParseModesUptoSaid : Prop := parseModesUptoRow.holds Tryz.pinned (OpenSpec.upto parseModesSpec)

/-- 'caliperlaw10.ParseRounds', WHERE WHAT IT READS IS OF BULK AT MOST 1048576: true; the input reads as it did. -/
def parseRoundsUptoRow : OpenClaim := { program := "ytdlkfnkmdlcekaagreatdoor", sum := "97cfa6c984919f519431eb827aeba5349975b384b180ba20b4e385eafab85b42", func := "caliper/caliperlaw10.ParseRounds", spec := "parseRounds", inPlace := ["internal/bytealg.IndexByteString", "internal/bytealg.IndexString", "math/bits.Add64", "internal/abi.NoEscape", "internal/bytealg.MakeNoZero"], unfollowed := true, recurses := true, named := ["caliper/forms.forms", "unicode/utf8.first", "unicode/utf8.acceptRanges", "strconv.ErrSyntax", "strconv.ErrRange", "internal/strconv.uint64pow10", "math/bits.deBruijn32tab", "math/bits.deBruijn64tab", "caliper/value.numbers", "math/bits.divideError", "math/bits.overflowError", "internal/bytealg.MaxLen"], apart := false, laid := [("math/bits.deBruijn32tab", laid_math_bits_deBruijn32tab), ("math/bits.deBruijn64tab", laid_math_bits_deBruijn64tab), ("internal/strconv.uint64pow10", laid_internal_strconv_uint64pow10), ("unicode/utf8.acceptRanges", laid_unicode_utf8_acceptRanges), ("strconv.ErrRange", laid_strconv_ErrRange), ("strconv.ErrSyntax", laid_strconv_ErrSyntax), ("caliper/forms.forms", laid_caliper_forms_forms), ("caliper/value.numbers", laid_caliper_value_numbers), ("unicode/utf8.first", laid_unicode_utf8_first)], narrowed := true }
def ParseRoundsUptoSaid : Prop := parseRoundsUptoRow.holds Tryz.pinned (OpenSpec.upto parseRoundsSpec)

/-- 'caliperlaw10.ParseHas', WHERE WHAT IT READS IS OF BULK AT MOST 1048576: true; the input reads as it did. -/
def parseHasUptoRow : OpenClaim := { program := "ytdlkfnkmdlcekaagreatdoor", sum := "97cfa6c984919f519431eb827aeba5349975b384b180ba20b4e385eafab85b42", func := "caliper/caliperlaw10.ParseHas", spec := "parseHas", inPlace := ["internal/bytealg.IndexByteString", "internal/bytealg.IndexString", "math/bits.Add64", "internal/abi.NoEscape", "internal/bytealg.MakeNoZero"], unfollowed := true, recurses := true, named := ["caliper/forms.forms", "unicode/utf8.first", "unicode/utf8.acceptRanges", "strconv.ErrSyntax", "strconv.ErrRange", "internal/strconv.uint64pow10", "math/bits.deBruijn32tab", "math/bits.deBruijn64tab", "caliper/value.numbers", "math/bits.divideError", "math/bits.overflowError", "internal/bytealg.MaxLen"], apart := false, laid := [("math/bits.deBruijn32tab", laid_math_bits_deBruijn32tab), ("math/bits.deBruijn64tab", laid_math_bits_deBruijn64tab), ("internal/strconv.uint64pow10", laid_internal_strconv_uint64pow10), ("unicode/utf8.acceptRanges", laid_unicode_utf8_acceptRanges), ("strconv.ErrRange", laid_strconv_ErrRange), ("strconv.ErrSyntax", laid_strconv_ErrSyntax), ("caliper/forms.forms", laid_caliper_forms_forms), ("caliper/value.numbers", laid_caliper_value_numbers), ("unicode/utf8.first", laid_unicode_utf8_first)], narrowed := true }
def ParseHasUptoSaid : Prop := parseHasUptoRow.holds Tryz.pinned (OpenSpec.upto parseHasSpec)

/-- 'caliperlaw13.PrintDigits', WHERE WHAT IT READS IS OF BULK AT MOST 1048576: true; the input reads as it did. -/
def printDigitsUptoRow : OpenClaim := { program := "ytdlkfnkmdlcekaagreatdoor", sum := "97cfa6c984919f519431eb827aeba5349975b384b180ba20b4e385eafab85b42", func := "caliper/caliperlaw13.PrintDigits", spec := "printDigits", inPlace := ["internal/abi.NoEscape", "internal/bytealg.MakeNoZero", "math/bits.Add64", "math/bits.Sub64", "internal/bytealg.IndexByteString", "internal/bytealg.IndexString"], unfollowed := true, recurses := true, named := ["caliper/print.words", "caliper/forms.forms", "caliper/value.numbers", "math/bits.divideError", "math/bits.overflowError", "internal/strconv.uint64pow10", "math/bits.deBruijn32tab", "math/bits.deBruijn64tab", "internal/bytealg.MaxLen", "strconv.ErrSyntax", "strconv.ErrRange", "unicode/utf8.first", "unicode/utf8.acceptRanges"], apart := false, laid := [("math/bits.deBruijn32tab", laid_math_bits_deBruijn32tab), ("math/bits.deBruijn64tab", laid_math_bits_deBruijn64tab), ("internal/strconv.uint64pow10", laid_internal_strconv_uint64pow10), ("unicode/utf8.acceptRanges", laid_unicode_utf8_acceptRanges), ("strconv.ErrRange", laid_strconv_ErrRange), ("strconv.ErrSyntax", laid_strconv_ErrSyntax), ("caliper/forms.forms", laid_caliper_forms_forms), ("caliper/value.numbers", laid_caliper_value_numbers), ("caliper/print.words", laid_caliper_print_words), ("unicode/utf8.first", laid_unicode_utf8_first)], narrowed := true }
def PrintDigitsUptoSaid : Prop := printDigitsUptoRow.holds Tryz.pinned (OpenSpec.upto printDigitsSpec)

/-- 'caliperlaw13.PrintParsed', WHERE WHAT IT READS IS OF BULK AT MOST 1048576: true; the input reads as it did. -/
def printParsedUptoRow : OpenClaim := { program := "ytdlkfnkmdlcekaagreatdoor", sum := "97cfa6c984919f519431eb827aeba5349975b384b180ba20b4e385eafab85b42", func := "caliper/caliperlaw13.PrintParsed", spec := "printParsed", inPlace := ["internal/abi.NoEscape", "internal/bytealg.MakeNoZero", "math/bits.Add64", "math/bits.Sub64", "internal/bytealg.IndexByteString", "internal/bytealg.IndexString"], unfollowed := true, recurses := true, named := ["caliper/print.words", "caliper/forms.forms", "caliper/value.numbers", "math/bits.divideError", "math/bits.overflowError", "internal/strconv.uint64pow10", "math/bits.deBruijn32tab", "math/bits.deBruijn64tab", "unicode/utf8.first", "unicode/utf8.acceptRanges", "strconv.ErrSyntax", "strconv.ErrRange", "internal/bytealg.MaxLen"], apart := false, laid := [("math/bits.deBruijn32tab", laid_math_bits_deBruijn32tab), ("math/bits.deBruijn64tab", laid_math_bits_deBruijn64tab), ("internal/strconv.uint64pow10", laid_internal_strconv_uint64pow10), ("unicode/utf8.acceptRanges", laid_unicode_utf8_acceptRanges), ("strconv.ErrRange", laid_strconv_ErrRange), ("strconv.ErrSyntax", laid_strconv_ErrSyntax), ("caliper/forms.forms", laid_caliper_forms_forms), ("caliper/value.numbers", laid_caliper_value_numbers), ("caliper/print.words", laid_caliper_print_words), ("unicode/utf8.first", laid_unicode_utf8_first)], narrowed := true }
def PrintParsedUptoSaid : Prop := printParsedUptoRow.holds Tryz.pinned (OpenSpec.upto printParsedSpec)

end Rows
end Go.Proofs.YtdlkfnkmdlcekaaGreatDoor
