/-
  NARROWER THAN 'FOR EVERY INPUT', by the rows' own cells (each row's printed sentence says how): CodeChecks: laid · CodePrints: laid · CodeParses: laid · CodeThereAndBack: laid · TermReads: laid · TermElaborates: laid · TermNamed: laid · TermJoins: laid.
  DERIVED. THE GIVEN ROWS OF THIS SEAT. 8 by the template 'for every input the law returns true; each argument reads behind the call as it read before'; 0 by the template 'total and deterministic' (their statements: YtnemkecffmdlnaaGreatDoorTotals.lean).
  GIVEN WITH THE SEED: the statements are not yours to turn. If you find one false, say at which input.
  Laid BY PROGRAM, IN A SANDBOX (cutbox-rows.mjs): the forced cells as the released guide's own fill.sh prints them over the translation fccee3a86eee44e0… (all of the seat's roots in one cut). By AI agents, Wed Nov 11 2026. No macro, syntax, notation, axiom, sorry.
-/
import Derived.Test.YtnemkecffmdlnaaGreatDoorChecked
import GoSem.PinnedTables
import GoSem.Claim
import GoSem.ClaimJoined
import GoSem.ClaimMapViews
import Derived.JoinedTies
import Derived.KernelRfl
namespace Go.Proofs.YtnemkecffmdlnaaGreatDoor
/- THE CELL 'sum', in the pinned program and in every row, IS THE sha256 OF THE DUMP (.gsa) THAT YtnemkecffmdlnaaGreatDoorProg.lean LOADS. Nothing in Lean hashes anything: it is a label: what it is worth is what the hold of that sum in a sandbox is worth. -/
noncomputable def Tryz.pinned : Pinned := { name := "ytnemkecffmdlnaagreatdoor", sum := "fccee3a86eee44e0ea784637944b63b8b1824c756e169f74846be1ca875fce34", checked := Tryz.checked }
namespace Rows
def none {H : Type} : Left H := { results := [], args := [] }

/- WHAT THE LISTED PACKAGE-LEVEL VARIABLES READ AS WHEN THE CALL BEGINS. Each datum BY PROGRAM (the guide's laid-datum.mjs) off the statement by which the dump's own 'gosem.cut.vars' lays the variable. In a bare row this is a premise. The card (YtnemkecffmdlnaaGreatDoorCards.lean) ties it to the program's text. -/
def laid_math_bits_deBruijn32tab {H : Type} : DataW H := .agg [.lit (.int .u8 0), .lit (.int .u8 1), .lit (.int .u8 28), .lit (.int .u8 2), .lit (.int .u8 29), .lit (.int .u8 14), .lit (.int .u8 24), .lit (.int .u8 3), .lit (.int .u8 30), .lit (.int .u8 22), .lit (.int .u8 20), .lit (.int .u8 15), .lit (.int .u8 25), .lit (.int .u8 17), .lit (.int .u8 4), .lit (.int .u8 8), .lit (.int .u8 31), .lit (.int .u8 27), .lit (.int .u8 13), .lit (.int .u8 23), .lit (.int .u8 21), .lit (.int .u8 19), .lit (.int .u8 16), .lit (.int .u8 7), .lit (.int .u8 26), .lit (.int .u8 12), .lit (.int .u8 18), .lit (.int .u8 6), .lit (.int .u8 11), .lit (.int .u8 5), .lit (.int .u8 10), .lit (.int .u8 9)]
def laid_math_bits_deBruijn64tab {H : Type} : DataW H := .agg [.lit (.int .u8 0), .lit (.int .u8 1), .lit (.int .u8 56), .lit (.int .u8 2), .lit (.int .u8 57), .lit (.int .u8 49), .lit (.int .u8 28), .lit (.int .u8 3), .lit (.int .u8 61), .lit (.int .u8 58), .lit (.int .u8 42), .lit (.int .u8 50), .lit (.int .u8 38), .lit (.int .u8 29), .lit (.int .u8 17), .lit (.int .u8 4), .lit (.int .u8 62), .lit (.int .u8 47), .lit (.int .u8 59), .lit (.int .u8 36), .lit (.int .u8 45), .lit (.int .u8 43), .lit (.int .u8 51), .lit (.int .u8 22), .lit (.int .u8 53), .lit (.int .u8 39), .lit (.int .u8 33), .lit (.int .u8 30), .lit (.int .u8 24), .lit (.int .u8 18), .lit (.int .u8 12), .lit (.int .u8 5), .lit (.int .u8 63), .lit (.int .u8 55), .lit (.int .u8 48), .lit (.int .u8 27), .lit (.int .u8 60), .lit (.int .u8 41), .lit (.int .u8 37), .lit (.int .u8 16), .lit (.int .u8 46), .lit (.int .u8 35), .lit (.int .u8 44), .lit (.int .u8 21), .lit (.int .u8 52), .lit (.int .u8 32), .lit (.int .u8 23), .lit (.int .u8 11), .lit (.int .u8 54), .lit (.int .u8 26), .lit (.int .u8 40), .lit (.int .u8 15), .lit (.int .u8 34), .lit (.int .u8 20), .lit (.int .u8 31), .lit (.int .u8 10), .lit (.int .u8 25), .lit (.int .u8 14), .lit (.int .u8 19), .lit (.int .u8 9), .lit (.int .u8 13), .lit (.int .u8 8), .lit (.int .u8 7), .lit (.int .u8 6)]
def laid_internal_strconv_uint64pow10 {H : Type} : DataW H := .agg [.lit (.int .u64 1), .lit (.int .u64 10), .lit (.int .u64 100), .lit (.int .u64 1000), .lit (.int .u64 10000), .lit (.int .u64 100000), .lit (.int .u64 1000000), .lit (.int .u64 10000000), .lit (.int .u64 100000000), .lit (.int .u64 1000000000), .lit (.int .u64 10000000000), .lit (.int .u64 100000000000), .lit (.int .u64 1000000000000), .lit (.int .u64 10000000000000), .lit (.int .u64 100000000000000), .lit (.int .u64 1000000000000000), .lit (.int .u64 10000000000000000), .lit (.int .u64 100000000000000000), .lit (.int .u64 1000000000000000000), .lit (.int .u64 10000000000000000000)]
def laid_loupe_class_escapes {H : Type} : DataW H := .agg [.agg [.lit (.int .u8 110), .lit (.int .u8 10)], .agg [.lit (.int .u8 114), .lit (.int .u8 13)], .agg [.lit (.int .u8 116), .lit (.int .u8 9)]]
def laid_loupe_code_shapes {H : Type} : DataW H := .agg [.agg [.lit (.string [104, 97, 108, 116]), .lit (.bool false), .lit (.int .i64 0), .lit (.int .i64 0)], .agg [.lit (.string [99, 97, 108, 108]), .lit (.bool false), .lit (.int .i64 1), .lit (.int .i64 0)], .agg [.lit (.string [114, 101, 116]), .lit (.bool false), .lit (.int .i64 0), .lit (.int .i64 0)], .agg [.lit (.string [106, 117, 109, 112]), .lit (.bool false), .lit (.int .i64 1), .lit (.int .i64 0)], .agg [.lit (.string [101, 109, 105, 116]), .lit (.bool true), .lit (.int .i64 0), .lit (.int .i64 0)], .agg [.lit (.string [100, 114, 111, 112]), .lit (.bool true), .lit (.int .i64 0), .lit (.int .i64 0)], .agg [.lit (.string [116, 101, 120, 116]), .lit (.bool false), .lit (.int .i64 3), .lit (.int .i64 0)], .agg [.lit (.string [112, 117, 115, 104]), .lit (.bool true), .lit (.int .i64 3), .lit (.int .i64 0)], .agg [.lit (.string [100, 117, 112]), .lit (.bool true), .lit (.int .i64 0), .lit (.int .i64 0)], .agg [.lit (.string [102, 108, 105, 112]), .lit (.bool true), .lit (.int .i64 0), .lit (.int .i64 0)], .agg [.lit (.string [109, 111, 118, 101]), .lit (.bool true), .lit (.int .i64 0), .lit (.int .i64 0)], .agg [.lit (.string [111, 112, 101, 110]), .lit (.bool false), .lit (.int .i64 0), .lit (.int .i64 0)], .agg [.lit (.string [116, 97, 107, 101]), .lit (.bool true), .lit (.int .i64 0), .lit (.int .i64 0)], .agg [.lit (.string [108, 111, 119, 101, 114]), .lit (.bool true), .lit (.int .i64 0), .lit (.int .i64 0)], .agg [.lit (.string [99, 117, 116]), .lit (.bool true), .lit (.int .i64 2), .lit (.int .i64 2)], .agg [.lit (.string [105, 110]), .lit (.bool true), .lit (.int .i64 2), .lit (.int .i64 1)], .agg [.lit (.string [99, 104, 117, 110, 107]), .lit (.bool true), .lit (.int .i64 2), .lit (.int .i64 0)], .agg [.lit (.string [109, 111, 114, 101]), .lit (.bool false), .lit (.int .i64 1), .lit (.int .i64 0)], .agg [.lit (.string [122, 105, 112]), .lit (.bool false), .lit (.int .i64 0), .lit (.int .i64 0)], .agg [.lit (.string [97, 108, 105, 103, 110]), .lit (.bool false), .lit (.int .i64 1), .lit (.int .i64 1)], .agg [.lit (.string [112, 108, 97, 110]), .lit (.bool false), .lit (.int .i64 1), .lit (.int .i64 1)]]
def laid_unicode_utf8_acceptRanges {H : Type} : DataW H := .agg [.agg [.lit (.int .u8 128), .lit (.int .u8 191)], .agg [.lit (.int .u8 160), .lit (.int .u8 191)], .agg [.lit (.int .u8 128), .lit (.int .u8 159)], .agg [.lit (.int .u8 144), .lit (.int .u8 191)], .agg [.lit (.int .u8 128), .lit (.int .u8 143)], .agg [.lit (.int .u8 0), .lit (.int .u8 0)], .agg [.lit (.int .u8 0), .lit (.int .u8 0)], .agg [.lit (.int .u8 0), .lit (.int .u8 0)], .agg [.lit (.int .u8 0), .lit (.int .u8 0)], .agg [.lit (.int .u8 0), .lit (.int .u8 0)], .agg [.lit (.int .u8 0), .lit (.int .u8 0)], .agg [.lit (.int .u8 0), .lit (.int .u8 0)], .agg [.lit (.int .u8 0), .lit (.int .u8 0)], .agg [.lit (.int .u8 0), .lit (.int .u8 0)], .agg [.lit (.int .u8 0), .lit (.int .u8 0)], .agg [.lit (.int .u8 0), .lit (.int .u8 0)]]
def laid_strconv_ErrRange {H : Type} : DataW H := .iface "*errors.errorString" (.ptr (.agg [.lit (.string [118, 97, 108, 117, 101, 32, 111, 117, 116, 32, 111, 102, 32, 114, 97, 110, 103, 101])]))
def laid_strconv_ErrSyntax {H : Type} : DataW H := .iface "*errors.errorString" (.ptr (.agg [.lit (.string [105, 110, 118, 97, 108, 105, 100, 32, 115, 121, 110, 116, 97, 120])]))
/-- One of Go's own tables, pinned by name: the form's constant. -/
def laid_unicode_utf8_first : DataW Unit := Go.Pinned.utf8First
def laid_loupe_syntax_ranks {H : Type} : DataW H := .agg [.lit (.string [124]), .lit (.string [38, 45]), .lit (.string [62, 62]), .lit (.string [126]), .lit (.string [46])]

/-- 'loupelaw20.CodeChecks': WHATEVER THE INPUT: true; the input reads as it did. -/
def codeChecksSpec : ChangeSpec := { name := "codeChecks", fn := fun _ => fun
  | [d] => { results := [.lit (.bool true)], args := [d] }
  | _ => none }
def codeChecksRow : OpenClaim := { program := "ytnemkecffmdlnaagreatdoor", sum := "fccee3a86eee44e0ea784637944b63b8b1824c756e169f74846be1ca875fce34", func := "loupe/loupelaw20.CodeChecks", spec := "codeChecks", inPlace := ["internal/bytealg.IndexByteString", "internal/abi.NoEscape"], unfollowed := true, recurses := true, named := ["loupe/class.escapes", "loupe/code.shapes", "internal/strconv.uint64pow10", "math/bits.deBruijn32tab", "math/bits.deBruijn64tab"], apart := false, laid := [("math/bits.deBruijn32tab", laid_math_bits_deBruijn32tab), ("math/bits.deBruijn64tab", laid_math_bits_deBruijn64tab), ("internal/strconv.uint64pow10", laid_internal_strconv_uint64pow10), ("loupe/class.escapes", laid_loupe_class_escapes), ("loupe/code.shapes", laid_loupe_code_shapes)] }
def CodeChecksSaid : Prop := codeChecksRow.holds Tryz.pinned (OpenSpec.ofChange codeChecksSpec)

/-- ITS FALSE NEIGHBOUR: 'it returns false'. Refute it at one input. -/
def codeChecksWrong : ChangeSpec := { name := "codeChecks", fn := fun _ => fun
  | [d] => { results := [.lit (.bool false)], args := [d] }
  | _ => none }
def CodeChecksWrongFalsely : Prop := codeChecksRow.holds Tryz.pinned (OpenSpec.ofChange codeChecksWrong)

/-- 'loupelaw20.CodePrints': WHATEVER THE INPUT: true; the input reads as it did. -/
def codePrintsSpec : ChangeSpec := { name := "codePrints", fn := fun _ => fun
  | [d] => { results := [.lit (.bool true)], args := [d] }
  | _ => none }
def codePrintsRow : OpenClaim := { program := "ytnemkecffmdlnaagreatdoor", sum := "fccee3a86eee44e0ea784637944b63b8b1824c756e169f74846be1ca875fce34", func := "loupe/loupelaw20.CodePrints", spec := "codePrints", inPlace := ["internal/bytealg.IndexByteString", "internal/abi.NoEscape"], unfollowed := true, recurses := true, named := ["loupe/class.escapes", "loupe/code.shapes", "internal/strconv.uint64pow10", "math/bits.deBruijn32tab", "math/bits.deBruijn64tab"], apart := false, laid := [("math/bits.deBruijn32tab", laid_math_bits_deBruijn32tab), ("math/bits.deBruijn64tab", laid_math_bits_deBruijn64tab), ("internal/strconv.uint64pow10", laid_internal_strconv_uint64pow10), ("loupe/class.escapes", laid_loupe_class_escapes), ("loupe/code.shapes", laid_loupe_code_shapes)] }
def CodePrintsSaid : Prop := codePrintsRow.holds Tryz.pinned (OpenSpec.ofChange codePrintsSpec)

/-- ITS FALSE NEIGHBOUR: 'it returns false'. Refute it at one input. -/
def codePrintsWrong : ChangeSpec := { name := "codePrints", fn := fun _ => fun
  | [d] => { results := [.lit (.bool false)], args := [d] }
  | _ => none }
def CodePrintsWrongFalsely : Prop := codePrintsRow.holds Tryz.pinned (OpenSpec.ofChange codePrintsWrong)

/-- 'loupelaw20.CodeParses': WHATEVER THE INPUT: true; the input reads as it did. -/
def codeParsesSpec : ChangeSpec := { name := "codeParses", fn := fun _ => fun
  | [d] => { results := [.lit (.bool true)], args := [d] }
  | _ => none }
def codeParsesRow : OpenClaim := { program := "ytnemkecffmdlnaagreatdoor", sum := "fccee3a86eee44e0ea784637944b63b8b1824c756e169f74846be1ca875fce34", func := "loupe/loupelaw20.CodeParses", spec := "codeParses", inPlace := ["internal/bytealg.IndexByteString", "internal/abi.NoEscape", "internal/bytealg.CountString", "internal/bytealg.IndexString"], unfollowed := true, recurses := true, named := ["loupe/class.escapes", "loupe/code.shapes", "internal/strconv.uint64pow10", "math/bits.deBruijn32tab", "math/bits.deBruijn64tab", "strconv.ErrSyntax", "strconv.ErrRange", "unicode/utf8.first", "unicode/utf8.acceptRanges", "internal/bytealg.MaxLen"], apart := false, laid := [("math/bits.deBruijn32tab", laid_math_bits_deBruijn32tab), ("math/bits.deBruijn64tab", laid_math_bits_deBruijn64tab), ("internal/strconv.uint64pow10", laid_internal_strconv_uint64pow10), ("unicode/utf8.acceptRanges", laid_unicode_utf8_acceptRanges), ("strconv.ErrRange", laid_strconv_ErrRange), ("strconv.ErrSyntax", laid_strconv_ErrSyntax), ("loupe/class.escapes", laid_loupe_class_escapes), ("loupe/code.shapes", laid_loupe_code_shapes), ("unicode/utf8.first", laid_unicode_utf8_first)] }
def CodeParsesSaid : Prop := codeParsesRow.holds Tryz.pinned (OpenSpec.ofChange codeParsesSpec)

/-- ITS FALSE NEIGHBOUR: 'it returns false'. Refute it at one input. -/
def codeParsesWrong : ChangeSpec := { name := "codeParses", fn := fun _ => fun
  | [d] => { results := [.lit (.bool false)], args := [d] }
  | _ => none }
def CodeParsesWrongFalsely : Prop := codeParsesRow.holds Tryz.pinned (OpenSpec.ofChange codeParsesWrong)

/-- 'loupelaw20.CodeThereAndBack': WHATEVER THE INPUT: true; the input reads as it did. -/
def codeThereAndBackSpec : ChangeSpec := { name := "codeThereAndBack", fn := fun _ => fun
  | [d1, d2] => { results := [.lit (.bool true)], args := [d1, d2] }
  | _ => none }
def codeThereAndBackRow : OpenClaim := { program := "ytnemkecffmdlnaagreatdoor", sum := "fccee3a86eee44e0ea784637944b63b8b1824c756e169f74846be1ca875fce34", func := "loupe/loupelaw20.CodeThereAndBack", spec := "codeThereAndBack", inPlace := ["internal/bytealg.IndexByteString", "internal/abi.NoEscape", "internal/bytealg.CountString", "internal/bytealg.IndexString"], unfollowed := true, recurses := true, named := ["loupe/class.escapes", "loupe/code.shapes", "internal/strconv.uint64pow10", "math/bits.deBruijn32tab", "math/bits.deBruijn64tab", "strconv.ErrSyntax", "strconv.ErrRange", "unicode/utf8.first", "unicode/utf8.acceptRanges", "internal/bytealg.MaxLen"], apart := false, laid := [("math/bits.deBruijn32tab", laid_math_bits_deBruijn32tab), ("math/bits.deBruijn64tab", laid_math_bits_deBruijn64tab), ("internal/strconv.uint64pow10", laid_internal_strconv_uint64pow10), ("unicode/utf8.acceptRanges", laid_unicode_utf8_acceptRanges), ("strconv.ErrRange", laid_strconv_ErrRange), ("strconv.ErrSyntax", laid_strconv_ErrSyntax), ("loupe/class.escapes", laid_loupe_class_escapes), ("loupe/code.shapes", laid_loupe_code_shapes), ("unicode/utf8.first", laid_unicode_utf8_first)] }
def CodeThereAndBackSaid : Prop := codeThereAndBackRow.holds Tryz.pinned (OpenSpec.ofChange codeThereAndBackSpec)

/-- ITS FALSE NEIGHBOUR: 'it returns false'. Refute it at one input. -/
def codeThereAndBackWrong : ChangeSpec := { name := "codeThereAndBack", fn := fun _ => fun
  | [d1, d2] => { results := [.lit (.bool false)], args := [d1, d2] }
  | _ => none }
def CodeThereAndBackWrongFalsely : Prop := codeThereAndBackRow.holds Tryz.pinned (OpenSpec.ofChange codeThereAndBackWrong)

/-- 'loupelaw14.TermReads': WHATEVER THE INPUT: true; the input reads as it did. -/
def termReadsSpec : ChangeSpec := { name := "termReads", fn := fun _ => fun
  | [d] => { results := [.lit (.bool true)], args := [d] }
  | _ => none }
def termReadsRow : OpenClaim := { program := "ytnemkecffmdlnaagreatdoor", sum := "fccee3a86eee44e0ea784637944b63b8b1824c756e169f74846be1ca875fce34", func := "loupe/loupelaw14.TermReads", spec := "termReads", inPlace := ["internal/bytealg.IndexByteString", "internal/bytealg.IndexString", "internal/abi.NoEscape", "internal/bytealg.MakeNoZero"], unfollowed := true, recurses := true, named := ["loupe/syntax.ranks", "internal/bytealg.MaxLen", "loupe/class.escapes", "internal/strconv.uint64pow10", "math/bits.deBruijn32tab", "math/bits.deBruijn64tab"], apart := false, laid := [("math/bits.deBruijn32tab", laid_math_bits_deBruijn32tab), ("math/bits.deBruijn64tab", laid_math_bits_deBruijn64tab), ("internal/strconv.uint64pow10", laid_internal_strconv_uint64pow10), ("loupe/class.escapes", laid_loupe_class_escapes), ("loupe/syntax.ranks", laid_loupe_syntax_ranks)] }
def TermReadsSaid : Prop := termReadsRow.holds Tryz.pinned (OpenSpec.ofChange termReadsSpec)

/-- ITS FALSE NEIGHBOUR: 'it returns false'. Refute it at one input. -/
def termReadsWrong : ChangeSpec := { name := "termReads", fn := fun _ => fun
  | [d] => { results := [.lit (.bool false)], args := [d] }
  | _ => none }
def TermReadsWrongFalsely : Prop := termReadsRow.holds Tryz.pinned (OpenSpec.ofChange termReadsWrong)

/-- 'loupelaw14.TermElaborates': WHATEVER THE INPUT: true; the input reads as it did. -/
def termElaboratesSpec : ChangeSpec := { name := "termElaborates", fn := fun _ => fun
  | [d] => { results := [.lit (.bool true)], args := [d] }
  | _ => none }
def termElaboratesRow : OpenClaim := { program := "ytnemkecffmdlnaagreatdoor", sum := "fccee3a86eee44e0ea784637944b63b8b1824c756e169f74846be1ca875fce34", func := "loupe/loupelaw14.TermElaborates", spec := "termElaborates", inPlace := ["internal/bytealg.IndexByteString", "internal/bytealg.IndexString", "internal/abi.NoEscape", "internal/bytealg.MakeNoZero"], unfollowed := true, recurses := true, named := ["loupe/syntax.ranks", "internal/bytealg.MaxLen", "loupe/class.escapes", "internal/strconv.uint64pow10", "math/bits.deBruijn32tab", "math/bits.deBruijn64tab"], apart := false, laid := [("math/bits.deBruijn32tab", laid_math_bits_deBruijn32tab), ("math/bits.deBruijn64tab", laid_math_bits_deBruijn64tab), ("internal/strconv.uint64pow10", laid_internal_strconv_uint64pow10), ("loupe/class.escapes", laid_loupe_class_escapes), ("loupe/syntax.ranks", laid_loupe_syntax_ranks)] }
def TermElaboratesSaid : Prop := termElaboratesRow.holds Tryz.pinned (OpenSpec.ofChange termElaboratesSpec)

/-- ITS FALSE NEIGHBOUR: 'it returns false'. Refute it at one input. -/
def termElaboratesWrong : ChangeSpec := { name := "termElaborates", fn := fun _ => fun
  | [d] => { results := [.lit (.bool false)], args := [d] }
  | _ => none }
def TermElaboratesWrongFalsely : Prop := termElaboratesRow.holds Tryz.pinned (OpenSpec.ofChange termElaboratesWrong)

/-- 'loupelaw14.TermNamed': WHATEVER THE INPUT: true; the input reads as it did. -/
def termNamedSpec : ChangeSpec := { name := "termNamed", fn := fun _ => fun
  | [d] => { results := [.lit (.bool true)], args := [d] }
  | _ => none }
def termNamedRow : OpenClaim := { program := "ytnemkecffmdlnaagreatdoor", sum := "fccee3a86eee44e0ea784637944b63b8b1824c756e169f74846be1ca875fce34", func := "loupe/loupelaw14.TermNamed", spec := "termNamed", inPlace := ["internal/bytealg.IndexByteString", "internal/bytealg.IndexString", "internal/abi.NoEscape", "internal/bytealg.MakeNoZero"], unfollowed := true, recurses := true, named := ["loupe/syntax.ranks", "internal/bytealg.MaxLen", "loupe/class.escapes", "internal/strconv.uint64pow10", "math/bits.deBruijn32tab", "math/bits.deBruijn64tab"], apart := false, laid := [("math/bits.deBruijn32tab", laid_math_bits_deBruijn32tab), ("math/bits.deBruijn64tab", laid_math_bits_deBruijn64tab), ("internal/strconv.uint64pow10", laid_internal_strconv_uint64pow10), ("loupe/class.escapes", laid_loupe_class_escapes), ("loupe/syntax.ranks", laid_loupe_syntax_ranks)] }
def TermNamedSaid : Prop := termNamedRow.holds Tryz.pinned (OpenSpec.ofChange termNamedSpec)

/-- ITS FALSE NEIGHBOUR: 'it returns false'. Refute it at one input. -/
def termNamedWrong : ChangeSpec := { name := "termNamed", fn := fun _ => fun
  | [d] => { results := [.lit (.bool false)], args := [d] }
  | _ => none }
def TermNamedWrongFalsely : Prop := termNamedRow.holds Tryz.pinned (OpenSpec.ofChange termNamedWrong)

/-- 'loupelaw14.TermJoins': WHATEVER THE INPUT: true; the input reads as it did. -/
def termJoinsSpec : ChangeSpec := { name := "termJoins", fn := fun _ => fun
  | [d1, d2, d3] => { results := [.lit (.bool true)], args := [d1, d2, d3] }
  | _ => none }
def termJoinsRow : OpenClaim := { program := "ytnemkecffmdlnaagreatdoor", sum := "fccee3a86eee44e0ea784637944b63b8b1824c756e169f74846be1ca875fce34", func := "loupe/loupelaw14.TermJoins", spec := "termJoins", inPlace := ["internal/bytealg.IndexByteString", "internal/bytealg.IndexString", "internal/abi.NoEscape", "internal/bytealg.MakeNoZero"], unfollowed := true, recurses := true, named := ["loupe/syntax.ranks", "internal/bytealg.MaxLen", "loupe/class.escapes", "internal/strconv.uint64pow10", "math/bits.deBruijn32tab", "math/bits.deBruijn64tab"], apart := false, laid := [("math/bits.deBruijn32tab", laid_math_bits_deBruijn32tab), ("math/bits.deBruijn64tab", laid_math_bits_deBruijn64tab), ("internal/strconv.uint64pow10", laid_internal_strconv_uint64pow10), ("loupe/class.escapes", laid_loupe_class_escapes), ("loupe/syntax.ranks", laid_loupe_syntax_ranks)] }
def TermJoinsSaid : Prop := termJoinsRow.holds Tryz.pinned (OpenSpec.ofChange termJoinsSpec)

/-- ITS FALSE NEIGHBOUR: 'it returns false'. Refute it at one input. -/
def termJoinsWrong : ChangeSpec := { name := "termJoins", fn := fun _ => fun
  | [d1, d2, d3] => { results := [.lit (.bool false)], args := [d1, d2, d3] }
  | _ => none }
def TermJoinsWrongFalsely : Prop := termJoinsRow.holds Tryz.pinned (OpenSpec.ofChange termJoinsWrong)

/- THE SECOND FORM. 'bulk': how many values and letters a reading holds, each counted each time it is reached (what is shared counts as often as it is met; a slice's spare places count too). A statement '..UptoSaid' is the law's where the arguments, and the package variables that the reading takes, are together of bulk at most 1048576: NARROWER than '..Said'. Prove '..Said' where nothing that the law and all that it calls make is longer than what came in: it says more and counts as full. Else prove '..UptoSaid'. A law counts once. -/
mutual
def uptoBulk {H : Type} : DataW H → Nat
  | .lit (.string bytes) => bytes.length + 1
  | .lit _ => 1
  | .nil => 1
  | .ptr d => uptoBulk d + 1
  | .slice elems spare => uptoBulkAll elems + uptoBulkAll spare + 1
  | .agg parts => uptoBulkAll parts + 1
  | .iface _ d => uptoBulk d + 1
  | .map entries => uptoBulkEntries entries + 1
  | .held _ => 1
def uptoBulkAll {H : Type} : List (DataW H) → Nat
  | [] => 0
  | d :: r => uptoBulk d + uptoBulkAll r
def uptoBulkEntries {H : Type} : List (Lit × DataW H) → Nat
  | [] => 0
  | x :: r => uptoBulkEntry x + uptoBulkEntries r
def uptoBulkEntry {H : Type} : Lit × DataW H → Nat
  | (.string bytes, d) => bytes.length + uptoBulk d + 1
  | (_, d) => uptoBulk d + 1
 end
def uptoSmall : (H : Type) → List (DataW H) → Bool := fun _ ds => decide (uptoBulkAll ds ≤ 1048576)
def OpenSpec.upto (s : _root_.Go.ChangeSpec) : _root_.Go.OpenSpec := { _root_.Go.OpenSpec.ofChange s with cond := some uptoSmall }

/-- 'loupelaw20.CodeChecks', WHERE WHAT IT READS IS OF BULK AT MOST 1048576: true; the input reads as it did. -/
def codeChecksUptoRow : OpenClaim := { program := "ytnemkecffmdlnaagreatdoor", sum := "fccee3a86eee44e0ea784637944b63b8b1824c756e169f74846be1ca875fce34", func := "loupe/loupelaw20.CodeChecks", spec := "codeChecks", inPlace := ["internal/bytealg.IndexByteString", "internal/abi.NoEscape"], unfollowed := true, recurses := true, named := ["loupe/class.escapes", "loupe/code.shapes", "internal/strconv.uint64pow10", "math/bits.deBruijn32tab", "math/bits.deBruijn64tab"], apart := false, laid := [("math/bits.deBruijn32tab", laid_math_bits_deBruijn32tab), ("math/bits.deBruijn64tab", laid_math_bits_deBruijn64tab), ("internal/strconv.uint64pow10", laid_internal_strconv_uint64pow10), ("loupe/class.escapes", laid_loupe_class_escapes), ("loupe/code.shapes", laid_loupe_code_shapes)], narrowed := true }
def CodeChecksUptoSaid : Prop := codeChecksUptoRow.holds Tryz.pinned (OpenSpec.upto codeChecksSpec)

/-- 'loupelaw20.CodePrints', WHERE WHAT IT READS IS OF BULK AT MOST 1048576: true; the input reads as it did. -/
def codePrintsUptoRow : OpenClaim := { program := "ytnemkecffmdlnaagreatdoor", sum := "fccee3a86eee44e0ea784637944b63b8b1824c756e169f74846be1ca875fce34", func := "loupe/loupelaw20.CodePrints", spec := "codePrints", inPlace := ["internal/bytealg.IndexByteString", "internal/abi.NoEscape"], unfollowed := true, recurses := true, named := ["loupe/class.escapes", "loupe/code.shapes", "internal/strconv.uint64pow10", "math/bits.deBruijn32tab", "math/bits.deBruijn64tab"], apart := false, laid := [("math/bits.deBruijn32tab", laid_math_bits_deBruijn32tab), ("math/bits.deBruijn64tab", laid_math_bits_deBruijn64tab), ("internal/strconv.uint64pow10", laid_internal_strconv_uint64pow10), ("loupe/class.escapes", laid_loupe_class_escapes), ("loupe/code.shapes", laid_loupe_code_shapes)], narrowed := true }
def CodePrintsUptoSaid : Prop := codePrintsUptoRow.holds Tryz.pinned (OpenSpec.upto codePrintsSpec)

/-- 'loupelaw20.CodeParses', WHERE WHAT IT READS IS OF BULK AT MOST 1048576: true; the input reads as it did. -/
def codeParsesUptoRow : OpenClaim := { program := "ytnemkecffmdlnaagreatdoor", sum := "fccee3a86eee44e0ea784637944b63b8b1824c756e169f74846be1ca875fce34", func := "loupe/loupelaw20.CodeParses", spec := "codeParses", inPlace := ["internal/bytealg.IndexByteString", "internal/abi.NoEscape", "internal/bytealg.CountString", "internal/bytealg.IndexString"], unfollowed := true, recurses := true, named := ["loupe/class.escapes", "loupe/code.shapes", "internal/strconv.uint64pow10", "math/bits.deBruijn32tab", "math/bits.deBruijn64tab", "strconv.ErrSyntax", "strconv.ErrRange", "unicode/utf8.first", "unicode/utf8.acceptRanges", "internal/bytealg.MaxLen"], apart := false, laid := [("math/bits.deBruijn32tab", laid_math_bits_deBruijn32tab), ("math/bits.deBruijn64tab", laid_math_bits_deBruijn64tab), ("internal/strconv.uint64pow10", laid_internal_strconv_uint64pow10), ("unicode/utf8.acceptRanges", laid_unicode_utf8_acceptRanges), ("strconv.ErrRange", laid_strconv_ErrRange), ("strconv.ErrSyntax", laid_strconv_ErrSyntax), ("loupe/class.escapes", laid_loupe_class_escapes), ("loupe/code.shapes", laid_loupe_code_shapes), ("unicode/utf8.first", laid_unicode_utf8_first)], narrowed := true }
def CodeParsesUptoSaid : Prop := codeParsesUptoRow.holds Tryz.pinned (OpenSpec.upto codeParsesSpec)

/-- 'loupelaw20.CodeThereAndBack', WHERE WHAT IT READS IS OF BULK AT MOST 1048576: true; the input reads as it did. -/
def codeThereAndBackUptoRow : OpenClaim := { program := "ytnemkecffmdlnaagreatdoor", sum := "fccee3a86eee44e0ea784637944b63b8b1824c756e169f74846be1ca875fce34", func := "loupe/loupelaw20.CodeThereAndBack", spec := "codeThereAndBack", inPlace := ["internal/bytealg.IndexByteString", "internal/abi.NoEscape", "internal/bytealg.CountString", "internal/bytealg.IndexString"], unfollowed := true, recurses := true, named := ["loupe/class.escapes", "loupe/code.shapes", "internal/strconv.uint64pow10", "math/bits.deBruijn32tab", "math/bits.deBruijn64tab", "strconv.ErrSyntax", "strconv.ErrRange", "unicode/utf8.first", "unicode/utf8.acceptRanges", "internal/bytealg.MaxLen"], apart := false, laid := [("math/bits.deBruijn32tab", laid_math_bits_deBruijn32tab), ("math/bits.deBruijn64tab", laid_math_bits_deBruijn64tab), ("internal/strconv.uint64pow10", laid_internal_strconv_uint64pow10), ("unicode/utf8.acceptRanges", laid_unicode_utf8_acceptRanges), ("strconv.ErrRange", laid_strconv_ErrRange), ("strconv.ErrSyntax", laid_strconv_ErrSyntax), ("loupe/class.escapes", laid_loupe_class_escapes), ("loupe/code.shapes", laid_loupe_code_shapes), ("unicode/utf8.first", laid_unicode_utf8_first)], narrowed := true }
def CodeThereAndBackUptoSaid : Prop := codeThereAndBackUptoRow.holds Tryz.pinned (OpenSpec.upto codeThereAndBackSpec)

/-- 'loupelaw14.TermReads', WHERE WHAT IT READS IS OF BULK AT MOST 1048576: true; the input reads as it did. -/
def termReadsUptoRow : OpenClaim := { program := "ytnemkecffmdlnaagreatdoor", sum := "fccee3a86eee44e0ea784637944b63b8b1824c756e169f74846be1ca875fce34", func := "loupe/loupelaw14.TermReads", spec := "termReads", inPlace := ["internal/bytealg.IndexByteString", "internal/bytealg.IndexString", "internal/abi.NoEscape", "internal/bytealg.MakeNoZero"], unfollowed := true, recurses := true, named := ["loupe/syntax.ranks", "internal/bytealg.MaxLen", "loupe/class.escapes", "internal/strconv.uint64pow10", "math/bits.deBruijn32tab", "math/bits.deBruijn64tab"], apart := false, laid := [("math/bits.deBruijn32tab", laid_math_bits_deBruijn32tab), ("math/bits.deBruijn64tab", laid_math_bits_deBruijn64tab), ("internal/strconv.uint64pow10", laid_internal_strconv_uint64pow10), ("loupe/class.escapes", laid_loupe_class_escapes), ("loupe/syntax.ranks", laid_loupe_syntax_ranks)], narrowed := true }
def TermReadsUptoSaid : Prop := termReadsUptoRow.holds Tryz.pinned (OpenSpec.upto termReadsSpec)

/-- 'loupelaw14.TermElaborates', WHERE WHAT IT READS IS OF BULK AT MOST 1048576: true; the input reads as it did. -/
def termElaboratesUptoRow : OpenClaim := { program := "ytnemkecffmdlnaagreatdoor", sum := "fccee3a86eee44e0ea784637944b63b8b1824c756e169f74846be1ca875fce34", func := "loupe/loupelaw14.TermElaborates", spec := "termElaborates", inPlace := ["internal/bytealg.IndexByteString", "internal/bytealg.IndexString", "internal/abi.NoEscape", "internal/bytealg.MakeNoZero"], unfollowed := true, recurses := true, named := ["loupe/syntax.ranks", "internal/bytealg.MaxLen", "loupe/class.escapes", "internal/strconv.uint64pow10", "math/bits.deBruijn32tab", "math/bits.deBruijn64tab"], apart := false, laid := [("math/bits.deBruijn32tab", laid_math_bits_deBruijn32tab), ("math/bits.deBruijn64tab", laid_math_bits_deBruijn64tab), ("internal/strconv.uint64pow10", laid_internal_strconv_uint64pow10), ("loupe/class.escapes", laid_loupe_class_escapes), ("loupe/syntax.ranks", laid_loupe_syntax_ranks)], narrowed := true }
def TermElaboratesUptoSaid : Prop := termElaboratesUptoRow.holds Tryz.pinned (OpenSpec.upto termElaboratesSpec)

/-- 'loupelaw14.TermNamed', WHERE WHAT IT READS IS OF BULK AT MOST 1048576: true; the input reads as it did. -/
def termNamedUptoRow : OpenClaim := { program := "ytnemkecffmdlnaagreatdoor", sum := "fccee3a86eee44e0ea784637944b63b8b1824c756e169f74846be1ca875fce34", func := "loupe/loupelaw14.TermNamed", spec := "termNamed", inPlace := ["internal/bytealg.IndexByteString", "internal/bytealg.IndexString", "internal/abi.NoEscape", "internal/bytealg.MakeNoZero"], unfollowed := true, recurses := true, named := ["loupe/syntax.ranks", "internal/bytealg.MaxLen", "loupe/class.escapes", "internal/strconv.uint64pow10", "math/bits.deBruijn32tab", "math/bits.deBruijn64tab"], apart := false, laid := [("math/bits.deBruijn32tab", laid_math_bits_deBruijn32tab), ("math/bits.deBruijn64tab", laid_math_bits_deBruijn64tab), ("internal/strconv.uint64pow10", laid_internal_strconv_uint64pow10), ("loupe/class.escapes", laid_loupe_class_escapes), ("loupe/syntax.ranks", laid_loupe_syntax_ranks)], narrowed := true }
def TermNamedUptoSaid : Prop := termNamedUptoRow.holds Tryz.pinned (OpenSpec.upto termNamedSpec)

/-- 'loupelaw14.TermJoins', WHERE WHAT IT READS IS OF BULK AT MOST 1048576: true; the input reads as it did. -/
def termJoinsUptoRow : OpenClaim := { program := "ytnemkecffmdlnaagreatdoor", sum := "fccee3a86eee44e0ea784637944b63b8b1824c756e169f74846be1ca875fce34", func := "loupe/loupelaw14.TermJoins", spec := "termJoins", inPlace := ["internal/bytealg.IndexByteString", "internal/bytealg.IndexString", "internal/abi.NoEscape", "internal/bytealg.MakeNoZero"], unfollowed := true, recurses := true, named := ["loupe/syntax.ranks", "internal/bytealg.MaxLen", "loupe/class.escapes", "internal/strconv.uint64pow10", "math/bits.deBruijn32tab", "math/bits.deBruijn64tab"], apart := false, laid := [("math/bits.deBruijn32tab", laid_math_bits_deBruijn32tab), ("math/bits.deBruijn64tab", laid_math_bits_deBruijn64tab), ("internal/strconv.uint64pow10", laid_internal_strconv_uint64pow10), ("loupe/class.escapes", laid_loupe_class_escapes), ("loupe/syntax.ranks", laid_loupe_syntax_ranks)], narrowed := true }
def TermJoinsUptoSaid : Prop := termJoinsUptoRow.holds Tryz.pinned (OpenSpec.upto termJoinsSpec)

end Rows
end Go.Proofs.YtnemkecffmdlnaaGreatDoor
