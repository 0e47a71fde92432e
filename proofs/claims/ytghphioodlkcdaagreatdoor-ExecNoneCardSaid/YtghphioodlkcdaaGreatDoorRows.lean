/-
  NARROWER THAN 'FOR EVERY INPUT', by the rows' own cells (each row's printed sentence says how): ExecFuel: laid · ExecTurns: laid · ExecSwaps: laid · ExecNone: laid.
  DERIVED. THE GIVEN ROWS OF THIS SEAT. 4 by the template 'for every input the law returns true; each argument reads behind the call as it read before'; 0 by the template 'total and deterministic' (their statements: YtghphioodlkcdaaGreatDoorTotals.lean).
  GIVEN WITH THE SEED: the statements are not yours to turn. If you find one false, say at which input.
  Laid BY PROGRAM, IN A SANDBOX (cutbox-rows.mjs): the forced cells as the released guide's own fill.sh prints them over the translation 76870e965dc857fc… (all of the seat's roots in one cut). By AI agents, Wed Nov 11 2026. No macro, syntax, notation, axiom, sorry.
-/
import Derived.Test.YtghphioodlkcdaaGreatDoorChecked
import GoSem.PinnedTables
import GoSem.Claim
import GoSem.ClaimJoined
import GoSem.ClaimMapViews
import Derived.JoinedTies
import Derived.KernelRfl
namespace Go.Proofs.YtghphioodlkcdaaGreatDoor
/- THE CELL 'sum', in the pinned program and in every row, IS THE sha256 OF THE DUMP (.gsa) THAT YtghphioodlkcdaaGreatDoorProg.lean LOADS. Nothing in Lean hashes anything: it is a label: what it is worth is what the hold of that sum in a sandbox is worth. -/
noncomputable def Tryz.pinned : Pinned := { name := "ytghphioodlkcdaagreatdoor", sum := "76870e965dc857fc622f00ad1209fadb2f39af6b0e9eb6d2c74ac60601977430", checked := Tryz.checked }
namespace Rows
def none {H : Type} : Left H := { results := [], args := [] }

/- WHAT THE LISTED PACKAGE-LEVEL VARIABLES READ AS WHEN THE CALL BEGINS. Each datum BY PROGRAM (the guide's laid-datum.mjs) off the statement by which the dump's own 'gosem.cut.vars' lays the variable. In a bare row this is a premise. The card (YtghphioodlkcdaaGreatDoorCards.lean) ties it to the program's text. -/
def laid_math_bits_deBruijn32tab {H : Type} : DataW H := .agg [.lit (.int .u8 0), .lit (.int .u8 1), .lit (.int .u8 28), .lit (.int .u8 2), .lit (.int .u8 29), .lit (.int .u8 14), .lit (.int .u8 24), .lit (.int .u8 3), .lit (.int .u8 30), .lit (.int .u8 22), .lit (.int .u8 20), .lit (.int .u8 15), .lit (.int .u8 25), .lit (.int .u8 17), .lit (.int .u8 4), .lit (.int .u8 8), .lit (.int .u8 31), .lit (.int .u8 27), .lit (.int .u8 13), .lit (.int .u8 23), .lit (.int .u8 21), .lit (.int .u8 19), .lit (.int .u8 16), .lit (.int .u8 7), .lit (.int .u8 26), .lit (.int .u8 12), .lit (.int .u8 18), .lit (.int .u8 6), .lit (.int .u8 11), .lit (.int .u8 5), .lit (.int .u8 10), .lit (.int .u8 9)]
def laid_math_bits_deBruijn64tab {H : Type} : DataW H := .agg [.lit (.int .u8 0), .lit (.int .u8 1), .lit (.int .u8 56), .lit (.int .u8 2), .lit (.int .u8 57), .lit (.int .u8 49), .lit (.int .u8 28), .lit (.int .u8 3), .lit (.int .u8 61), .lit (.int .u8 58), .lit (.int .u8 42), .lit (.int .u8 50), .lit (.int .u8 38), .lit (.int .u8 29), .lit (.int .u8 17), .lit (.int .u8 4), .lit (.int .u8 62), .lit (.int .u8 47), .lit (.int .u8 59), .lit (.int .u8 36), .lit (.int .u8 45), .lit (.int .u8 43), .lit (.int .u8 51), .lit (.int .u8 22), .lit (.int .u8 53), .lit (.int .u8 39), .lit (.int .u8 33), .lit (.int .u8 30), .lit (.int .u8 24), .lit (.int .u8 18), .lit (.int .u8 12), .lit (.int .u8 5), .lit (.int .u8 63), .lit (.int .u8 55), .lit (.int .u8 48), .lit (.int .u8 27), .lit (.int .u8 60), .lit (.int .u8 41), .lit (.int .u8 37), .lit (.int .u8 16), .lit (.int .u8 46), .lit (.int .u8 35), .lit (.int .u8 44), .lit (.int .u8 21), .lit (.int .u8 52), .lit (.int .u8 32), .lit (.int .u8 23), .lit (.int .u8 11), .lit (.int .u8 54), .lit (.int .u8 26), .lit (.int .u8 40), .lit (.int .u8 15), .lit (.int .u8 34), .lit (.int .u8 20), .lit (.int .u8 31), .lit (.int .u8 10), .lit (.int .u8 25), .lit (.int .u8 14), .lit (.int .u8 19), .lit (.int .u8 9), .lit (.int .u8 13), .lit (.int .u8 8), .lit (.int .u8 7), .lit (.int .u8 6)]
def laid_internal_strconv_uint64pow10 {H : Type} : DataW H := .agg [.lit (.int .u64 1), .lit (.int .u64 10), .lit (.int .u64 100), .lit (.int .u64 1000), .lit (.int .u64 10000), .lit (.int .u64 100000), .lit (.int .u64 1000000), .lit (.int .u64 10000000), .lit (.int .u64 100000000), .lit (.int .u64 1000000000), .lit (.int .u64 10000000000), .lit (.int .u64 100000000000), .lit (.int .u64 1000000000000), .lit (.int .u64 10000000000000), .lit (.int .u64 100000000000000), .lit (.int .u64 1000000000000000), .lit (.int .u64 10000000000000000), .lit (.int .u64 100000000000000000), .lit (.int .u64 1000000000000000000), .lit (.int .u64 10000000000000000000)]
def laid_mezzotint_mat_sines {H : Type} : DataW H := .agg [.lit (.int .i64 0), .lit (.int .i64 1144), .lit (.int .i64 2287), .lit (.int .i64 3430), .lit (.int .i64 4572), .lit (.int .i64 5712), .lit (.int .i64 6850), .lit (.int .i64 7987), .lit (.int .i64 9121), .lit (.int .i64 10252), .lit (.int .i64 11380), .lit (.int .i64 12505), .lit (.int .i64 13626), .lit (.int .i64 14742), .lit (.int .i64 15855), .lit (.int .i64 16962), .lit (.int .i64 18064), .lit (.int .i64 19161), .lit (.int .i64 20252), .lit (.int .i64 21336), .lit (.int .i64 22415), .lit (.int .i64 23486), .lit (.int .i64 24550), .lit (.int .i64 25607), .lit (.int .i64 26656), .lit (.int .i64 27697), .lit (.int .i64 28729), .lit (.int .i64 29753), .lit (.int .i64 30767), .lit (.int .i64 31772), .lit (.int .i64 32768), .lit (.int .i64 33754), .lit (.int .i64 34729), .lit (.int .i64 35693), .lit (.int .i64 36647), .lit (.int .i64 37590), .lit (.int .i64 38521), .lit (.int .i64 39441), .lit (.int .i64 40348), .lit (.int .i64 41243), .lit (.int .i64 42126), .lit (.int .i64 42995), .lit (.int .i64 43852), .lit (.int .i64 44695), .lit (.int .i64 45525), .lit (.int .i64 46341), .lit (.int .i64 47143), .lit (.int .i64 47930), .lit (.int .i64 48703), .lit (.int .i64 49461), .lit (.int .i64 50203), .lit (.int .i64 50931), .lit (.int .i64 51643), .lit (.int .i64 52339), .lit (.int .i64 53020), .lit (.int .i64 53684), .lit (.int .i64 54332), .lit (.int .i64 54963), .lit (.int .i64 55578), .lit (.int .i64 56175), .lit (.int .i64 56756), .lit (.int .i64 57319), .lit (.int .i64 57865), .lit (.int .i64 58393), .lit (.int .i64 58903), .lit (.int .i64 59396), .lit (.int .i64 59870), .lit (.int .i64 60326), .lit (.int .i64 60764), .lit (.int .i64 61183), .lit (.int .i64 61584), .lit (.int .i64 61966), .lit (.int .i64 62328), .lit (.int .i64 62672), .lit (.int .i64 62997), .lit (.int .i64 63303), .lit (.int .i64 63589), .lit (.int .i64 63856), .lit (.int .i64 64104), .lit (.int .i64 64332), .lit (.int .i64 64540), .lit (.int .i64 64729), .lit (.int .i64 64898), .lit (.int .i64 65048), .lit (.int .i64 65177), .lit (.int .i64 65287), .lit (.int .i64 65376), .lit (.int .i64 65446), .lit (.int .i64 65496), .lit (.int .i64 65526), .lit (.int .i64 65536)]
def laid_unicode_utf8_acceptRanges {H : Type} : DataW H := .agg [.agg [.lit (.int .u8 128), .lit (.int .u8 191)], .agg [.lit (.int .u8 160), .lit (.int .u8 191)], .agg [.lit (.int .u8 128), .lit (.int .u8 159)], .agg [.lit (.int .u8 144), .lit (.int .u8 191)], .agg [.lit (.int .u8 128), .lit (.int .u8 143)], .agg [.lit (.int .u8 0), .lit (.int .u8 0)], .agg [.lit (.int .u8 0), .lit (.int .u8 0)], .agg [.lit (.int .u8 0), .lit (.int .u8 0)], .agg [.lit (.int .u8 0), .lit (.int .u8 0)], .agg [.lit (.int .u8 0), .lit (.int .u8 0)], .agg [.lit (.int .u8 0), .lit (.int .u8 0)], .agg [.lit (.int .u8 0), .lit (.int .u8 0)], .agg [.lit (.int .u8 0), .lit (.int .u8 0)], .agg [.lit (.int .u8 0), .lit (.int .u8 0)], .agg [.lit (.int .u8 0), .lit (.int .u8 0)], .agg [.lit (.int .u8 0), .lit (.int .u8 0)]]
def laid_mezzotint_conv_types {H : Type} : DataW H := .agg [.lit (.string [110, 117, 108, 108, 116, 121, 112, 101]), .lit (.string [105, 110, 116, 101, 103, 101, 114, 116, 121, 112, 101]), .lit (.string [114, 101, 97, 108, 116, 121, 112, 101]), .lit (.string [98, 111, 111, 108, 101, 97, 110, 116, 121, 112, 101]), .lit (.string [109, 97, 114, 107, 116, 121, 112, 101]), .lit (.string [110, 97, 109, 101, 116, 121, 112, 101]), .lit (.string [115, 116, 114, 105, 110, 103, 116, 121, 112, 101]), .lit (.string [97, 114, 114, 97, 121, 116, 121, 112, 101]), .lit (.string [100, 105, 99, 116, 116, 121, 112, 101]), .lit (.string [111, 112, 101, 114, 97, 116, 111, 114, 116, 121, 112, 101]), .lit (.string [115, 97, 118, 101, 116, 121, 112, 101])]
/-- One of Go's own tables, pinned by name: the form's constant. -/
def laid_unicode_CaseRanges : DataW Unit := Go.Pinned.caseRanges
/-- One of Go's own tables, pinned by name: the form's constant. -/
def laid_unicode_utf8_first : DataW Unit := Go.Pinned.utf8First

/-- 'mezzotintlaw11.ExecFuel': WHATEVER THE INPUT: true; the input reads as it did. -/
def execFuelSpec : ChangeSpec := { name := "execFuel", fn := fun _ => fun
  | [d1, d2, d3] => { results := [.lit (.bool true)], args := [d1, d2, d3] }
  | _ => none }
def execFuelRow : OpenClaim := { program := "ytghphioodlkcdaagreatdoor", sum := "76870e965dc857fc622f00ad1209fadb2f39af6b0e9eb6d2c74ac60601977430", func := "mezzotint/mezzotintlaw11.ExecFuel", spec := "execFuel", inPlace := ["internal/bytealg.IndexByteString", "internal/bytealg.IndexString", "internal/abi.NoEscape", "internal/bytealg.MakeNoZero", "internal/bytealg.IndexByte", "internal/bytealg.Index", "internal/bytealg.Compare", "slices.overlaps[mezzotint/store.pair]"], unfollowed := true, recurses := true, named := ["internal/bytealg.MaxLen", "unicode/utf8.first", "unicode/utf8.acceptRanges", "mezzotint/mat.sines", "mezzotint/conv.types", "internal/strconv.uint64pow10", "math/bits.deBruijn32tab", "math/bits.deBruijn64tab", "unicode.CaseRanges"], plainKeys := false, apart := false, laid := [("math/bits.deBruijn32tab", laid_math_bits_deBruijn32tab), ("math/bits.deBruijn64tab", laid_math_bits_deBruijn64tab), ("internal/strconv.uint64pow10", laid_internal_strconv_uint64pow10), ("mezzotint/mat.sines", laid_mezzotint_mat_sines), ("unicode/utf8.acceptRanges", laid_unicode_utf8_acceptRanges), ("mezzotint/conv.types", laid_mezzotint_conv_types), ("unicode.CaseRanges", laid_unicode_CaseRanges), ("unicode/utf8.first", laid_unicode_utf8_first)] }
def ExecFuelSaid : Prop := execFuelRow.holds Tryz.pinned (OpenSpec.ofChange execFuelSpec)

/-- ITS FALSE NEIGHBOUR: 'it returns false'. Refute it at one input. -/
def execFuelWrong : ChangeSpec := { name := "execFuel", fn := fun _ => fun
  | [d1, d2, d3] => { results := [.lit (.bool false)], args := [d1, d2, d3] }
  | _ => none }
def ExecFuelWrongFalsely : Prop := execFuelRow.holds Tryz.pinned (OpenSpec.ofChange execFuelWrong)

/-- 'mezzotintlaw11.ExecTurns': WHATEVER THE INPUT: true; the input reads as it did. -/
def execTurnsSpec : ChangeSpec := { name := "execTurns", fn := fun _ => fun
  | [d1, d2, d3] => { results := [.lit (.bool true)], args := [d1, d2, d3] }
  | _ => none }
def execTurnsRow : OpenClaim := { program := "ytghphioodlkcdaagreatdoor", sum := "76870e965dc857fc622f00ad1209fadb2f39af6b0e9eb6d2c74ac60601977430", func := "mezzotint/mezzotintlaw11.ExecTurns", spec := "execTurns", inPlace := ["internal/bytealg.IndexByteString", "internal/bytealg.IndexString", "internal/abi.NoEscape", "internal/bytealg.MakeNoZero", "internal/bytealg.IndexByte", "internal/bytealg.Index", "internal/bytealg.Compare", "slices.overlaps[mezzotint/store.pair]"], unfollowed := true, recurses := true, named := ["internal/bytealg.MaxLen", "unicode/utf8.first", "unicode/utf8.acceptRanges", "mezzotint/mat.sines", "mezzotint/conv.types", "internal/strconv.uint64pow10", "math/bits.deBruijn32tab", "math/bits.deBruijn64tab", "unicode.CaseRanges"], plainKeys := false, apart := false, laid := [("math/bits.deBruijn32tab", laid_math_bits_deBruijn32tab), ("math/bits.deBruijn64tab", laid_math_bits_deBruijn64tab), ("internal/strconv.uint64pow10", laid_internal_strconv_uint64pow10), ("mezzotint/mat.sines", laid_mezzotint_mat_sines), ("unicode/utf8.acceptRanges", laid_unicode_utf8_acceptRanges), ("mezzotint/conv.types", laid_mezzotint_conv_types), ("unicode.CaseRanges", laid_unicode_CaseRanges), ("unicode/utf8.first", laid_unicode_utf8_first)] }
def ExecTurnsSaid : Prop := execTurnsRow.holds Tryz.pinned (OpenSpec.ofChange execTurnsSpec)

/-- ITS FALSE NEIGHBOUR: 'it returns false'. Refute it at one input. -/
def execTurnsWrong : ChangeSpec := { name := "execTurns", fn := fun _ => fun
  | [d1, d2, d3] => { results := [.lit (.bool false)], args := [d1, d2, d3] }
  | _ => none }
def ExecTurnsWrongFalsely : Prop := execTurnsRow.holds Tryz.pinned (OpenSpec.ofChange execTurnsWrong)

/-- 'mezzotintlaw11.ExecSwaps': WHATEVER THE INPUT: true; the input reads as it did. -/
def execSwapsSpec : ChangeSpec := { name := "execSwaps", fn := fun _ => fun
  | [d1, d2, d3, d4] => { results := [.lit (.bool true)], args := [d1, d2, d3, d4] }
  | _ => none }
def execSwapsRow : OpenClaim := { program := "ytghphioodlkcdaagreatdoor", sum := "76870e965dc857fc622f00ad1209fadb2f39af6b0e9eb6d2c74ac60601977430", func := "mezzotint/mezzotintlaw11.ExecSwaps", spec := "execSwaps", inPlace := ["internal/bytealg.IndexByteString", "internal/bytealg.IndexString", "internal/abi.NoEscape", "internal/bytealg.MakeNoZero", "internal/bytealg.IndexByte", "internal/bytealg.Index", "internal/bytealg.Compare", "slices.overlaps[mezzotint/store.pair]"], unfollowed := true, recurses := true, named := ["internal/bytealg.MaxLen", "unicode/utf8.first", "unicode/utf8.acceptRanges", "mezzotint/mat.sines", "mezzotint/conv.types", "internal/strconv.uint64pow10", "math/bits.deBruijn32tab", "math/bits.deBruijn64tab", "unicode.CaseRanges"], plainKeys := false, apart := false, laid := [("math/bits.deBruijn32tab", laid_math_bits_deBruijn32tab), ("math/bits.deBruijn64tab", laid_math_bits_deBruijn64tab), ("internal/strconv.uint64pow10", laid_internal_strconv_uint64pow10), ("mezzotint/mat.sines", laid_mezzotint_mat_sines), ("unicode/utf8.acceptRanges", laid_unicode_utf8_acceptRanges), ("mezzotint/conv.types", laid_mezzotint_conv_types), ("unicode.CaseRanges", laid_unicode_CaseRanges), ("unicode/utf8.first", laid_unicode_utf8_first)] }
def ExecSwapsSaid : Prop := execSwapsRow.holds Tryz.pinned (OpenSpec.ofChange execSwapsSpec)

/-- ITS FALSE NEIGHBOUR: 'it returns false'. Refute it at one input. -/
def execSwapsWrong : ChangeSpec := { name := "execSwaps", fn := fun _ => fun
  | [d1, d2, d3, d4] => { results := [.lit (.bool false)], args := [d1, d2, d3, d4] }
  | _ => none }
def ExecSwapsWrongFalsely : Prop := execSwapsRow.holds Tryz.pinned (OpenSpec.ofChange execSwapsWrong)

/-- 'mezzotintlaw11.ExecNone': WHATEVER THE INPUT: true; the input reads as it did. -/
def execNoneSpec : ChangeSpec := { name := "execNone", fn := fun _ => fun
  | [d1, d2] => { results := [.lit (.bool true)], args := [d1, d2] }
  | _ => none }
def execNoneRow : OpenClaim := { program := "ytghphioodlkcdaagreatdoor", sum := "76870e965dc857fc622f00ad1209fadb2f39af6b0e9eb6d2c74ac60601977430", func := "mezzotint/mezzotintlaw11.ExecNone", spec := "execNone", inPlace := ["internal/bytealg.IndexByteString", "internal/bytealg.IndexString", "internal/abi.NoEscape", "internal/bytealg.MakeNoZero", "internal/bytealg.IndexByte", "internal/bytealg.Index", "internal/bytealg.Compare", "slices.overlaps[mezzotint/store.pair]"], unfollowed := true, recurses := true, named := ["internal/bytealg.MaxLen", "unicode/utf8.first", "unicode/utf8.acceptRanges", "mezzotint/mat.sines", "mezzotint/conv.types", "internal/strconv.uint64pow10", "math/bits.deBruijn32tab", "math/bits.deBruijn64tab", "unicode.CaseRanges"], plainKeys := false, apart := false, laid := [("math/bits.deBruijn32tab", laid_math_bits_deBruijn32tab), ("math/bits.deBruijn64tab", laid_math_bits_deBruijn64tab), ("internal/strconv.uint64pow10", laid_internal_strconv_uint64pow10), ("mezzotint/mat.sines", laid_mezzotint_mat_sines), ("unicode/utf8.acceptRanges", laid_unicode_utf8_acceptRanges), ("mezzotint/conv.types", laid_mezzotint_conv_types), ("unicode.CaseRanges", laid_unicode_CaseRanges), ("unicode/utf8.first", laid_unicode_utf8_first)] }
def ExecNoneSaid : Prop := execNoneRow.holds Tryz.pinned (OpenSpec.ofChange execNoneSpec)

/-- ITS FALSE NEIGHBOUR: 'it returns false'. Refute it at one input. -/
def execNoneWrong : ChangeSpec := { name := "execNone", fn := fun _ => fun
  | [d1, d2] => { results := [.lit (.bool false)], args := [d1, d2] }
  | _ => none }
def ExecNoneWrongFalsely : Prop := execNoneRow.holds Tryz.pinned (OpenSpec.ofChange execNoneWrong)

/- THE SECOND FORM. 'bulk': how many values and letters a reading holds, each counted each time it is reached (what is shared counts as often as it is met; a slice's spare places count too). A statement '..UptoSaid' is the law's where the arguments, and the package variables that the reading takes, are together of bulk at most 1048576: NARROWER than '..Said'. Prove '..Said' where nothing that the law and all that it calls make is longer than what came in: it says more and counts as full. Else prove '..UptoSaid'. A law counts once. -/
mutual
def uptoBulk {H : Type} : DataW H → Nat
  | .lit (.string bytes) => bytes.length + 1
  | .lit _ => 1
  | .nil => 1
  | .ptr d => uptoBulk d + 1
  | .slice elems spare => uptoBulkAll elems + uptoBulkAll spare + 1
  | .agg parts => uptoBulkAll parts + 1
  | .iface _ d => uptoBulk d + 1
  | .map entries => uptoBulkEntries entries + 1
  | .held _ => 1
def uptoBulkAll {H : Type} : List (DataW H) → Nat
  | [] => 0
  | d :: r => uptoBulk d + uptoBulkAll r
def uptoBulkEntries {H : Type} : List (Lit × DataW H) → Nat
  | [] => 0
  | x :: r => uptoBulkEntry x + uptoBulkEntries r
def uptoBulkEntry {H : Type} : Lit × DataW H → Nat
  | (.string bytes, d) => bytes.length + uptoBulk d + 1
  | (_, d) => uptoBulk d + 1
 end
def uptoSmall : (H : Type) → List (DataW H) → Bool := fun _ ds => decide (uptoBulkAll ds ≤ 1048576)
def OpenSpec.upto (s : _root_.Go.ChangeSpec) : _root_.Go.OpenSpec := { _root_.Go.OpenSpec.ofChange s with cond := some uptoSmall }

/-- 'mezzotintlaw11.ExecFuel', WHERE WHAT IT READS IS OF BULK AT MOST 1048576: true; the input reads as it did. -/
def execFuelUptoRow : OpenClaim := { program := "ytghphioodlkcdaagreatdoor", sum := "76870e965dc857fc622f00ad1209fadb2f39af6b0e9eb6d2c74ac60601977430", func := "mezzotint/mezzotintlaw11.ExecFuel", spec := "execFuel", inPlace := ["internal/bytealg.IndexByteString", "internal/bytealg.IndexString", "internal/abi.NoEscape", "internal/bytealg.MakeNoZero", "internal/bytealg.IndexByte", "internal/bytealg.Index", "internal/bytealg.Compare", "slices.overlaps[mezzotint/store.pair]"], unfollowed := true, recurses := true, named := ["internal/bytealg.MaxLen", "unicode/utf8.first", "unicode/utf8.acceptRanges", "mezzotint/mat.sines", "mezzotint/conv.types", "internal/strconv.uint64pow10", "math/bits.deBruijn32tab", "math/bits.deBruijn64tab", "unicode.CaseRanges"], plainKeys := false, apart := false, laid := [("math/bits.deBruijn32tab", laid_math_bits_deBruijn32tab), ("math/bits.deBruijn64tab", laid_math_bits_deBruijn64tab), ("internal/strconv.uint64pow10", laid_internal_strconv_uint64pow10), ("mezzotint/mat.sines", laid_mezzotint_mat_sines), ("unicode/utf8.acceptRanges", laid_unicode_utf8_acceptRanges), ("mezzotint/conv.types", laid_mezzotint_conv_types), ("unicode.CaseRanges", laid_unicode_CaseRanges), ("unicode/utf8.first", laid_unicode_utf8_first)], narrowed := true }
def ExecFuelUptoSaid : Prop := execFuelUptoRow.holds Tryz.pinned (OpenSpec.upto execFuelSpec)

/-- 'mezzotintlaw11.ExecTurns', WHERE WHAT IT READS IS OF BULK AT MOST 1048576: true; the input reads as it did. -/
def execTurnsUptoRow : OpenClaim := { program := "ytghphioodlkcdaagreatdoor", sum := "76870e965dc857fc622f00ad1209fadb2f39af6b0e9eb6d2c74ac60601977430", func := "mezzotint/mezzotintlaw11.ExecTurns", spec := "execTurns", inPlace := ["internal/bytealg.IndexByteString", "internal/bytealg.IndexString", "internal/abi.NoEscape", "internal/bytealg.MakeNoZero", "internal/bytealg.IndexByte", "internal/bytealg.Index", "internal/bytealg.Compare", "slices.overlaps[mezzotint/store.pair]"], unfollowed := true, recurses := true, named := ["internal/bytealg.MaxLen", "unicode/utf8.first", "unicode/utf8.acceptRanges", "mezzotint/mat.sines", "mezzotint/conv.types", "internal/strconv.uint64pow10", "math/bits.deBruijn32tab", "math/bits.deBruijn64tab", "unicode.CaseRanges"], plainKeys := false, apart := false, laid := [("math/bits.deBruijn32tab", laid_math_bits_deBruijn32tab), ("math/bits.deBruijn64tab", laid_math_bits_deBruijn64tab), ("internal/strconv.uint64pow10", laid_internal_strconv_uint64pow10), ("mezzotint/mat.sines", laid_mezzotint_mat_sines), ("unicode/utf8.acceptRanges", laid_unicode_utf8_acceptRanges), ("mezzotint/conv.types", laid_mezzotint_conv_types), ("unicode.CaseRanges", laid_unicode_CaseRanges), ("unicode/utf8.first", laid_unicode_utf8_first)], narrowed := true }
def ExecTurnsUptoSaid : Prop := execTurnsUptoRow.holds Tryz.pinned (OpenSpec.upto execTurnsSpec)

/-- 'mezzotintlaw11.ExecSwaps', WHERE WHAT IT READS IS OF BULK AT MOST 1048576: true; the input reads as it did. -/
def execSwapsUptoRow : OpenClaim := { program := "ytghphioodlkcdaagreatdoor", sum := "76870e965dc857fc622f00ad1209fadb2f39af6b0e9eb6d2c74ac60601977430", func := "mezzotint/mezzotintlaw11.ExecSwaps", spec := "execSwaps", inPlace := ["internal/bytealg.IndexByteString", "internal/bytealg.IndexString", "internal/abi.NoEscape", "internal/bytealg.MakeNoZero", "internal/bytealg.IndexByte", "internal/bytealg.Index", "internal/bytealg.Compare", "slices.overlaps[mezzotint/store.pair]"], unfollowed := true, recurses := true, named := ["internal/bytealg.MaxLen", "unicode/utf8.first", "unicode/utf8.acceptRanges", "mezzotint/mat.sines", "mezzotint/conv.types", "internal/strconv.uint64pow10", "math/bits.deBruijn32tab", "math/bits.deBruijn64tab", "unicode.CaseRanges"], plainKeys := false, apart := false, laid := [("math/bits.deBruijn32tab", laid_math_bits_deBruijn32tab), ("math/bits.deBruijn64tab", laid_math_bits_deBruijn64tab), ("internal/strconv.uint64pow10", laid_internal_strconv_uint64pow10), ("mezzotint/mat.sines", laid_mezzotint_mat_sines), ("unicode/utf8.acceptRanges", laid_unicode_utf8_acceptRanges), ("mezzotint/conv.types", laid_mezzotint_conv_types), ("unicode.CaseRanges", laid_unicode_CaseRanges), ("unicode/utf8.first", laid_unicode_utf8_first)], narrowed := true }
def ExecSwapsUptoSaid : Prop := execSwapsUptoRow.holds Tryz.pinned (OpenSpec.upto execSwapsSpec)

/-- 'mezzotintlaw11.ExecNone', WHERE WHAT IT READS IS OF BULK AT MOST 1048576: true; the input reads as it did. -/
def execNoneUptoRow : OpenClaim := { program := "ytghphioodlkcdaagreatdoor", sum := "76870e965dc857fc622f00ad1209fadb2f39af6b0e9eb6d2c74ac60601977430", func := "mezzotint/mezzotintlaw11.ExecNone", spec := "execNone", inPlace := ["internal/bytealg.IndexByteString", "internal/bytealg.IndexString", "internal/abi.NoEscape", "internal/bytealg.MakeNoZero", "internal/bytealg.IndexByte", "internal/bytealg.Index", "internal/bytealg.Compare", "slices.overlaps[mezzotint/store.pair]"], unfollowed := true, recurses := true, named := ["internal/bytealg.MaxLen", "unicode/utf8.first", "unicode/utf8.acceptRanges", "mezzotint/mat.sines", "mezzotint/conv.types", "internal/strconv.uint64pow10", "math/bits.deBruijn32tab", "math/bits.deBruijn64tab", "unicode.CaseRanges"], plainKeys := false, apart := false, laid := [("math/bits.deBruijn32tab", laid_math_bits_deBruijn32tab), ("math/bits.deBruijn64tab", laid_math_bits_deBruijn64tab), ("internal/strconv.uint64pow10", laid_internal_strconv_uint64pow10), ("mezzotint/mat.sines", laid_mezzotint_mat_sines), ("unicode/utf8.acceptRanges", laid_unicode_utf8_acceptRanges), ("mezzotint/conv.types", laid_mezzotint_conv_types), ("unicode.CaseRanges", laid_unicode_CaseRanges), ("unicode/utf8.first", laid_unicode_utf8_first)], narrowed := true }
def ExecNoneUptoSaid : Prop := execNoneUptoRow.holds Tryz.pinned (OpenSpec.upto execNoneSpec)

end Rows
end Go.Proofs.YtghphioodlkcdaaGreatDoor
