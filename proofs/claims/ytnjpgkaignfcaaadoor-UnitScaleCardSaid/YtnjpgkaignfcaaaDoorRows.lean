/-
  NARROWER THAN 'FOR EVERY INPUT', by the rows' own cells (each row's printed sentence says how): UnitLookup: laid · UnitName: laid · UnitParse: laid · UnitRoundTrip: laid · UnitQuotient: laid · UnitScale: laid · UnitDims: laid · UnitProduct: laid · UnitSum: laid · UnitCancel: laid · UnitCompare: laid.
  DERIVED. THE GIVEN ROWS OF THIS SEAT. 11 by the template 'for every input the law returns true; each argument reads behind the call as it read before'; 0 by the template 'total and deterministic' (their statements: YtnjpgkaignfcaaaDoorTotals.lean).
  GIVEN WITH THE SEED: the statements are not yours to turn. If you find one false, say at which input.
  Laid BY PROGRAM, IN A SANDBOX (cutbox-rows.mjs): the forced cells as the released guide's own fill.sh prints them over the translation f26d06a6d7db64fd… (all of the seat's roots in one cut). By AI agents, Wed Nov 11 2026. No macro, syntax, notation, axiom, sorry.
-/
import Derived.Test.YtnjpgkaignfcaaaDoorChecked
import GoSem.PinnedTables
import GoSem.Claim
import GoSem.ClaimJoined
import GoSem.ClaimMapViews
import Derived.JoinedTies
import Derived.KernelRfl
namespace Go.Proofs.YtnjpgkaignfcaaaDoor
/- THE CELL 'sum', in the pinned program and in every row, IS THE sha256 OF THE DUMP (.gsa) THAT YtnjpgkaignfcaaaDoorProg.lean LOADS. Nothing in Lean hashes anything: it is a label: what it is worth is what the hold of that sum in a sandbox is worth. -/
noncomputable def Tryd.pinned : Pinned := { name := "ytnjpgkaignfcaaadoor", sum := "f26d06a6d7db64fda2a45afc6d666607f679a85f4ec94317db37f55bae72f245", checked := Tryd.checked }
namespace Rows
def none {H : Type} : Left H := { results := [], args := [] }

/- WHAT THE LISTED PACKAGE-LEVEL VARIABLES READ AS WHEN THE CALL BEGINS. Each datum BY PROGRAM (the guide's laid-datum.mjs) off the statement by which the dump's own 'gosem.cut.vars' lays the variable. In a bare row this is a premise. The card (YtnjpgkaignfcaaaDoorCards.lean) ties it to the program's text. -/
def laid_math_bits_deBruijn32tab {H : Type} : DataW H := .agg [.lit (.int .u8 0), .lit (.int .u8 1), .lit (.int .u8 28), .lit (.int .u8 2), .lit (.int .u8 29), .lit (.int .u8 14), .lit (.int .u8 24), .lit (.int .u8 3), .lit (.int .u8 30), .lit (.int .u8 22), .lit (.int .u8 20), .lit (.int .u8 15), .lit (.int .u8 25), .lit (.int .u8 17), .lit (.int .u8 4), .lit (.int .u8 8), .lit (.int .u8 31), .lit (.int .u8 27), .lit (.int .u8 13), .lit (.int .u8 23), .lit (.int .u8 21), .lit (.int .u8 19), .lit (.int .u8 16), .lit (.int .u8 7), .lit (.int .u8 26), .lit (.int .u8 12), .lit (.int .u8 18), .lit (.int .u8 6), .lit (.int .u8 11), .lit (.int .u8 5), .lit (.int .u8 10), .lit (.int .u8 9)]
def laid_math_bits_deBruijn64tab {H : Type} : DataW H := .agg [.lit (.int .u8 0), .lit (.int .u8 1), .lit (.int .u8 56), .lit (.int .u8 2), .lit (.int .u8 57), .lit (.int .u8 49), .lit (.int .u8 28), .lit (.int .u8 3), .lit (.int .u8 61), .lit (.int .u8 58), .lit (.int .u8 42), .lit (.int .u8 50), .lit (.int .u8 38), .lit (.int .u8 29), .lit (.int .u8 17), .lit (.int .u8 4), .lit (.int .u8 62), .lit (.int .u8 47), .lit (.int .u8 59), .lit (.int .u8 36), .lit (.int .u8 45), .lit (.int .u8 43), .lit (.int .u8 51), .lit (.int .u8 22), .lit (.int .u8 53), .lit (.int .u8 39), .lit (.int .u8 33), .lit (.int .u8 30), .lit (.int .u8 24), .lit (.int .u8 18), .lit (.int .u8 12), .lit (.int .u8 5), .lit (.int .u8 63), .lit (.int .u8 55), .lit (.int .u8 48), .lit (.int .u8 27), .lit (.int .u8 60), .lit (.int .u8 41), .lit (.int .u8 37), .lit (.int .u8 16), .lit (.int .u8 46), .lit (.int .u8 35), .lit (.int .u8 44), .lit (.int .u8 21), .lit (.int .u8 52), .lit (.int .u8 32), .lit (.int .u8 23), .lit (.int .u8 11), .lit (.int .u8 54), .lit (.int .u8 26), .lit (.int .u8 40), .lit (.int .u8 15), .lit (.int .u8 34), .lit (.int .u8 20), .lit (.int .u8 31), .lit (.int .u8 10), .lit (.int .u8 25), .lit (.int .u8 14), .lit (.int .u8 19), .lit (.int .u8 9), .lit (.int .u8 13), .lit (.int .u8 8), .lit (.int .u8 7), .lit (.int .u8 6)]
def laid_internal_strconv_uint64pow10 {H : Type} : DataW H := .agg [.lit (.int .u64 1), .lit (.int .u64 10), .lit (.int .u64 100), .lit (.int .u64 1000), .lit (.int .u64 10000), .lit (.int .u64 100000), .lit (.int .u64 1000000), .lit (.int .u64 10000000), .lit (.int .u64 100000000), .lit (.int .u64 1000000000), .lit (.int .u64 10000000000), .lit (.int .u64 100000000000), .lit (.int .u64 1000000000000), .lit (.int .u64 10000000000000), .lit (.int .u64 100000000000000), .lit (.int .u64 1000000000000000), .lit (.int .u64 10000000000000000), .lit (.int .u64 100000000000000000), .lit (.int .u64 1000000000000000000), .lit (.int .u64 10000000000000000000)]
def laid_unicode_utf8_acceptRanges {H : Type} : DataW H := .agg [.agg [.lit (.int .u8 128), .lit (.int .u8 191)], .agg [.lit (.int .u8 160), .lit (.int .u8 191)], .agg [.lit (.int .u8 128), .lit (.int .u8 159)], .agg [.lit (.int .u8 144), .lit (.int .u8 191)], .agg [.lit (.int .u8 128), .lit (.int .u8 143)], .agg [.lit (.int .u8 0), .lit (.int .u8 0)], .agg [.lit (.int .u8 0), .lit (.int .u8 0)], .agg [.lit (.int .u8 0), .lit (.int .u8 0)], .agg [.lit (.int .u8 0), .lit (.int .u8 0)], .agg [.lit (.int .u8 0), .lit (.int .u8 0)], .agg [.lit (.int .u8 0), .lit (.int .u8 0)], .agg [.lit (.int .u8 0), .lit (.int .u8 0)], .agg [.lit (.int .u8 0), .lit (.int .u8 0)], .agg [.lit (.int .u8 0), .lit (.int .u8 0)], .agg [.lit (.int .u8 0), .lit (.int .u8 0)], .agg [.lit (.int .u8 0), .lit (.int .u8 0)]]
def laid_perigee_unit_table {H : Type} : DataW H := .slice [.agg [.lit (.string [74]), .lit (.int .i64 1), .agg [.lit (.int .i64 1), .lit (.int .i64 0), .lit (.int .i64 0), .lit (.int .i64 0), .lit (.int .i64 0)]], .agg [.lit (.string [107, 74]), .lit (.int .i64 1000), .agg [.lit (.int .i64 1), .lit (.int .i64 0), .lit (.int .i64 0), .lit (.int .i64 0), .lit (.int .i64 0)]], .agg [.lit (.string [87, 104]), .lit (.int .i64 3600), .agg [.lit (.int .i64 1), .lit (.int .i64 0), .lit (.int .i64 0), .lit (.int .i64 0), .lit (.int .i64 0)]], .agg [.lit (.string [66]), .lit (.int .i64 1), .agg [.lit (.int .i64 0), .lit (.int .i64 1), .lit (.int .i64 0), .lit (.int .i64 0), .lit (.int .i64 0)]], .agg [.lit (.string [107, 66]), .lit (.int .i64 1000), .agg [.lit (.int .i64 0), .lit (.int .i64 1), .lit (.int .i64 0), .lit (.int .i64 0), .lit (.int .i64 0)]], .agg [.lit (.string [115]), .lit (.int .i64 1), .agg [.lit (.int .i64 0), .lit (.int .i64 0), .lit (.int .i64 1), .lit (.int .i64 0), .lit (.int .i64 0)]], .agg [.lit (.string [109, 105, 110]), .lit (.int .i64 60), .agg [.lit (.int .i64 0), .lit (.int .i64 0), .lit (.int .i64 1), .lit (.int .i64 0), .lit (.int .i64 0)]], .agg [.lit (.string [104]), .lit (.int .i64 3600), .agg [.lit (.int .i64 0), .lit (.int .i64 0), .lit (.int .i64 1), .lit (.int .i64 0), .lit (.int .i64 0)]], .agg [.lit (.string [100, 101, 103]), .lit (.int .i64 1), .agg [.lit (.int .i64 0), .lit (.int .i64 0), .lit (.int .i64 0), .lit (.int .i64 1), .lit (.int .i64 0)]], .agg [.lit (.string [75]), .lit (.int .i64 1), .agg [.lit (.int .i64 0), .lit (.int .i64 0), .lit (.int .i64 0), .lit (.int .i64 0), .lit (.int .i64 1)]], .agg [.lit (.string [87]), .lit (.int .i64 1), .agg [.lit (.int .i64 1), .lit (.int .i64 0), .lit (.int .i64 (-1)), .lit (.int .i64 0), .lit (.int .i64 0)]], .agg [.lit (.string [107, 87]), .lit (.int .i64 1000), .agg [.lit (.int .i64 1), .lit (.int .i64 0), .lit (.int .i64 (-1)), .lit (.int .i64 0), .lit (.int .i64 0)]], .agg [.lit (.string [66, 112, 115]), .lit (.int .i64 1), .agg [.lit (.int .i64 0), .lit (.int .i64 1), .lit (.int .i64 (-1)), .lit (.int .i64 0), .lit (.int .i64 0)]]] []
/-- One of Go's own tables, pinned by name: the form's constant. -/
def laid_unicode_utf8_first : DataW Unit := Go.Pinned.utf8First

/-- 'perigeelaw04.UnitLookup': WHATEVER THE INPUT: true; the input reads as it did. -/
def unitLookupSpec : ChangeSpec := { name := "unitLookup", fn := fun _ => fun
  | [d] => { results := [.lit (.bool true)], args := [d] }
  | _ => none }
def unitLookupRow : OpenClaim := { program := "ytnjpgkaignfcaaadoor", sum := "f26d06a6d7db64fda2a45afc6d666607f679a85f4ec94317db37f55bae72f245", func := "perigee/perigeelaw04.UnitLookup", spec := "unitLookup", inPlace := ["internal/bytealg.IndexByteString", "internal/bytealg.IndexString", "internal/bytealg.CountString", "internal/abi.NoEscape", "internal/bytealg.MakeNoZero"], named := ["perigee/unit.table", "internal/bytealg.MaxLen", "unicode/utf8.first", "unicode/utf8.acceptRanges", "internal/strconv.uint64pow10", "math/bits.deBruijn32tab", "math/bits.deBruijn64tab"], apart := false, laid := [("math/bits.deBruijn32tab", laid_math_bits_deBruijn32tab), ("math/bits.deBruijn64tab", laid_math_bits_deBruijn64tab), ("internal/strconv.uint64pow10", laid_internal_strconv_uint64pow10), ("unicode/utf8.acceptRanges", laid_unicode_utf8_acceptRanges), ("perigee/unit.table", laid_perigee_unit_table), ("unicode/utf8.first", laid_unicode_utf8_first)] }
def UnitLookupSaid : Prop := unitLookupRow.holds Tryd.pinned (OpenSpec.ofChange unitLookupSpec)

/-- ITS FALSE NEIGHBOUR: 'it returns false'. Refute it at one input. -/
def unitLookupWrong : ChangeSpec := { name := "unitLookup", fn := fun _ => fun
  | [d] => { results := [.lit (.bool false)], args := [d] }
  | _ => none }
def UnitLookupWrongFalsely : Prop := unitLookupRow.holds Tryd.pinned (OpenSpec.ofChange unitLookupWrong)

/-- 'perigeelaw04.UnitName': WHATEVER THE INPUT: true; the input reads as it did. -/
def unitNameSpec : ChangeSpec := { name := "unitName", fn := fun _ => fun
  | [d] => { results := [.lit (.bool true)], args := [d] }
  | _ => none }
def unitNameRow : OpenClaim := { program := "ytnjpgkaignfcaaadoor", sum := "f26d06a6d7db64fda2a45afc6d666607f679a85f4ec94317db37f55bae72f245", func := "perigee/perigeelaw04.UnitName", spec := "unitName", inPlace := ["internal/abi.NoEscape", "internal/bytealg.MakeNoZero", "internal/bytealg.IndexByteString", "internal/bytealg.IndexString", "internal/bytealg.CountString"], named := ["internal/strconv.uint64pow10", "math/bits.deBruijn32tab", "math/bits.deBruijn64tab", "perigee/unit.table", "internal/bytealg.MaxLen", "unicode/utf8.first", "unicode/utf8.acceptRanges"], apart := false, laid := [("math/bits.deBruijn32tab", laid_math_bits_deBruijn32tab), ("math/bits.deBruijn64tab", laid_math_bits_deBruijn64tab), ("internal/strconv.uint64pow10", laid_internal_strconv_uint64pow10), ("unicode/utf8.acceptRanges", laid_unicode_utf8_acceptRanges), ("perigee/unit.table", laid_perigee_unit_table), ("unicode/utf8.first", laid_unicode_utf8_first)] }
def UnitNameSaid : Prop := unitNameRow.holds Tryd.pinned (OpenSpec.ofChange unitNameSpec)

/-- ITS FALSE NEIGHBOUR: 'it returns false'. Refute it at one input. -/
def unitNameWrong : ChangeSpec := { name := "unitName", fn := fun _ => fun
  | [d] => { results := [.lit (.bool false)], args := [d] }
  | _ => none }
def UnitNameWrongFalsely : Prop := unitNameRow.holds Tryd.pinned (OpenSpec.ofChange unitNameWrong)

/-- 'perigeelaw04.UnitParse': WHATEVER THE INPUT: true; the input reads as it did. -/
def unitParseSpec : ChangeSpec := { name := "unitParse", fn := fun _ => fun
  | [d] => { results := [.lit (.bool true)], args := [d] }
  | _ => none }
def unitParseRow : OpenClaim := { program := "ytnjpgkaignfcaaadoor", sum := "f26d06a6d7db64fda2a45afc6d666607f679a85f4ec94317db37f55bae72f245", func := "perigee/perigeelaw04.UnitParse", spec := "unitParse", inPlace := ["internal/bytealg.IndexByteString", "internal/bytealg.IndexString", "internal/bytealg.CountString", "internal/abi.NoEscape", "internal/bytealg.MakeNoZero"], named := ["internal/bytealg.MaxLen", "unicode/utf8.first", "unicode/utf8.acceptRanges", "perigee/unit.table", "internal/strconv.uint64pow10", "math/bits.deBruijn32tab", "math/bits.deBruijn64tab"], apart := false, laid := [("math/bits.deBruijn32tab", laid_math_bits_deBruijn32tab), ("math/bits.deBruijn64tab", laid_math_bits_deBruijn64tab), ("internal/strconv.uint64pow10", laid_internal_strconv_uint64pow10), ("unicode/utf8.acceptRanges", laid_unicode_utf8_acceptRanges), ("perigee/unit.table", laid_perigee_unit_table), ("unicode/utf8.first", laid_unicode_utf8_first)] }
def UnitParseSaid : Prop := unitParseRow.holds Tryd.pinned (OpenSpec.ofChange unitParseSpec)

/-- ITS FALSE NEIGHBOUR: 'it returns false'. Refute it at one input. -/
def unitParseWrong : ChangeSpec := { name := "unitParse", fn := fun _ => fun
  | [d] => { results := [.lit (.bool false)], args := [d] }
  | _ => none }
def UnitParseWrongFalsely : Prop := unitParseRow.holds Tryd.pinned (OpenSpec.ofChange unitParseWrong)

/-- 'perigeelaw04.UnitRoundTrip': WHATEVER THE INPUT: true; the input reads as it did. -/
def unitRoundTripSpec : ChangeSpec := { name := "unitRoundTrip", fn := fun _ => fun
  | [d] => { results := [.lit (.bool true)], args := [d] }
  | _ => none }
def unitRoundTripRow : OpenClaim := { program := "ytnjpgkaignfcaaadoor", sum := "f26d06a6d7db64fda2a45afc6d666607f679a85f4ec94317db37f55bae72f245", func := "perigee/perigeelaw04.UnitRoundTrip", spec := "unitRoundTrip", inPlace := ["internal/bytealg.IndexByteString", "internal/bytealg.IndexString", "internal/bytealg.CountString", "internal/abi.NoEscape", "internal/bytealg.MakeNoZero"], named := ["perigee/unit.table", "internal/bytealg.MaxLen", "unicode/utf8.first", "unicode/utf8.acceptRanges", "internal/strconv.uint64pow10", "math/bits.deBruijn32tab", "math/bits.deBruijn64tab"], apart := false, laid := [("math/bits.deBruijn32tab", laid_math_bits_deBruijn32tab), ("math/bits.deBruijn64tab", laid_math_bits_deBruijn64tab), ("internal/strconv.uint64pow10", laid_internal_strconv_uint64pow10), ("unicode/utf8.acceptRanges", laid_unicode_utf8_acceptRanges), ("perigee/unit.table", laid_perigee_unit_table), ("unicode/utf8.first", laid_unicode_utf8_first)] }
def UnitRoundTripSaid : Prop := unitRoundTripRow.holds Tryd.pinned (OpenSpec.ofChange unitRoundTripSpec)

/-- ITS FALSE NEIGHBOUR: 'it returns false'. Refute it at one input. -/
def unitRoundTripWrong : ChangeSpec := { name := "unitRoundTrip", fn := fun _ => fun
  | [d] => { results := [.lit (.bool false)], args := [d] }
  | _ => none }
def UnitRoundTripWrongFalsely : Prop := unitRoundTripRow.holds Tryd.pinned (OpenSpec.ofChange unitRoundTripWrong)

/-- 'perigeelaw04.UnitQuotient': WHATEVER THE INPUT: true; the input reads as it did. -/
def unitQuotientSpec : ChangeSpec := { name := "unitQuotient", fn := fun _ => fun
  | [d1, d2] => { results := [.lit (.bool true)], args := [d1, d2] }
  | _ => none }
def unitQuotientRow : OpenClaim := { program := "ytnjpgkaignfcaaadoor", sum := "f26d06a6d7db64fda2a45afc6d666607f679a85f4ec94317db37f55bae72f245", func := "perigee/perigeelaw04.UnitQuotient", spec := "unitQuotient", inPlace := ["internal/bytealg.IndexByteString", "internal/bytealg.IndexString", "internal/bytealg.CountString", "internal/abi.NoEscape", "internal/bytealg.MakeNoZero"], named := ["perigee/unit.table", "internal/bytealg.MaxLen", "unicode/utf8.first", "unicode/utf8.acceptRanges", "internal/strconv.uint64pow10", "math/bits.deBruijn32tab", "math/bits.deBruijn64tab"], apart := false, laid := [("math/bits.deBruijn32tab", laid_math_bits_deBruijn32tab), ("math/bits.deBruijn64tab", laid_math_bits_deBruijn64tab), ("internal/strconv.uint64pow10", laid_internal_strconv_uint64pow10), ("unicode/utf8.acceptRanges", laid_unicode_utf8_acceptRanges), ("perigee/unit.table", laid_perigee_unit_table), ("unicode/utf8.first", laid_unicode_utf8_first)] }
def UnitQuotientSaid : Prop := unitQuotientRow.holds Tryd.pinned (OpenSpec.ofChange unitQuotientSpec)

/-- ITS FALSE NEIGHBOUR: 'it returns false'. Refute it at one input. -/
def unitQuotientWrong : ChangeSpec := { name := "unitQuotient", fn := fun _ => fun
  | [d1, d2] => { results := [.lit (.bool false)], args := [d1, d2] }
  | _ => none }
def UnitQuotientWrongFalsely : Prop := unitQuotientRow.holds Tryd.pinned (OpenSpec.ofChange unitQuotientWrong)

/-- 'perigeelaw04.UnitScale': WHATEVER THE INPUT: true; the input reads as it did. -/
def unitScaleSpec : ChangeSpec := { name := "unitScale", fn := fun _ => fun
  | [d1, d2] => { results := [.lit (.bool true)], args := [d1, d2] }
  | _ => none }
def unitScaleRow : OpenClaim := { program := "ytnjpgkaignfcaaadoor", sum := "f26d06a6d7db64fda2a45afc6d666607f679a85f4ec94317db37f55bae72f245", func := "perigee/perigeelaw04.UnitScale", spec := "unitScale", inPlace := ["internal/bytealg.IndexByteString", "internal/bytealg.IndexString", "internal/bytealg.CountString", "internal/abi.NoEscape", "internal/bytealg.MakeNoZero"], named := ["perigee/unit.table", "internal/bytealg.MaxLen", "unicode/utf8.first", "unicode/utf8.acceptRanges", "internal/strconv.uint64pow10", "math/bits.deBruijn32tab", "math/bits.deBruijn64tab"], apart := false, laid := [("math/bits.deBruijn32tab", laid_math_bits_deBruijn32tab), ("math/bits.deBruijn64tab", laid_math_bits_deBruijn64tab), ("internal/strconv.uint64pow10", laid_internal_strconv_uint64pow10), ("unicode/utf8.acceptRanges", laid_unicode_utf8_acceptRanges), ("perigee/unit.table", laid_perigee_unit_table), ("unicode/utf8.first", laid_unicode_utf8_first)] }
def UnitScaleSaid : Prop := unitScaleRow.holds Tryd.pinned (OpenSpec.ofChange unitScaleSpec)

/-- ITS FALSE NEIGHBOUR: 'it returns false'. Refute it at one input. -/
def unitScaleWrong : ChangeSpec := { name := "unitScale", fn := fun _ => fun
  | [d1, d2] => { results := [.lit (.bool false)], args := [d1, d2] }
  | _ => none }
def UnitScaleWrongFalsely : Prop := unitScaleRow.holds Tryd.pinned (OpenSpec.ofChange unitScaleWrong)

/-- 'perigeelaw04.UnitDims': WHATEVER THE INPUT: true; the input reads as it did. -/
def unitDimsSpec : ChangeSpec := { name := "unitDims", fn := fun _ => fun
  | [d1, d2] => { results := [.lit (.bool true)], args := [d1, d2] }
  | _ => none }
def unitDimsRow : OpenClaim := { program := "ytnjpgkaignfcaaadoor", sum := "f26d06a6d7db64fda2a45afc6d666607f679a85f4ec94317db37f55bae72f245", func := "perigee/perigeelaw04.UnitDims", spec := "unitDims", inPlace := ["internal/bytealg.IndexByteString", "internal/bytealg.IndexString", "internal/bytealg.CountString", "internal/abi.NoEscape", "internal/bytealg.MakeNoZero"], named := ["perigee/unit.table", "internal/bytealg.MaxLen", "unicode/utf8.first", "unicode/utf8.acceptRanges", "internal/strconv.uint64pow10", "math/bits.deBruijn32tab", "math/bits.deBruijn64tab"], apart := false, laid := [("math/bits.deBruijn32tab", laid_math_bits_deBruijn32tab), ("math/bits.deBruijn64tab", laid_math_bits_deBruijn64tab), ("internal/strconv.uint64pow10", laid_internal_strconv_uint64pow10), ("unicode/utf8.acceptRanges", laid_unicode_utf8_acceptRanges), ("perigee/unit.table", laid_perigee_unit_table), ("unicode/utf8.first", laid_unicode_utf8_first)] }
def UnitDimsSaid : Prop := unitDimsRow.holds Tryd.pinned (OpenSpec.ofChange unitDimsSpec)

/-- ITS FALSE NEIGHBOUR: 'it returns false'. Refute it at one input. -/
def unitDimsWrong : ChangeSpec := { name := "unitDims", fn := fun _ => fun
  | [d1, d2] => { results := [.lit (.bool false)], args := [d1, d2] }
  | _ => none }
def UnitDimsWrongFalsely : Prop := unitDimsRow.holds Tryd.pinned (OpenSpec.ofChange unitDimsWrong)

/-- 'perigeelaw04.UnitProduct': WHATEVER THE INPUT: true; the input reads as it did. -/
def unitProductSpec : ChangeSpec := { name := "unitProduct", fn := fun _ => fun
  | [d1, d2] => { results := [.lit (.bool true)], args := [d1, d2] }
  | _ => none }
def unitProductRow : OpenClaim := { program := "ytnjpgkaignfcaaadoor", sum := "f26d06a6d7db64fda2a45afc6d666607f679a85f4ec94317db37f55bae72f245", func := "perigee/perigeelaw04.UnitProduct", spec := "unitProduct", inPlace := ["internal/bytealg.IndexByteString", "internal/bytealg.IndexString", "internal/bytealg.CountString", "internal/abi.NoEscape", "internal/bytealg.MakeNoZero"], named := ["perigee/unit.table", "internal/bytealg.MaxLen", "unicode/utf8.first", "unicode/utf8.acceptRanges", "internal/strconv.uint64pow10", "math/bits.deBruijn32tab", "math/bits.deBruijn64tab"], apart := false, laid := [("math/bits.deBruijn32tab", laid_math_bits_deBruijn32tab), ("math/bits.deBruijn64tab", laid_math_bits_deBruijn64tab), ("internal/strconv.uint64pow10", laid_internal_strconv_uint64pow10), ("unicode/utf8.acceptRanges", laid_unicode_utf8_acceptRanges), ("perigee/unit.table", laid_perigee_unit_table), ("unicode/utf8.first", laid_unicode_utf8_first)] }
def UnitProductSaid : Prop := unitProductRow.holds Tryd.pinned (OpenSpec.ofChange unitProductSpec)

/-- ITS FALSE NEIGHBOUR: 'it returns false'. Refute it at one input. -/
def unitProductWrong : ChangeSpec := { name := "unitProduct", fn := fun _ => fun
  | [d1, d2] => { results := [.lit (.bool false)], args := [d1, d2] }
  | _ => none }
def UnitProductWrongFalsely : Prop := unitProductRow.holds Tryd.pinned (OpenSpec.ofChange unitProductWrong)

/-- 'perigeelaw04.UnitSum': WHATEVER THE INPUT: true; the input reads as it did. -/
def unitSumSpec : ChangeSpec := { name := "unitSum", fn := fun _ => fun
  | [d1, d2] => { results := [.lit (.bool true)], args := [d1, d2] }
  | _ => none }
def unitSumRow : OpenClaim := { program := "ytnjpgkaignfcaaadoor", sum := "f26d06a6d7db64fda2a45afc6d666607f679a85f4ec94317db37f55bae72f245", func := "perigee/perigeelaw04.UnitSum", spec := "unitSum", inPlace := ["internal/bytealg.IndexByteString", "internal/bytealg.IndexString", "internal/bytealg.CountString", "internal/abi.NoEscape", "internal/bytealg.MakeNoZero"], named := ["perigee/unit.table", "internal/bytealg.MaxLen", "unicode/utf8.first", "unicode/utf8.acceptRanges", "internal/strconv.uint64pow10", "math/bits.deBruijn32tab", "math/bits.deBruijn64tab"], apart := false, laid := [("math/bits.deBruijn32tab", laid_math_bits_deBruijn32tab), ("math/bits.deBruijn64tab", laid_math_bits_deBruijn64tab), ("internal/strconv.uint64pow10", laid_internal_strconv_uint64pow10), ("unicode/utf8.acceptRanges", laid_unicode_utf8_acceptRanges), ("perigee/unit.table", laid_perigee_unit_table), ("unicode/utf8.first", laid_unicode_utf8_first)] }
def UnitSumSaid : Prop := unitSumRow.holds Tryd.pinned (OpenSpec.ofChange unitSumSpec)

/-- ITS FALSE NEIGHBOUR: 'it returns false'. Refute it at one input. -/
def unitSumWrong : ChangeSpec := { name := "unitSum", fn := fun _ => fun
  | [d1, d2] => { results := [.lit (.bool false)], args := [d1, d2] }
  | _ => none }
def UnitSumWrongFalsely : Prop := unitSumRow.holds Tryd.pinned (OpenSpec.ofChange unitSumWrong)

/-- 'perigeelaw04.UnitCancel': WHATEVER THE INPUT: true; the input reads as it did. -/
def unitCancelSpec : ChangeSpec := { name := "unitCancel", fn := fun _ => fun
  | [d1, d2] => { results := [.lit (.bool true)], args := [d1, d2] }
  | _ => none }
def unitCancelRow : OpenClaim := { program := "ytnjpgkaignfcaaadoor", sum := "f26d06a6d7db64fda2a45afc6d666607f679a85f4ec94317db37f55bae72f245", func := "perigee/perigeelaw04.UnitCancel", spec := "unitCancel", inPlace := ["internal/bytealg.IndexByteString", "internal/bytealg.IndexString", "internal/bytealg.CountString", "internal/abi.NoEscape", "internal/bytealg.MakeNoZero"], named := ["perigee/unit.table", "internal/bytealg.MaxLen", "unicode/utf8.first", "unicode/utf8.acceptRanges", "internal/strconv.uint64pow10", "math/bits.deBruijn32tab", "math/bits.deBruijn64tab"], apart := false, laid := [("math/bits.deBruijn32tab", laid_math_bits_deBruijn32tab), ("math/bits.deBruijn64tab", laid_math_bits_deBruijn64tab), ("internal/strconv.uint64pow10", laid_internal_strconv_uint64pow10), ("unicode/utf8.acceptRanges", laid_unicode_utf8_acceptRanges), ("perigee/unit.table", laid_perigee_unit_table), ("unicode/utf8.first", laid_unicode_utf8_first)] }
def UnitCancelSaid : Prop := unitCancelRow.holds Tryd.pinned (OpenSpec.ofChange unitCancelSpec)

/-- ITS FALSE NEIGHBOUR: 'it returns false'. Refute it at one input. -/
def unitCancelWrong : ChangeSpec := { name := "unitCancel", fn := fun _ => fun
  | [d1, d2] => { results := [.lit (.bool false)], args := [d1, d2] }
  | _ => none }
def UnitCancelWrongFalsely : Prop := unitCancelRow.holds Tryd.pinned (OpenSpec.ofChange unitCancelWrong)

/-- 'perigeelaw04.UnitCompare': WHATEVER THE INPUT: true; the input reads as it did. -/
def unitCompareSpec : ChangeSpec := { name := "unitCompare", fn := fun _ => fun
  | [d1, d2] => { results := [.lit (.bool true)], args := [d1, d2] }
  | _ => none }
def unitCompareRow : OpenClaim := { program := "ytnjpgkaignfcaaadoor", sum := "f26d06a6d7db64fda2a45afc6d666607f679a85f4ec94317db37f55bae72f245", func := "perigee/perigeelaw04.UnitCompare", spec := "unitCompare", inPlace := ["internal/bytealg.IndexByteString", "internal/bytealg.IndexString", "internal/bytealg.CountString", "internal/abi.NoEscape", "internal/bytealg.MakeNoZero"], named := ["perigee/unit.table", "internal/bytealg.MaxLen", "unicode/utf8.first", "unicode/utf8.acceptRanges", "internal/strconv.uint64pow10", "math/bits.deBruijn32tab", "math/bits.deBruijn64tab"], apart := false, laid := [("math/bits.deBruijn32tab", laid_math_bits_deBruijn32tab), ("math/bits.deBruijn64tab", laid_math_bits_deBruijn64tab), ("internal/strconv.uint64pow10", laid_internal_strconv_uint64pow10), ("unicode/utf8.acceptRanges", laid_unicode_utf8_acceptRanges), ("perigee/unit.table", laid_perigee_unit_table), ("unicode/utf8.first", laid_unicode_utf8_first)] }
def UnitCompareSaid : Prop := unitCompareRow.holds Tryd.pinned (OpenSpec.ofChange unitCompareSpec)

/-- ITS FALSE NEIGHBOUR: 'it returns false'. Refute it at one input. -/
def unitCompareWrong : ChangeSpec := { name := "unitCompare", fn := fun _ => fun
  | [d1, d2] => { results := [.lit (.bool false)], args := [d1, d2] }
  | _ => none }
def UnitCompareWrongFalsely : Prop := unitCompareRow.holds Tryd.pinned (OpenSpec.ofChange unitCompareWrong)

/- THE SECOND FORM. 'bulk': how many values and letters a reading holds, each counted each time it is reached (what is shared counts as often as it is met; a slice's spare places count too). A statement '..UptoSaid' is the law's where the arguments, and the package variables that the reading takes, are together of bulk at most 1048576: NARROWER than '..Said'. Prove '..Said' where nothing that the law and all that it calls make is longer than what came in: it says more and counts as full. Else prove '..UptoSaid'. A law counts once. -/
mutual
def uptoBulk {H : Type} : DataW H → Nat
  | .lit (.string bytes) => bytes.length + 1
  | .lit _ => 1
  | .nil => 1
  | .ptr d => uptoBulk d + 1
  | .slice elems spare => uptoBulkAll elems + uptoBulkAll spare + 1
  | .agg parts => uptoBulkAll parts + 1
  | .iface _ d => uptoBulk d + 1
  | .map entries => uptoBulkEntries entries + 1
  | .held _ => 1
def uptoBulkAll {H : Type} : List (DataW H) → Nat
  | [] => 0
  | d :: r => uptoBulk d + uptoBulkAll r
def uptoBulkEntries {H : Type} : List (Lit × DataW H) → Nat
  | [] => 0
  | x :: r => uptoBulkEntry x + uptoBulkEntries r
def uptoBulkEntry {H : Type} : Lit × DataW H → Nat
  | (.string bytes, d) => bytes.length + uptoBulk d + 1
  | (_, d) => uptoBulk d + 1
 end
def uptoSmall : (H : Type) → List (DataW H) → Bool := fun _ ds => decide (uptoBulkAll ds ≤ 1048576)
def OpenSpec.upto (s : _root_.Go.ChangeSpec) : _root_.Go.OpenSpec := { _root_.Go.OpenSpec.ofChange s with cond := some uptoSmall }

/-- 'perigeelaw04.UnitLookup', WHERE WHAT IT READS IS OF BULK AT MOST 1048576: true; the input reads as it did. -/
def unitLookupUptoRow : OpenClaim := { program := "ytnjpgkaignfcaaadoor", sum := "f26d06a6d7db64fda2a45afc6d666607f679a85f4ec94317db37f55bae72f245", func := "perigee/perigeelaw04.UnitLookup", spec := "unitLookup", inPlace := ["internal/bytealg.IndexByteString", "internal/bytealg.IndexString", "internal/bytealg.CountString", "internal/abi.NoEscape", "internal/bytealg.MakeNoZero"], named := ["perigee/unit.table", "internal/bytealg.MaxLen", "unicode/utf8.first", "unicode/utf8.acceptRanges", "internal/strconv.uint64pow10", "math/bits.deBruijn32tab", "math/bits.deBruijn64tab"], apart := false, laid := [("math/bits.deBruijn32tab", laid_math_bits_deBruijn32tab), ("math/bits.deBruijn64tab", laid_math_bits_deBruijn64tab), ("internal/strconv.uint64pow10", laid_internal_strconv_uint64pow10), ("unicode/utf8.acceptRanges", laid_unicode_utf8_acceptRanges), ("perigee/unit.table", laid_perigee_unit_table), ("unicode/utf8.first", laid_unicode_utf8_first)], narrowed := true }
def UnitLookupUptoSaid : Prop := unitLookupUptoRow.holds Tryd.pinned (OpenSpec.upto unitLookupSpec)

/-- 'perigeelaw04.UnitName', WHERE WHAT IT READS IS OF BULK AT MOST 1048576: true; the input reads as it did. -/
def unitNameUptoRow : OpenClaim := { program := "ytnjpgkaignfcaaadoor", sum := "f26d06a6d7db64fda2a45afc6d666607f679a85f4ec94317db37f55bae72f245", func := "perigee/perigeelaw04.UnitName", spec := "unitName", inPlace := ["internal/abi.NoEscape", "internal/bytealg.MakeNoZero", "internal/bytealg.IndexByteString", "internal/bytealg.IndexString", "internal/bytealg.CountString"], named := ["internal/strconv.uint64pow10", "math/bits.deBruijn32tab", "math/bits.deBruijn64tab", "perigee/unit.table", "internal/bytealg.MaxLen", "unicode/utf8.first", "unicode/utf8.acceptRanges"], apart := false, laid := [("math/bits.deBruijn32tab", laid_math_bits_deBruijn32tab), ("math/bits.deBruijn64tab", laid_math_bits_deBruijn64tab), ("internal/strconv.uint64pow10", laid_internal_strconv_uint64pow10), ("unicode/utf8.acceptRanges", laid_unicode_utf8_acceptRanges), ("perigee/unit.table", laid_perigee_unit_table), ("unicode/utf8.first", laid_unicode_utf8_first)], narrowed := true }
def UnitNameUptoSaid : Prop := unitNameUptoRow.holds Tryd.pinned (OpenSpec.upto unitNameSpec)

/-- 'perigeelaw04.UnitParse', WHERE WHAT IT READS IS OF BULK AT MOST 1048576: true; the input reads as it did. -/
def unitParseUptoRow : OpenClaim := { program := "ytnjpgkaignfcaaadoor", sum := "f26d06a6d7db64fda2a45afc6d666607f679a85f4ec94317db37f55bae72f245", func := "perigee/perigeelaw04.UnitParse", spec := "unitParse", inPlace := ["internal/bytealg.IndexByteString", "internal/bytealg.IndexString", "internal/bytealg.CountString", "internal/abi.NoEscape", "internal/bytealg.MakeNoZero"], named := ["internal/bytealg.MaxLen", "unicode/utf8.first", "unicode/utf8.acceptRanges", "perigee/unit.table", "internal/strconv.uint64pow10", "math/bits.deBruijn32tab", "math/bits.deBruijn64tab"], apart := false, laid := [("math/bits.deBruijn32tab", laid_math_bits_deBruijn32tab), ("math/bits.deBruijn64tab", laid_math_bits_deBruijn64tab), ("internal/strconv.uint64pow10", laid_internal_strconv_uint64pow10), ("unicode/utf8.acceptRanges", laid_unicode_utf8_acceptRanges), ("perigee/unit.table", laid_perigee_unit_table), ("unicode/utf8.first", laid_unicode_utf8_first)], narrowed := true }
def UnitParseUptoSaid : Prop := unitParseUptoRow.holds Tryd.pinned (OpenSpec.upto unitParseSpec)

/-- 'perigeelaw04.UnitRoundTrip', WHERE WHAT IT READS IS OF BULK AT MOST 1048576: true; the input reads as it did. -/
def unitRoundTripUptoRow : OpenClaim := { program := "ytnjpgkaignfcaaadoor", sum := "f26d06a6d7db64fda2a45afc6d666607f679a85f4ec94317db37f55bae72f245", func := "perigee/perigeelaw04.UnitRoundTrip", spec := "unitRoundTrip", inPlace := ["internal/bytealg.IndexByteString", "internal/bytealg.IndexString", "internal/bytealg.CountString", "internal/abi.NoEscape", "internal/bytealg.MakeNoZero"], named := ["perigee/unit.table", "internal/bytealg.MaxLen", "unicode/utf8.first", "unicode/utf8.acceptRanges", "internal/strconv.uint64pow10", "math/bits.deBruijn32tab", "math/bits.deBruijn64tab"], apart := false, laid := [("math/bits.deBruijn32tab", laid_math_bits_deBruijn32tab), ("math/bits.deBruijn64tab", laid_math_bits_deBruijn64tab), ("internal/strconv.uint64pow10", laid_internal_strconv_uint64pow10), ("unicode/utf8.acceptRanges", laid_unicode_utf8_acceptRanges), ("perigee/unit.table", laid_perigee_unit_table), ("unicode/utf8.first", laid_unicode_utf8_first)], narrowed := true }
def UnitRoundTripUptoSaid : Prop := unitRoundTripUptoRow.holds Tryd.pinned (OpenSpec.upto unitRoundTripSpec)

/-- 'perigeelaw04.UnitQuotient', WHERE WHAT IT READS IS OF BULK AT MOST 1048576: true; the input reads as it did. -/
def unitQuotientUptoRow : OpenClaim := { program := "ytnjpgkaignfcaaadoor", sum := "f26d06a6d7db64fda2a45afc6d666607f679a85f4ec94317db37f55bae72f245", func := "perigee/perigeelaw04.UnitQuotient", spec := "unitQuotient", inPlace := ["internal/bytealg.IndexByteString", "internal/bytealg.IndexString", "internal/bytealg.CountString", "internal/abi.NoEscape", "internal/bytealg.MakeNoZero"], named := ["perigee/unit.table", "internal/bytealg.MaxLen", "unicode/utf8.first", "unicode/utf8.acceptRanges", "internal/strconv.uint64pow10", "math/bits.deBruijn32tab", "math/bits.deBruijn64tab"], apart := false, laid := [("math/bits.deBruijn32tab", laid_math_bits_deBruijn32tab), ("math/bits.deBruijn64tab", laid_math_bits_deBruijn64tab), ("internal/strconv.uint64pow10", laid_internal_strconv_uint64pow10), ("unicode/utf8.acceptRanges", laid_unicode_utf8_acceptRanges), ("perigee/unit.table", laid_perigee_unit_table), ("unicode/utf8.first", laid_unicode_utf8_first)], narrowed := true }
def UnitQuotientUptoSaid : Prop := unitQuotientUptoRow.holds Tryd.pinned (OpenSpec.upto unitQuotientSpec)

/-- 'perigeelaw04.UnitScale', WHERE WHAT IT READS IS OF BULK AT MOST 1048576: true; the input reads as it did. -/
def unitScaleUptoRow : OpenClaim := { program := "ytnjpgkaignfcaaadoor", sum := "f26d06a6d7db64fda2a45afc6d666607f679a85f4ec94317db37f55bae72f245", func := "perigee/perigeelaw04.UnitScale", spec := "unitScale", inPlace := ["internal/bytealg.IndexByteString", "internal/bytealg.IndexString", "internal/bytealg.CountString", "internal/abi.NoEscape", "internal/bytealg.MakeNoZero"], named := ["perigee/unit.table", "internal/bytealg.MaxLen", "unicode/utf8.first", "unicode/utf8.acceptRanges", "internal/strconv.uint64pow10", "math/bits.deBruijn32tab", "math/bits.deBruijn64tab"], apart := false, laid := [("math/bits.deBruijn32tab", laid_math_bits_deBruijn32tab), ("math/bits.deBruijn64tab", laid_math_bits_deBruijn64tab), ("internal/strconv.uint64pow10", laid_internal_strconv_uint64pow10), ("unicode/utf8.acceptRanges", laid_unicode_utf8_acceptRanges), ("perigee/unit.table", laid_perigee_unit_table), ("unicode/utf8.first", laid_unicode_utf8_first)], narrowed := true }
def UnitScaleUptoSaid : Prop := unitScaleUptoRow.holds Tryd.pinned (OpenSpec.upto unitScaleSpec)

/-- 'perigeelaw04.UnitDims', WHERE WHAT IT READS IS OF BULK AT MOST 1048576: true; the input reads as it did. -/
def unitDimsUptoRow : OpenClaim := { program := "ytnjpgkaignfcaaadoor", sum := "f26d06a6d7db64fda2a45afc6d666607f679a85f4ec94317db37f55bae72f245", func := "perigee/perigeelaw04.UnitDims", spec := "unitDims", inPlace := ["internal/bytealg.IndexByteString", "internal/bytealg.IndexString", "internal/bytealg.CountString", "internal/abi.NoEscape", "internal/bytealg.MakeNoZero"], named := ["perigee/unit.table", "internal/bytealg.MaxLen", "unicode/utf8.first", "unicode/utf8.acceptRanges", "internal/strconv.uint64pow10", "math/bits.deBruijn32tab", "math/bits.deBruijn64tab"], apart := false, laid := [("math/bits.deBruijn32tab", laid_math_bits_deBruijn32tab), ("math/bits.deBruijn64tab", laid_math_bits_deBruijn64tab), ("internal/strconv.uint64pow10", laid_internal_strconv_uint64pow10), ("unicode/utf8.acceptRanges", laid_unicode_utf8_acceptRanges), ("perigee/unit.table", laid_perigee_unit_table), ("unicode/utf8.first", laid_unicode_utf8_first)], narrowed := true }
def UnitDimsUptoSaid : Prop := unitDimsUptoRow.holds Tryd.pinned (OpenSpec.upto unitDimsSpec)

/-- 'perigeelaw04.UnitProduct', WHERE WHAT IT READS IS OF BULK AT MOST 1048576: true; the input reads as it did. -/
def unitProductUptoRow : OpenClaim := { program := "ytnjpgkaignfcaaadoor", sum := "f26d06a6d7db64fda2a45afc6d666607f679a85f4ec94317db37f55bae72f245", func := "perigee/perigeelaw04.UnitProduct", spec := "unitProduct", inPlace := ["internal/bytealg.IndexByteString", "internal/bytealg.IndexString", "internal/bytealg.CountString", "internal/abi.NoEscape", "internal/bytealg.MakeNoZero"], named := ["perigee/unit.table", "internal/bytealg.MaxLen", "unicode/utf8.first", "unicode/utf8.acceptRanges", "internal/strconv.uint64pow10", "math/bits.deBruijn32tab", "math/bits.deBruijn64tab"], apart := false, laid := [("math/bits.deBruijn32tab", laid_math_bits_deBruijn32tab), ("math/bits.deBruijn64tab", laid_math_bits_deBruijn64tab), ("internal/strconv.uint64pow10", laid_internal_strconv_uint64pow10), ("unicode/utf8.acceptRanges", laid_unicode_utf8_acceptRanges), ("perigee/unit.table", laid_perigee_unit_table), ("unicode/utf8.first", laid_unicode_utf8_first)], narrowed := true }
def UnitProductUptoSaid : Prop := unitProductUptoRow.holds Tryd.pinned (OpenSpec.upto unitProductSpec)

/-- 'perigeelaw04.UnitSum', WHERE WHAT IT READS IS OF BULK AT MOST 1048576: true; the input reads as it did. -/
def unitSumUptoRow : OpenClaim := { program := "ytnjpgkaignfcaaadoor", sum := "f26d06a6d7db64fda2a45afc6d666607f679a85f4ec94317db37f55bae72f245", func := "perigee/perigeelaw04.UnitSum", spec := "unitSum", inPlace := ["internal/bytealg.IndexByteString", "internal/bytealg.IndexString", "internal/bytealg.CountString", "internal/abi.NoEscape", "internal/bytealg.MakeNoZero"], named := ["perigee/unit.table", "internal/bytealg.MaxLen", "unicode/utf8.first", "unicode/utf8.acceptRanges", "internal/strconv.uint64pow10", "math/bits.deBruijn32tab", "math/bits.deBruijn64tab"], apart := false, laid := [("math/bits.deBruijn32tab", laid_math_bits_deBruijn32tab), ("math/bits.deBruijn64tab", laid_math_bits_deBruijn64tab), ("internal/strconv.uint64pow10", laid_internal_strconv_uint64pow10), ("unicode/utf8.acceptRanges", laid_unicode_utf8_acceptRanges), ("perigee/unit.table", laid_perigee_unit_table), ("unicode/utf8.first", laid_unicode_utf8_first)], narrowed := true }
def UnitSumUptoSaid : Prop := unitSumUptoRow.holds Tryd.pinned (OpenSpec.upto unitSumSpec)

/-- 'perigeelaw04.UnitCancel', WHERE WHAT IT READS IS OF BULK AT MOST 1048576: true; the input reads as it did. -/
def unitCancelUptoRow : OpenClaim := { program := "ytnjpgkaignfcaaadoor", sum := "f26d06a6d7db64fda2a45afc6d666607f679a85f4ec94317db37f55bae72f245", func := "perigee/perigeelaw04.UnitCancel", spec := "unitCancel", inPlace := ["internal/bytealg.IndexByteString", "internal/bytealg.IndexString", "internal/bytealg.CountString", "internal/abi.NoEscape", "internal/bytealg.MakeNoZero"], named := ["perigee/unit.table", "internal/bytealg.MaxLen", "unicode/utf8.first", "unicode/utf8.acceptRanges", "internal/strconv.uint64pow10", "math/bits.deBruijn32tab", "math/bits.deBruijn64tab"], apart := false, laid := [("math/bits.deBruijn32tab", laid_math_bits_deBruijn32tab), ("math/bits.deBruijn64tab", laid_math_bits_deBruijn64tab), ("internal/strconv.uint64pow10", laid_internal_strconv_uint64pow10), ("unicode/utf8.acceptRanges", laid_unicode_utf8_acceptRanges), ("perigee/unit.table", laid_perigee_unit_table), ("unicode/utf8.first", laid_unicode_utf8_first)], narrowed := true }
def UnitCancelUptoSaid : Prop := unitCancelUptoRow.holds Tryd.pinned (OpenSpec.upto unitCancelSpec)

/-- 'perigeelaw04.UnitCompare', WHERE WHAT IT READS IS OF BULK AT MOST 1048576: true; the input reads as it did. -/
def unitCompareUptoRow : OpenClaim := { program := "ytnjpgkaignfcaaadoor", sum := "f26d06a6d7db64fda2a45afc6d666607f679a85f4ec94317db37f55bae72f245", func := "perigee/perigeelaw04.UnitCompare", spec := "unitCompare", inPlace := ["internal/bytealg.IndexByteString", "internal/bytealg.IndexString", "internal/bytealg.CountString", "internal/abi.NoEscape", "internal/bytealg.MakeNoZero"], named := ["perigee/unit.table", "internal/bytealg.MaxLen", "unicode/utf8.first", "unicode/utf8.acceptRanges", "internal/strconv.uint64pow10", "math/bits.deBruijn32tab", "math/bits.deBruijn64tab"], apart := false, laid := [("math/bits.deBruijn32tab", laid_math_bits_deBruijn32tab), ("math/bits.deBruijn64tab", laid_math_bits_deBruijn64tab), ("internal/strconv.uint64pow10", laid_internal_strconv_uint64pow10), ("unicode/utf8.acceptRanges", laid_unicode_utf8_acceptRanges), ("perigee/unit.table", laid_perigee_unit_table), ("unicode/utf8.first", laid_unicode_utf8_first)], narrowed := true }
def UnitCompareUptoSaid : Prop := unitCompareUptoRow.holds Tryd.pinned (OpenSpec.upto unitCompareSpec)

end Rows
end Go.Proofs.YtnjpgkaignfcaaaDoor
