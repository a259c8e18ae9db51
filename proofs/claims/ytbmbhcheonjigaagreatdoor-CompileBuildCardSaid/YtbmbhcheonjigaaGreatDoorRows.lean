/-
  NARROWER THAN 'FOR EVERY INPUT', by the rows' own cells (each row's printed sentence says how): CompileBuild: laid · CompileMeaning: laid · VmMeans: laid · CostBuilds: laid · VmCost: laid · CompileSources: laid · VmPrinted: laid.
  DERIVED. THE GIVEN ROWS OF THIS SEAT. 7 by the template 'for every input the law returns true; each argument reads behind the call as it read before'; 0 by the template 'total and deterministic' (their statements: YtbmbhcheonjigaaGreatDoorTotals.lean).
  GIVEN WITH THE SEED: the statements are not yours to turn. If you find one false, say at which input.
  Laid BY PROGRAM, IN A SANDBOX (cutbox-rows.mjs): the forced cells as the released guide's own fill.sh prints them over the translation 370c9a9a3acb6956… (all of the seat's roots in one cut). By AI agents, Wed Nov 11 2026. No macro, syntax, notation, axiom, sorry.
-/
import Derived.Test.YtbmbhcheonjigaaGreatDoorChecked
import GoSem.Claim
import GoSem.ClaimJoined
import GoSem.ClaimMapViews
import Derived.JoinedTies
import Derived.KernelRfl
namespace Go.Proofs.YtbmbhcheonjigaaGreatDoor
/- THE CELL 'sum', in the pinned program and in every row, IS THE sha256 OF THE DUMP (.gsa) THAT YtbmbhcheonjigaaGreatDoorProg.lean LOADS. Nothing in Lean hashes anything: it is a label: what it is worth is what the hold of that sum in a sandbox is worth. -/
noncomputable def Tryz.pinned : Pinned := { name := "ytbmbhcheonjigaagreatdoor", sum := "370c9a9a3acb6956ba7c6ffbb065230754f02e8ccd420cbfba9daeaad6529e3e", checked := Tryz.checked }
namespace Rows
def none {H : Type} : Left H := { results := [], args := [] }

/- WHAT THE LISTED PACKAGE-LEVEL VARIABLES READ AS WHEN THE CALL BEGINS. Each datum BY PROGRAM (the guide's laid-datum.mjs) off the statement by which the dump's own 'gosem.cut.vars' lays the variable. In a bare row this is a premise. The card (YtbmbhcheonjigaaGreatDoorCards.lean) ties it to the program's text. -/
def laid_perigee_unit_table {H : Type} : DataW H := .slice [.agg [.lit (.string [74]), .lit (.int .i64 1), .agg [.lit (.int .i64 1), .lit (.int .i64 0), .lit (.int .i64 0), .lit (.int .i64 0), .lit (.int .i64 0)]], .agg [.lit (.string [107, 74]), .lit (.int .i64 1000), .agg [.lit (.int .i64 1), .lit (.int .i64 0), .lit (.int .i64 0), .lit (.int .i64 0), .lit (.int .i64 0)]], .agg [.lit (.string [87, 104]), .lit (.int .i64 3600), .agg [.lit (.int .i64 1), .lit (.int .i64 0), .lit (.int .i64 0), .lit (.int .i64 0), .lit (.int .i64 0)]], .agg [.lit (.string [66]), .lit (.int .i64 1), .agg [.lit (.int .i64 0), .lit (.int .i64 1), .lit (.int .i64 0), .lit (.int .i64 0), .lit (.int .i64 0)]], .agg [.lit (.string [107, 66]), .lit (.int .i64 1000), .agg [.lit (.int .i64 0), .lit (.int .i64 1), .lit (.int .i64 0), .lit (.int .i64 0), .lit (.int .i64 0)]], .agg [.lit (.string [115]), .lit (.int .i64 1), .agg [.lit (.int .i64 0), .lit (.int .i64 0), .lit (.int .i64 1), .lit (.int .i64 0), .lit (.int .i64 0)]], .agg [.lit (.string [109, 105, 110]), .lit (.int .i64 60), .agg [.lit (.int .i64 0), .lit (.int .i64 0), .lit (.int .i64 1), .lit (.int .i64 0), .lit (.int .i64 0)]], .agg [.lit (.string [104]), .lit (.int .i64 3600), .agg [.lit (.int .i64 0), .lit (.int .i64 0), .lit (.int .i64 1), .lit (.int .i64 0), .lit (.int .i64 0)]], .agg [.lit (.string [100, 101, 103]), .lit (.int .i64 1), .agg [.lit (.int .i64 0), .lit (.int .i64 0), .lit (.int .i64 0), .lit (.int .i64 1), .lit (.int .i64 0)]], .agg [.lit (.string [75]), .lit (.int .i64 1), .agg [.lit (.int .i64 0), .lit (.int .i64 0), .lit (.int .i64 0), .lit (.int .i64 0), .lit (.int .i64 1)]], .agg [.lit (.string [87]), .lit (.int .i64 1), .agg [.lit (.int .i64 1), .lit (.int .i64 0), .lit (.int .i64 (-1)), .lit (.int .i64 0), .lit (.int .i64 0)]], .agg [.lit (.string [107, 87]), .lit (.int .i64 1000), .agg [.lit (.int .i64 1), .lit (.int .i64 0), .lit (.int .i64 (-1)), .lit (.int .i64 0), .lit (.int .i64 0)]], .agg [.lit (.string [66, 112, 115]), .lit (.int .i64 1), .agg [.lit (.int .i64 0), .lit (.int .i64 1), .lit (.int .i64 (-1)), .lit (.int .i64 0), .lit (.int .i64 0)]]] []
def laid_perigee_types_operators {H : Type} : DataW H := .agg [.agg [.lit (.string [124, 124]), .lit (.int .i64 1)], .agg [.lit (.string [38, 38]), .lit (.int .i64 1)], .agg [.lit (.string [43]), .lit (.int .i64 2)], .agg [.lit (.string [45]), .lit (.int .i64 2)], .agg [.lit (.string [42]), .lit (.int .i64 3)], .agg [.lit (.string [47]), .lit (.int .i64 3)], .agg [.lit (.string [60]), .lit (.int .i64 4)], .agg [.lit (.string [60, 61]), .lit (.int .i64 4)], .agg [.lit (.string [62]), .lit (.int .i64 4)], .agg [.lit (.string [62, 61]), .lit (.int .i64 4)], .agg [.lit (.string [61, 61]), .lit (.int .i64 4)], .agg [.lit (.string [33, 61]), .lit (.int .i64 4)]]
def laid_math_bits_deBruijn32tab {H : Type} : DataW H := .agg [.lit (.int .u8 0), .lit (.int .u8 1), .lit (.int .u8 28), .lit (.int .u8 2), .lit (.int .u8 29), .lit (.int .u8 14), .lit (.int .u8 24), .lit (.int .u8 3), .lit (.int .u8 30), .lit (.int .u8 22), .lit (.int .u8 20), .lit (.int .u8 15), .lit (.int .u8 25), .lit (.int .u8 17), .lit (.int .u8 4), .lit (.int .u8 8), .lit (.int .u8 31), .lit (.int .u8 27), .lit (.int .u8 13), .lit (.int .u8 23), .lit (.int .u8 21), .lit (.int .u8 19), .lit (.int .u8 16), .lit (.int .u8 7), .lit (.int .u8 26), .lit (.int .u8 12), .lit (.int .u8 18), .lit (.int .u8 6), .lit (.int .u8 11), .lit (.int .u8 5), .lit (.int .u8 10), .lit (.int .u8 9)]
def laid_math_bits_deBruijn64tab {H : Type} : DataW H := .agg [.lit (.int .u8 0), .lit (.int .u8 1), .lit (.int .u8 56), .lit (.int .u8 2), .lit (.int .u8 57), .lit (.int .u8 49), .lit (.int .u8 28), .lit (.int .u8 3), .lit (.int .u8 61), .lit (.int .u8 58), .lit (.int .u8 42), .lit (.int .u8 50), .lit (.int .u8 38), .lit (.int .u8 29), .lit (.int .u8 17), .lit (.int .u8 4), .lit (.int .u8 62), .lit (.int .u8 47), .lit (.int .u8 59), .lit (.int .u8 36), .lit (.int .u8 45), .lit (.int .u8 43), .lit (.int .u8 51), .lit (.int .u8 22), .lit (.int .u8 53), .lit (.int .u8 39), .lit (.int .u8 33), .lit (.int .u8 30), .lit (.int .u8 24), .lit (.int .u8 18), .lit (.int .u8 12), .lit (.int .u8 5), .lit (.int .u8 63), .lit (.int .u8 55), .lit (.int .u8 48), .lit (.int .u8 27), .lit (.int .u8 60), .lit (.int .u8 41), .lit (.int .u8 37), .lit (.int .u8 16), .lit (.int .u8 46), .lit (.int .u8 35), .lit (.int .u8 44), .lit (.int .u8 21), .lit (.int .u8 52), .lit (.int .u8 32), .lit (.int .u8 23), .lit (.int .u8 11), .lit (.int .u8 54), .lit (.int .u8 26), .lit (.int .u8 40), .lit (.int .u8 15), .lit (.int .u8 34), .lit (.int .u8 20), .lit (.int .u8 31), .lit (.int .u8 10), .lit (.int .u8 25), .lit (.int .u8 14), .lit (.int .u8 19), .lit (.int .u8 9), .lit (.int .u8 13), .lit (.int .u8 8), .lit (.int .u8 7), .lit (.int .u8 6)]
def laid_internal_strconv_uint64pow10 {H : Type} : DataW H := .agg [.lit (.int .u64 1), .lit (.int .u64 10), .lit (.int .u64 100), .lit (.int .u64 1000), .lit (.int .u64 10000), .lit (.int .u64 100000), .lit (.int .u64 1000000), .lit (.int .u64 10000000), .lit (.int .u64 100000000), .lit (.int .u64 1000000000), .lit (.int .u64 10000000000), .lit (.int .u64 100000000000), .lit (.int .u64 1000000000000), .lit (.int .u64 10000000000000), .lit (.int .u64 100000000000000), .lit (.int .u64 1000000000000000), .lit (.int .u64 10000000000000000), .lit (.int .u64 100000000000000000), .lit (.int .u64 1000000000000000000), .lit (.int .u64 10000000000000000000)]

/-- 'perigeelaw16.CompileBuild': WHATEVER THE INPUT: true; the input reads as it did. -/
def compileBuildSpec : ChangeSpec := { name := "compileBuild", fn := fun _ => fun
  | [d] => { results := [.lit (.bool true)], args := [d] }
  | _ => none }
def compileBuildRow : OpenClaim := { program := "ytbmbhcheonjigaagreatdoor", sum := "370c9a9a3acb6956ba7c6ffbb065230754f02e8ccd420cbfba9daeaad6529e3e", func := "perigee/perigeelaw16.CompileBuild", spec := "compileBuild", inPlace := ["internal/bytealg.IndexByteString", "internal/bytealg.IndexString"], unfollowed := true, recurses := true, named := ["internal/bytealg.MaxLen", "perigee/unit.table", "perigee/types.operators"], apart := false, laid := [("perigee/unit.table", laid_perigee_unit_table), ("perigee/types.operators", laid_perigee_types_operators)] }
def CompileBuildSaid : Prop := compileBuildRow.holds Tryz.pinned (OpenSpec.ofChange compileBuildSpec)

/-- ITS FALSE NEIGHBOUR: 'it returns false'. Refute it at one input. -/
def compileBuildWrong : ChangeSpec := { name := "compileBuild", fn := fun _ => fun
  | [d] => { results := [.lit (.bool false)], args := [d] }
  | _ => none }
def CompileBuildWrongFalsely : Prop := compileBuildRow.holds Tryz.pinned (OpenSpec.ofChange compileBuildWrong)

/-- 'perigeelaw16.CompileMeaning': WHATEVER THE INPUT: true; the input reads as it did. -/
def compileMeaningSpec : ChangeSpec := { name := "compileMeaning", fn := fun _ => fun
  | [d1, d2, d3] => { results := [.lit (.bool true)], args := [d1, d2, d3] }
  | _ => none }
def compileMeaningRow : OpenClaim := { program := "ytbmbhcheonjigaagreatdoor", sum := "370c9a9a3acb6956ba7c6ffbb065230754f02e8ccd420cbfba9daeaad6529e3e", func := "perigee/perigeelaw16.CompileMeaning", spec := "compileMeaning", inPlace := ["internal/bytealg.IndexByteString", "internal/bytealg.IndexString"], unfollowed := true, recurses := true, named := ["internal/bytealg.MaxLen", "perigee/unit.table", "perigee/types.operators"], apart := false, laid := [("perigee/unit.table", laid_perigee_unit_table), ("perigee/types.operators", laid_perigee_types_operators)] }
def CompileMeaningSaid : Prop := compileMeaningRow.holds Tryz.pinned (OpenSpec.ofChange compileMeaningSpec)

/-- ITS FALSE NEIGHBOUR: 'it returns false'. Refute it at one input. -/
def compileMeaningWrong : ChangeSpec := { name := "compileMeaning", fn := fun _ => fun
  | [d1, d2, d3] => { results := [.lit (.bool false)], args := [d1, d2, d3] }
  | _ => none }
def CompileMeaningWrongFalsely : Prop := compileMeaningRow.holds Tryz.pinned (OpenSpec.ofChange compileMeaningWrong)

/-- 'perigeelaw18.VmMeans': WHATEVER THE INPUT: true; the input reads as it did. -/
def vmMeansSpec : ChangeSpec := { name := "vmMeans", fn := fun _ => fun
  | [d1, d2, d3, d4] => { results := [.lit (.bool true)], args := [d1, d2, d3, d4] }
  | _ => none }
def vmMeansRow : OpenClaim := { program := "ytbmbhcheonjigaagreatdoor", sum := "370c9a9a3acb6956ba7c6ffbb065230754f02e8ccd420cbfba9daeaad6529e3e", func := "perigee/perigeelaw18.VmMeans", spec := "vmMeans", inPlace := ["internal/bytealg.IndexByteString", "internal/bytealg.IndexString"], unfollowed := true, recurses := true, named := ["internal/bytealg.MaxLen", "perigee/unit.table", "perigee/types.operators"], apart := false, laid := [("perigee/unit.table", laid_perigee_unit_table), ("perigee/types.operators", laid_perigee_types_operators)] }
def VmMeansSaid : Prop := vmMeansRow.holds Tryz.pinned (OpenSpec.ofChange vmMeansSpec)

/-- ITS FALSE NEIGHBOUR: 'it returns false'. Refute it at one input. -/
def vmMeansWrong : ChangeSpec := { name := "vmMeans", fn := fun _ => fun
  | [d1, d2, d3, d4] => { results := [.lit (.bool false)], args := [d1, d2, d3, d4] }
  | _ => none }
def VmMeansWrongFalsely : Prop := vmMeansRow.holds Tryz.pinned (OpenSpec.ofChange vmMeansWrong)

/-- 'perigeelaw17.CostBuilds': WHATEVER THE INPUT: true; the input reads as it did. -/
def costBuildsSpec : ChangeSpec := { name := "costBuilds", fn := fun _ => fun
  | [d1, d2] => { results := [.lit (.bool true)], args := [d1, d2] }
  | _ => none }
def costBuildsRow : OpenClaim := { program := "ytbmbhcheonjigaagreatdoor", sum := "370c9a9a3acb6956ba7c6ffbb065230754f02e8ccd420cbfba9daeaad6529e3e", func := "perigee/perigeelaw17.CostBuilds", spec := "costBuilds", inPlace := ["internal/bytealg.IndexByteString", "internal/bytealg.IndexString"], unfollowed := true, recurses := true, named := ["internal/bytealg.MaxLen", "perigee/unit.table", "perigee/types.operators"], apart := false, laid := [("perigee/unit.table", laid_perigee_unit_table), ("perigee/types.operators", laid_perigee_types_operators)] }
def CostBuildsSaid : Prop := costBuildsRow.holds Tryz.pinned (OpenSpec.ofChange costBuildsSpec)

/-- ITS FALSE NEIGHBOUR: 'it returns false'. Refute it at one input. -/
def costBuildsWrong : ChangeSpec := { name := "costBuilds", fn := fun _ => fun
  | [d1, d2] => { results := [.lit (.bool false)], args := [d1, d2] }
  | _ => none }
def CostBuildsWrongFalsely : Prop := costBuildsRow.holds Tryz.pinned (OpenSpec.ofChange costBuildsWrong)

/-- 'perigeelaw18.VmCost': WHATEVER THE INPUT: true; the input reads as it did. -/
def vmCostSpec : ChangeSpec := { name := "vmCost", fn := fun _ => fun
  | [d1, d2, d3, d4, d5] => { results := [.lit (.bool true)], args := [d1, d2, d3, d4, d5] }
  | _ => none }
def vmCostRow : OpenClaim := { program := "ytbmbhcheonjigaagreatdoor", sum := "370c9a9a3acb6956ba7c6ffbb065230754f02e8ccd420cbfba9daeaad6529e3e", func := "perigee/perigeelaw18.VmCost", spec := "vmCost", inPlace := ["internal/bytealg.IndexByteString", "internal/bytealg.IndexString"], unfollowed := true, recurses := true, named := ["internal/bytealg.MaxLen", "perigee/unit.table", "perigee/types.operators"], apart := false, laid := [("perigee/unit.table", laid_perigee_unit_table), ("perigee/types.operators", laid_perigee_types_operators)] }
def VmCostSaid : Prop := vmCostRow.holds Tryz.pinned (OpenSpec.ofChange vmCostSpec)

/-- ITS FALSE NEIGHBOUR: 'it returns false'. Refute it at one input. -/
def vmCostWrong : ChangeSpec := { name := "vmCost", fn := fun _ => fun
  | [d1, d2, d3, d4, d5] => { results := [.lit (.bool false)], args := [d1, d2, d3, d4, d5] }
  | _ => none }
def VmCostWrongFalsely : Prop := vmCostRow.holds Tryz.pinned (OpenSpec.ofChange vmCostWrong)

/-- 'perigeelaw16.CompileSources': WHATEVER THE INPUT: true; the input reads as it did. -/
def compileSourcesSpec : ChangeSpec := { name := "compileSources", fn := fun _ => fun
  | [d] => { results := [.lit (.bool true)], args := [d] }
  | _ => none }
def compileSourcesRow : OpenClaim := { program := "ytbmbhcheonjigaagreatdoor", sum := "370c9a9a3acb6956ba7c6ffbb065230754f02e8ccd420cbfba9daeaad6529e3e", func := "perigee/perigeelaw16.CompileSources", spec := "compileSources", inPlace := ["internal/bytealg.IndexByteString", "internal/bytealg.IndexString", "internal/abi.NoEscape", "internal/bytealg.MakeNoZero"], unfollowed := true, recurses := true, named := ["internal/bytealg.MaxLen", "perigee/unit.table", "perigee/types.operators", "internal/strconv.uint64pow10", "math/bits.deBruijn32tab", "math/bits.deBruijn64tab"], apart := false, laid := [("math/bits.deBruijn32tab", laid_math_bits_deBruijn32tab), ("math/bits.deBruijn64tab", laid_math_bits_deBruijn64tab), ("internal/strconv.uint64pow10", laid_internal_strconv_uint64pow10), ("perigee/unit.table", laid_perigee_unit_table), ("perigee/types.operators", laid_perigee_types_operators)] }
def CompileSourcesSaid : Prop := compileSourcesRow.holds Tryz.pinned (OpenSpec.ofChange compileSourcesSpec)

/-- ITS FALSE NEIGHBOUR: 'it returns false'. Refute it at one input. -/
def compileSourcesWrong : ChangeSpec := { name := "compileSources", fn := fun _ => fun
  | [d] => { results := [.lit (.bool false)], args := [d] }
  | _ => none }
def CompileSourcesWrongFalsely : Prop := compileSourcesRow.holds Tryz.pinned (OpenSpec.ofChange compileSourcesWrong)

/-- 'perigeelaw18.VmPrinted': WHATEVER THE INPUT: true; the input reads as it did. -/
def vmPrintedSpec : ChangeSpec := { name := "vmPrinted", fn := fun _ => fun
  | [d1, d2, d3] => { results := [.lit (.bool true)], args := [d1, d2, d3] }
  | _ => none }
def vmPrintedRow : OpenClaim := { program := "ytbmbhcheonjigaagreatdoor", sum := "370c9a9a3acb6956ba7c6ffbb065230754f02e8ccd420cbfba9daeaad6529e3e", func := "perigee/perigeelaw18.VmPrinted", spec := "vmPrinted", inPlace := ["internal/bytealg.IndexByteString", "internal/bytealg.IndexString", "internal/abi.NoEscape", "internal/bytealg.MakeNoZero"], unfollowed := true, recurses := true, named := ["internal/bytealg.MaxLen", "perigee/unit.table", "perigee/types.operators", "internal/strconv.uint64pow10", "math/bits.deBruijn32tab", "math/bits.deBruijn64tab"], apart := false, laid := [("math/bits.deBruijn32tab", laid_math_bits_deBruijn32tab), ("math/bits.deBruijn64tab", laid_math_bits_deBruijn64tab), ("internal/strconv.uint64pow10", laid_internal_strconv_uint64pow10), ("perigee/unit.table", laid_perigee_unit_table), ("perigee/types.operators", laid_perigee_types_operators)] }
def VmPrintedSaid : Prop := vmPrintedRow.holds Tryz.pinned (OpenSpec.ofChange vmPrintedSpec)

/-- ITS FALSE NEIGHBOUR: 'it returns false'. Refute it at one input. -/
def vmPrintedWrong : ChangeSpec := { name := "vmPrinted", fn := fun _ => fun
  | [d1, d2, d3] => { results := [.lit (.bool false)], args := [d1, d2, d3] }
  | _ => none }
def VmPrintedWrongFalsely : Prop := vmPrintedRow.holds Tryz.pinned (OpenSpec.ofChange vmPrintedWrong)

/- THE SECOND FORM. 'bulk': how many values and letters a reading holds, each counted each time it is reached (what is shared counts as often as it is met; a slice's spare places count too). A statement '..UptoSaid' is the law's where the arguments, and the package variables that the reading takes, are together of bulk at most 1048576: NARROWER than '..Said'. Prove '..Said' where nothing that the law and all that it calls make is longer than what came in: it says more and counts as full. Else prove '..UptoSaid'. A law counts once. -/
mutual
def uptoBulk {H : Type} : DataW H → Nat
  | .lit (.string bytes) => bytes.length + 1
  | .lit _ => 1
  | .nil => 1
  | .ptr d => uptoBulk d + 1
  | .slice elems spare => uptoBulkAll elems + uptoBulkAll spare + 1
  | .agg parts => uptoBulkAll parts + 1
  | .iface _ d => uptoBulk d + 1
  | .map entries => uptoBulkEntries entries + 1
  | .held _ => 1
def uptoBulkAll {H : Type} : List (DataW H) → Nat
  | [] => 0
  | d :: r => uptoBulk d + uptoBulkAll r
def uptoBulkEntries {H : Type} : List (Lit × DataW H) → Nat
  | [] => 0
  | x :: r => uptoBulkEntry x + uptoBulkEntries r
def uptoBulkEntry {H : Type} : Lit × DataW H → Nat
  | (.string bytes, d) => bytes.length + uptoBulk d + 1
  | (_, d) => uptoBulk d + 1
 end
def uptoSmall : (H : Type) → List (DataW H) → Bool := fun _ ds => decide (uptoBulkAll ds ≤ 1048576)
def OpenSpec.upto (s : _root_.Go.ChangeSpec) : _root_.Go.OpenSpec := { _root_.Go.OpenSpec.ofChange s with cond := some uptoSmall }

/-- 'perigeelaw16.CompileBuild', WHERE WHAT IT READS IS OF BULK AT MOST 1048576: true; the input reads as it did. -/
def compileBuildUptoRow : OpenClaim := { program := "ytbmbhcheonjigaagreatdoor", sum := "370c9a9a3acb6956ba7c6ffbb065230754f02e8ccd420cbfba9daeaad6529e3e", func := "perigee/perigeelaw16.CompileBuild", spec := "compileBuild", inPlace := ["internal/bytealg.IndexByteString", "internal/bytealg.IndexString"], unfollowed := true, recurses := true, named := ["internal/bytealg.MaxLen", "perigee/unit.table", "perigee/types.operators"], apart := false, laid := [("perigee/unit.table", laid_perigee_unit_table), ("perigee/types.operators", laid_perigee_types_operators)], narrowed := true }
def CompileBuildUptoSaid : Prop := compileBuildUptoRow.holds Tryz.pinned (OpenSpec.upto compileBuildSpec)

/-- 'perigeelaw16.CompileMeaning', WHERE WHAT IT READS IS OF BULK AT MOST 1048576: true; the input reads as it did. -/
def compileMeaningUptoRow : OpenClaim := { program := "ytbmbhcheonjigaagreatdoor", sum := "370c9a9a3acb6956ba7c6ffbb065230754f02e8ccd420cbfba9daeaad6529e3e", func := "perigee/perigeelaw16.CompileMeaning", spec := "compileMeaning", inPlace := ["internal/bytealg.IndexByteString", "internal/bytealg.IndexString"], unfollowed := true, recurses := true, named := ["internal/bytealg.MaxLen", "perigee/unit.table", "perigee/types.operators"], apart := false, laid := [("perigee/unit.table", laid_perigee_unit_table), ("perigee/types.operators", laid_perigee_types_operators)], narrowed := true }
def CompileMeaningUptoSaid : Prop := compileMeaningUptoRow.holds Tryz.pinned (OpenSpec.upto compileMeaningSpec)

/-- 'perigeelaw18.VmMeans', WHERE WHAT IT READS IS OF BULK AT MOST 1048576: true; the input reads as it did. -/
def vmMeansUptoRow : OpenClaim := { program := "ytbmbhcheonjigaagreatdoor", sum := "370c9a9a3acb6956ba7c6ffbb065230754f02e8ccd420cbfba9daeaad6529e3e", func := "perigee/perigeelaw18.VmMeans", spec := "vmMeans", inPlace := ["internal/bytealg.IndexByteString", "internal/bytealg.IndexString"], unfollowed := true, recurses := true, named := ["internal/bytealg.MaxLen", "perigee/unit.table", "perigee/types.operators"], apart := false, laid := [("perigee/unit.table", laid_perigee_unit_table), ("perigee/types.operators", laid_perigee_types_operators)], narrowed := true }
def VmMeansUptoSaid : Prop := vmMeansUptoRow.holds Tryz.pinned (OpenSpec.upto vmMeansSpec)

/-- 'perigeelaw17.CostBuilds', WHERE WHAT IT READS IS OF BULK AT MOST 1048576: true; the input reads as it did. -/
def costBuildsUptoRow : OpenClaim := { program := "ytbmbhcheonjigaagreatdoor", sum := "370c9a9a3acb6956ba7c6ffbb065230754f02e8ccd420cbfba9daeaad6529e3e", func := "perigee/perigeelaw17.CostBuilds", spec := "costBuilds", inPlace := ["internal/bytealg.IndexByteString", "internal/bytealg.IndexString"], unfollowed := true, recurses := true, named := ["internal/bytealg.MaxLen", "perigee/unit.table", "perigee/types.operators"], apart := false, laid := [("perigee/unit.table", laid_perigee_unit_table), ("perigee/types.operators", laid_perigee_types_operators)], narrowed := true }
def CostBuildsUptoSaid : Prop := costBuildsUptoRow.holds Tryz.pinned (OpenSpec.upto costBuildsSpec)

/-- 'perigeelaw18.VmCost', WHERE WHAT IT READS IS OF BULK AT MOST 1048576: true; the input reads as it did. -/
def vmCostUptoRow : OpenClaim := { program := "ytbmbhcheonjigaagreatdoor", sum := "370c9a9a3acb6956ba7c6ffbb065230754f02e8ccd420cbfba9daeaad6529e3e", func := "perigee/perigeelaw18.VmCost", spec := "vmCost", inPlace := ["internal/bytealg.IndexByteString", "internal/bytealg.IndexString"], unfollowed := true, recurses := true, named := ["internal/bytealg.MaxLen", "perigee/unit.table", "perigee/types.operators"], apart := false, laid := [("perigee/unit.table", laid_perigee_unit_table), ("perigee/types.operators", laid_perigee_types_operators)], narrowed := true }
def VmCostUptoSaid : Prop := vmCostUptoRow.holds Tryz.pinned (OpenSpec.upto vmCostSpec)

/-- 'perigeelaw16.CompileSources', WHERE WHAT IT READS IS OF BULK AT MOST 1048576: true; the input reads as it did. -/
def compileSourcesUptoRow : OpenClaim := { program := "ytbmbhcheonjigaagreatdoor", sum := "370c9a9a3acb6956ba7c6ffbb065230754f02e8ccd420cbfba9daeaad6529e3e", func := "perigee/perigeelaw16.CompileSources", spec := "compileSources", inPlace := ["internal/bytealg.IndexByteString", "internal/bytealg.IndexString", "internal/abi.NoEscape", "internal/bytealg.MakeNoZero"], unfollowed := true, recurses := true, named := ["internal/bytealg.MaxLen", "perigee/unit.table", "perigee/types.operators", "internal/strconv.uint64pow10", "math/bits.deBruijn32tab", "math/bits.deBruijn64tab"], apart := false, laid := [("math/bits.deBruijn32tab", laid_math_bits_deBruijn32tab), ("math/bits.deBruijn64tab", laid_math_bits_deBruijn64tab), ("internal/strconv.uint64pow10", laid_internal_strconv_uint64pow10), ("perigee/unit.table", laid_perigee_unit_table), ("perigee/types.operators", laid_perigee_types_operators)], narrowed := true }
def CompileSourcesUptoSaid : Prop := compileSourcesUptoRow.holds Tryz.pinned (OpenSpec.upto compileSourcesSpec)

/-- 'perigeelaw18.VmPrinted', WHERE WHAT IT READS IS OF BULK AT MOST 1048576: true; the input reads as it did. -/
def vmPrintedUptoRow : OpenClaim := { program := "ytbmbhcheonjigaagreatdoor", sum := "370c9a9a3acb6956ba7c6ffbb065230754f02e8ccd420cbfba9daeaad6529e3e", func := "perigee/perigeelaw18.VmPrinted", spec := "vmPrinted", inPlace := ["internal/bytealg.IndexByteString", "internal/bytealg.IndexString", "internal/abi.NoEscape", "internal/bytealg.MakeNoZero"], unfollowed := true, recurses := true, named := ["internal/bytealg.MaxLen", "perigee/unit.table", "perigee/types.operators", "internal/strconv.uint64pow10", "math/bits.deBruijn32tab", "math/bits.deBruijn64tab"], apart := false, laid := [("math/bits.deBruijn32tab", laid_math_bits_deBruijn32tab), ("math/bits.deBruijn64tab", laid_math_bits_deBruijn64tab), ("internal/strconv.uint64pow10", laid_internal_strconv_uint64pow10), ("perigee/unit.table", laid_perigee_unit_table), ("perigee/types.operators", laid_perigee_types_operators)], narrowed := true }
def VmPrintedUptoSaid : Prop := vmPrintedUptoRow.holds Tryz.pinned (OpenSpec.upto vmPrintedSpec)

end Rows
end Go.Proofs.YtbmbhcheonjigaaGreatDoor
