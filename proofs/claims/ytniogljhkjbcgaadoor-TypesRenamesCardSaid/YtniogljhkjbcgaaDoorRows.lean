/-
  NARROWER THAN 'FOR EVERY INPUT', by the rows' own cells (each row's printed sentence says how): TypesOf: loops, laid · TypesWeakens: loops, laid · TypesSubstitutes: loops, laid · TypesRenames: loops, laid · TypesPrefixes: loops, laid · TypesSound: loops, laid.
  DERIVED. THE GIVEN ROWS OF THIS SEAT. 6 by the template 'for every input the law returns true; each argument reads behind the call as it read before'; 0 by the template 'total and deterministic' (their statements: YtniogljhkjbcgaaDoorTotals.lean).
  GIVEN WITH THE SEED: the statements are not yours to turn. If you find one false, say at which input.
  Laid BY PROGRAM, IN A SANDBOX (cutbox-rows.mjs): the forced cells as the released guide's own fill.sh prints them over the translation 4542f79b2ee8053d… (all of the seat's roots in one cut). By AI agents, Wed Nov 11 2026. No macro, syntax, notation, axiom, sorry.
-/
import Derived.Test.YtniogljhkjbcgaaDoorChecked
import GoSem.Claim
import GoSem.ClaimJoined
import GoSem.ClaimMapViews
import Derived.JoinedTies
import Derived.KernelRfl
namespace Go.Proofs.YtniogljhkjbcgaaDoor
/- THE CELL 'sum', in the pinned program and in every row, IS THE sha256 OF THE DUMP (.gsa) THAT YtniogljhkjbcgaaDoorProg.lean LOADS. Nothing in Lean hashes anything: it is a label: what it is worth is what the hold of that sum in a sandbox is worth. -/
noncomputable def Tryd.pinned : Pinned := { name := "ytniogljhkjbcgaadoor", sum := "4542f79b2ee8053decee876d5325ce1b5edbf7511b3ebf0f3b418c2df98b7e8b", checked := Tryd.checked }
namespace Rows
def none {H : Type} : Left H := { results := [], args := [] }

/- WHAT THE LISTED PACKAGE-LEVEL VARIABLES READ AS WHEN THE CALL BEGINS. Each datum BY PROGRAM (the guide's laid-datum.mjs) off the statement by which the dump's own 'gosem.cut.vars' lays the variable. In a bare row this is a premise. The card (YtniogljhkjbcgaaDoorCards.lean) ties it to the program's text. -/
def laid_perigee_unit_table {H : Type} : DataW H := .slice [.agg [.lit (.string [74]), .lit (.int .i64 1), .agg [.lit (.int .i64 1), .lit (.int .i64 0), .lit (.int .i64 0), .lit (.int .i64 0), .lit (.int .i64 0)]], .agg [.lit (.string [107, 74]), .lit (.int .i64 1000), .agg [.lit (.int .i64 1), .lit (.int .i64 0), .lit (.int .i64 0), .lit (.int .i64 0), .lit (.int .i64 0)]], .agg [.lit (.string [87, 104]), .lit (.int .i64 3600), .agg [.lit (.int .i64 1), .lit (.int .i64 0), .lit (.int .i64 0), .lit (.int .i64 0), .lit (.int .i64 0)]], .agg [.lit (.string [66]), .lit (.int .i64 1), .agg [.lit (.int .i64 0), .lit (.int .i64 1), .lit (.int .i64 0), .lit (.int .i64 0), .lit (.int .i64 0)]], .agg [.lit (.string [107, 66]), .lit (.int .i64 1000), .agg [.lit (.int .i64 0), .lit (.int .i64 1), .lit (.int .i64 0), .lit (.int .i64 0), .lit (.int .i64 0)]], .agg [.lit (.string [115]), .lit (.int .i64 1), .agg [.lit (.int .i64 0), .lit (.int .i64 0), .lit (.int .i64 1), .lit (.int .i64 0), .lit (.int .i64 0)]], .agg [.lit (.string [109, 105, 110]), .lit (.int .i64 60), .agg [.lit (.int .i64 0), .lit (.int .i64 0), .lit (.int .i64 1), .lit (.int .i64 0), .lit (.int .i64 0)]], .agg [.lit (.string [104]), .lit (.int .i64 3600), .agg [.lit (.int .i64 0), .lit (.int .i64 0), .lit (.int .i64 1), .lit (.int .i64 0), .lit (.int .i64 0)]], .agg [.lit (.string [100, 101, 103]), .lit (.int .i64 1), .agg [.lit (.int .i64 0), .lit (.int .i64 0), .lit (.int .i64 0), .lit (.int .i64 1), .lit (.int .i64 0)]], .agg [.lit (.string [75]), .lit (.int .i64 1), .agg [.lit (.int .i64 0), .lit (.int .i64 0), .lit (.int .i64 0), .lit (.int .i64 0), .lit (.int .i64 1)]], .agg [.lit (.string [87]), .lit (.int .i64 1), .agg [.lit (.int .i64 1), .lit (.int .i64 0), .lit (.int .i64 (-1)), .lit (.int .i64 0), .lit (.int .i64 0)]], .agg [.lit (.string [107, 87]), .lit (.int .i64 1000), .agg [.lit (.int .i64 1), .lit (.int .i64 0), .lit (.int .i64 (-1)), .lit (.int .i64 0), .lit (.int .i64 0)]], .agg [.lit (.string [66, 112, 115]), .lit (.int .i64 1), .agg [.lit (.int .i64 0), .lit (.int .i64 1), .lit (.int .i64 (-1)), .lit (.int .i64 0), .lit (.int .i64 0)]]] []
def laid_perigee_types_operators {H : Type} : DataW H := .agg [.agg [.lit (.string [124, 124]), .lit (.int .i64 1)], .agg [.lit (.string [38, 38]), .lit (.int .i64 1)], .agg [.lit (.string [43]), .lit (.int .i64 2)], .agg [.lit (.string [45]), .lit (.int .i64 2)], .agg [.lit (.string [42]), .lit (.int .i64 3)], .agg [.lit (.string [47]), .lit (.int .i64 3)], .agg [.lit (.string [60]), .lit (.int .i64 4)], .agg [.lit (.string [60, 61]), .lit (.int .i64 4)], .agg [.lit (.string [62]), .lit (.int .i64 4)], .agg [.lit (.string [62, 61]), .lit (.int .i64 4)], .agg [.lit (.string [61, 61]), .lit (.int .i64 4)], .agg [.lit (.string [33, 61]), .lit (.int .i64 4)]]

/-- 'perigeelaw15.TypesOf': WHATEVER THE INPUT: true; the input reads as it did. -/
def typesOfSpec : ChangeSpec := { name := "typesOf", fn := fun _ => fun
  | [d1, d2, d3] => { results := [.lit (.bool true)], args := [d1, d2, d3] }
  | _ => none }
def typesOfRow : OpenClaim := { program := "ytniogljhkjbcgaadoor", sum := "4542f79b2ee8053decee876d5325ce1b5edbf7511b3ebf0f3b418c2df98b7e8b", func := "perigee/perigeelaw15.TypesOf", spec := "typesOf", inPlace := ["internal/bytealg.IndexByteString", "internal/bytealg.IndexString"], unfollowed := true, recurses := true, named := ["perigee/types.operators", "perigee/unit.table", "internal/bytealg.MaxLen"], loops := true, apart := false, laid := [("perigee/unit.table", laid_perigee_unit_table), ("perigee/types.operators", laid_perigee_types_operators)] }
def TypesOfSaid : Prop := typesOfRow.holds Tryd.pinned (OpenSpec.ofChange typesOfSpec)

/-- ITS FALSE NEIGHBOUR: 'it returns false'. Refute it at one input. -/
def typesOfWrong : ChangeSpec := { name := "typesOf", fn := fun _ => fun
  | [d1, d2, d3] => { results := [.lit (.bool false)], args := [d1, d2, d3] }
  | _ => none }
def TypesOfWrongFalsely : Prop := typesOfRow.holds Tryd.pinned (OpenSpec.ofChange typesOfWrong)

/-- 'perigeelaw15.TypesWeakens': WHATEVER THE INPUT: true; the input reads as it did. -/
def typesWeakensSpec : ChangeSpec := { name := "typesWeakens", fn := fun _ => fun
  | [d1, d2, d3] => { results := [.lit (.bool true)], args := [d1, d2, d3] }
  | _ => none }
def typesWeakensRow : OpenClaim := { program := "ytniogljhkjbcgaadoor", sum := "4542f79b2ee8053decee876d5325ce1b5edbf7511b3ebf0f3b418c2df98b7e8b", func := "perigee/perigeelaw15.TypesWeakens", spec := "typesWeakens", inPlace := ["internal/bytealg.IndexByteString", "internal/bytealg.IndexString"], unfollowed := true, recurses := true, named := ["perigee/types.operators", "perigee/unit.table", "internal/bytealg.MaxLen"], loops := true, apart := false, laid := [("perigee/unit.table", laid_perigee_unit_table), ("perigee/types.operators", laid_perigee_types_operators)] }
def TypesWeakensSaid : Prop := typesWeakensRow.holds Tryd.pinned (OpenSpec.ofChange typesWeakensSpec)

/-- ITS FALSE NEIGHBOUR: 'it returns false'. Refute it at one input. -/
def typesWeakensWrong : ChangeSpec := { name := "typesWeakens", fn := fun _ => fun
  | [d1, d2, d3] => { results := [.lit (.bool false)], args := [d1, d2, d3] }
  | _ => none }
def TypesWeakensWrongFalsely : Prop := typesWeakensRow.holds Tryd.pinned (OpenSpec.ofChange typesWeakensWrong)

/-- 'perigeelaw15.TypesSubstitutes': WHATEVER THE INPUT: true; the input reads as it did. -/
def typesSubstitutesSpec : ChangeSpec := { name := "typesSubstitutes", fn := fun _ => fun
  | [d1, d2, d3, d4] => { results := [.lit (.bool true)], args := [d1, d2, d3, d4] }
  | _ => none }
def typesSubstitutesRow : OpenClaim := { program := "ytniogljhkjbcgaadoor", sum := "4542f79b2ee8053decee876d5325ce1b5edbf7511b3ebf0f3b418c2df98b7e8b", func := "perigee/perigeelaw15.TypesSubstitutes", spec := "typesSubstitutes", inPlace := ["internal/bytealg.IndexByteString", "internal/bytealg.IndexString"], unfollowed := true, recurses := true, named := ["perigee/types.operators", "perigee/unit.table", "internal/bytealg.MaxLen"], loops := true, apart := false, laid := [("perigee/unit.table", laid_perigee_unit_table), ("perigee/types.operators", laid_perigee_types_operators)] }
def TypesSubstitutesSaid : Prop := typesSubstitutesRow.holds Tryd.pinned (OpenSpec.ofChange typesSubstitutesSpec)

/-- ITS FALSE NEIGHBOUR: 'it returns false'. Refute it at one input. -/
def typesSubstitutesWrong : ChangeSpec := { name := "typesSubstitutes", fn := fun _ => fun
  | [d1, d2, d3, d4] => { results := [.lit (.bool false)], args := [d1, d2, d3, d4] }
  | _ => none }
def TypesSubstitutesWrongFalsely : Prop := typesSubstitutesRow.holds Tryd.pinned (OpenSpec.ofChange typesSubstitutesWrong)

/-- 'perigeelaw15.TypesRenames': WHATEVER THE INPUT: true; the input reads as it did. -/
def typesRenamesSpec : ChangeSpec := { name := "typesRenames", fn := fun _ => fun
  | [d1, d2] => { results := [.lit (.bool true)], args := [d1, d2] }
  | _ => none }
def typesRenamesRow : OpenClaim := { program := "ytniogljhkjbcgaadoor", sum := "4542f79b2ee8053decee876d5325ce1b5edbf7511b3ebf0f3b418c2df98b7e8b", func := "perigee/perigeelaw15.TypesRenames", spec := "typesRenames", inPlace := ["internal/bytealg.IndexByteString", "internal/bytealg.IndexString"], unfollowed := true, recurses := true, named := ["perigee/types.operators", "perigee/unit.table", "internal/bytealg.MaxLen"], loops := true, apart := false, laid := [("perigee/unit.table", laid_perigee_unit_table), ("perigee/types.operators", laid_perigee_types_operators)] }
def TypesRenamesSaid : Prop := typesRenamesRow.holds Tryd.pinned (OpenSpec.ofChange typesRenamesSpec)

/-- ITS FALSE NEIGHBOUR: 'it returns false'. Refute it at one input. -/
def typesRenamesWrong : ChangeSpec := { name := "typesRenames", fn := fun _ => fun
  | [d1, d2] => { results := [.lit (.bool false)], args := [d1, d2] }
  | _ => none }
def TypesRenamesWrongFalsely : Prop := typesRenamesRow.holds Tryd.pinned (OpenSpec.ofChange typesRenamesWrong)

/-- 'perigeelaw15.TypesPrefixes': WHATEVER THE INPUT: true; the input reads as it did. -/
def typesPrefixesSpec : ChangeSpec := { name := "typesPrefixes", fn := fun _ => fun
  | [d] => { results := [.lit (.bool true)], args := [d] }
  | _ => none }
def typesPrefixesRow : OpenClaim := { program := "ytniogljhkjbcgaadoor", sum := "4542f79b2ee8053decee876d5325ce1b5edbf7511b3ebf0f3b418c2df98b7e8b", func := "perigee/perigeelaw15.TypesPrefixes", spec := "typesPrefixes", inPlace := ["internal/bytealg.IndexByteString", "internal/bytealg.IndexString"], unfollowed := true, recurses := true, named := ["perigee/types.operators", "perigee/unit.table", "internal/bytealg.MaxLen"], loops := true, apart := false, laid := [("perigee/unit.table", laid_perigee_unit_table), ("perigee/types.operators", laid_perigee_types_operators)] }
def TypesPrefixesSaid : Prop := typesPrefixesRow.holds Tryd.pinned (OpenSpec.ofChange typesPrefixesSpec)

/-- ITS FALSE NEIGHBOUR: 'it returns false'. Refute it at one input. -/
def typesPrefixesWrong : ChangeSpec := { name := "typesPrefixes", fn := fun _ => fun
  | [d] => { results := [.lit (.bool false)], args := [d] }
  | _ => none }
def TypesPrefixesWrongFalsely : Prop := typesPrefixesRow.holds Tryd.pinned (OpenSpec.ofChange typesPrefixesWrong)

/-- 'perigeelaw15.TypesSound': WHATEVER THE INPUT: true; the input reads as it did. -/
def typesSoundSpec : ChangeSpec := { name := "typesSound", fn := fun _ => fun
  | [d1, d2, d3] => { results := [.lit (.bool true)], args := [d1, d2, d3] }
  | _ => none }
def typesSoundRow : OpenClaim := { program := "ytniogljhkjbcgaadoor", sum := "4542f79b2ee8053decee876d5325ce1b5edbf7511b3ebf0f3b418c2df98b7e8b", func := "perigee/perigeelaw15.TypesSound", spec := "typesSound", inPlace := ["internal/bytealg.IndexByteString", "internal/bytealg.IndexString"], unfollowed := true, recurses := true, named := ["perigee/types.operators", "perigee/unit.table", "internal/bytealg.MaxLen"], loops := true, apart := false, laid := [("perigee/unit.table", laid_perigee_unit_table), ("perigee/types.operators", laid_perigee_types_operators)] }
def TypesSoundSaid : Prop := typesSoundRow.holds Tryd.pinned (OpenSpec.ofChange typesSoundSpec)

/-- ITS FALSE NEIGHBOUR: 'it returns false'. Refute it at one input. -/
def typesSoundWrong : ChangeSpec := { name := "typesSound", fn := fun _ => fun
  | [d1, d2, d3] => { results := [.lit (.bool false)], args := [d1, d2, d3] }
  | _ => none }
def TypesSoundWrongFalsely : Prop := typesSoundRow.holds Tryd.pinned (OpenSpec.ofChange typesSoundWrong)

/- THE SECOND FORM. 'bulk': how many values and letters a reading holds, each counted each time it is reached (what is shared counts as often as it is met; a slice's spare places count too). A statement '..UptoSaid' is the law's where the arguments, and the package variables that the reading takes, are together of bulk at most 1048576: NARROWER than '..Said'. Prove '..Said' where nothing that the law and all that it calls make is longer than what came in: it says more and counts as full. Else prove '..UptoSaid'. A law counts once. -/
mutual
def uptoBulk {H : Type} : DataW H → Nat
  | .lit (.string bytes) => bytes.length + 1
  | .lit _ => 1
  | .nil => 1
  | .ptr d => uptoBulk d + 1
  | .slice elems spare => uptoBulkAll elems + uptoBulkAll spare + 1
  | .agg parts => uptoBulkAll parts + 1
  | .iface _ d => uptoBulk d + 1
  | .map entries => uptoBulkEntries entries + 1
  | .held _ => 1
def uptoBulkAll {H : Type} : List (DataW H) → Nat
  | [] => 0
  | d :: r => uptoBulk d + uptoBulkAll r
def uptoBulkEntries {H : Type} : List (Lit × DataW H) → Nat
  | [] => 0
  | x :: r => uptoBulkEntry x + uptoBulkEntries r
def uptoBulkEntry {H : Type} : Lit × DataW H → Nat
  | (.string bytes, d) => bytes.length + uptoBulk d + 1
  | (_, d) => uptoBulk d + 1
 end
def uptoSmall : (H : Type) → List (DataW H) → Bool := fun _ ds => decide (uptoBulkAll ds ≤ 1048576)
def OpenSpec.upto (s : _root_.Go.ChangeSpec) : _root_.Go.OpenSpec := { _root_.Go.OpenSpec.ofChange s with cond := some uptoSmall }

/-- 'perigeelaw15.TypesOf', WHERE WHAT IT READS IS OF BULK AT MOST 1048576: true; the input reads as it did. -/
def typesOfUptoRow : OpenClaim := { program := "ytniogljhkjbcgaadoor", sum := "4542f79b2ee8053decee876d5325ce1b5edbf7511b3ebf0f3b418c2df98b7e8b", func := "perigee/perigeelaw15.TypesOf", spec := "typesOf", inPlace := ["internal/bytealg.IndexByteString", "internal/bytealg.IndexString"], unfollowed := true, recurses := true, named := ["perigee/types.operators", "perigee/unit.table", "internal/bytealg.MaxLen"], loops := true, apart := false, laid := [("perigee/unit.table", laid_perigee_unit_table), ("perigee/types.operators", laid_perigee_types_operators)], narrowed := true }
def TypesOfUptoSaid : Prop := typesOfUptoRow.holds Tryd.pinned (OpenSpec.upto typesOfSpec)

/-- 'perigeelaw15.TypesWeakens', WHERE WHAT IT READS IS OF BULK AT MOST 1048576: true; the input reads as it did. -/
def typesWeakensUptoRow : OpenClaim := { program := "ytniogljhkjbcgaadoor", sum := "4542f79b2ee8053decee876d5325ce1b5edbf7511b3ebf0f3b418c2df98b7e8b", func := "perigee/perigeelaw15.TypesWeakens", spec := "typesWeakens", inPlace := ["internal/bytealg.IndexByteString", "internal/bytealg.IndexString"], unfollowed := true, recurses := true, named := ["perigee/types.operators", "perigee/unit.table", "internal/bytealg.MaxLen"], loops := true, apart := false, laid := [("perigee/unit.table", laid_perigee_unit_table), ("perigee/types.operators", laid_perigee_types_operators)], narrowed := true }
def TypesWeakensUptoSaid : Prop := typesWeakensUptoRow.holds Tryd.pinned (OpenSpec.upto typesWeakensSpec)

/-- 'perigeelaw15.TypesSubstitutes', WHERE WHAT IT READS IS OF BULK AT MOST 1048576: true; the input reads as it did. -/
def typesSubstitutesUptoRow : OpenClaim := { program := "ytniogljhkjbcgaadoor", sum := "4542f79b2ee8053decee876d5325ce1b5edbf7511b3ebf0f3b418c2df98b7e8b", func := "perigee/perigeelaw15.TypesSubstitutes", spec := "typesSubstitutes", inPlace := ["internal/bytealg.IndexByteString", "internal/bytealg.IndexString"], unfollowed := true, recurses := true, named := ["perigee/types.operators", "perigee/unit.table", "internal/bytealg.MaxLen"], loops := true, apart := false, laid := [("perigee/unit.table", laid_perigee_unit_table), ("perigee/types.operators", laid_perigee_types_operators)], narrowed := true }
def TypesSubstitutesUptoSaid : Prop := typesSubstitutesUptoRow.holds Tryd.pinned (OpenSpec.upto typesSubstitutesSpec)

/-- 'perigeelaw15.TypesRenames', WHERE WHAT IT READS IS OF BULK AT MOST 1048576: true; the input reads as it did. -/
def typesRenamesUptoRow : OpenClaim := { program := "ytniogljhkjbcgaadoor", sum := "4542f79b2ee8053decee876d5325ce1b5edbf7511b3ebf0f3b418c2df98b7e8b", func := "perigee/perigeelaw15.TypesRenames", spec := "typesRenames", inPlace := ["internal/bytealg.IndexByteString", "internal/bytealg.IndexString"], unfollowed := true, recurses := true, named := ["perigee/types.operators", "perigee/unit.table", "internal/bytealg.MaxLen"], loops := true, apart := false, laid := [("perigee/unit.table", laid_perigee_unit_table), ("perigee/types.operators", laid_perigee_types_operators)], narrowed := true }
def TypesRenamesUptoSaid : Prop := typesRenamesUptoRow.holds Tryd.pinned (OpenSpec.upto typesRenamesSpec)

/-- 'perigeelaw15.TypesPrefixes', WHERE WHAT IT READS IS OF BULK AT MOST 1048576: true; the input reads as it did. -/
def typesPrefixesUptoRow : OpenClaim := { program := "ytniogljhkjbcgaadoor", sum := "4542f79b2ee8053decee876d5325ce1b5edbf7511b3ebf0f3b418c2df98b7e8b", func := "perigee/perigeelaw15.TypesPrefixes", spec := "typesPrefixes", inPlace := ["internal/bytealg.IndexByteString", "internal/bytealg.IndexString"], unfollowed := true, recurses := true, named := ["perigee/types.operators", "perigee/unit.table", "internal/bytealg.MaxLen"], loops := true, apart := false, laid := [("perigee/unit.table", laid_perigee_unit_table), ("perigee/types.operators", laid_perigee_types_operators)], narrowed := true }
def TypesPrefixesUptoSaid : Prop := typesPrefixesUptoRow.holds Tryd.pinned (OpenSpec.upto typesPrefixesSpec)

/-- 'perigeelaw15.TypesSound', WHERE WHAT IT READS IS OF BULK AT MOST 1048576: true; the input reads as it did. -/
def typesSoundUptoRow : OpenClaim := { program := "ytniogljhkjbcgaadoor", sum := "4542f79b2ee8053decee876d5325ce1b5edbf7511b3ebf0f3b418c2df98b7e8b", func := "perigee/perigeelaw15.TypesSound", spec := "typesSound", inPlace := ["internal/bytealg.IndexByteString", "internal/bytealg.IndexString"], unfollowed := true, recurses := true, named := ["perigee/types.operators", "perigee/unit.table", "internal/bytealg.MaxLen"], loops := true, apart := false, laid := [("perigee/unit.table", laid_perigee_unit_table), ("perigee/types.operators", laid_perigee_types_operators)], narrowed := true }
def TypesSoundUptoSaid : Prop := typesSoundUptoRow.holds Tryd.pinned (OpenSpec.upto typesSoundSpec)

end Rows
end Go.Proofs.YtniogljhkjbcgaaDoor
