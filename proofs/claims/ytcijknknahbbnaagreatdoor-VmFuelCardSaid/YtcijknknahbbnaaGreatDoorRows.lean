/-
  NARROWER THAN 'FOR EVERY INPUT', by the rows' own cells (each row's printed sentence says how): VmFuel: laid.
  DERIVED. THE GIVEN ROWS OF THIS SEAT. 1 by the template 'for every input the law returns true; each argument reads behind the call as it read before'; 0 by the template 'total and deterministic' (their statements: YtcijknknahbbnaaGreatDoorTotals.lean).
  GIVEN WITH THE SEED: the statements are not yours to turn. If you find one false, say at which input.
  Laid BY PROGRAM, IN A SANDBOX (cutbox-rows.mjs): the forced cells as the released guide's own fill.sh prints them over the translation 07245b9967f3cbeb… (all of the seat's roots in one cut). By AI agents, Wed Nov 11 2026. No macro, syntax, notation, axiom, sorry.
-/
import Derived.Test.YtcijknknahbbnaaGreatDoorChecked
import GoSem.Claim
import GoSem.ClaimJoined
import GoSem.ClaimMapViews
import Derived.JoinedTies
import Derived.KernelRfl
namespace Go.Proofs.YtcijknknahbbnaaGreatDoor
/- THE CELL 'sum', in the pinned program and in every row, IS THE sha256 OF THE DUMP (.gsa) THAT YtcijknknahbbnaaGreatDoorProg.lean LOADS. Nothing in Lean hashes anything: it is a label: what it is worth is what the hold of that sum in a sandbox is worth. -/
noncomputable def Tryz.pinned : Pinned := { name := "ytcijknknahbbnaagreatdoor", sum := "07245b9967f3cbebfc6729335226ad5c2f65a378d50c076d509afa34cdf9b134", checked := Tryz.checked }
namespace Rows
def none {H : Type} : Left H := { results := [], args := [] }

/- WHAT THE LISTED PACKAGE-LEVEL VARIABLES READ AS WHEN THE CALL BEGINS. Each datum BY PROGRAM (the guide's laid-datum.mjs) off the statement by which the dump's own 'gosem.cut.vars' lays the variable. In a bare row this is a premise. The card (YtcijknknahbbnaaGreatDoorCards.lean) ties it to the program's text. -/
def laid_perigee_unit_table {H : Type} : DataW H := .slice [.agg [.lit (.string [74]), .lit (.int .i64 1), .agg [.lit (.int .i64 1), .lit (.int .i64 0), .lit (.int .i64 0), .lit (.int .i64 0), .lit (.int .i64 0)]], .agg [.lit (.string [107, 74]), .lit (.int .i64 1000), .agg [.lit (.int .i64 1), .lit (.int .i64 0), .lit (.int .i64 0), .lit (.int .i64 0), .lit (.int .i64 0)]], .agg [.lit (.string [87, 104]), .lit (.int .i64 3600), .agg [.lit (.int .i64 1), .lit (.int .i64 0), .lit (.int .i64 0), .lit (.int .i64 0), .lit (.int .i64 0)]], .agg [.lit (.string [66]), .lit (.int .i64 1), .agg [.lit (.int .i64 0), .lit (.int .i64 1), .lit (.int .i64 0), .lit (.int .i64 0), .lit (.int .i64 0)]], .agg [.lit (.string [107, 66]), .lit (.int .i64 1000), .agg [.lit (.int .i64 0), .lit (.int .i64 1), .lit (.int .i64 0), .lit (.int .i64 0), .lit (.int .i64 0)]], .agg [.lit (.string [115]), .lit (.int .i64 1), .agg [.lit (.int .i64 0), .lit (.int .i64 0), .lit (.int .i64 1), .lit (.int .i64 0), .lit (.int .i64 0)]], .agg [.lit (.string [109, 105, 110]), .lit (.int .i64 60), .agg [.lit (.int .i64 0), .lit (.int .i64 0), .lit (.int .i64 1), .lit (.int .i64 0), .lit (.int .i64 0)]], .agg [.lit (.string [104]), .lit (.int .i64 3600), .agg [.lit (.int .i64 0), .lit (.int .i64 0), .lit (.int .i64 1), .lit (.int .i64 0), .lit (.int .i64 0)]], .agg [.lit (.string [100, 101, 103]), .lit (.int .i64 1), .agg [.lit (.int .i64 0), .lit (.int .i64 0), .lit (.int .i64 0), .lit (.int .i64 1), .lit (.int .i64 0)]], .agg [.lit (.string [75]), .lit (.int .i64 1), .agg [.lit (.int .i64 0), .lit (.int .i64 0), .lit (.int .i64 0), .lit (.int .i64 0), .lit (.int .i64 1)]], .agg [.lit (.string [87]), .lit (.int .i64 1), .agg [.lit (.int .i64 1), .lit (.int .i64 0), .lit (.int .i64 (-1)), .lit (.int .i64 0), .lit (.int .i64 0)]], .agg [.lit (.string [107, 87]), .lit (.int .i64 1000), .agg [.lit (.int .i64 1), .lit (.int .i64 0), .lit (.int .i64 (-1)), .lit (.int .i64 0), .lit (.int .i64 0)]], .agg [.lit (.string [66, 112, 115]), .lit (.int .i64 1), .agg [.lit (.int .i64 0), .lit (.int .i64 1), .lit (.int .i64 (-1)), .lit (.int .i64 0), .lit (.int .i64 0)]]] []
def laid_perigee_types_operators {H : Type} : DataW H := .agg [.agg [.lit (.string [124, 124]), .lit (.int .i64 1)], .agg [.lit (.string [38, 38]), .lit (.int .i64 1)], .agg [.lit (.string [43]), .lit (.int .i64 2)], .agg [.lit (.string [45]), .lit (.int .i64 2)], .agg [.lit (.string [42]), .lit (.int .i64 3)], .agg [.lit (.string [47]), .lit (.int .i64 3)], .agg [.lit (.string [60]), .lit (.int .i64 4)], .agg [.lit (.string [60, 61]), .lit (.int .i64 4)], .agg [.lit (.string [62]), .lit (.int .i64 4)], .agg [.lit (.string [62, 61]), .lit (.int .i64 4)], .agg [.lit (.string [61, 61]), .lit (.int .i64 4)], .agg [.lit (.string [33, 61]), .lit (.int .i64 4)]]

/-- 'perigeelaw18.VmFuel': WHATEVER THE INPUT: true; the input reads as it did. -/
def vmFuelSpec : ChangeSpec := { name := "vmFuel", fn := fun _ => fun
  | [d1, d2] => { results := [.lit (.bool true)], args := [d1, d2] }
  | _ => none }
def vmFuelRow : OpenClaim := { program := "ytcijknknahbbnaagreatdoor", sum := "07245b9967f3cbebfc6729335226ad5c2f65a378d50c076d509afa34cdf9b134", func := "perigee/perigeelaw18.VmFuel", spec := "vmFuel", inPlace := ["internal/bytealg.IndexByteString", "internal/bytealg.IndexString"], unfollowed := true, recurses := true, named := ["internal/bytealg.MaxLen", "perigee/unit.table", "perigee/types.operators"], apart := false, laid := [("perigee/unit.table", laid_perigee_unit_table), ("perigee/types.operators", laid_perigee_types_operators)] }
def VmFuelSaid : Prop := vmFuelRow.holds Tryz.pinned (OpenSpec.ofChange vmFuelSpec)

/-- ITS FALSE NEIGHBOUR: 'it returns false'. Refute it at one input. -/
def vmFuelWrong : ChangeSpec := { name := "vmFuel", fn := fun _ => fun
  | [d1, d2] => { results := [.lit (.bool false)], args := [d1, d2] }
  | _ => none }
def VmFuelWrongFalsely : Prop := vmFuelRow.holds Tryz.pinned (OpenSpec.ofChange vmFuelWrong)

/- THE SECOND FORM. 'bulk': how many values and letters a reading holds, each counted each time it is reached (what is shared counts as often as it is met; a slice's spare places count too). A statement '..UptoSaid' is the law's where the arguments, and the package variables that the reading takes, are together of bulk at most 1048576: NARROWER than '..Said'. Prove '..Said' where nothing that the law and all that it calls make is longer than what came in: it says more and counts as full. Else prove '..UptoSaid'. A law counts once. -/
mutual
def uptoBulk {H : Type} : DataW H → Nat
  | .lit (.string bytes) => bytes.length + 1
  | .lit _ => 1
  | .nil => 1
  | .ptr d => uptoBulk d + 1
  | .slice elems spare => uptoBulkAll elems + uptoBulkAll spare + 1
  | .agg parts => uptoBulkAll parts + 1
  | .iface _ d => uptoBulk d + 1
  | .map entries => uptoBulkEntries entries + 1
  | .held _ => 1
def uptoBulkAll {H : Type} : List (DataW H) → Nat
  | [] => 0
  | d :: r => uptoBulk d + uptoBulkAll r
def uptoBulkEntries {H : Type} : List (Lit × DataW H) → Nat
  | [] => 0
  | x :: r => uptoBulkEntry x + uptoBulkEntries r
def uptoBulkEntry {H : Type} : Lit × DataW H → Nat
  | (.string bytes, d) => bytes.length + uptoBulk d + 1
  | (_, d) => uptoBulk d + 1
 end
def uptoSmall : (H : Type) → List (DataW H) → Bool := fun _ ds => decide (uptoBulkAll ds ≤ 1048576)
def OpenSpec.upto (s : _root_.Go.ChangeSpec) : _root_.Go.OpenSpec := { _root_.Go.OpenSpec.ofChange s with cond := some uptoSmall }

/-- 'perigeelaw18.VmFuel', WHERE WHAT IT READS IS OF BULK AT MOST 1048576: true; the input reads as it did. -/
def vmFuelUptoRow : OpenClaim := { program := "ytcijknknahbbnaagreatdoor", sum := "07245b9967f3cbebfc6729335226ad5c2f65a378d50c076d509afa34cdf9b134", func := "perigee/perigeelaw18.VmFuel", spec := "vmFuel", inPlace := ["internal/bytealg.IndexByteString", "internal/bytealg.IndexString"], unfollowed := true, recurses := true, named := ["internal/bytealg.MaxLen", "perigee/unit.table", "perigee/types.operators"], apart := false, laid := [("perigee/unit.table", laid_perigee_unit_table), ("perigee/types.operators", laid_perigee_types_operators)], narrowed := true }
def VmFuelUptoSaid : Prop := vmFuelUptoRow.holds Tryz.pinned (OpenSpec.upto vmFuelSpec)

end Rows
end Go.Proofs.YtcijknknahbbnaaGreatDoor
