/- The environment of this seat: variables of the packages, library functions by contract. -/
import Derived.Test.YtnjpgkaignfcaaaDoorAmY
import Derived.Test.YtnjpgkaignfcaaaDoorProg
import Derived.Test.YtnjpgkaignfcaaaDoorRows
import Derived.Lib.ItoaNum
import Derived.Lib.Split
import Derived.Lib.Join
import Derived.Lib.Strings
import Derived.Lib.LaidTab
import Derived.Lib.AppendIntMem
namespace Go.Proofs.YtnjpgkaignfcaaaDoor
open Go Go.Am
abbrev i64 (n : Int) : V := .sc (.int .i64 n)
abbrev bo (b : Bool) : V := .sc (.bool b)
abbrev st (s : ByteArray) : V := .sc (.string s)
def tabL : List (List V) := [
  [.sc (.string ⟨#[74]⟩), i64 1, i64 1, i64 0, i64 0, i64 0, i64 0],
  [.sc (.string ⟨#[107, 74]⟩), i64 1000, i64 1, i64 0, i64 0, i64 0, i64 0],
  [.sc (.string ⟨#[87, 104]⟩), i64 3600, i64 1, i64 0, i64 0, i64 0, i64 0],
  [.sc (.string ⟨#[66]⟩), i64 1, i64 0, i64 1, i64 0, i64 0, i64 0],
  [.sc (.string ⟨#[107, 66]⟩), i64 1000, i64 0, i64 1, i64 0, i64 0, i64 0],
  [.sc (.string ⟨#[115]⟩), i64 1, i64 0, i64 0, i64 1, i64 0, i64 0],
  [.sc (.string ⟨#[109, 105, 110]⟩), i64 60, i64 0, i64 0, i64 1, i64 0, i64 0],
  [.sc (.string ⟨#[104]⟩), i64 3600, i64 0, i64 0, i64 1, i64 0, i64 0],
  [.sc (.string ⟨#[100, 101, 103]⟩), i64 1, i64 0, i64 0, i64 0, i64 1, i64 0],
  [.sc (.string ⟨#[75]⟩), i64 1, i64 0, i64 0, i64 0, i64 0, i64 1],
  [.sc (.string ⟨#[87]⟩), i64 1, i64 1, i64 0, i64 (-1), i64 0, i64 0],
  [.sc (.string ⟨#[107, 87]⟩), i64 1000, i64 1, i64 0, i64 (-1), i64 0, i64 0],
  [.sc (.string ⟨#[66, 112, 115]⟩), i64 1, i64 0, i64 1, i64 (-1), i64 0, i64 0]]
def tabV : V := .ro 7 13 (fun j => tabL.getD j [])
def globF : Nat → Option (List V)
  | 0 => some [tabV]
  | _ => none
def strL : List (List V) → Option (List ByteArray)
  | [] => some []
  | [.sc (.string s)] :: l => match strL l with | some r => some (s :: r) | none => none
  | _ => none
/-- Library functions by contract: Itoa, Join, Cut, Split, CutPrefix. -/
def extF (f : FuncId) (args : List V) : Option V :=
  if f = 42 then match args with
    | [.sc (.int .i64 n)] => if -9223372036854775808 ≤ n ∧ n ≤ 9223372036854775807 then some (st ⟨(Lib.itoa n).toArray⟩) else none
    | _ => none
  else if f = 43 then match args with
    | [.sc (.slice none 0 0), .sc (.string _)] => some (st ByteArray.empty)
    | [.ro 1 n g, .sc (.string sep)] => match strL ((List.range n).map g) with
      | some xs => if (Lib.join (xs.map (·.data.toList)) sep.data.toList).length ≤ 140737488355328 ∧ n ≤ 140737488355328 then some (st ⟨(Lib.join (xs.map (·.data.toList)) sep.data.toList).toArray⟩) else none
      | none => none
    | _ => none
  else if f = 45 then match args with
    | [.sc (.string s), .sc (.string sep)] => if s.size < 4294967281 then some (.tup [st ⟨(Lib.cut s.data.toList sep.data.toList).1.toArray⟩, st ⟨(Lib.cut s.data.toList sep.data.toList).2.1.toArray⟩, bo (Lib.cut s.data.toList sep.data.toList).2.2]) else none
    | _ => none
  else if f = 47 then match args with
    | [.sc (.string s), .sc (.string sep)] => if s.size < 4294967281 ∧ 1 ≤ sep.size then some (.ro 1 (Lib.countB s sep + 1) (fun j => match (Lib.splitB sep 0 (Lib.countB s sep) s)[j]? with | some x => [st x] | none => [])) else none
    | _ => none
  else if f = 63 then match args with
    | [.sc (.string s), .sc (.string p)] => some (.tup [st ⟨(Lib.trimPrefix s.data.toList p.data.toList).toArray⟩, bo (Lib.hasPrefix s.data.toList p.data.toList)])
    | _ => none
  else none
def way (a b : Nat) : Am.Way := if b = 43 then .lend else .plain
noncomputable def E : Env := { P := Tryd.prog, glob := globF, ext := extF, way := way, lit := fun _ => false, code := fun f => (Tryd.prog.funcs[f]?).bind annF, inv := [(1, intCell .i64), (2, allCells (Lib.pow10Tab.map fun z => Value.int .u64 z).toArray)] }
set_option maxRecDepth 100000 in
theorem hW : WF E := WF.of E (fun _ => rfl) (by kernel_rfl)
/-- No calls, no loops. -/
def T0 : CallT := fun _ _ _ _ => none
def L0 : LoopT := fun _ _ _ _ _ => none
def K : CRes → Option Ans := fun r => some (.c r)
theorem packed : packB Tryd.prog = true := by kernel_rfl
end Go.Proofs.YtnjpgkaignfcaaaDoor
