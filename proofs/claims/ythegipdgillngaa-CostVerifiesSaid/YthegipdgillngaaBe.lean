/- The environment of this seat: how its functions are called. -/
import Derived.Test.YthegipdgillngaaAmU
import Derived.Test.YthegipdgillngaaProg
namespace Go.Proofs.Ythegipdgillngaa
open Go Go.Am
def way (a b : Nat) : Am.Way := if b ∈ [27,44,31,32,48,16,19,20,24,40,42,62,65,26,30,38,41,57,61,56,60,75,74,59,50] then .lend else if b ∈ [12,13,15,35,18] then .give else if b = 14 ∧ a ≠ 7 ∧ a ≠ 17 then .give else .plain
noncomputable def E : Env := { P := Try.prog, glob := fun _ => none, ext := fun _ _ => none, way := way, lit := fun f => f == 17, code := fun f => (Try.prog.funcs[f]?).bind annF }
theorem hW : WF E := WF.of E (fun _ => rfl) (by kernel_rfl)
theorem hX : SoundX E := SoundX.none fun _ _ => rfl
abbrev i64 (n : Int) : V := .sc (.int .i64 n)
abbrev bo (b : Bool) : V := .sc (.bool b)
/-- No calls, no loops. -/
def T0 : CallT := fun _ _ _ _ => none
def L0 : LoopT := fun _ _ _ _ _ => none
def K : CRes → Option Ans := fun r => some (.c r)
end Go.Proofs.Ythegipdgillngaa
