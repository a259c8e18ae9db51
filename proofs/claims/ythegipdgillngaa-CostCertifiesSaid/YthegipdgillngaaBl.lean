/- The examples of the chapter hold. -/
import Derived.Test.YthegipdgillngaaBe
namespace Go.Proofs.Ythegipdgillngaa
open Go Go.Am
noncomputable def EL : Env := { P := Try.prog, glob := fun _ => none, ext := fun _ _ => none, way := way, lit := fun f => f == 17, code := fun f => (Try.prog.funcs[f]?).bind annF, push := false }
theorem hWL : WF EL := WF.of EL (fun _ => rfl) (by kernel_rfl)
theorem hXL : SoundX EL := SoundX.none fun _ _ => rfl
theorem scL {f : FuncId} {args : List V} {L : List (Option Chunk)} {cr : CRes} (h : SC EL f args L cr) : SC E f args L cr :=
  ⟨h.1, fun β S w us h1 h2 h3 => h.2 β S w us h1 h2 ⟨h3.rd, h3.inv⟩⟩
theorem lives_true : SC E 17 [] [] (.ret (.sc (.bool true)) []) := scL (SC.closed hWL hXL 40 (by kernel_rfl))
end Go.Proofs.Ythegipdgillngaa
