/- For closed runs. -/
import Derived.Test.YtniogljhkjbcgaaDoorTx
set_option linter.unusedSimpArgs false
set_option linter.unusedVariables false
namespace Go.Proofs.YtniogljhkjbcgaaDoor
open Go Go.Am
def maskTab : List (Nat × List (Nat × Nat)) := [(6, [(0, 102)]), (7, [(0, 58)]), (9, [(0, 102)]), (11, [(0, 25)]), (12, [(0, 939524518)]), (13, [(0, 25)]), (17, [(0, 38)]), (18, [(0, 490)]), (19, [(0, 118)]), (20, [(0, 57354)]), (28, [(0, 35)]), (36, [(0, 901)]), (42, [(0, 92)]), (44, [(0, 97)]), (47, [(0, 98304)]), (58, [(0, 1793)]), (59, [(0, 24601)]), (64, [(0, 65633)]), (67, [(0, 114701)]), (74, [(0, 259)]), (79, [(0, 4194356)]), (84, [(0, 9)]), (85, [(0, 13)]), (90, [(0, 1835017)]), (106, [(1, 51)]), (109, [(1, 2019)]), (115, [(0, 995), (2, 1507)]), (116, [(0, 49), (2, 464)])]
noncomputable def EL : Env := { P := Tryd.prog, glob := globF, ext := extF, way := way, lit := fun _ => false, code := annFL maskTab Tryd.prog, inv := [(2, intCell .i64)], dfn := dfnF, idle := idleF, push := false }
set_option maxRecDepth 100000 in
theorem hWL : WF EL := WF.ofL EL maskTab rfl (by kernel_rfl) (fun g n h => by
  have h' : idleF g = some n := h
  unfold idleF at h'
  split at h'
  · rename_i hg; subst hg; cases h'; exact idle65
  · cases h')
theorem hXL : SoundX EL := fun f args v h => by
  obtain ⟨h1, h2, h3⟩ := hX f args v h
  exact ⟨h1, h2, fun β S D w us a b c => h3 β S D w us a ⟨b.rd, b.inv⟩ c⟩
theorem scL {f : FuncId} {args : List V} {L : List (Option Chunk)} {cr : CRes} (h : SC EL f args L cr) : SC E f args L cr :=
  ⟨h.1, fun β S w us h1 h2 h3 => h.2 β S w us h1 h2 ⟨h3.rd, h3.inv⟩⟩
end Go.Proofs.YtniogljhkjbcgaaDoor
