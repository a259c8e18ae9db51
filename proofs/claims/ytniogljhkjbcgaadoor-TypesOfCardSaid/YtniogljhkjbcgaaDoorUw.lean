/- What the rows list of the packages' variables; a world that holds it. -/
import Derived.Test.YtniogljhkjbcgaaDoorTx
import Derived.Test.YtniogljhkjbcgaaDoorCards
import Derived.Test.YtniogljhkjbcgaaDoorTie
import Derived.Deep.DeepHandedRow
import Derived.Deep.DeepWitnessRowRef
import Derived.LaidMore
set_option linter.unusedSimpArgs false
set_option linter.unusedVariables false
namespace Go.Proofs.YtniogljhkjbcgaaDoor
open Go Go.Am Go.RowKit
theorem packed : packB Tryd.prog = true := by kernel_rfl
abbrev laidL : List (String × DataW Unit) := Rows.typesOfRow.laid
theorem laidPlain {W : World} (h : laidMetH Tryd.prog laidL W) : laidMet Tryd.prog laidL W := by
  rw [MakeChecks.laidMetH_plain _ _ _ (by kernel_rfl)] at h; exact h
theorem globAt0 : GlobAt Tryd.prog laidL 0 [tabV] := ⟨"perigee/unit.table", Rows.laid_perigee_unit_table, 96, 8, by simp [laidL, Rows.typesOfRow], by kernel_rfl, by kernel_rfl, of_decide_eq_true (by kernel_rfl), by kernel_rfl, by simp⟩
theorem globAt1 : GlobAt Tryd.prog laidL 1 opsL := ⟨"perigee/types.operators", Rows.laid_perigee_types_operators, 120, 8, by simp [laidL, Rows.typesOfRow], by kernel_rfl, by kernel_rfl, of_decide_eq_true (by kernel_rfl), by kernel_rfl, by simp [opsL]⟩
theorem glob_of {W : World} (h : laidMetH Tryd.prog laidL W) (hs : W.ShapedOpen Tryd.prog) : Glob E (· < W.heap.size) W := by
  have hl := laidPlain h
  refine Glob.of_laid (laid := laidL) packed hl (fun g cs hg => ?_) (fun p hp => ?_)
  · have hg' : globF g = some cs := hg
    unfold globF at hg'
    split at hg'
    · cases hg'; exact globAt0
    · cases hg'; exact globAt1
    · cases hg'
  · simp only [E, List.mem_cons, List.mem_nil_iff, or_false] at hp
    rcases hp with rfl
    exact intCell_of (cell_of_shapedOpen_int (t := 3) (zero := #[.int .i64 0]) hs (of_decide_eq_true (by kernel_rfl)) (by kernel_rfl) rfl (by kernel_rfl) (by kernel_rfl) (by kernel_rfl))
/-- A world for the witness. -/
noncomputable def laidWorld (os : Os) : World := World.doorLaid Tryd.prog 4000 os
theorem laid_met0 (os : Os) (args : Array Value) : laidMet Tryd.prog laidL ((laidWorld os).forCall (fun _ _ => 0) ⟨#[], args, []⟩).memory :=
  laidMet_of_run' 8 (by kernel_rfl) (by kernel_rfl)
theorem laid_met (os : Os) (args : Array Value) : laidMetH Tryd.prog laidL ((laidWorld os).forCall (fun _ _ => 0) ⟨#[], args, []⟩).memory := by
  rw [MakeChecks.laidMetH_plain _ _ _ (by kernel_rfl)]; exact laid_met0 os args
end Go.Proofs.YtniogljhkjbcgaaDoor
