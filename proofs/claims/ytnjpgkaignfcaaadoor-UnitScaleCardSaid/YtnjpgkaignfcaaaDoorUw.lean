/- What the rows list of the packages' variables; a world that holds it. -/
import Derived.Test.YtnjpgkaignfcaaaDoorUx
import Derived.Test.YtnjpgkaignfcaaaDoorCards
import Derived.Test.YtnjpgkaignfcaaaDoorTie
import Derived.Deep.DeepHandedRow
import Derived.Deep.DeepWitnessRowRef
import Derived.LaidMore
namespace Go.Proofs.YtnjpgkaignfcaaaDoor
open Go Go.Am Go.RowKit
theorem denL_scs {β : Bt} {S D : Pr} {w : World} : ∀ {l : List Value} {us : List Value}, denL β S w D (l.map V.sc) us → us = l
  | [], us, h => by simpa [denL] using h
  | v :: l, us, h => by
    simp only [List.map_cons, denL, den] at h
    obtain ⟨x, xs, rfl, rfl, h⟩ := h
    rw [denL_scs h]
abbrev laidL : List (String × DataW Unit) := Rows.unitLookupRow.laid
theorem laidPlain {W : World} (h : laidMetH Tryd.prog laidL W) : laidMet Tryd.prog laidL W := by
  rw [MakeChecks.laidMetH_plain _ _ _ (by kernel_rfl)] at h; exact h
theorem globAt0 : GlobAt Tryd.prog laidL 0 [tabV] := ⟨"perigee/unit.table", Rows.laid_perigee_unit_table, 46, 8, by simp [laidL, Rows.unitLookupRow], by kernel_rfl, by kernel_rfl, of_decide_eq_true (by kernel_rfl), by kernel_rfl, by simp⟩
theorem glob_of {W : World} (h : laidMetH Tryd.prog laidL W) (hs : W.ShapedOpen Tryd.prog) : Glob E (· < W.heap.size) W := by
  have hl := laidPlain h
  refine Glob.of_laid (laid := laidL) packed hl (fun g cs hg => ?_) (fun p hp => ?_)
  · have hg' : globF g = some cs := hg
    unfold globF at hg'
    split at hg'
    · cases hg'; exact globAt0
    · cases hg'
  · simp only [E, List.mem_cons, List.mem_nil_iff, or_false] at hp
    rcases hp with rfl | rfl
    · exact intCell_of (cell_of_shapedOpen_int (t := 3) (zero := #[.int .i64 0]) hs (of_decide_eq_true (by kernel_rfl)) (by kernel_rfl) rfl (by kernel_rfl) (by kernel_rfl) (by kernel_rfl))
    · obtain ⟨ps, hv, _⟩ := hl
      obtain ⟨g, t, cs, fuel, q, k1, k2, k3, k4⟩ := laidVars_mem hv "internal/strconv.uint64pow10" Rows.laid_internal_strconv_uint64pow10 (by simp [laidL, Rows.unitLookupRow])
      obtain rfl := Option.some.inj (g2.symm.trans k1)
      obtain rfl := Option.some.inj ((show (Tryd.prog.globals[2]?).map (·.type) = some 113 by kernel_rfl).symm.trans k2)
      have gd := cells_of_datum packed fuel 8 113 cs.toList _ q ((Lib.pow10Tab.map fun z => Value.int .u64 z).map V.sc) (of_decide_eq_true (by kernel_rfl)) k4 (by kernel_rfl)
      have hcs := denL_scs gd.den
      have : cs = (Lib.pow10Tab.map fun z => Value.int .u64 z).toArray := by rw [← hcs]
      rw [← this]
      exact allCells_of g2 k3
/-- A world for the witness. -/
noncomputable def laidWorld (os : Os) : World :=
  { World.doorLaid Tryd.prog 4000 os with heap := (World.doorLaid Tryd.prog 4000 os).heap.modify 3 fun
      | .cells _ t frozen => .cells (Pinned.utf8FirstZ.map fun (n : Nat) => Value.int .u8 (n : Int)).toArray t frozen
      | o => o }
theorem laid_met0 (os : Os) (args : Array Value) : laidMet Tryd.prog laidL ((laidWorld os).forCall (fun _ _ => 0) ⟨#[], args, []⟩).memory :=
  laidMet_of_run' 8 (by kernel_rfl) (by kernel_rfl)
theorem laid_met (os : Os) (args : Array Value) : laidMetH Tryd.prog laidL ((laidWorld os).forCall (fun _ _ => 0) ⟨#[], args, []⟩).memory := by
  rw [MakeChecks.laidMetH_plain _ _ _ (by kernel_rfl)]; exact laid_met0 os args
end Go.Proofs.YtnjpgkaignfcaaaDoor
