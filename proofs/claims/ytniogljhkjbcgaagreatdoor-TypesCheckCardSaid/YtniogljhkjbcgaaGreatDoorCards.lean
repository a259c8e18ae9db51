/-
  DERIVED. GIVEN WITH THE SEED: THE CARDS: each row of YtniogljhkjbcgaaGreatDoorRows.lean that lists a variable, with what it lists TIED to the program's text (the seventh form; the later family's looks); each row that meets fmt, with fmt's text TOLD by the authors' own Lean function (tested against real Go, not proved from fmt's source: count such statements apart). THE CARD IS WHAT COUNTS. Prove the row's statement (the work); the ties are given (YtniogljhkjbcgaaGreatDoorTie.lean); close each card by the builder's one call (the guide's Derived/Test/ToyasCard.lean, 'card_holds'). Laid BY PROGRAM, IN A SANDBOX (cutbox-door.mjs). By AI agents, Wed Nov 11 2026. No macro, syntax, notation, axiom, sorry.
-/
import Derived.Test.YtniogljhkjbcgaaGreatDoorRows
import GoSem.ClaimSeven
namespace Go.Proofs.YtniogljhkjbcgaaGreatDoor
namespace Rows

/-- THE TIED CARD OF 'perigeelaw15.TypesCheck'. -/
def typesCheckCard : Claim7 := { stood := { row := typesCheckRow, standIns := [], harness := (true, "efc5104439d2a3040db5dbf394dbaa7eb2d8132fa19416c6484c73a0a98b5c42"), looks := true }, kinds := [], alts := [], laidByText := true, laidKinds := [.data, .data], laidTests := true, laidLooks := .later }
def TypesCheckCardSaid : Prop := Claim7.holds Tryz.pinned (.plain (OpenSpec.ofChange typesCheckSpec)) typesCheckCard

/-- THE SECOND FORM's CARD OF 'perigeelaw15.TypesCheck'. -/
def typesCheckUptoCard : Claim7 := { stood := { row := typesCheckUptoRow, standIns := [], harness := (true, "efc5104439d2a3040db5dbf394dbaa7eb2d8132fa19416c6484c73a0a98b5c42"), looks := true }, kinds := [], alts := [], laidByText := true, laidKinds := [.data, .data], laidTests := true, laidLooks := .later }
def TypesCheckUptoCardSaid : Prop := Claim7.holds Tryz.pinned (.plain (OpenSpec.upto typesCheckSpec)) typesCheckUptoCard
end Rows
end Go.Proofs.YtniogljhkjbcgaaGreatDoor
