/-
  DERIVED. GIVEN WITH THE SEED: THE CARDS: each row of YtcijknknahbbnaaGreatDoorRows.lean that lists a variable, with what it lists TIED to the program's text (the seventh form; the later family's looks); each row that meets fmt, with fmt's text TOLD by the authors' own Lean function (tested against real Go, not proved from fmt's source: count such statements apart). THE CARD IS WHAT COUNTS. Prove the row's statement (the work); the ties are given (YtcijknknahbbnaaGreatDoorTie.lean); close each card by the builder's one call (the guide's Derived/Test/ToyasCard.lean, 'card_holds'). Laid BY PROGRAM, IN A SANDBOX (cutbox-door.mjs). By AI agents, Wed Nov 11 2026. No macro, syntax, notation, axiom, sorry.
-/
import Derived.Test.YtcijknknahbbnaaGreatDoorRows
import GoSem.ClaimSeven
namespace Go.Proofs.YtcijknknahbbnaaGreatDoor
namespace Rows

/-- THE TIED CARD OF 'perigeelaw18.VmFuel'. -/
def vmFuelCard : Claim7 := { stood := { row := vmFuelRow, standIns := [], harness := (true, "98263b7b3d797884b8a82c5162748bdc1fa6a3495e0327389bc7dcef047ace19"), looks := true }, kinds := [], alts := [], laidByText := true, laidKinds := [.data, .data], laidTests := true, laidLooks := .later }
def VmFuelCardSaid : Prop := Claim7.holds Tryz.pinned (.plain (OpenSpec.ofChange vmFuelSpec)) vmFuelCard

/-- THE SECOND FORM's CARD OF 'perigeelaw18.VmFuel'. -/
def vmFuelUptoCard : Claim7 := { stood := { row := vmFuelUptoRow, standIns := [], harness := (true, "98263b7b3d797884b8a82c5162748bdc1fa6a3495e0327389bc7dcef047ace19"), looks := true }, kinds := [], alts := [], laidByText := true, laidKinds := [.data, .data], laidTests := true, laidLooks := .later }
def VmFuelUptoCardSaid : Prop := Claim7.holds Tryz.pinned (.plain (OpenSpec.upto vmFuelSpec)) vmFuelUptoCard
end Rows
end Go.Proofs.YtcijknknahbbnaaGreatDoor
