/-
  DERIVED. GIVEN WITH THE SEED: THE CARDS: each row of YthkioinnobiieaaGreatDoorRows.lean that lists a variable, with what it lists TIED to the program's text (the seventh form; the later family's looks); each row that meets fmt, with fmt's text TOLD by the authors' own Lean function (tested against real Go, not proved from fmt's source: count such statements apart). THE CARD IS WHAT COUNTS. Prove the row's statement (the work); the ties are given (YthkioinnobiieaaGreatDoorTie.lean); close each card by the builder's one call (the guide's Derived/Test/ToyasCard.lean, 'card_holds'). Laid BY PROGRAM, IN A SANDBOX (cutbox-door.mjs). By AI agents, Wed Nov 11 2026. No macro, syntax, notation, axiom, sorry.
-/
import Derived.Test.YthkioinnobiieaaGreatDoorRows
import GoSem.ClaimSeven
namespace Go.Proofs.YthkioinnobiieaaGreatDoor
namespace Rows

/-- THE TIED CARD OF 'perigeelaw18.VmStarts'. -/
def vmStartsCard : Claim7 := { stood := { row := vmStartsRow, standIns := [], harness := (true, "e0bd9e649fb896e7eb369682408cc13b329c311fca01799d630751d09eac6d00"), looks := true }, kinds := [], alts := [], laidByText := true, laidKinds := [.data, .data], laidTests := true, laidLooks := .later }
def VmStartsCardSaid : Prop := Claim7.holds Tryz.pinned (.plain (OpenSpec.ofChange vmStartsSpec)) vmStartsCard

/-- THE TIED CARD OF 'perigeelaw18.VmPlays'. -/
def vmPlaysCard : Claim7 := { stood := { row := vmPlaysRow, standIns := [], harness := (true, "e0bd9e649fb896e7eb369682408cc13b329c311fca01799d630751d09eac6d00"), looks := true }, kinds := [], alts := [], laidByText := true, laidKinds := [.data, .data], laidTests := true, laidLooks := .later }
def VmPlaysCardSaid : Prop := Claim7.holds Tryz.pinned (.plain (OpenSpec.ofChange vmPlaysSpec)) vmPlaysCard

/-- THE TIED CARD OF 'perigeelaw18.VmInvariants'. -/
def vmInvariantsCard : Claim7 := { stood := { row := vmInvariantsRow, standIns := [], harness := (true, "e0bd9e649fb896e7eb369682408cc13b329c311fca01799d630751d09eac6d00"), looks := true }, kinds := [], alts := [], laidByText := true, laidKinds := [.data, .data], laidTests := true, laidLooks := .later }
def VmInvariantsCardSaid : Prop := Claim7.holds Tryz.pinned (.plain (OpenSpec.ofChange vmInvariantsSpec)) vmInvariantsCard

/-- THE TIED CARD OF 'perigeelaw18.VmBlind'. -/
def vmBlindCard : Claim7 := { stood := { row := vmBlindRow, standIns := [], harness := (true, "e0bd9e649fb896e7eb369682408cc13b329c311fca01799d630751d09eac6d00"), looks := true }, kinds := [], alts := [], laidByText := true, laidKinds := [.data, .data], laidTests := true, laidLooks := .later }
def VmBlindCardSaid : Prop := Claim7.holds Tryz.pinned (.plain (OpenSpec.ofChange vmBlindSpec)) vmBlindCard

/-- THE TIED CARD OF 'perigeelaw18.VmCost'. -/
def vmCostCard : Claim7 := { stood := { row := vmCostRow, standIns := [], harness := (true, "e0bd9e649fb896e7eb369682408cc13b329c311fca01799d630751d09eac6d00"), looks := true }, kinds := [], alts := [], laidByText := true, laidKinds := [.data, .data], laidTests := true, laidLooks := .later }
def VmCostCardSaid : Prop := Claim7.holds Tryz.pinned (.plain (OpenSpec.ofChange vmCostSpec)) vmCostCard

/-- THE SECOND FORM's CARD OF 'perigeelaw18.VmStarts'. -/
def vmStartsUptoCard : Claim7 := { stood := { row := vmStartsUptoRow, standIns := [], harness := (true, "e0bd9e649fb896e7eb369682408cc13b329c311fca01799d630751d09eac6d00"), looks := true }, kinds := [], alts := [], laidByText := true, laidKinds := [.data, .data], laidTests := true, laidLooks := .later }
def VmStartsUptoCardSaid : Prop := Claim7.holds Tryz.pinned (.plain (OpenSpec.upto vmStartsSpec)) vmStartsUptoCard

/-- THE SECOND FORM's CARD OF 'perigeelaw18.VmPlays'. -/
def vmPlaysUptoCard : Claim7 := { stood := { row := vmPlaysUptoRow, standIns := [], harness := (true, "e0bd9e649fb896e7eb369682408cc13b329c311fca01799d630751d09eac6d00"), looks := true }, kinds := [], alts := [], laidByText := true, laidKinds := [.data, .data], laidTests := true, laidLooks := .later }
def VmPlaysUptoCardSaid : Prop := Claim7.holds Tryz.pinned (.plain (OpenSpec.upto vmPlaysSpec)) vmPlaysUptoCard

/-- THE SECOND FORM's CARD OF 'perigeelaw18.VmInvariants'. -/
def vmInvariantsUptoCard : Claim7 := { stood := { row := vmInvariantsUptoRow, standIns := [], harness := (true, "e0bd9e649fb896e7eb369682408cc13b329c311fca01799d630751d09eac6d00"), looks := true }, kinds := [], alts := [], laidByText := true, laidKinds := [.data, .data], laidTests := true, laidLooks := .later }
def VmInvariantsUptoCardSaid : Prop := Claim7.holds Tryz.pinned (.plain (OpenSpec.upto vmInvariantsSpec)) vmInvariantsUptoCard

/-- THE SECOND FORM's CARD OF 'perigeelaw18.VmBlind'. -/
def vmBlindUptoCard : Claim7 := { stood := { row := vmBlindUptoRow, standIns := [], harness := (true, "e0bd9e649fb896e7eb369682408cc13b329c311fca01799d630751d09eac6d00"), looks := true }, kinds := [], alts := [], laidByText := true, laidKinds := [.data, .data], laidTests := true, laidLooks := .later }
def VmBlindUptoCardSaid : Prop := Claim7.holds Tryz.pinned (.plain (OpenSpec.upto vmBlindSpec)) vmBlindUptoCard

/-- THE SECOND FORM's CARD OF 'perigeelaw18.VmCost'. -/
def vmCostUptoCard : Claim7 := { stood := { row := vmCostUptoRow, standIns := [], harness := (true, "e0bd9e649fb896e7eb369682408cc13b329c311fca01799d630751d09eac6d00"), looks := true }, kinds := [], alts := [], laidByText := true, laidKinds := [.data, .data], laidTests := true, laidLooks := .later }
def VmCostUptoCardSaid : Prop := Claim7.holds Tryz.pinned (.plain (OpenSpec.upto vmCostSpec)) vmCostUptoCard
end Rows
end Go.Proofs.YthkioinnobiieaaGreatDoor
