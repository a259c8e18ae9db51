/-
  DERIVED. GIVEN WITH THE SEED: THE CARDS: each row of YtniogljhkjbcgaaDoorRows.lean that lists a variable, with what it lists TIED to the program's text (the seventh form; the later family's looks); each row that meets fmt, with fmt's text TOLD by the authors' own Lean function (tested against real Go, not proved from fmt's source: count such statements apart). THE CARD IS WHAT COUNTS. Prove the row's statement (the work); the ties are given (YtniogljhkjbcgaaDoorTie.lean); close each card by the builder's one call (the guide's Derived/Test/ToyasCard.lean, 'card_holds'). Laid BY PROGRAM, IN A SANDBOX (cutbox-door.mjs). By AI agents, Wed Nov 11 2026. No macro, syntax, notation, axiom, sorry.
-/
import Derived.Test.YtniogljhkjbcgaaDoorRows
import GoSem.ClaimSeven
namespace Go.Proofs.YtniogljhkjbcgaaDoor
namespace Rows

/-- THE TIED CARD OF 'perigeelaw15.TypesOf'. -/
def typesOfCard : Claim7 := { stood := { row := typesOfRow, standIns := [], harness := (true, "dd0bac17f08284c9e8bb90f5eb2e584b3c2e184b979943b8426ceb6eac15090a"), looks := true }, kinds := [], alts := [], laidByText := true, laidKinds := [.data, .data], laidTests := true, laidLooks := .later }
def TypesOfCardSaid : Prop := Claim7.holds Tryd.pinned (.plain (OpenSpec.ofChange typesOfSpec)) typesOfCard

/-- THE TIED CARD OF 'perigeelaw15.TypesWeakens'. -/
def typesWeakensCard : Claim7 := { stood := { row := typesWeakensRow, standIns := [], harness := (true, "dd0bac17f08284c9e8bb90f5eb2e584b3c2e184b979943b8426ceb6eac15090a"), looks := true }, kinds := [], alts := [], laidByText := true, laidKinds := [.data, .data], laidTests := true, laidLooks := .later }
def TypesWeakensCardSaid : Prop := Claim7.holds Tryd.pinned (.plain (OpenSpec.ofChange typesWeakensSpec)) typesWeakensCard

/-- THE TIED CARD OF 'perigeelaw15.TypesSubstitutes'. -/
def typesSubstitutesCard : Claim7 := { stood := { row := typesSubstitutesRow, standIns := [], harness := (true, "dd0bac17f08284c9e8bb90f5eb2e584b3c2e184b979943b8426ceb6eac15090a"), looks := true }, kinds := [], alts := [], laidByText := true, laidKinds := [.data, .data], laidTests := true, laidLooks := .later }
def TypesSubstitutesCardSaid : Prop := Claim7.holds Tryd.pinned (.plain (OpenSpec.ofChange typesSubstitutesSpec)) typesSubstitutesCard

/-- THE TIED CARD OF 'perigeelaw15.TypesRenames'. -/
def typesRenamesCard : Claim7 := { stood := { row := typesRenamesRow, standIns := [], harness := (true, "dd0bac17f08284c9e8bb90f5eb2e584b3c2e184b979943b8426ceb6eac15090a"), looks := true }, kinds := [], alts := [], laidByText := true, laidKinds := [.data, .data], laidTests := true, laidLooks := .later }
def TypesRenamesCardSaid : Prop := Claim7.holds Tryd.pinned (.plain (OpenSpec.ofChange typesRenamesSpec)) typesRenamesCard

/-- THE TIED CARD OF 'perigeelaw15.TypesPrefixes'. -/
def typesPrefixesCard : Claim7 := { stood := { row := typesPrefixesRow, standIns := [], harness := (true, "dd0bac17f08284c9e8bb90f5eb2e584b3c2e184b979943b8426ceb6eac15090a"), looks := true }, kinds := [], alts := [], laidByText := true, laidKinds := [.data, .data], laidTests := true, laidLooks := .later }
def TypesPrefixesCardSaid : Prop := Claim7.holds Tryd.pinned (.plain (OpenSpec.ofChange typesPrefixesSpec)) typesPrefixesCard

/-- THE TIED CARD OF 'perigeelaw15.TypesSound'. -/
def typesSoundCard : Claim7 := { stood := { row := typesSoundRow, standIns := [], harness := (true, "dd0bac17f08284c9e8bb90f5eb2e584b3c2e184b979943b8426ceb6eac15090a"), looks := true }, kinds := [], alts := [], laidByText := true, laidKinds := [.data, .data], laidTests := true, laidLooks := .later }
def TypesSoundCardSaid : Prop := Claim7.holds Tryd.pinned (.plain (OpenSpec.ofChange typesSoundSpec)) typesSoundCard

/-- THE SECOND FORM's CARD OF 'perigeelaw15.TypesOf'. -/
def typesOfUptoCard : Claim7 := { stood := { row := typesOfUptoRow, standIns := [], harness := (true, "dd0bac17f08284c9e8bb90f5eb2e584b3c2e184b979943b8426ceb6eac15090a"), looks := true }, kinds := [], alts := [], laidByText := true, laidKinds := [.data, .data], laidTests := true, laidLooks := .later }
def TypesOfUptoCardSaid : Prop := Claim7.holds Tryd.pinned (.plain (OpenSpec.upto typesOfSpec)) typesOfUptoCard

/-- THE SECOND FORM's CARD OF 'perigeelaw15.TypesWeakens'. -/
def typesWeakensUptoCard : Claim7 := { stood := { row := typesWeakensUptoRow, standIns := [], harness := (true, "dd0bac17f08284c9e8bb90f5eb2e584b3c2e184b979943b8426ceb6eac15090a"), looks := true }, kinds := [], alts := [], laidByText := true, laidKinds := [.data, .data], laidTests := true, laidLooks := .later }
def TypesWeakensUptoCardSaid : Prop := Claim7.holds Tryd.pinned (.plain (OpenSpec.upto typesWeakensSpec)) typesWeakensUptoCard

/-- THE SECOND FORM's CARD OF 'perigeelaw15.TypesSubstitutes'. -/
def typesSubstitutesUptoCard : Claim7 := { stood := { row := typesSubstitutesUptoRow, standIns := [], harness := (true, "dd0bac17f08284c9e8bb90f5eb2e584b3c2e184b979943b8426ceb6eac15090a"), looks := true }, kinds := [], alts := [], laidByText := true, laidKinds := [.data, .data], laidTests := true, laidLooks := .later }
def TypesSubstitutesUptoCardSaid : Prop := Claim7.holds Tryd.pinned (.plain (OpenSpec.upto typesSubstitutesSpec)) typesSubstitutesUptoCard

/-- THE SECOND FORM's CARD OF 'perigeelaw15.TypesRenames'. -/
def typesRenamesUptoCard : Claim7 := { stood := { row := typesRenamesUptoRow, standIns := [], harness := (true, "dd0bac17f08284c9e8bb90f5eb2e584b3c2e184b979943b8426ceb6eac15090a"), looks := true }, kinds := [], alts := [], laidByText := true, laidKinds := [.data, .data], laidTests := true, laidLooks := .later }
def TypesRenamesUptoCardSaid : Prop := Claim7.holds Tryd.pinned (.plain (OpenSpec.upto typesRenamesSpec)) typesRenamesUptoCard

/-- THE SECOND FORM's CARD OF 'perigeelaw15.TypesPrefixes'. -/
def typesPrefixesUptoCard : Claim7 := { stood := { row := typesPrefixesUptoRow, standIns := [], harness := (true, "dd0bac17f08284c9e8bb90f5eb2e584b3c2e184b979943b8426ceb6eac15090a"), looks := true }, kinds := [], alts := [], laidByText := true, laidKinds := [.data, .data], laidTests := true, laidLooks := .later }
def TypesPrefixesUptoCardSaid : Prop := Claim7.holds Tryd.pinned (.plain (OpenSpec.upto typesPrefixesSpec)) typesPrefixesUptoCard

/-- THE SECOND FORM's CARD OF 'perigeelaw15.TypesSound'. -/
def typesSoundUptoCard : Claim7 := { stood := { row := typesSoundUptoRow, standIns := [], harness := (true, "dd0bac17f08284c9e8bb90f5eb2e584b3c2e184b979943b8426ceb6eac15090a"), looks := true }, kinds := [], alts := [], laidByText := true, laidKinds := [.data, .data], laidTests := true, laidLooks := .later }
def TypesSoundUptoCardSaid : Prop := Claim7.holds Tryd.pinned (.plain (OpenSpec.upto typesSoundSpec)) typesSoundUptoCard
end Rows
end Go.Proofs.YtniogljhkjbcgaaDoor
