/-
  DERIVED. GIVEN WITH THE SEED: THE CARDS: each row of YtbmbhcheonjigaaGreatDoorRows.lean that lists a variable, with what it lists TIED to the program's text (the seventh form; the later family's looks); each row that meets fmt, with fmt's text TOLD by the authors' own Lean function (tested against real Go, not proved from fmt's source: count such statements apart). THE CARD IS WHAT COUNTS. Prove the row's statement (the work); the ties are given (YtbmbhcheonjigaaGreatDoorTie.lean); close each card by the builder's one call (the guide's Derived/Test/ToyasCard.lean, 'card_holds'). Laid BY PROGRAM, IN A SANDBOX (cutbox-door.mjs). By AI agents, Wed Nov 11 2026. No macro, syntax, notation, axiom, sorry.
-/
import Derived.Test.YtbmbhcheonjigaaGreatDoorRows
import GoSem.ClaimSeven
namespace Go.Proofs.YtbmbhcheonjigaaGreatDoor
namespace Rows

/-- THE TIED CARD OF 'perigeelaw16.CompileBuild'. -/
def compileBuildCard : Claim7 := { stood := { row := compileBuildRow, standIns := [], harness := (true, "3e55b65aac54549ede80c8cb6ec7f05b3c378e9495011f2a3681a0762168adb0"), looks := true }, kinds := [], alts := [], laidByText := true, laidKinds := [.data, .data], laidTests := true, laidLooks := .later }
def CompileBuildCardSaid : Prop := Claim7.holds Tryz.pinned (.plain (OpenSpec.ofChange compileBuildSpec)) compileBuildCard

/-- THE TIED CARD OF 'perigeelaw16.CompileMeaning'. -/
def compileMeaningCard : Claim7 := { stood := { row := compileMeaningRow, standIns := [], harness := (true, "3e55b65aac54549ede80c8cb6ec7f05b3c378e9495011f2a3681a0762168adb0"), looks := true }, kinds := [], alts := [], laidByText := true, laidKinds := [.data, .data], laidTests := true, laidLooks := .later }
def CompileMeaningCardSaid : Prop := Claim7.holds Tryz.pinned (.plain (OpenSpec.ofChange compileMeaningSpec)) compileMeaningCard

/-- THE TIED CARD OF 'perigeelaw18.VmMeans'. -/
def vmMeansCard : Claim7 := { stood := { row := vmMeansRow, standIns := [], harness := (true, "3e55b65aac54549ede80c8cb6ec7f05b3c378e9495011f2a3681a0762168adb0"), looks := true }, kinds := [], alts := [], laidByText := true, laidKinds := [.data, .data], laidTests := true, laidLooks := .later }
def VmMeansCardSaid : Prop := Claim7.holds Tryz.pinned (.plain (OpenSpec.ofChange vmMeansSpec)) vmMeansCard

/-- THE TIED CARD OF 'perigeelaw17.CostBuilds'. -/
def costBuildsCard : Claim7 := { stood := { row := costBuildsRow, standIns := [], harness := (true, "3e55b65aac54549ede80c8cb6ec7f05b3c378e9495011f2a3681a0762168adb0"), looks := true }, kinds := [], alts := [], laidByText := true, laidKinds := [.data, .data], laidTests := true, laidLooks := .later }
def CostBuildsCardSaid : Prop := Claim7.holds Tryz.pinned (.plain (OpenSpec.ofChange costBuildsSpec)) costBuildsCard

/-- THE TIED CARD OF 'perigeelaw18.VmCost'. -/
def vmCostCard : Claim7 := { stood := { row := vmCostRow, standIns := [], harness := (true, "3e55b65aac54549ede80c8cb6ec7f05b3c378e9495011f2a3681a0762168adb0"), looks := true }, kinds := [], alts := [], laidByText := true, laidKinds := [.data, .data], laidTests := true, laidLooks := .later }
def VmCostCardSaid : Prop := Claim7.holds Tryz.pinned (.plain (OpenSpec.ofChange vmCostSpec)) vmCostCard

/-- THE TIED CARD OF 'perigeelaw16.CompileSources'. -/
def compileSourcesCard : Claim7 := { stood := { row := compileSourcesRow, standIns := [], harness := (true, "3e55b65aac54549ede80c8cb6ec7f05b3c378e9495011f2a3681a0762168adb0"), looks := true }, kinds := [], alts := [], laidByText := true, laidKinds := [.data, .data, .data, .data, .data], laidTests := true, laidLooks := .later }
def CompileSourcesCardSaid : Prop := Claim7.holds Tryz.pinned (.plain (OpenSpec.ofChange compileSourcesSpec)) compileSourcesCard

/-- THE TIED CARD OF 'perigeelaw18.VmPrinted'. -/
def vmPrintedCard : Claim7 := { stood := { row := vmPrintedRow, standIns := [], harness := (true, "3e55b65aac54549ede80c8cb6ec7f05b3c378e9495011f2a3681a0762168adb0"), looks := true }, kinds := [], alts := [], laidByText := true, laidKinds := [.data, .data, .data, .data, .data], laidTests := true, laidLooks := .later }
def VmPrintedCardSaid : Prop := Claim7.holds Tryz.pinned (.plain (OpenSpec.ofChange vmPrintedSpec)) vmPrintedCard

/-- THE SECOND FORM's CARD OF 'perigeelaw16.CompileBuild'. -/
def compileBuildUptoCard : Claim7 := { stood := { row := compileBuildUptoRow, standIns := [], harness := (true, "3e55b65aac54549ede80c8cb6ec7f05b3c378e9495011f2a3681a0762168adb0"), looks := true }, kinds := [], alts := [], laidByText := true, laidKinds := [.data, .data], laidTests := true, laidLooks := .later }
def CompileBuildUptoCardSaid : Prop := Claim7.holds Tryz.pinned (.plain (OpenSpec.upto compileBuildSpec)) compileBuildUptoCard

/-- THE SECOND FORM's CARD OF 'perigeelaw16.CompileMeaning'. -/
def compileMeaningUptoCard : Claim7 := { stood := { row := compileMeaningUptoRow, standIns := [], harness := (true, "3e55b65aac54549ede80c8cb6ec7f05b3c378e9495011f2a3681a0762168adb0"), looks := true }, kinds := [], alts := [], laidByText := true, laidKinds := [.data, .data], laidTests := true, laidLooks := .later }
def CompileMeaningUptoCardSaid : Prop := Claim7.holds Tryz.pinned (.plain (OpenSpec.upto compileMeaningSpec)) compileMeaningUptoCard

/-- THE SECOND FORM's CARD OF 'perigeelaw18.VmMeans'. -/
def vmMeansUptoCard : Claim7 := { stood := { row := vmMeansUptoRow, standIns := [], harness := (true, "3e55b65aac54549ede80c8cb6ec7f05b3c378e9495011f2a3681a0762168adb0"), looks := true }, kinds := [], alts := [], laidByText := true, laidKinds := [.data, .data], laidTests := true, laidLooks := .later }
def VmMeansUptoCardSaid : Prop := Claim7.holds Tryz.pinned (.plain (OpenSpec.upto vmMeansSpec)) vmMeansUptoCard

/-- THE SECOND FORM's CARD OF 'perigeelaw17.CostBuilds'. -/
def costBuildsUptoCard : Claim7 := { stood := { row := costBuildsUptoRow, standIns := [], harness := (true, "3e55b65aac54549ede80c8cb6ec7f05b3c378e9495011f2a3681a0762168adb0"), looks := true }, kinds := [], alts := [], laidByText := true, laidKinds := [.data, .data], laidTests := true, laidLooks := .later }
def CostBuildsUptoCardSaid : Prop := Claim7.holds Tryz.pinned (.plain (OpenSpec.upto costBuildsSpec)) costBuildsUptoCard

/-- THE SECOND FORM's CARD OF 'perigeelaw18.VmCost'. -/
def vmCostUptoCard : Claim7 := { stood := { row := vmCostUptoRow, standIns := [], harness := (true, "3e55b65aac54549ede80c8cb6ec7f05b3c378e9495011f2a3681a0762168adb0"), looks := true }, kinds := [], alts := [], laidByText := true, laidKinds := [.data, .data], laidTests := true, laidLooks := .later }
def VmCostUptoCardSaid : Prop := Claim7.holds Tryz.pinned (.plain (OpenSpec.upto vmCostSpec)) vmCostUptoCard

/-- THE SECOND FORM's CARD OF 'perigeelaw16.CompileSources'. -/
def compileSourcesUptoCard : Claim7 := { stood := { row := compileSourcesUptoRow, standIns := [], harness := (true, "3e55b65aac54549ede80c8cb6ec7f05b3c378e9495011f2a3681a0762168adb0"), looks := true }, kinds := [], alts := [], laidByText := true, laidKinds := [.data, .data, .data, .data, .data], laidTests := true, laidLooks := .later }
def CompileSourcesUptoCardSaid : Prop := Claim7.holds Tryz.pinned (.plain (OpenSpec.upto compileSourcesSpec)) compileSourcesUptoCard

/-- THE SECOND FORM's CARD OF 'perigeelaw18.VmPrinted'. -/
def vmPrintedUptoCard : Claim7 := { stood := { row := vmPrintedUptoRow, standIns := [], harness := (true, "3e55b65aac54549ede80c8cb6ec7f05b3c378e9495011f2a3681a0762168adb0"), looks := true }, kinds := [], alts := [], laidByText := true, laidKinds := [.data, .data, .data, .data, .data], laidTests := true, laidLooks := .later }
def VmPrintedUptoCardSaid : Prop := Claim7.holds Tryz.pinned (.plain (OpenSpec.upto vmPrintedSpec)) vmPrintedUptoCard
end Rows
end Go.Proofs.YtbmbhcheonjigaaGreatDoor
