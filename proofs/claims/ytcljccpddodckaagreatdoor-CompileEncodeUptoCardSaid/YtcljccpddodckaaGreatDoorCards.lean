/-
  DERIVED. GIVEN WITH THE SEED: THE CARDS: each row of YtcljccpddodckaaGreatDoorRows.lean that lists a variable, with what it lists TIED to the program's text (the seventh form; the later family's looks); each row that meets fmt, with fmt's text TOLD by the authors' own Lean function (tested against real Go, not proved from fmt's source: count such statements apart). THE CARD IS WHAT COUNTS. Prove the row's statement (the work); the ties are given (YtcljccpddodckaaGreatDoorTie.lean); close each card by the builder's one call (the guide's Derived/Test/ToyasCard.lean, 'card_holds'). Laid BY PROGRAM, IN A SANDBOX (cutbox-door.mjs). By AI agents, Wed Nov 11 2026. No macro, syntax, notation, axiom, sorry.
-/
import Derived.Test.YtcljccpddodckaaGreatDoorRows
import GoSem.ClaimSeven
namespace Go.Proofs.YtcljccpddodckaaGreatDoor
namespace Rows

/-- THE TIED CARD OF 'perigeelaw16.CompileVerify'. -/
def compileVerifyCard : Claim7 := { stood := { row := compileVerifyRow, standIns := [], harness := (true, "82898d2a3ffde3c1261d2fc914a909cbe26034410048de235cd13c2c77ba0b1b"), looks := true }, kinds := [], alts := [], laidByText := true, laidKinds := [.data, .data], laidTests := true, laidLooks := .later }
def CompileVerifyCardSaid : Prop := Claim7.holds Tryz.pinned (.plain (OpenSpec.ofChange compileVerifySpec)) compileVerifyCard

/-- THE TIED CARD OF 'perigeelaw16.CompileForward'. -/
def compileForwardCard : Claim7 := { stood := { row := compileForwardRow, standIns := [], harness := (true, "82898d2a3ffde3c1261d2fc914a909cbe26034410048de235cd13c2c77ba0b1b"), looks := true }, kinds := [], alts := [], laidByText := true, laidKinds := [.data, .data], laidTests := true, laidLooks := .later }
def CompileForwardCardSaid : Prop := Claim7.holds Tryz.pinned (.plain (OpenSpec.ofChange compileForwardSpec)) compileForwardCard

/-- THE TIED CARD OF 'perigeelaw16.CompileEncode'. -/
def compileEncodeCard : Claim7 := { stood := { row := compileEncodeRow, standIns := [], harness := (true, "82898d2a3ffde3c1261d2fc914a909cbe26034410048de235cd13c2c77ba0b1b"), looks := true }, kinds := [], alts := [], laidByText := true, laidKinds := [.data, .data], laidTests := true, laidLooks := .later }
def CompileEncodeCardSaid : Prop := Claim7.holds Tryz.pinned (.plain (OpenSpec.ofChange compileEncodeSpec)) compileEncodeCard

/-- THE TIED CARD OF 'perigeelaw16.CompileDecode'. -/
def compileDecodeCard : Claim7 := { stood := { row := compileDecodeRow, standIns := [], harness := (true, "82898d2a3ffde3c1261d2fc914a909cbe26034410048de235cd13c2c77ba0b1b"), looks := true }, kinds := [], alts := [], laidByText := true, laidKinds := [.data, .data], laidTests := true, laidLooks := .later }
def CompileDecodeCardSaid : Prop := Claim7.holds Tryz.pinned (.plain (OpenSpec.ofChange compileDecodeSpec)) compileDecodeCard

/-- THE SECOND FORM's CARD OF 'perigeelaw16.CompileVerify'. -/
def compileVerifyUptoCard : Claim7 := { stood := { row := compileVerifyUptoRow, standIns := [], harness := (true, "82898d2a3ffde3c1261d2fc914a909cbe26034410048de235cd13c2c77ba0b1b"), looks := true }, kinds := [], alts := [], laidByText := true, laidKinds := [.data, .data], laidTests := true, laidLooks := .later }
def CompileVerifyUptoCardSaid : Prop := Claim7.holds Tryz.pinned (.plain (OpenSpec.upto compileVerifySpec)) compileVerifyUptoCard

/-- THE SECOND FORM's CARD OF 'perigeelaw16.CompileForward'. -/
def compileForwardUptoCard : Claim7 := { stood := { row := compileForwardUptoRow, standIns := [], harness := (true, "82898d2a3ffde3c1261d2fc914a909cbe26034410048de235cd13c2c77ba0b1b"), looks := true }, kinds := [], alts := [], laidByText := true, laidKinds := [.data, .data], laidTests := true, laidLooks := .later }
def CompileForwardUptoCardSaid : Prop := Claim7.holds Tryz.pinned (.plain (OpenSpec.upto compileForwardSpec)) compileForwardUptoCard

/-- THE SECOND FORM's CARD OF 'perigeelaw16.CompileEncode'. -/
def compileEncodeUptoCard : Claim7 := { stood := { row := compileEncodeUptoRow, standIns := [], harness := (true, "82898d2a3ffde3c1261d2fc914a909cbe26034410048de235cd13c2c77ba0b1b"), looks := true }, kinds := [], alts := [], laidByText := true, laidKinds := [.data, .data], laidTests := true, laidLooks := .later }
def CompileEncodeUptoCardSaid : Prop := Claim7.holds Tryz.pinned (.plain (OpenSpec.upto compileEncodeSpec)) compileEncodeUptoCard

/-- THE SECOND FORM's CARD OF 'perigeelaw16.CompileDecode'. -/
def compileDecodeUptoCard : Claim7 := { stood := { row := compileDecodeUptoRow, standIns := [], harness := (true, "82898d2a3ffde3c1261d2fc914a909cbe26034410048de235cd13c2c77ba0b1b"), looks := true }, kinds := [], alts := [], laidByText := true, laidKinds := [.data, .data], laidTests := true, laidLooks := .later }
def CompileDecodeUptoCardSaid : Prop := Claim7.holds Tryz.pinned (.plain (OpenSpec.upto compileDecodeSpec)) compileDecodeUptoCard
end Rows
end Go.Proofs.YtcljccpddodckaaGreatDoor
