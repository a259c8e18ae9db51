/-
  DERIVED. GIVEN WITH THE SEED: THE CARDS: each row of YtjfkkokeegpeiaaGreatDoorRows.lean that lists a variable, with what it lists TIED to the program's text (the seventh form; the later family's looks); each row that meets fmt, with fmt's text TOLD by the authors' own Lean function (tested against real Go, not proved from fmt's source: count such statements apart). THE CARD IS WHAT COUNTS. Prove the row's statement (the work); the ties are given (YtjfkkokeegpeiaaGreatDoorTie.lean); close each card by the builder's one call (the guide's Derived/Test/ToyasCard.lean, 'card_holds'). Laid BY PROGRAM, IN A SANDBOX (cutbox-door.mjs). By AI agents, Wed Nov 11 2026. No macro, syntax, notation, axiom, sorry.
-/
import Derived.Test.YtjfkkokeegpeiaaGreatDoorRows
import GoSem.ClaimSeven
namespace Go.Proofs.YtjfkkokeegpeiaaGreatDoor
namespace Rows

/-- THE TIED CARD OF 'perigeelaw14.ParserParses'. -/
def parserParsesCard : Claim7 := { stood := { row := parserParsesRow, standIns := [], harness := (true, "e3c43a69350669aa750727af48cde65fe0683f2c9d1fea1ee603942cbe62e354"), looks := true }, kinds := [], alts := [], laidByText := true, laidKinds := [.data, .data, .data, .data], laidTests := true, laidLooks := .later }
def ParserParsesCardSaid : Prop := Claim7.holds Tryz.pinned (.plain (OpenSpec.ofChange parserParsesSpec)) parserParsesCard

/-- THE TIED CARD OF 'perigeelaw14.ParserPrints'. -/
def parserPrintsCard : Claim7 := { stood := { row := parserPrintsRow, standIns := [], harness := (true, "e3c43a69350669aa750727af48cde65fe0683f2c9d1fea1ee603942cbe62e354"), looks := true }, kinds := [], alts := [], laidByText := true, laidKinds := [.data, .data, .data, .data], laidTests := true, laidLooks := .later }
def ParserPrintsCardSaid : Prop := Claim7.holds Tryz.pinned (.plain (OpenSpec.ofChange parserPrintsSpec)) parserPrintsCard

/-- THE TIED CARD OF 'perigeelaw14.ParserExpr'. -/
def parserExprCard : Claim7 := { stood := { row := parserExprRow, standIns := [], harness := (true, "e3c43a69350669aa750727af48cde65fe0683f2c9d1fea1ee603942cbe62e354"), looks := true }, kinds := [], alts := [], laidByText := true, laidKinds := [.data, .data, .data, .data], laidTests := true, laidLooks := .later }
def ParserExprCardSaid : Prop := Claim7.holds Tryz.pinned (.plain (OpenSpec.ofChange parserExprSpec)) parserExprCard

/-- THE TIED CARD OF 'perigeelaw14.ParserBuilds'. -/
def parserBuildsCard : Claim7 := { stood := { row := parserBuildsRow, standIns := [], harness := (true, "e3c43a69350669aa750727af48cde65fe0683f2c9d1fea1ee603942cbe62e354"), looks := true }, kinds := [], alts := [], laidByText := true, laidKinds := [.data, .data, .data, .data], laidTests := true, laidLooks := .later }
def ParserBuildsCardSaid : Prop := Claim7.holds Tryz.pinned (.plain (OpenSpec.ofChange parserBuildsSpec)) parserBuildsCard

/-- THE TIED CARD OF 'perigeelaw14.ParserParens'. -/
def parserParensCard : Claim7 := { stood := { row := parserParensRow, standIns := [], harness := (true, "e3c43a69350669aa750727af48cde65fe0683f2c9d1fea1ee603942cbe62e354"), looks := true }, kinds := [], alts := [], laidByText := true, laidKinds := [.data, .data, .data, .data], laidTests := true, laidLooks := .later }
def ParserParensCardSaid : Prop := Claim7.holds Tryz.pinned (.plain (OpenSpec.ofChange parserParensSpec)) parserParensCard

/-- THE SECOND FORM's CARD OF 'perigeelaw14.ParserParses'. -/
def parserParsesUptoCard : Claim7 := { stood := { row := parserParsesUptoRow, standIns := [], harness := (true, "e3c43a69350669aa750727af48cde65fe0683f2c9d1fea1ee603942cbe62e354"), looks := true }, kinds := [], alts := [], laidByText := true, laidKinds := [.data, .data, .data, .data], laidTests := true, laidLooks := .later }
def ParserParsesUptoCardSaid : Prop := Claim7.holds Tryz.pinned (.plain (OpenSpec.upto parserParsesSpec)) parserParsesUptoCard

/-- THE SECOND FORM's CARD OF 'perigeelaw14.ParserPrints'. -/
def parserPrintsUptoCard : Claim7 := { stood := { row := parserPrintsUptoRow, standIns := [], harness := (true, "e3c43a69350669aa750727af48cde65fe0683f2c9d1fea1ee603942cbe62e354"), looks := true }, kinds := [], alts := [], laidByText := true, laidKinds := [.data, .data, .data, .data], laidTests := true, laidLooks := .later }
def ParserPrintsUptoCardSaid : Prop := Claim7.holds Tryz.pinned (.plain (OpenSpec.upto parserPrintsSpec)) parserPrintsUptoCard

/-- THE SECOND FORM's CARD OF 'perigeelaw14.ParserExpr'. -/
def parserExprUptoCard : Claim7 := { stood := { row := parserExprUptoRow, standIns := [], harness := (true, "e3c43a69350669aa750727af48cde65fe0683f2c9d1fea1ee603942cbe62e354"), looks := true }, kinds := [], alts := [], laidByText := true, laidKinds := [.data, .data, .data, .data], laidTests := true, laidLooks := .later }
def ParserExprUptoCardSaid : Prop := Claim7.holds Tryz.pinned (.plain (OpenSpec.upto parserExprSpec)) parserExprUptoCard

/-- THE SECOND FORM's CARD OF 'perigeelaw14.ParserBuilds'. -/
def parserBuildsUptoCard : Claim7 := { stood := { row := parserBuildsUptoRow, standIns := [], harness := (true, "e3c43a69350669aa750727af48cde65fe0683f2c9d1fea1ee603942cbe62e354"), looks := true }, kinds := [], alts := [], laidByText := true, laidKinds := [.data, .data, .data, .data], laidTests := true, laidLooks := .later }
def ParserBuildsUptoCardSaid : Prop := Claim7.holds Tryz.pinned (.plain (OpenSpec.upto parserBuildsSpec)) parserBuildsUptoCard

/-- THE SECOND FORM's CARD OF 'perigeelaw14.ParserParens'. -/
def parserParensUptoCard : Claim7 := { stood := { row := parserParensUptoRow, standIns := [], harness := (true, "e3c43a69350669aa750727af48cde65fe0683f2c9d1fea1ee603942cbe62e354"), looks := true }, kinds := [], alts := [], laidByText := true, laidKinds := [.data, .data, .data, .data], laidTests := true, laidLooks := .later }
def ParserParensUptoCardSaid : Prop := Claim7.holds Tryz.pinned (.plain (OpenSpec.upto parserParensSpec)) parserParensUptoCard
end Rows
end Go.Proofs.YtjfkkokeegpeiaaGreatDoor
