/-
  DERIVED. GIVEN WITH THE SEED: THE CARDS: each row of YtjfkkokeegpeiaaDoorRows.lean that lists a variable, with what it lists TIED to the program's text (the seventh form; the later family's looks); each row that meets fmt, with fmt's text TOLD by the authors' own Lean function (tested against real Go, not proved from fmt's source: count such statements apart). THE CARD IS WHAT COUNTS. Prove the row's statement (the work); the ties are given (YtjfkkokeegpeiaaDoorTie.lean); close each card by the builder's one call (the guide's Derived/Test/ToyasCard.lean, 'card_holds'). Laid BY PROGRAM, IN A SANDBOX (cutbox-door.mjs). By AI agents, Wed Nov 11 2026. No macro, syntax, notation, axiom, sorry.
-/
import Derived.Test.YtjfkkokeegpeiaaDoorRows
import GoSem.ClaimSeven
namespace Go.Proofs.YtjfkkokeegpeiaaDoor
namespace Rows

/-- THE TIED CARD OF 'perigeelaw14.ParserRound'. -/
def parserRoundCard : Claim7 := { stood := { row := parserRoundRow, standIns := [], harness := (true, "4f973e0134fc763707ac8d7aaf0446f94a61b81bf5081c5e38fdd56ca39a243a"), looks := true }, kinds := [], alts := [], laidByText := true, laidKinds := [.data, .data, .data, .data], laidTests := true, laidLooks := .later }
def ParserRoundCardSaid : Prop := Claim7.holds Tryd.pinned (.plain (OpenSpec.ofChange parserRoundSpec)) parserRoundCard

/-- THE TIED CARD OF 'perigeelaw14.ParserSpaces'. -/
def parserSpacesCard : Claim7 := { stood := { row := parserSpacesRow, standIns := [], harness := (true, "4f973e0134fc763707ac8d7aaf0446f94a61b81bf5081c5e38fdd56ca39a243a"), looks := true }, kinds := [], alts := [], laidByText := true, laidKinds := [.data, .data, .data, .data], laidTests := true, laidLooks := .later }
def ParserSpacesCardSaid : Prop := Claim7.holds Tryd.pinned (.plain (OpenSpec.ofChange parserSpacesSpec)) parserSpacesCard

/-- THE TIED CARD OF 'perigeelaw14.ParserTail'. -/
def parserTailCard : Claim7 := { stood := { row := parserTailRow, standIns := [], harness := (true, "4f973e0134fc763707ac8d7aaf0446f94a61b81bf5081c5e38fdd56ca39a243a"), looks := true }, kinds := [], alts := [], laidByText := true, laidKinds := [.data, .data, .data, .data], laidTests := true, laidLooks := .later }
def ParserTailCardSaid : Prop := Claim7.holds Tryd.pinned (.plain (OpenSpec.ofChange parserTailSpec)) parserTailCard

/-- THE TIED CARD OF 'perigeelaw14.ParserConcat'. -/
def parserConcatCard : Claim7 := { stood := { row := parserConcatRow, standIns := [], harness := (true, "4f973e0134fc763707ac8d7aaf0446f94a61b81bf5081c5e38fdd56ca39a243a"), looks := true }, kinds := [], alts := [], laidByText := true, laidKinds := [.data, .data, .data, .data], laidTests := true, laidLooks := .later }
def ParserConcatCardSaid : Prop := Claim7.holds Tryd.pinned (.plain (OpenSpec.ofChange parserConcatSpec)) parserConcatCard

/-- THE TIED CARD OF 'perigeelaw14.ParserFollows'. -/
def parserFollowsCard : Claim7 := { stood := { row := parserFollowsRow, standIns := [], harness := (true, "4f973e0134fc763707ac8d7aaf0446f94a61b81bf5081c5e38fdd56ca39a243a"), looks := true }, kinds := [], alts := [], laidByText := true, laidKinds := [.data, .data, .data, .data], laidTests := true, laidLooks := .later }
def ParserFollowsCardSaid : Prop := Claim7.holds Tryd.pinned (.plain (OpenSpec.ofChange parserFollowsSpec)) parserFollowsCard

/-- THE SECOND FORM's CARD OF 'perigeelaw14.ParserRound'. -/
def parserRoundUptoCard : Claim7 := { stood := { row := parserRoundUptoRow, standIns := [], harness := (true, "4f973e0134fc763707ac8d7aaf0446f94a61b81bf5081c5e38fdd56ca39a243a"), looks := true }, kinds := [], alts := [], laidByText := true, laidKinds := [.data, .data, .data, .data], laidTests := true, laidLooks := .later }
def ParserRoundUptoCardSaid : Prop := Claim7.holds Tryd.pinned (.plain (OpenSpec.upto parserRoundSpec)) parserRoundUptoCard

/-- THE SECOND FORM's CARD OF 'perigeelaw14.ParserSpaces'. -/
def parserSpacesUptoCard : Claim7 := { stood := { row := parserSpacesUptoRow, standIns := [], harness := (true, "4f973e0134fc763707ac8d7aaf0446f94a61b81bf5081c5e38fdd56ca39a243a"), looks := true }, kinds := [], alts := [], laidByText := true, laidKinds := [.data, .data, .data, .data], laidTests := true, laidLooks := .later }
def ParserSpacesUptoCardSaid : Prop := Claim7.holds Tryd.pinned (.plain (OpenSpec.upto parserSpacesSpec)) parserSpacesUptoCard

/-- THE SECOND FORM's CARD OF 'perigeelaw14.ParserTail'. -/
def parserTailUptoCard : Claim7 := { stood := { row := parserTailUptoRow, standIns := [], harness := (true, "4f973e0134fc763707ac8d7aaf0446f94a61b81bf5081c5e38fdd56ca39a243a"), looks := true }, kinds := [], alts := [], laidByText := true, laidKinds := [.data, .data, .data, .data], laidTests := true, laidLooks := .later }
def ParserTailUptoCardSaid : Prop := Claim7.holds Tryd.pinned (.plain (OpenSpec.upto parserTailSpec)) parserTailUptoCard

/-- THE SECOND FORM's CARD OF 'perigeelaw14.ParserConcat'. -/
def parserConcatUptoCard : Claim7 := { stood := { row := parserConcatUptoRow, standIns := [], harness := (true, "4f973e0134fc763707ac8d7aaf0446f94a61b81bf5081c5e38fdd56ca39a243a"), looks := true }, kinds := [], alts := [], laidByText := true, laidKinds := [.data, .data, .data, .data], laidTests := true, laidLooks := .later }
def ParserConcatUptoCardSaid : Prop := Claim7.holds Tryd.pinned (.plain (OpenSpec.upto parserConcatSpec)) parserConcatUptoCard

/-- THE SECOND FORM's CARD OF 'perigeelaw14.ParserFollows'. -/
def parserFollowsUptoCard : Claim7 := { stood := { row := parserFollowsUptoRow, standIns := [], harness := (true, "4f973e0134fc763707ac8d7aaf0446f94a61b81bf5081c5e38fdd56ca39a243a"), looks := true }, kinds := [], alts := [], laidByText := true, laidKinds := [.data, .data, .data, .data], laidTests := true, laidLooks := .later }
def ParserFollowsUptoCardSaid : Prop := Claim7.holds Tryd.pinned (.plain (OpenSpec.upto parserFollowsSpec)) parserFollowsUptoCard
end Rows
end Go.Proofs.YtjfkkokeegpeiaaDoor
