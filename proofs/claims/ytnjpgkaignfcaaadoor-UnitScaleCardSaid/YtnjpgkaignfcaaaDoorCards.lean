/-
  DERIVED. GIVEN WITH THE SEED: THE CARDS: each row of YtnjpgkaignfcaaaDoorRows.lean that lists a variable, with what it lists TIED to the program's text (the seventh form; the later family's looks); each row that meets fmt, with fmt's text TOLD by the authors' own Lean function (tested against real Go, not proved from fmt's source: count such statements apart). THE CARD IS WHAT COUNTS. Prove the row's statement (the work); the ties are given (YtnjpgkaignfcaaaDoorTie.lean); close each card by the builder's one call (the guide's Derived/Test/ToyasCard.lean, 'card_holds'). Laid BY PROGRAM, IN A SANDBOX (cutbox-door.mjs). By AI agents, Wed Nov 11 2026. No macro, syntax, notation, axiom, sorry.
-/
import Derived.Test.YtnjpgkaignfcaaaDoorRows
import GoSem.ClaimSeven
namespace Go.Proofs.YtnjpgkaignfcaaaDoor
namespace Rows

/-- THE TIED CARD OF 'perigeelaw04.UnitLookup'. -/
def unitLookupCard : Claim7 := { stood := { row := unitLookupRow, standIns := [], harness := (true, "e8072a37882d669127d0b9b9a4088d42efa19fbe6e58079551dbd0b66671b8ee"), looks := false }, kinds := [], alts := [], laidByText := true, laidKinds := [.data, .data, .data, .data, .data, .pinned], laidTests := true, laidLooks := .later }
def UnitLookupCardSaid : Prop := Claim7.holds Tryd.pinned (.plain (OpenSpec.ofChange unitLookupSpec)) unitLookupCard

/-- THE TIED CARD OF 'perigeelaw04.UnitName'. -/
def unitNameCard : Claim7 := { stood := { row := unitNameRow, standIns := [], harness := (true, "e8072a37882d669127d0b9b9a4088d42efa19fbe6e58079551dbd0b66671b8ee"), looks := false }, kinds := [], alts := [], laidByText := true, laidKinds := [.data, .data, .data, .data, .data, .pinned], laidTests := true, laidLooks := .later }
def UnitNameCardSaid : Prop := Claim7.holds Tryd.pinned (.plain (OpenSpec.ofChange unitNameSpec)) unitNameCard

/-- THE TIED CARD OF 'perigeelaw04.UnitParse'. -/
def unitParseCard : Claim7 := { stood := { row := unitParseRow, standIns := [], harness := (true, "e8072a37882d669127d0b9b9a4088d42efa19fbe6e58079551dbd0b66671b8ee"), looks := false }, kinds := [], alts := [], laidByText := true, laidKinds := [.data, .data, .data, .data, .data, .pinned], laidTests := true, laidLooks := .later }
def UnitParseCardSaid : Prop := Claim7.holds Tryd.pinned (.plain (OpenSpec.ofChange unitParseSpec)) unitParseCard

/-- THE TIED CARD OF 'perigeelaw04.UnitRoundTrip'. -/
def unitRoundTripCard : Claim7 := { stood := { row := unitRoundTripRow, standIns := [], harness := (true, "e8072a37882d669127d0b9b9a4088d42efa19fbe6e58079551dbd0b66671b8ee"), looks := false }, kinds := [], alts := [], laidByText := true, laidKinds := [.data, .data, .data, .data, .data, .pinned], laidTests := true, laidLooks := .later }
def UnitRoundTripCardSaid : Prop := Claim7.holds Tryd.pinned (.plain (OpenSpec.ofChange unitRoundTripSpec)) unitRoundTripCard

/-- THE TIED CARD OF 'perigeelaw04.UnitQuotient'. -/
def unitQuotientCard : Claim7 := { stood := { row := unitQuotientRow, standIns := [], harness := (true, "e8072a37882d669127d0b9b9a4088d42efa19fbe6e58079551dbd0b66671b8ee"), looks := false }, kinds := [], alts := [], laidByText := true, laidKinds := [.data, .data, .data, .data, .data, .pinned], laidTests := true, laidLooks := .later }
def UnitQuotientCardSaid : Prop := Claim7.holds Tryd.pinned (.plain (OpenSpec.ofChange unitQuotientSpec)) unitQuotientCard

/-- THE TIED CARD OF 'perigeelaw04.UnitScale'. -/
def unitScaleCard : Claim7 := { stood := { row := unitScaleRow, standIns := [], harness := (true, "e8072a37882d669127d0b9b9a4088d42efa19fbe6e58079551dbd0b66671b8ee"), looks := false }, kinds := [], alts := [], laidByText := true, laidKinds := [.data, .data, .data, .data, .data, .pinned], laidTests := true, laidLooks := .later }
def UnitScaleCardSaid : Prop := Claim7.holds Tryd.pinned (.plain (OpenSpec.ofChange unitScaleSpec)) unitScaleCard

/-- THE TIED CARD OF 'perigeelaw04.UnitDims'. -/
def unitDimsCard : Claim7 := { stood := { row := unitDimsRow, standIns := [], harness := (true, "e8072a37882d669127d0b9b9a4088d42efa19fbe6e58079551dbd0b66671b8ee"), looks := false }, kinds := [], alts := [], laidByText := true, laidKinds := [.data, .data, .data, .data, .data, .pinned], laidTests := true, laidLooks := .later }
def UnitDimsCardSaid : Prop := Claim7.holds Tryd.pinned (.plain (OpenSpec.ofChange unitDimsSpec)) unitDimsCard

/-- THE TIED CARD OF 'perigeelaw04.UnitProduct'. -/
def unitProductCard : Claim7 := { stood := { row := unitProductRow, standIns := [], harness := (true, "e8072a37882d669127d0b9b9a4088d42efa19fbe6e58079551dbd0b66671b8ee"), looks := false }, kinds := [], alts := [], laidByText := true, laidKinds := [.data, .data, .data, .data, .data, .pinned], laidTests := true, laidLooks := .later }
def UnitProductCardSaid : Prop := Claim7.holds Tryd.pinned (.plain (OpenSpec.ofChange unitProductSpec)) unitProductCard

/-- THE TIED CARD OF 'perigeelaw04.UnitSum'. -/
def unitSumCard : Claim7 := { stood := { row := unitSumRow, standIns := [], harness := (true, "e8072a37882d669127d0b9b9a4088d42efa19fbe6e58079551dbd0b66671b8ee"), looks := false }, kinds := [], alts := [], laidByText := true, laidKinds := [.data, .data, .data, .data, .data, .pinned], laidTests := true, laidLooks := .later }
def UnitSumCardSaid : Prop := Claim7.holds Tryd.pinned (.plain (OpenSpec.ofChange unitSumSpec)) unitSumCard

/-- THE TIED CARD OF 'perigeelaw04.UnitCancel'. -/
def unitCancelCard : Claim7 := { stood := { row := unitCancelRow, standIns := [], harness := (true, "e8072a37882d669127d0b9b9a4088d42efa19fbe6e58079551dbd0b66671b8ee"), looks := false }, kinds := [], alts := [], laidByText := true, laidKinds := [.data, .data, .data, .data, .data, .pinned], laidTests := true, laidLooks := .later }
def UnitCancelCardSaid : Prop := Claim7.holds Tryd.pinned (.plain (OpenSpec.ofChange unitCancelSpec)) unitCancelCard

/-- THE TIED CARD OF 'perigeelaw04.UnitCompare'. -/
def unitCompareCard : Claim7 := { stood := { row := unitCompareRow, standIns := [], harness := (true, "e8072a37882d669127d0b9b9a4088d42efa19fbe6e58079551dbd0b66671b8ee"), looks := false }, kinds := [], alts := [], laidByText := true, laidKinds := [.data, .data, .data, .data, .data, .pinned], laidTests := true, laidLooks := .later }
def UnitCompareCardSaid : Prop := Claim7.holds Tryd.pinned (.plain (OpenSpec.ofChange unitCompareSpec)) unitCompareCard

/-- THE SECOND FORM's CARD OF 'perigeelaw04.UnitLookup'. -/
def unitLookupUptoCard : Claim7 := { stood := { row := unitLookupUptoRow, standIns := [], harness := (true, "e8072a37882d669127d0b9b9a4088d42efa19fbe6e58079551dbd0b66671b8ee"), looks := false }, kinds := [], alts := [], laidByText := true, laidKinds := [.data, .data, .data, .data, .data, .pinned], laidTests := true, laidLooks := .later }
def UnitLookupUptoCardSaid : Prop := Claim7.holds Tryd.pinned (.plain (OpenSpec.upto unitLookupSpec)) unitLookupUptoCard

/-- THE SECOND FORM's CARD OF 'perigeelaw04.UnitName'. -/
def unitNameUptoCard : Claim7 := { stood := { row := unitNameUptoRow, standIns := [], harness := (true, "e8072a37882d669127d0b9b9a4088d42efa19fbe6e58079551dbd0b66671b8ee"), looks := false }, kinds := [], alts := [], laidByText := true, laidKinds := [.data, .data, .data, .data, .data, .pinned], laidTests := true, laidLooks := .later }
def UnitNameUptoCardSaid : Prop := Claim7.holds Tryd.pinned (.plain (OpenSpec.upto unitNameSpec)) unitNameUptoCard

/-- THE SECOND FORM's CARD OF 'perigeelaw04.UnitParse'. -/
def unitParseUptoCard : Claim7 := { stood := { row := unitParseUptoRow, standIns := [], harness := (true, "e8072a37882d669127d0b9b9a4088d42efa19fbe6e58079551dbd0b66671b8ee"), looks := false }, kinds := [], alts := [], laidByText := true, laidKinds := [.data, .data, .data, .data, .data, .pinned], laidTests := true, laidLooks := .later }
def UnitParseUptoCardSaid : Prop := Claim7.holds Tryd.pinned (.plain (OpenSpec.upto unitParseSpec)) unitParseUptoCard

/-- THE SECOND FORM's CARD OF 'perigeelaw04.UnitRoundTrip'. -/
def unitRoundTripUptoCard : Claim7 := { stood := { row := unitRoundTripUptoRow, standIns := [], harness := (true, "e8072a37882d669127d0b9b9a4088d42efa19fbe6e58079551dbd0b66671b8ee"), looks := false }, kinds := [], alts := [], laidByText := true, laidKinds := [.data, .data, .data, .data, .data, .pinned], laidTests := true, laidLooks := .later }
def UnitRoundTripUptoCardSaid : Prop := Claim7.holds Tryd.pinned (.plain (OpenSpec.upto unitRoundTripSpec)) unitRoundTripUptoCard

/-- THE SECOND FORM's CARD OF 'perigeelaw04.UnitQuotient'. -/
def unitQuotientUptoCard : Claim7 := { stood := { row := unitQuotientUptoRow, standIns := [], harness := (true, "e8072a37882d669127d0b9b9a4088d42efa19fbe6e58079551dbd0b66671b8ee"), looks := false }, kinds := [], alts := [], laidByText := true, laidKinds := [.data, .data, .data, .data, .data, .pinned], laidTests := true, laidLooks := .later }
def UnitQuotientUptoCardSaid : Prop := Claim7.holds Tryd.pinned (.plain (OpenSpec.upto unitQuotientSpec)) unitQuotientUptoCard

/-- THE SECOND FORM's CARD OF 'perigeelaw04.UnitScale'. -/
def unitScaleUptoCard : Claim7 := { stood := { row := unitScaleUptoRow, standIns := [], harness := (true, "e8072a37882d669127d0b9b9a4088d42efa19fbe6e58079551dbd0b66671b8ee"), looks := false }, kinds := [], alts := [], laidByText := true, laidKinds := [.data, .data, .data, .data, .data, .pinned], laidTests := true, laidLooks := .later }
def UnitScaleUptoCardSaid : Prop := Claim7.holds Tryd.pinned (.plain (OpenSpec.upto unitScaleSpec)) unitScaleUptoCard

/-- THE SECOND FORM's CARD OF 'perigeelaw04.UnitDims'. -/
def unitDimsUptoCard : Claim7 := { stood := { row := unitDimsUptoRow, standIns := [], harness := (true, "e8072a37882d669127d0b9b9a4088d42efa19fbe6e58079551dbd0b66671b8ee"), looks := false }, kinds := [], alts := [], laidByText := true, laidKinds := [.data, .data, .data, .data, .data, .pinned], laidTests := true, laidLooks := .later }
def UnitDimsUptoCardSaid : Prop := Claim7.holds Tryd.pinned (.plain (OpenSpec.upto unitDimsSpec)) unitDimsUptoCard

/-- THE SECOND FORM's CARD OF 'perigeelaw04.UnitProduct'. -/
def unitProductUptoCard : Claim7 := { stood := { row := unitProductUptoRow, standIns := [], harness := (true, "e8072a37882d669127d0b9b9a4088d42efa19fbe6e58079551dbd0b66671b8ee"), looks := false }, kinds := [], alts := [], laidByText := true, laidKinds := [.data, .data, .data, .data, .data, .pinned], laidTests := true, laidLooks := .later }
def UnitProductUptoCardSaid : Prop := Claim7.holds Tryd.pinned (.plain (OpenSpec.upto unitProductSpec)) unitProductUptoCard

/-- THE SECOND FORM's CARD OF 'perigeelaw04.UnitSum'. -/
def unitSumUptoCard : Claim7 := { stood := { row := unitSumUptoRow, standIns := [], harness := (true, "e8072a37882d669127d0b9b9a4088d42efa19fbe6e58079551dbd0b66671b8ee"), looks := false }, kinds := [], alts := [], laidByText := true, laidKinds := [.data, .data, .data, .data, .data, .pinned], laidTests := true, laidLooks := .later }
def UnitSumUptoCardSaid : Prop := Claim7.holds Tryd.pinned (.plain (OpenSpec.upto unitSumSpec)) unitSumUptoCard

/-- THE SECOND FORM's CARD OF 'perigeelaw04.UnitCancel'. -/
def unitCancelUptoCard : Claim7 := { stood := { row := unitCancelUptoRow, standIns := [], harness := (true, "e8072a37882d669127d0b9b9a4088d42efa19fbe6e58079551dbd0b66671b8ee"), looks := false }, kinds := [], alts := [], laidByText := true, laidKinds := [.data, .data, .data, .data, .data, .pinned], laidTests := true, laidLooks := .later }
def UnitCancelUptoCardSaid : Prop := Claim7.holds Tryd.pinned (.plain (OpenSpec.upto unitCancelSpec)) unitCancelUptoCard

/-- THE SECOND FORM's CARD OF 'perigeelaw04.UnitCompare'. -/
def unitCompareUptoCard : Claim7 := { stood := { row := unitCompareUptoRow, standIns := [], harness := (true, "e8072a37882d669127d0b9b9a4088d42efa19fbe6e58079551dbd0b66671b8ee"), looks := false }, kinds := [], alts := [], laidByText := true, laidKinds := [.data, .data, .data, .data, .data, .pinned], laidTests := true, laidLooks := .later }
def UnitCompareUptoCardSaid : Prop := Claim7.holds Tryd.pinned (.plain (OpenSpec.upto unitCompareSpec)) unitCompareUptoCard
end Rows
end Go.Proofs.YtnjpgkaignfcaaaDoor
