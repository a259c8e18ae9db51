/-
  No cell of these rows narrows 'for every input' (looked for: loops, veiled, ifaces, maps, wideKeys, modest, calm, conditions, laid).
  DERIVED. THE GIVEN ROWS OF THIS SEAT. 7 by the template 'for every input the law returns true; each argument reads behind the call as it read before'; 0 by the template 'total and deterministic' (their statements: YtphncipfcekilaaTotals.lean).
  GIVEN WITH THE SEED: the statements are not yours to turn. If you find one false, say at which input.
  Laid BY PROGRAM, IN A SANDBOX (cutbox-rows.mjs): the forced cells as the released guide's own fill.sh prints them over the translation 932194818c5c2be7… (all of the seat's roots in one cut). By AI agents, Wed Nov 11 2026. No macro, syntax, notation, axiom, sorry.
-/
import Derived.Test.YtphncipfcekilaaChecked
import GoSem.Claim
import GoSem.ClaimJoined
import GoSem.ClaimMapViews
import Derived.JoinedTies
import Derived.KernelRfl
namespace Go.Proofs.Ytphncipfcekilaa
/- THE CELL 'sum', in the pinned program and in every row, IS THE sha256 OF THE DUMP (.gsa) THAT YtphncipfcekilaaProg.lean LOADS. Nothing in Lean hashes anything: it is a label: what it is worth is what the hold of that sum in a sandbox is worth. -/
noncomputable def Try.pinned : Pinned := { name := "ytphncipfcekilaa", sum := "932194818c5c2be709ced7fcd7b2328683be3078d140d9dac45985163b65ee2d", checked := Try.checked }
namespace Rows
def none {H : Type} : Left H := { results := [], args := [] }

/-- 'perigeelaw13.LexerTokens': WHATEVER THE INPUT: true; the input reads as it did. -/
def lexerTokensSpec : ChangeSpec := { name := "lexerTokens", fn := fun _ => fun
  | [d] => { results := [.lit (.bool true)], args := [d] }
  | _ => none }
def lexerTokensRow : OpenClaim := { program := "ytphncipfcekilaa", sum := "932194818c5c2be709ced7fcd7b2328683be3078d140d9dac45985163b65ee2d", func := "perigee/perigeelaw13.LexerTokens", spec := "lexerTokens", inPlace := ["internal/bytealg.IndexByteString"], unfollowed := true, recurses := true, apart := false }
def LexerTokensSaid : Prop := lexerTokensRow.holds Try.pinned (OpenSpec.ofChange lexerTokensSpec)

/-- ITS FALSE NEIGHBOUR: 'it returns false'. Refute it at one input. -/
def lexerTokensWrong : ChangeSpec := { name := "lexerTokens", fn := fun _ => fun
  | [d] => { results := [.lit (.bool false)], args := [d] }
  | _ => none }
def LexerTokensWrongFalsely : Prop := lexerTokensRow.holds Try.pinned (OpenSpec.ofChange lexerTokensWrong)

/-- 'perigeelaw13.LexerCover': WHATEVER THE INPUT: true; the input reads as it did. -/
def lexerCoverSpec : ChangeSpec := { name := "lexerCover", fn := fun _ => fun
  | [d] => { results := [.lit (.bool true)], args := [d] }
  | _ => none }
def lexerCoverRow : OpenClaim := { program := "ytphncipfcekilaa", sum := "932194818c5c2be709ced7fcd7b2328683be3078d140d9dac45985163b65ee2d", func := "perigee/perigeelaw13.LexerCover", spec := "lexerCover", inPlace := ["internal/bytealg.IndexByteString"], unfollowed := true, recurses := true, apart := false }
def LexerCoverSaid : Prop := lexerCoverRow.holds Try.pinned (OpenSpec.ofChange lexerCoverSpec)

/-- ITS FALSE NEIGHBOUR: 'it returns false'. Refute it at one input. -/
def lexerCoverWrong : ChangeSpec := { name := "lexerCover", fn := fun _ => fun
  | [d] => { results := [.lit (.bool false)], args := [d] }
  | _ => none }
def LexerCoverWrongFalsely : Prop := lexerCoverRow.holds Try.pinned (OpenSpec.ofChange lexerCoverWrong)

/-- 'perigeelaw13.LexerSpaces': WHATEVER THE INPUT: true; the input reads as it did. -/
def lexerSpacesSpec : ChangeSpec := { name := "lexerSpaces", fn := fun _ => fun
  | [d] => { results := [.lit (.bool true)], args := [d] }
  | _ => none }
def lexerSpacesRow : OpenClaim := { program := "ytphncipfcekilaa", sum := "932194818c5c2be709ced7fcd7b2328683be3078d140d9dac45985163b65ee2d", func := "perigee/perigeelaw13.LexerSpaces", spec := "lexerSpaces", inPlace := ["internal/bytealg.IndexByteString"], unfollowed := true, recurses := true, apart := false }
def LexerSpacesSaid : Prop := lexerSpacesRow.holds Try.pinned (OpenSpec.ofChange lexerSpacesSpec)

/-- ITS FALSE NEIGHBOUR: 'it returns false'. Refute it at one input. -/
def lexerSpacesWrong : ChangeSpec := { name := "lexerSpaces", fn := fun _ => fun
  | [d] => { results := [.lit (.bool false)], args := [d] }
  | _ => none }
def LexerSpacesWrongFalsely : Prop := lexerSpacesRow.holds Try.pinned (OpenSpec.ofChange lexerSpacesWrong)

/-- 'perigeelaw13.LexerConcat': WHATEVER THE INPUT: true; the input reads as it did. -/
def lexerConcatSpec : ChangeSpec := { name := "lexerConcat", fn := fun _ => fun
  | [d1, d2] => { results := [.lit (.bool true)], args := [d1, d2] }
  | _ => none }
def lexerConcatRow : OpenClaim := { program := "ytphncipfcekilaa", sum := "932194818c5c2be709ced7fcd7b2328683be3078d140d9dac45985163b65ee2d", func := "perigee/perigeelaw13.LexerConcat", spec := "lexerConcat", inPlace := ["internal/bytealg.IndexByteString"], unfollowed := true, recurses := true, apart := false }
def LexerConcatSaid : Prop := lexerConcatRow.holds Try.pinned (OpenSpec.ofChange lexerConcatSpec)

/-- ITS FALSE NEIGHBOUR: 'it returns false'. Refute it at one input. -/
def lexerConcatWrong : ChangeSpec := { name := "lexerConcat", fn := fun _ => fun
  | [d1, d2] => { results := [.lit (.bool false)], args := [d1, d2] }
  | _ => none }
def LexerConcatWrongFalsely : Prop := lexerConcatRow.holds Try.pinned (OpenSpec.ofChange lexerConcatWrong)

/-- 'perigeelaw13.LexerPrefix': WHATEVER THE INPUT: true; the input reads as it did. -/
def lexerPrefixSpec : ChangeSpec := { name := "lexerPrefix", fn := fun _ => fun
  | [d] => { results := [.lit (.bool true)], args := [d] }
  | _ => none }
def lexerPrefixRow : OpenClaim := { program := "ytphncipfcekilaa", sum := "932194818c5c2be709ced7fcd7b2328683be3078d140d9dac45985163b65ee2d", func := "perigee/perigeelaw13.LexerPrefix", spec := "lexerPrefix", inPlace := ["internal/bytealg.IndexByteString"], unfollowed := true, recurses := true, apart := false }
def LexerPrefixSaid : Prop := lexerPrefixRow.holds Try.pinned (OpenSpec.ofChange lexerPrefixSpec)

/-- ITS FALSE NEIGHBOUR: 'it returns false'. Refute it at one input. -/
def lexerPrefixWrong : ChangeSpec := { name := "lexerPrefix", fn := fun _ => fun
  | [d] => { results := [.lit (.bool false)], args := [d] }
  | _ => none }
def LexerPrefixWrongFalsely : Prop := lexerPrefixRow.holds Try.pinned (OpenSpec.ofChange lexerPrefixWrong)

/-- 'perigeelaw13.LexerComment': WHATEVER THE INPUT: true; the input reads as it did. -/
def lexerCommentSpec : ChangeSpec := { name := "lexerComment", fn := fun _ => fun
  | [d1, d2] => { results := [.lit (.bool true)], args := [d1, d2] }
  | _ => none }
def lexerCommentRow : OpenClaim := { program := "ytphncipfcekilaa", sum := "932194818c5c2be709ced7fcd7b2328683be3078d140d9dac45985163b65ee2d", func := "perigee/perigeelaw13.LexerComment", spec := "lexerComment", inPlace := ["internal/bytealg.IndexByteString"], unfollowed := true, recurses := true, apart := false }
def LexerCommentSaid : Prop := lexerCommentRow.holds Try.pinned (OpenSpec.ofChange lexerCommentSpec)

/-- ITS FALSE NEIGHBOUR: 'it returns false'. Refute it at one input. -/
def lexerCommentWrong : ChangeSpec := { name := "lexerComment", fn := fun _ => fun
  | [d1, d2] => { results := [.lit (.bool false)], args := [d1, d2] }
  | _ => none }
def LexerCommentWrongFalsely : Prop := lexerCommentRow.holds Try.pinned (OpenSpec.ofChange lexerCommentWrong)

/-- 'perigeelaw13.LexerNumber': WHATEVER THE INPUT: true; the input reads as it did. -/
def lexerNumberSpec : ChangeSpec := { name := "lexerNumber", fn := fun _ => fun
  | [d] => { results := [.lit (.bool true)], args := [d] }
  | _ => none }
def lexerNumberRow : OpenClaim := { program := "ytphncipfcekilaa", sum := "932194818c5c2be709ced7fcd7b2328683be3078d140d9dac45985163b65ee2d", func := "perigee/perigeelaw13.LexerNumber", spec := "lexerNumber", inPlace := ["internal/bytealg.IndexByteString"], unfollowed := true, recurses := true, apart := false }
def LexerNumberSaid : Prop := lexerNumberRow.holds Try.pinned (OpenSpec.ofChange lexerNumberSpec)

/-- ITS FALSE NEIGHBOUR: 'it returns false'. Refute it at one input. -/
def lexerNumberWrong : ChangeSpec := { name := "lexerNumber", fn := fun _ => fun
  | [d] => { results := [.lit (.bool false)], args := [d] }
  | _ => none }
def LexerNumberWrongFalsely : Prop := lexerNumberRow.holds Try.pinned (OpenSpec.ofChange lexerNumberWrong)

/- THE SECOND FORM. 'bulk': how many values and letters a reading holds, each counted each time it is reached (what is shared counts as often as it is met; a slice's spare places count too). A statement '..UptoSaid' is the law's where the arguments, and the package variables that the reading takes, are together of bulk at most 1048576: NARROWER than '..Said'. Prove '..Said' where nothing that the law and all that it calls make is longer than what came in: it says more and counts as full. Else prove '..UptoSaid'. A law counts once. -/
mutual
def uptoBulk {H : Type} : DataW H → Nat
  | .lit (.string bytes) => bytes.length + 1
  | .lit _ => 1
  | .nil => 1
  | .ptr d => uptoBulk d + 1
  | .slice elems spare => uptoBulkAll elems + uptoBulkAll spare + 1
  | .agg parts => uptoBulkAll parts + 1
  | .iface _ d => uptoBulk d + 1
  | .map entries => uptoBulkEntries entries + 1
  | .held _ => 1
def uptoBulkAll {H : Type} : List (DataW H) → Nat
  | [] => 0
  | d :: r => uptoBulk d + uptoBulkAll r
def uptoBulkEntries {H : Type} : List (Lit × DataW H) → Nat
  | [] => 0
  | x :: r => uptoBulkEntry x + uptoBulkEntries r
def uptoBulkEntry {H : Type} : Lit × DataW H → Nat
  | (.string bytes, d) => bytes.length + uptoBulk d + 1
  | (_, d) => uptoBulk d + 1
 end
def uptoSmall : (H : Type) → List (DataW H) → Bool := fun _ ds => decide (uptoBulkAll ds ≤ 1048576)
def OpenSpec.upto (s : _root_.Go.ChangeSpec) : _root_.Go.OpenSpec := { _root_.Go.OpenSpec.ofChange s with cond := some uptoSmall }

/-- 'perigeelaw13.LexerTokens', WHERE WHAT IT READS IS OF BULK AT MOST 1048576: true; the input reads as it did. -/
def lexerTokensUptoRow : OpenClaim := { program := "ytphncipfcekilaa", sum := "932194818c5c2be709ced7fcd7b2328683be3078d140d9dac45985163b65ee2d", func := "perigee/perigeelaw13.LexerTokens", spec := "lexerTokens", inPlace := ["internal/bytealg.IndexByteString"], unfollowed := true, recurses := true, apart := false, narrowed := true }
def LexerTokensUptoSaid : Prop := lexerTokensUptoRow.holds Try.pinned (OpenSpec.upto lexerTokensSpec)

/-- 'perigeelaw13.LexerCover', WHERE WHAT IT READS IS OF BULK AT MOST 1048576: true; the input reads as it did. -/
def lexerCoverUptoRow : OpenClaim := { program := "ytphncipfcekilaa", sum := "932194818c5c2be709ced7fcd7b2328683be3078d140d9dac45985163b65ee2d", func := "perigee/perigeelaw13.LexerCover", spec := "lexerCover", inPlace := ["internal/bytealg.IndexByteString"], unfollowed := true, recurses := true, apart := false, narrowed := true }
def LexerCoverUptoSaid : Prop := lexerCoverUptoRow.holds Try.pinned (OpenSpec.upto lexerCoverSpec)

/-- 'perigeelaw13.LexerSpaces', WHERE WHAT IT READS IS OF BULK AT MOST 1048576: true; the input reads as it did. -/
def lexerSpacesUptoRow : OpenClaim := { program := "ytphncipfcekilaa", sum := "932194818c5c2be709ced7fcd7b2328683be3078d140d9dac45985163b65ee2d", func := "perigee/perigeelaw13.LexerSpaces", spec := "lexerSpaces", inPlace := ["internal/bytealg.IndexByteString"], unfollowed := true, recurses := true, apart := false, narrowed := true }
def LexerSpacesUptoSaid : Prop := lexerSpacesUptoRow.holds Try.pinned (OpenSpec.upto lexerSpacesSpec)

/-- 'perigeelaw13.LexerConcat', WHERE WHAT IT READS IS OF BULK AT MOST 1048576: true; the input reads as it did. -/
def lexerConcatUptoRow : OpenClaim := { program := "ytphncipfcekilaa", sum := "932194818c5c2be709ced7fcd7b2328683be3078d140d9dac45985163b65ee2d", func := "perigee/perigeelaw13.LexerConcat", spec := "lexerConcat", inPlace := ["internal/bytealg.IndexByteString"], unfollowed := true, recurses := true, apart := false, narrowed := true }
def LexerConcatUptoSaid : Prop := lexerConcatUptoRow.holds Try.pinned (OpenSpec.upto lexerConcatSpec)

/-- 'perigeelaw13.LexerPrefix', WHERE WHAT IT READS IS OF BULK AT MOST 1048576: true; the input reads as it did. -/
def lexerPrefixUptoRow : OpenClaim := { program := "ytphncipfcekilaa", sum := "932194818c5c2be709ced7fcd7b2328683be3078d140d9dac45985163b65ee2d", func := "perigee/perigeelaw13.LexerPrefix", spec := "lexerPrefix", inPlace := ["internal/bytealg.IndexByteString"], unfollowed := true, recurses := true, apart := false, narrowed := true }
def LexerPrefixUptoSaid : Prop := lexerPrefixUptoRow.holds Try.pinned (OpenSpec.upto lexerPrefixSpec)

/-- 'perigeelaw13.LexerComment', WHERE WHAT IT READS IS OF BULK AT MOST 1048576: true; the input reads as it did. -/
def lexerCommentUptoRow : OpenClaim := { program := "ytphncipfcekilaa", sum := "932194818c5c2be709ced7fcd7b2328683be3078d140d9dac45985163b65ee2d", func := "perigee/perigeelaw13.LexerComment", spec := "lexerComment", inPlace := ["internal/bytealg.IndexByteString"], unfollowed := true, recurses := true, apart := false, narrowed := true }
def LexerCommentUptoSaid : Prop := lexerCommentUptoRow.holds Try.pinned (OpenSpec.upto lexerCommentSpec)

/-- 'perigeelaw13.LexerNumber', WHERE WHAT IT READS IS OF BULK AT MOST 1048576: true; the input reads as it did. -/
def lexerNumberUptoRow : OpenClaim := { program := "ytphncipfcekilaa", sum := "932194818c5c2be709ced7fcd7b2328683be3078d140d9dac45985163b65ee2d", func := "perigee/perigeelaw13.LexerNumber", spec := "lexerNumber", inPlace := ["internal/bytealg.IndexByteString"], unfollowed := true, recurses := true, apart := false, narrowed := true }
def LexerNumberUptoSaid : Prop := lexerNumberUptoRow.holds Try.pinned (OpenSpec.upto lexerNumberSpec)

end Rows
end Go.Proofs.Ytphncipfcekilaa
