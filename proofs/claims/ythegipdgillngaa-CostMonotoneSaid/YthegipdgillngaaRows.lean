/-
  No cell of these rows narrows 'for every input' (looked for: loops, veiled, ifaces, maps, wideKeys, modest, calm, conditions, laid).
  DERIVED. THE GIVEN ROWS OF THIS SEAT. 9 by the template 'for every input the law returns true; each argument reads behind the call as it read before'; 0 by the template 'total and deterministic' (their statements: YthegipdgillngaaTotals.lean).
  GIVEN WITH THE SEED: the statements are not yours to turn. If you find one false, say at which input.
  Laid BY PROGRAM, IN A SANDBOX (cutbox-rows.mjs): the forced cells as the released guide's own fill.sh prints them over the translation 3c83ab691d5445ea… (all of the seat's roots in one cut). By AI agents, Wed Nov 11 2026. No macro, syntax, notation, axiom, sorry.
-/
import Derived.Test.YthegipdgillngaaChecked
import GoSem.Claim
import GoSem.ClaimJoined
import GoSem.ClaimMapViews
import Derived.JoinedTies
import Derived.KernelRfl
namespace Go.Proofs.Ythegipdgillngaa
/- THE CELL 'sum', in the pinned program and in every row, IS THE sha256 OF THE DUMP (.gsa) THAT YthegipdgillngaaProg.lean LOADS. Nothing in Lean hashes anything: it is a label: what it is worth is what the hold of that sum in a sandbox is worth. -/
noncomputable def Try.pinned : Pinned := { name := "ythegipdgillngaa", sum := "3c83ab691d5445ea5e4e7bc7c922ddf80fb8611c0d12ce85ff1396272628957b", checked := Try.checked }
namespace Rows
def none {H : Type} : Left H := { results := [], args := [] }

/-- 'perigeelaw17.CostCertifies': WHATEVER THE INPUT: true; the input reads as it did. -/
def costCertifiesSpec : ChangeSpec := { name := "costCertifies", fn := fun _ => fun
  | [d1, d2, d3, d4] => { results := [.lit (.bool true)], args := [d1, d2, d3, d4] }
  | _ => none }
def costCertifiesRow : OpenClaim := { program := "ythegipdgillngaa", sum := "3c83ab691d5445ea5e4e7bc7c922ddf80fb8611c0d12ce85ff1396272628957b", func := "perigee/perigeelaw17.CostCertifies", spec := "costCertifies", unfollowed := true, recurses := true, apart := false }
def CostCertifiesSaid : Prop := costCertifiesRow.holds Try.pinned (OpenSpec.ofChange costCertifiesSpec)

/-- ITS FALSE NEIGHBOUR: 'it returns false'. Refute it at one input. -/
def costCertifiesWrong : ChangeSpec := { name := "costCertifies", fn := fun _ => fun
  | [d1, d2, d3, d4] => { results := [.lit (.bool false)], args := [d1, d2, d3, d4] }
  | _ => none }
def CostCertifiesWrongFalsely : Prop := costCertifiesRow.holds Try.pinned (OpenSpec.ofChange costCertifiesWrong)

/-- 'perigeelaw17.CostVerifies': WHATEVER THE INPUT: true; the input reads as it did. -/
def costVerifiesSpec : ChangeSpec := { name := "costVerifies", fn := fun _ => fun
  | [d1, d2, d3, d4] => { results := [.lit (.bool true)], args := [d1, d2, d3, d4] }
  | _ => none }
def costVerifiesRow : OpenClaim := { program := "ythegipdgillngaa", sum := "3c83ab691d5445ea5e4e7bc7c922ddf80fb8611c0d12ce85ff1396272628957b", func := "perigee/perigeelaw17.CostVerifies", spec := "costVerifies", unfollowed := true, recurses := true, apart := false }
def CostVerifiesSaid : Prop := costVerifiesRow.holds Try.pinned (OpenSpec.ofChange costVerifiesSpec)

/-- ITS FALSE NEIGHBOUR: 'it returns false'. Refute it at one input. -/
def costVerifiesWrong : ChangeSpec := { name := "costVerifies", fn := fun _ => fun
  | [d1, d2, d3, d4] => { results := [.lit (.bool false)], args := [d1, d2, d3, d4] }
  | _ => none }
def CostVerifiesWrongFalsely : Prop := costVerifiesRow.holds Try.pinned (OpenSpec.ofChange costVerifiesWrong)

/-- 'perigeelaw17.CostActs': WHATEVER THE INPUT: true; the input reads as it did. -/
def costActsSpec : ChangeSpec := { name := "costActs", fn := fun _ => fun
  | [d1, d2] => { results := [.lit (.bool true)], args := [d1, d2] }
  | _ => none }
def costActsRow : OpenClaim := { program := "ythegipdgillngaa", sum := "3c83ab691d5445ea5e4e7bc7c922ddf80fb8611c0d12ce85ff1396272628957b", func := "perigee/perigeelaw17.CostActs", spec := "costActs", unfollowed := true, recurses := true, apart := false }
def CostActsSaid : Prop := costActsRow.holds Try.pinned (OpenSpec.ofChange costActsSpec)

/-- ITS FALSE NEIGHBOUR: 'it returns false'. Refute it at one input. -/
def costActsWrong : ChangeSpec := { name := "costActs", fn := fun _ => fun
  | [d1, d2] => { results := [.lit (.bool false)], args := [d1, d2] }
  | _ => none }
def CostActsWrongFalsely : Prop := costActsRow.holds Try.pinned (OpenSpec.ofChange costActsWrong)

/-- 'perigeelaw17.CostLeast': WHATEVER THE INPUT: true; the input reads as it did. -/
def costLeastSpec : ChangeSpec := { name := "costLeast", fn := fun _ => fun
  | [d1, d2, d3, d4] => { results := [.lit (.bool true)], args := [d1, d2, d3, d4] }
  | _ => none }
def costLeastRow : OpenClaim := { program := "ythegipdgillngaa", sum := "3c83ab691d5445ea5e4e7bc7c922ddf80fb8611c0d12ce85ff1396272628957b", func := "perigee/perigeelaw17.CostLeast", spec := "costLeast", unfollowed := true, recurses := true, apart := false }
def CostLeastSaid : Prop := costLeastRow.holds Try.pinned (OpenSpec.ofChange costLeastSpec)

/-- ITS FALSE NEIGHBOUR: 'it returns false'. Refute it at one input. -/
def costLeastWrong : ChangeSpec := { name := "costLeast", fn := fun _ => fun
  | [d1, d2, d3, d4] => { results := [.lit (.bool false)], args := [d1, d2, d3, d4] }
  | _ => none }
def CostLeastWrongFalsely : Prop := costLeastRow.holds Try.pinned (OpenSpec.ofChange costLeastWrong)

/-- 'perigeelaw17.CostTampered': WHATEVER THE INPUT: true; the input reads as it did. -/
def costTamperedSpec : ChangeSpec := { name := "costTampered", fn := fun _ => fun
  | [d1, d2, d3, d4, d5] => { results := [.lit (.bool true)], args := [d1, d2, d3, d4, d5] }
  | _ => none }
def costTamperedRow : OpenClaim := { program := "ythegipdgillngaa", sum := "3c83ab691d5445ea5e4e7bc7c922ddf80fb8611c0d12ce85ff1396272628957b", func := "perigee/perigeelaw17.CostTampered", spec := "costTampered", unfollowed := true, recurses := true, apart := false }
def CostTamperedSaid : Prop := costTamperedRow.holds Try.pinned (OpenSpec.ofChange costTamperedSpec)

/-- ITS FALSE NEIGHBOUR: 'it returns false'. Refute it at one input. -/
def costTamperedWrong : ChangeSpec := { name := "costTampered", fn := fun _ => fun
  | [d1, d2, d3, d4, d5] => { results := [.lit (.bool false)], args := [d1, d2, d3, d4, d5] }
  | _ => none }
def CostTamperedWrongFalsely : Prop := costTamperedRow.holds Try.pinned (OpenSpec.ofChange costTamperedWrong)

/-- 'perigeelaw17.CostPaths': WHATEVER THE INPUT: true; the input reads as it did. -/
def costPathsSpec : ChangeSpec := { name := "costPaths", fn := fun _ => fun
  | [d1, d2, d3, d4] => { results := [.lit (.bool true)], args := [d1, d2, d3, d4] }
  | _ => none }
def costPathsRow : OpenClaim := { program := "ythegipdgillngaa", sum := "3c83ab691d5445ea5e4e7bc7c922ddf80fb8611c0d12ce85ff1396272628957b", func := "perigee/perigeelaw17.CostPaths", spec := "costPaths", unfollowed := true, recurses := true, apart := false }
def CostPathsSaid : Prop := costPathsRow.holds Try.pinned (OpenSpec.ofChange costPathsSpec)

/-- ITS FALSE NEIGHBOUR: 'it returns false'. Refute it at one input. -/
def costPathsWrong : ChangeSpec := { name := "costPaths", fn := fun _ => fun
  | [d1, d2, d3, d4] => { results := [.lit (.bool false)], args := [d1, d2, d3, d4] }
  | _ => none }
def CostPathsWrongFalsely : Prop := costPathsRow.holds Try.pinned (OpenSpec.ofChange costPathsWrong)

/-- 'perigeelaw17.CostTight': WHATEVER THE INPUT: true; the input reads as it did. -/
def costTightSpec : ChangeSpec := { name := "costTight", fn := fun _ => fun
  | [d1, d2] => { results := [.lit (.bool true)], args := [d1, d2] }
  | _ => none }
def costTightRow : OpenClaim := { program := "ythegipdgillngaa", sum := "3c83ab691d5445ea5e4e7bc7c922ddf80fb8611c0d12ce85ff1396272628957b", func := "perigee/perigeelaw17.CostTight", spec := "costTight", unfollowed := true, recurses := true, apart := false }
def CostTightSaid : Prop := costTightRow.holds Try.pinned (OpenSpec.ofChange costTightSpec)

/-- ITS FALSE NEIGHBOUR: 'it returns false'. Refute it at one input. -/
def costTightWrong : ChangeSpec := { name := "costTight", fn := fun _ => fun
  | [d1, d2] => { results := [.lit (.bool false)], args := [d1, d2] }
  | _ => none }
def CostTightWrongFalsely : Prop := costTightRow.holds Try.pinned (OpenSpec.ofChange costTightWrong)

/-- 'perigeelaw17.CostMonotone': WHATEVER THE INPUT: true; the input reads as it did. -/
def costMonotoneSpec : ChangeSpec := { name := "costMonotone", fn := fun _ => fun
  | [d1, d2, d3] => { results := [.lit (.bool true)], args := [d1, d2, d3] }
  | _ => none }
def costMonotoneRow : OpenClaim := { program := "ythegipdgillngaa", sum := "3c83ab691d5445ea5e4e7bc7c922ddf80fb8611c0d12ce85ff1396272628957b", func := "perigee/perigeelaw17.CostMonotone", spec := "costMonotone", unfollowed := true, recurses := true, apart := false }
def CostMonotoneSaid : Prop := costMonotoneRow.holds Try.pinned (OpenSpec.ofChange costMonotoneSpec)

/-- ITS FALSE NEIGHBOUR: 'it returns false'. Refute it at one input. -/
def costMonotoneWrong : ChangeSpec := { name := "costMonotone", fn := fun _ => fun
  | [d1, d2, d3] => { results := [.lit (.bool false)], args := [d1, d2, d3] }
  | _ => none }
def CostMonotoneWrongFalsely : Prop := costMonotoneRow.holds Try.pinned (OpenSpec.ofChange costMonotoneWrong)

/-- 'perigeelaw17.CostAdds': WHATEVER THE INPUT: true; the input reads as it did. -/
def costAddsSpec : ChangeSpec := { name := "costAdds", fn := fun _ => fun
  | [d1, d2, d3] => { results := [.lit (.bool true)], args := [d1, d2, d3] }
  | _ => none }
def costAddsRow : OpenClaim := { program := "ythegipdgillngaa", sum := "3c83ab691d5445ea5e4e7bc7c922ddf80fb8611c0d12ce85ff1396272628957b", func := "perigee/perigeelaw17.CostAdds", spec := "costAdds", unfollowed := true, recurses := true, apart := false }
def CostAddsSaid : Prop := costAddsRow.holds Try.pinned (OpenSpec.ofChange costAddsSpec)

/-- ITS FALSE NEIGHBOUR: 'it returns false'. Refute it at one input. -/
def costAddsWrong : ChangeSpec := { name := "costAdds", fn := fun _ => fun
  | [d1, d2, d3] => { results := [.lit (.bool false)], args := [d1, d2, d3] }
  | _ => none }
def CostAddsWrongFalsely : Prop := costAddsRow.holds Try.pinned (OpenSpec.ofChange costAddsWrong)

/- THE SECOND FORM. 'bulk': how many values and letters a reading holds, each counted each time it is reached (what is shared counts as often as it is met; a slice's spare places count too). A statement '..UptoSaid' is the law's where the arguments, and the package variables that the reading takes, are together of bulk at most 1048576: NARROWER than '..Said'. Prove '..Said' where nothing that the law and all that it calls make is longer than what came in: it says more and counts as full. Else prove '..UptoSaid'. A law counts once. -/
mutual
def uptoBulk {H : Type} : DataW H → Nat
  | .lit (.string bytes) => bytes.length + 1
  | .lit _ => 1
  | .nil => 1
  | .ptr d => uptoBulk d + 1
  | .slice elems spare => uptoBulkAll elems + uptoBulkAll spare + 1
  | .agg parts => uptoBulkAll parts + 1
  | .iface _ d => uptoBulk d + 1
  | .map entries => uptoBulkEntries entries + 1
  | .held _ => 1
def uptoBulkAll {H : Type} : List (DataW H) → Nat
  | [] => 0
  | d :: r => uptoBulk d + uptoBulkAll r
def uptoBulkEntries {H : Type} : List (Lit × DataW H) → Nat
  | [] => 0
  | x :: r => uptoBulkEntry x + uptoBulkEntries r
def uptoBulkEntry {H : Type} : Lit × DataW H → Nat
  | (.string bytes, d) => bytes.length + uptoBulk d + 1
  | (_, d) => uptoBulk d + 1
 end
def uptoSmall : (H : Type) → List (DataW H) → Bool := fun _ ds => decide (uptoBulkAll ds ≤ 1048576)
def OpenSpec.upto (s : _root_.Go.ChangeSpec) : _root_.Go.OpenSpec := { _root_.Go.OpenSpec.ofChange s with cond := some uptoSmall }

/-- 'perigeelaw17.CostCertifies', WHERE WHAT IT READS IS OF BULK AT MOST 1048576: true; the input reads as it did. -/
def costCertifiesUptoRow : OpenClaim := { program := "ythegipdgillngaa", sum := "3c83ab691d5445ea5e4e7bc7c922ddf80fb8611c0d12ce85ff1396272628957b", func := "perigee/perigeelaw17.CostCertifies", spec := "costCertifies", unfollowed := true, recurses := true, apart := false, narrowed := true }
def CostCertifiesUptoSaid : Prop := costCertifiesUptoRow.holds Try.pinned (OpenSpec.upto costCertifiesSpec)

/-- 'perigeelaw17.CostVerifies', WHERE WHAT IT READS IS OF BULK AT MOST 1048576: true; the input reads as it did. -/
def costVerifiesUptoRow : OpenClaim := { program := "ythegipdgillngaa", sum := "3c83ab691d5445ea5e4e7bc7c922ddf80fb8611c0d12ce85ff1396272628957b", func := "perigee/perigeelaw17.CostVerifies", spec := "costVerifies", unfollowed := true, recurses := true, apart := false, narrowed := true }
def CostVerifiesUptoSaid : Prop := costVerifiesUptoRow.holds Try.pinned (OpenSpec.upto costVerifiesSpec)

/-- 'perigeelaw17.CostActs', WHERE WHAT IT READS IS OF BULK AT MOST 1048576: true; the input reads as it did. -/
def costActsUptoRow : OpenClaim := { program := "ythegipdgillngaa", sum := "3c83ab691d5445ea5e4e7bc7c922ddf80fb8611c0d12ce85ff1396272628957b", func := "perigee/perigeelaw17.CostActs", spec := "costActs", unfollowed := true, recurses := true, apart := false, narrowed := true }
def CostActsUptoSaid : Prop := costActsUptoRow.holds Try.pinned (OpenSpec.upto costActsSpec)

/-- 'perigeelaw17.CostLeast', WHERE WHAT IT READS IS OF BULK AT MOST 1048576: true; the input reads as it did. -/
def costLeastUptoRow : OpenClaim := { program := "ythegipdgillngaa", sum := "3c83ab691d5445ea5e4e7bc7c922ddf80fb8611c0d12ce85ff1396272628957b", func := "perigee/perigeelaw17.CostLeast", spec := "costLeast", unfollowed := true, recurses := true, apart := false, narrowed := true }
def CostLeastUptoSaid : Prop := costLeastUptoRow.holds Try.pinned (OpenSpec.upto costLeastSpec)

/-- 'perigeelaw17.CostTampered', WHERE WHAT IT READS IS OF BULK AT MOST 1048576: true; the input reads as it did. -/
def costTamperedUptoRow : OpenClaim := { program := "ythegipdgillngaa", sum := "3c83ab691d5445ea5e4e7bc7c922ddf80fb8611c0d12ce85ff1396272628957b", func := "perigee/perigeelaw17.CostTampered", spec := "costTampered", unfollowed := true, recurses := true, apart := false, narrowed := true }
def CostTamperedUptoSaid : Prop := costTamperedUptoRow.holds Try.pinned (OpenSpec.upto costTamperedSpec)

/-- 'perigeelaw17.CostPaths', WHERE WHAT IT READS IS OF BULK AT MOST 1048576: true; the input reads as it did. -/
def costPathsUptoRow : OpenClaim := { program := "ythegipdgillngaa", sum := "3c83ab691d5445ea5e4e7bc7c922ddf80fb8611c0d12ce85ff1396272628957b", func := "perigee/perigeelaw17.CostPaths", spec := "costPaths", unfollowed := true, recurses := true, apart := false, narrowed := true }
def CostPathsUptoSaid : Prop := costPathsUptoRow.holds Try.pinned (OpenSpec.upto costPathsSpec)

/-- 'perigeelaw17.CostTight', WHERE WHAT IT READS IS OF BULK AT MOST 1048576: true; the input reads as it did. -/
def costTightUptoRow : OpenClaim := { program := "ythegipdgillngaa", sum := "3c83ab691d5445ea5e4e7bc7c922ddf80fb8611c0d12ce85ff1396272628957b", func := "perigee/perigeelaw17.CostTight", spec := "costTight", unfollowed := true, recurses := true, apart := false, narrowed := true }
def CostTightUptoSaid : Prop := costTightUptoRow.holds Try.pinned (OpenSpec.upto costTightSpec)

/-- 'perigeelaw17.CostMonotone', WHERE WHAT IT READS IS OF BULK AT MOST 1048576: true; the input reads as it did. -/
def costMonotoneUptoRow : OpenClaim := { program := "ythegipdgillngaa", sum := "3c83ab691d5445ea5e4e7bc7c922ddf80fb8611c0d12ce85ff1396272628957b", func := "perigee/perigeelaw17.CostMonotone", spec := "costMonotone", unfollowed := true, recurses := true, apart := false, narrowed := true }
def CostMonotoneUptoSaid : Prop := costMonotoneUptoRow.holds Try.pinned (OpenSpec.upto costMonotoneSpec)

/-- 'perigeelaw17.CostAdds', WHERE WHAT IT READS IS OF BULK AT MOST 1048576: true; the input reads as it did. -/
def costAddsUptoRow : OpenClaim := { program := "ythegipdgillngaa", sum := "3c83ab691d5445ea5e4e7bc7c922ddf80fb8611c0d12ce85ff1396272628957b", func := "perigee/perigeelaw17.CostAdds", spec := "costAdds", unfollowed := true, recurses := true, apart := false, narrowed := true }
def CostAddsUptoSaid : Prop := costAddsUptoRow.holds Try.pinned (OpenSpec.upto costAddsSpec)

end Rows
end Go.Proofs.Ythegipdgillngaa
