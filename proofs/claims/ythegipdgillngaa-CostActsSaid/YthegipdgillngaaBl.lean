/- The examples of the chapter hold. -/
import Derived.Test.YthegipdgillngaaBe
namespace Go.Proofs.Ythegipdgillngaa
open Go Go.Am
theorem lives_true : SC E 17 [] [] (.ret (.sc (.bool true)) []) := SC.closed hW hX 40 (by kernel_rfl)
end Go.Proofs.Ythegipdgillngaa
