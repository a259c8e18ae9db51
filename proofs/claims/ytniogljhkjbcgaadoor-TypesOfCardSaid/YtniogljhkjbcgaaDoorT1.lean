/- An example of the chapter, run. -/
import Derived.Test.YtniogljhkjbcgaaDoorTl
set_option linter.unusedSimpArgs false
set_option linter.unusedVariables false
namespace Go.Proofs.YtniogljhkjbcgaaDoor
open Go Go.Am
def src1 : ByteArray := ⟨#[112, 114, 111, 99, 101, 100, 117, 114, 101, 32, 112, 40, 116, 58, 32, 115, 41, 32, 123, 32, 108, 101, 116, 32, 101, 32, 61, 32, 50, 32, 87, 32, 42, 32, 116, 59, 32, 105, 102, 32, 116, 108, 109, 46, 98, 97, 116, 116, 101, 114, 121, 32, 62, 32, 101, 32, 123, 32, 119, 97, 105, 116, 32, 53, 32, 109, 105, 110, 59, 32, 125, 32, 125]⟩
theorem chk1 : SC E 26 [st src1] [] (.ret (i64 0) []) := scL (SC.closedQ hWL hXL 80 (by kernel_rfl))
end Go.Proofs.YtniogljhkjbcgaaDoor
