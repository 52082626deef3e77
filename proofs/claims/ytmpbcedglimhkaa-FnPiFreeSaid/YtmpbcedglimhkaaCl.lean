/- The closed facts of the row. -/
import Derived.Test.YtmpbcedglimhkaaRows
import Derived.ProofKit
section
/- The closed facts of the row FnPiFree: the kernel computes them. -/
set_option maxRecDepth 100000
namespace Go.Proofs.Ytmpbcedglimhkaa
open Go.ChangeShapes Go.WideShapes Go.ChangeAt Go.RowKit
theorem closedF : joinedFacts Try.checked.prog 3 Try.f3 Rows.fnPiFreeSpec Rows.fnPiFreeRow = true := by kernel_rfl
end Go.Proofs.Ytmpbcedglimhkaa
end
