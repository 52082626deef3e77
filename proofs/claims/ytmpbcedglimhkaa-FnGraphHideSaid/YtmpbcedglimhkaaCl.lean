/- The closed facts of the row. -/
import Derived.Test.YtmpbcedglimhkaaRows
import Derived.ProofKit
section
/- The closed facts of the row FnGraphHide: the kernel computes them. -/
set_option maxRecDepth 100000
namespace Go.Proofs.Ytmpbcedglimhkaa
open Go.ChangeShapes Go.WideShapes Go.ChangeAt Go.RowKit
theorem closedF : joinedFacts Try.checked.prog 5 Try.f5 Rows.fnGraphHideSpec Rows.fnGraphHideRow = true := by kernel_rfl
end Go.Proofs.Ytmpbcedglimhkaa
end
