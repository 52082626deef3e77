/- The closed facts of the row. -/
import Derived.Test.YtmpbcedglimhkaaGreatRows
import Derived.ProofKit
section
/- The closed facts of the row FnGraphSum: the kernel computes them. -/
set_option maxRecDepth 100000
namespace Go.Proofs.YtmpbcedglimhkaaGreat
open Go.ChangeShapes Go.WideShapes Go.ChangeAt Go.RowKit
theorem closedF : joinedFacts Tryz.checked.prog 3 Tryz.f3 Rows.fnGraphSumSpec Rows.fnGraphSumRow = true := by kernel_rfl
end Go.Proofs.YtmpbcedglimhkaaGreat
end
