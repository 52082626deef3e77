/- The closed facts of the row. -/
import Derived.Test.YtmpbcedglimhkaaRows
import Derived.ProofKit
section
/- The closed facts of the row FnGraphAct: the kernel computes them. -/
set_option maxRecDepth 100000
namespace Go.Proofs.Ytmpbcedglimhkaa
open Go.ChangeShapes Go.WideShapes Go.ChangeAt Go.RowKit
theorem closedF : joinedFacts Try.checked.prog 8 Try.f8 Rows.fnGraphActSpec Rows.fnGraphActRow = true := by kernel_rfl
end Go.Proofs.Ytmpbcedglimhkaa
end
