/- The closed facts of the row. -/
import Derived.Test.YtmpbcedglimhkaaRows
import Derived.ProofKit
section
/- The closed facts of the row FnGraphVeil: the kernel computes them. -/
set_option maxRecDepth 100000
namespace Go.Proofs.Ytmpbcedglimhkaa
open Go.ChangeShapes Go.WideShapes Go.ChangeAt Go.RowKit
theorem closedF : joinedFacts Try.checked.prog 6 Try.f6 Rows.fnGraphVeilSpec Rows.fnGraphVeilRow = true := by kernel_rfl
end Go.Proofs.Ytmpbcedglimhkaa
end
