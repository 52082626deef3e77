/- The closed facts of the row. -/
import Derived.Test.YtlldnglfoajfcaaRows
import Derived.ProofKit
section
/- The closed facts of the row FnExactGraphHide: the kernel computes them. -/
set_option maxRecDepth 100000
namespace Go.Proofs.Ytlldnglfoajfcaa
open Go.ChangeShapes Go.WideShapes Go.ChangeAt Go.RowKit
theorem closedF : joinedFacts Try.checked.prog 7 Try.f7 Rows.fnExactGraphHideSpec Rows.fnExactGraphHideRow = true := by kernel_rfl
end Go.Proofs.Ytlldnglfoajfcaa
end
