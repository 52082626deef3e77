/- The closed facts of the row. -/
import Derived.Test.YtlldnglfoajfcaaRows
import Derived.ProofKit
section
/- The closed facts of the row FnExactGraphSync: the kernel computes them. -/
set_option maxRecDepth 100000
namespace Go.Proofs.Ytlldnglfoajfcaa
open Go.ChangeShapes Go.WideShapes Go.ChangeAt Go.RowKit
theorem closedF : joinedFacts Try.checked.prog 12 Try.f12 Rows.fnExactGraphSyncSpec Rows.fnExactGraphSyncRow = true := by kernel_rfl
end Go.Proofs.Ytlldnglfoajfcaa
end
