/- The closed facts of the row. -/
import Derived.Test.YtlldnglfoajfcaaRows
import Derived.ProofKit
section
/- The closed facts of the row FnExactPoolBarbs: the kernel computes them. -/
set_option maxRecDepth 100000
namespace Go.Proofs.Ytlldnglfoajfcaa
open Go.ChangeShapes Go.WideShapes Go.ChangeAt Go.RowKit
theorem closedF : joinedFacts Try.checked.prog 13 Try.f13 Rows.fnExactPoolBarbsSpec Rows.fnExactPoolBarbsRow = true := by kernel_rfl
end Go.Proofs.Ytlldnglfoajfcaa
end
