/- The closed facts of the row. -/
import Derived.Test.YtopipkiebngakaaRows
import Derived.ProofKit
section
/- The closed facts of the row FnEquationsSolve: the kernel computes them. -/
set_option maxRecDepth 100000
namespace Go.Proofs.Ytopipkiebngakaa
open Go.ChangeShapes Go.WideShapes Go.ChangeAt Go.RowKit
theorem closedF : joinedFacts Try.checked.prog 4 Try.f4 Rows.fnEquationsSolveSpec Rows.fnEquationsSolveRow = true := by kernel_rfl
end Go.Proofs.Ytopipkiebngakaa
end
