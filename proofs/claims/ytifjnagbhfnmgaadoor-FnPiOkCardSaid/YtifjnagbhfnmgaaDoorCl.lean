/- The closed facts of the row. -/
import Derived.Test.YtifjnagbhfnmgaaDoorRows
import Derived.ProofKit
section
/- The closed facts of the row FnPiOk: the kernel computes them. -/
set_option maxRecDepth 100000
namespace Go.Proofs.YtifjnagbhfnmgaaDoor
open Go.ChangeShapes Go.WideShapes Go.ChangeAt Go.RowKit
theorem closedF : joinedFacts Tryd.checked.prog 5 Tryd.f5 Rows.fnPiOkSpec Rows.fnPiOkRow = true := by kernel_rfl
end Go.Proofs.YtifjnagbhfnmgaaDoor
end
