/- The closed facts of the row. -/
import Derived.Test.YtifjnagbhfnmgaaDoorRows
import Derived.ProofKit
section
/- The closed facts of the row FnPiKey: the kernel computes them. -/
set_option maxRecDepth 100000
namespace Go.Proofs.YtifjnagbhfnmgaaDoor
open Go.ChangeShapes Go.WideShapes Go.ChangeAt Go.RowKit
theorem closedF : joinedFacts Tryd.checked.prog 6 Tryd.f6 Rows.fnPiKeySpec Rows.fnPiKeyRow = true := by kernel_rfl
end Go.Proofs.YtifjnagbhfnmgaaDoor
end
