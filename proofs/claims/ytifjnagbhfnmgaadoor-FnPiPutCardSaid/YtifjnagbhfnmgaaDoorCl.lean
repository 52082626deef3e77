/- The closed facts of the row. -/
import Derived.Test.YtifjnagbhfnmgaaDoorRows
import Derived.ProofKit
section
/- The closed facts of the row FnPiPut: the kernel computes them. -/
set_option maxRecDepth 100000
namespace Go.Proofs.YtifjnagbhfnmgaaDoor
open Go.ChangeShapes Go.WideShapes Go.ChangeAt Go.RowKit
theorem closedF : joinedFacts Tryd.checked.prog 7 Tryd.f7 Rows.fnPiPutSpec Rows.fnPiPutRow = true := by kernel_rfl
end Go.Proofs.YtifjnagbhfnmgaaDoor
end
