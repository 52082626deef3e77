/- The closed facts of the row. -/
import Derived.Test.YtifjnagbhfnmgaaDoorRows
import Derived.ProofKit
section
/- The closed facts of the row FnPutBack: the kernel computes them. -/
set_option maxRecDepth 100000
namespace Go.Proofs.YtifjnagbhfnmgaaDoor
open Go.ChangeShapes Go.WideShapes Go.ChangeAt Go.RowKit
theorem closedF : joinedFacts Tryd.checked.prog 8 Tryd.f8 Rows.fnPutBackSpec Rows.fnPutBackRow = true := by kernel_rfl
end Go.Proofs.YtifjnagbhfnmgaaDoor
end
