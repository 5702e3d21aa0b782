import Derived.Test.YthbkkpahoolhbaaGreatDoorEv32
set_option linter.unusedSimpArgs false
set_option linter.unusedVariables false
set_option linter.unusedSectionVars false
namespace Go.Proofs.YthbkkpahoolhbaaGreatDoor
open Go.ChangeShapes Go.WideShapes Go.ChangeAt Go.RowKit
set_option maxHeartbeats 40000000
theorem wfText : OpenClaim.wfByText (OpenSpec.ofChange Rows.fieldFullSpec) Rows.fieldFullRow = true := by kernel_rfl
end Go.Proofs.YthbkkpahoolhbaaGreatDoor
