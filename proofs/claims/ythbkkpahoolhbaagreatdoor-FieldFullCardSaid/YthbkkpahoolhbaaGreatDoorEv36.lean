import Derived.Test.YthbkkpahoolhbaaGreatDoorEv32
set_option linter.unusedSimpArgs false
set_option linter.unusedVariables false
set_option linter.unusedSectionVars false
namespace Go.Proofs.YthbkkpahoolhbaaGreatDoor
open Go.ChangeShapes Go.WideShapes Go.ChangeAt Go.RowKit
set_option maxHeartbeats 40000000
theorem named3 : Tryz.prog.funcNamed "obelus/obeluslaw42.FieldFull" = some 3 := by kernel_rfl
theorem looksIs : true = Tryz.pinned.checked.prog.looks [] := by kernel_rfl
theorem want5 : Tryz.prog.wantsStandIn 5 = false := by kernel_rfl
end Go.Proofs.YthbkkpahoolhbaaGreatDoor
