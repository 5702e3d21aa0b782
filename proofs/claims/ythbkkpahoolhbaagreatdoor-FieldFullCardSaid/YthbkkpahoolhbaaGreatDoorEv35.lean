import Derived.Test.YthbkkpahoolhbaaGreatDoorEv32
set_option linter.unusedSimpArgs false
set_option linter.unusedVariables false
set_option linter.unusedSectionVars false
namespace Go.Proofs.YthbkkpahoolhbaaGreatDoor
open Go.ChangeShapes Go.WideShapes Go.ChangeAt Go.RowKit
set_option maxHeartbeats 40000000
theorem mainIs : Tryz.pinned.checked.prog.mainIs = some ((true, "8375b5e1444921f7499194efa367b42fd4b103d96b7050b7358f55bac67af449").fst, (true, "8375b5e1444921f7499194efa367b42fd4b103d96b7050b7358f55bac67af449").snd.toList) := by kernel_rfl
end Go.Proofs.YthbkkpahoolhbaaGreatDoor
