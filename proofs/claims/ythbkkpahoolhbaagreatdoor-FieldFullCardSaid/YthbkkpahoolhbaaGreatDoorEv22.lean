import Derived.Test.YthbkkpahoolhbaaGreatDoorEv21
set_option linter.unusedSimpArgs false
set_option linter.unusedVariables false
set_option linter.unusedSectionVars false
namespace Go.E.FF
open Go.Proofs
theorem known_sum : Sum Tryz.prog 5 [] (.bool true) := sum_of_ev x1 s1_ok (n := 100000) (by kernel_rfl)
end Go.E.FF

