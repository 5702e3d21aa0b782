/- The statement obeluslaw42.FieldFull returns true for every argument (tied card). No condition beyond those of the given statement. -/
import Derived.Test.YthbkkpahoolhbaaGreatDoorEv33
import Derived.Test.YthbkkpahoolhbaaGreatDoorEv34
import Derived.Test.YthbkkpahoolhbaaGreatDoorEv35
import Derived.Test.YthbkkpahoolhbaaGreatDoorEv36
import Derived.Test.YthbkkpahoolhbaaGreatDoorEv37
set_option linter.unusedSimpArgs false
set_option linter.unusedVariables false
set_option linter.unusedSectionVars false
namespace Go.Proofs.YthbkkpahoolhbaaGreatDoor
open Go.ChangeShapes Go.WideShapes Go.ChangeAt Go.RowKit
set_option maxHeartbeats 40000000
/-- FieldFull, tied -/
theorem fieldFull_card : Rows.FieldFullCardSaid :=
  Claim7.holds_tied_plain_at .later [] _ _ _ _ said (fun _ h => by cases h) wfText (fun _ h => by cases h) fieldFull_row_tie rfl ⟨rfl, rfl⟩ mainIs rfl
    (fun f fn hf hfn => by
      obtain rfl : f = 3 := Option.some.inj (named3.symm.trans hf) |>.symm
      obtain rfl : fn = Tryz.f3 := (Option.some.inj (Tryz.func3.symm.trans hfn)).symm
      exact ⟨looksIs, fun j t ht => by
        rw [Tryz.params3] at ht
        obtain rfl : t = 5 := by simpa using Array.mem_of_getElem? ht
        exact want5⟩) goesIs
end Go.Proofs.YthbkkpahoolhbaaGreatDoor
