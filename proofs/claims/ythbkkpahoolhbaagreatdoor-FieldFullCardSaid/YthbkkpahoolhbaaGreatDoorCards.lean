/-
  DERIVED. GIVEN WITH THE SEED: THE CARDS: each row of YthbkkpahoolhbaaGreatDoorRows.lean that lists a variable, with what it lists TIED to the program's text (the seventh form; the later family's looks); each row that meets fmt, with fmt's text TOLD by the authors' own Lean function (tested against real Go, not proved from fmt's source: count such statements apart). THE CARD IS WHAT COUNTS. Prove the row's statement (the work); the ties are given (YthbkkpahoolhbaaGreatDoorTie.lean); close each card by the builder's one call (the guide's Derived/Test/ToyasCard.lean, 'card_holds'). Laid BY PROGRAM, IN A SANDBOX (cutbox-door.mjs). By AI agents, Wed Nov 11 2026. No macro, syntax, notation, axiom, sorry.
-/
import Derived.Test.YthbkkpahoolhbaaGreatDoorRows
import GoSem.ClaimSeven
namespace Go.Proofs.YthbkkpahoolhbaaGreatDoor
namespace Rows

/-- THE TIED CARD OF 'obeluslaw42.FieldFull'. -/
def fieldFullCard : Claim7 := { stood := { row := fieldFullRow, standIns := [], harness := (true, "8375b5e1444921f7499194efa367b42fd4b103d96b7050b7358f55bac67af449"), looks := true }, kinds := [], alts := [], laidByText := true, laidKinds := [.data, .data, .data, .data, .sentinel, .sentinel, .data, .pinned, .pinned], laidTests := true, laidLooks := .later }
def FieldFullCardSaid : Prop := Claim7.holds Tryz.pinned (.plain (OpenSpec.ofChange fieldFullSpec)) fieldFullCard

/-- THE SECOND FORM's CARD OF 'obeluslaw42.FieldFull'. -/
def fieldFullUptoCard : Claim7 := { stood := { row := fieldFullUptoRow, standIns := [], harness := (true, "8375b5e1444921f7499194efa367b42fd4b103d96b7050b7358f55bac67af449"), looks := true }, kinds := [], alts := [], laidByText := true, laidKinds := [.data, .data, .data, .data, .sentinel, .sentinel, .data, .pinned, .pinned], laidTests := true, laidLooks := .later }
def FieldFullUptoCardSaid : Prop := Claim7.holds Tryz.pinned (.plain (OpenSpec.upto fieldFullSpec)) fieldFullUptoCard
end Rows
end Go.Proofs.YthbkkpahoolhbaaGreatDoor
