import Derived.Test.YthbkkpahoolhbaaGreatDoorEv32
set_option linter.unusedSimpArgs false
set_option linter.unusedVariables false
set_option linter.unusedSectionVars false
namespace Go.Proofs.YthbkkpahoolhbaaGreatDoor
open Go.ChangeShapes Go.WideShapes Go.ChangeAt Go.RowKit
set_option maxHeartbeats 40000000
theorem noGoes : (Tryz.prog.funcs.toList.all fun fn => !fn.goes) = true := by kernel_rfl
theorem goes_no {P : Program} (h : (P.funcs.toList.all fun fn => !fn.goes) = true) (f : FuncId) : P.goes f = false := by
  rw [List.all_eq_true] at h
  have h1 : ∀ fn ∈ P.funcs, fn.goes = false := fun fn hf => by
    have := h fn (by simpa using hf)
    simpa using this
  unfold Program.goes
  rw [Bool.or_eq_false_iff]
  constructor
  · rw [← Bool.not_eq_true]
    intro ha
    rw [List.any_eq_true] at ha
    obtain ⟨g, _, hg⟩ := ha
    cases hfg : P.funcs[g]? with
    | none => rw [hfg] at hg; cases hg
    | some fn =>
      rw [hfg] at hg
      have := h1 fn (Array.mem_of_getElem? hfg)
      simp only [Option.any_some] at hg
      rw [this] at hg; cases hg
  · rw [Bool.and_eq_false_iff]
    right
    rw [← Bool.not_eq_true]
    intro ha
    rw [Array.any_eq_true'] at ha
    obtain ⟨fn, hf, hg⟩ := ha
    rw [h1 fn hf] at hg; cases hg
theorem goesIs : false = Rows.fieldFullRow.goesBy Tryz.pinned.checked.prog := by
  show false = Tryz.prog.goesAt _ _
  unfold Program.goesAt Program.goesFrom
  have h := goes_no noGoes
  cases Tryz.prog.funcNamed Rows.fieldFullRow.func with
  | none =>
    simp only [Option.any_none, Bool.false_or]
    split
    · rfl
    · symm
      rw [← Bool.not_eq_true]
      intro ha
      rw [List.any_eq_true] at ha
      obtain ⟨g, _, hg⟩ := ha
      rw [h g] at hg; cases hg
  | some f =>
    simp only [Option.any_some, h f, Bool.false_or]
    split
    · rfl
    · symm
      rw [← Bool.not_eq_true]
      intro ha
      rw [List.any_eq_true] at ha
      obtain ⟨g, _, hg⟩ := ha
      rw [h g] at hg; cases hg
end Go.Proofs.YthbkkpahoolhbaaGreatDoor
