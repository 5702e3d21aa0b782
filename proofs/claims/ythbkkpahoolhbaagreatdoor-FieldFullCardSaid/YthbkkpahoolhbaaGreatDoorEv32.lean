import Derived.Test.YthbkkpahoolhbaaGreatDoorEv31
import Derived.Test.YthbkkpahoolhbaaGreatDoorCards
import Derived.Test.YthbkkpahoolhbaaGreatDoorTie
import Derived.ProofKit
import Derived.OpenShut
import Derived.LaidMore
import Derived.Lay
import Derived.SevenTiedAt
import Derived.Stop.Joined
set_option linter.unusedSimpArgs false
set_option linter.unusedVariables false
set_option linter.unusedSectionVars false
namespace Go.Proofs.YthbkkpahoolhbaaGreatDoor
open Go.ChangeShapes Go.WideShapes Go.ChangeAt Go.RowKit

theorem own : ownKnob Tryz.prog.godebug = none := by kernel_rfl
theorem ff_sum {w : Nat} (h : w < 256) : Go.E.Sum Tryz.prog 3 [.int .u8 (Int.ofNat w)] (.bool true) :=
  Go.E.FF.sum_of_exq Go.E.FF.xf Go.E.FF.sf_ok rfl rfl (Go.E.FF.ff_run h)

theorem ext_kept {W w' : World} (h : Go.E.Ext W w') (may : MemPlace → Prop) : W.keptBut w' may := by
  obtain ⟨h1, h2, h3, h4, h5⟩ := h
  refine ⟨h3, h4, fun i hi => ?_⟩
  rw [h5 i hi]
  rw [Array.getElem?_eq_getElem hi]
  cases W.heap[i] <;> simp

section
variable {H : Type} {enc : TypeId × Value → H} {P : Program}
/-- the post of a call that is handed no memory -/
theorem post_plain {f : Func} {s : ChangeSpec} {apart fresh handsOn again : Bool} {W W' : World} {args : Array Value} {v : Value} {ds gs : List (DataW H)}
    (hW : DataW.Whole enc P f.params.toList s.vars apart W args.toList ds gs [])
    (hres : ∀ (b : Nat) (sp : Nat → Bool) (hd : Bool), DataW.TrodAll enc P W' b sp hd f.resultTypes.toList (v.resultList f.resultTypes.size) (s.fn H (ds ++ gs)).results [])
    (hargs : ∀ sp : Nat → Bool, DataW.TrodAll enc P W' 0 sp true f.params.toList args.toList (s.fn H (ds ++ gs)).args [])
    (hvars : ∀ sp : Nat → Bool, DataW.TrodVars enc P W' sp s.vars (s.fn H (ds ++ gs)).vars [])
    (hk : W.keptBut W' (· ∈ ([] : List MemPlace)))
    (hok : ∀ (j : Nat) (t : TypeId) (r : Value), f.resultTypes[j]? = some t → (v.resultList f.resultTypes.size)[j]? = some r → Value.okWide P W' .any 0 t r) :
    s.post enc P f apart fresh handsOn again W args v W' := by
  refine ⟨ds, gs, [], [], [], [], hW, hres _ _ _, hargs _, hvars _, World.keptBut_mono (fun p hp => by cases hp) hk, fun _ => ?_⟩
  refine ⟨hok, _, _, ([] ++ []) ++ [], ⟨[] ++ [], [], trodAll_append (hargs _) (hres _ _ _), hvars _, rfl, ?_, ?_⟩, ?_⟩
  · intro b off hp; cases hp
  · intro ha; exact List.nodup_nil
  · intro p hp _; exact hp
end

set_option maxRecDepth 100000 in
theorem lifted (os : Os) (started : os.Started) (H : Type) (enc : TypeId × Value → H) :
    ReturnsInHanded {} Tryz.checked os 3 .any (fun w args => (Rows.fieldFullSpec.pre enc Tryz.prog Tryz.f3 Rows.fieldFullRow.domain false w args ∧ laidMetH Tryz.prog Rows.fieldFullRow.laid w) ∧ sizedMet enc Tryz.prog Tryz.f3 (OpenSpec.ofChange Rows.fieldFullSpec) false w args)
      (Rows.fieldFullSpec.post enc Tryz.prog Tryz.f3 false true false false) := by
  refine returnsInHanded_of_change_and (C := Tryz.checked) (X := fun w _ => laidMetH Tryz.prog Rows.fieldFullRow.laid w) (fun _ _ _ hh h => h.of_heap hh) own started (by kernel_rfl) Tryz.func3
    (ChangeSpec.witness_shaped (enc := enc) (C := Tryz.checked) (os := os) (X := fun w _ => laidMetH Tryz.prog Rows.fieldFullRow.laid w) false (World.laidAll Tryz.prog os Rows.fieldFullRow.laid) #[.int .u8 0] 8 (World.laidAll_os _ _ _)
      (World.shaped_of_ZipB (by kernel_rfl) (by kernel_rfl)) (by kernel_rfl) (by kernel_rfl) (by kernel_rfl)
      (by rw [MakeChecks.laidMetH_plain _ _ _ (by kernel_rfl)]; exact laidMet_laidAll _ (by kernel_rfl) (by kernel_rfl))) ?_
  intro W base args ds gs before hval0 hW hc _ hL _
  have hval : ∀ (j : Nat) t v, Tryz.f3.params[j]? = some t → args[j]? = some v → Value.okWide Tryz.prog W .any base t v := hval0
  have hW' := hW
  obtain ⟨p, q, hA0, hV, rfl, _, _⟩ := hW
  have hA : DataW.TrodAll enc Tryz.prog W 0 (fun _ => true) true Tryz.f3.params.toList args.toList ds p := hA0
  rw [Tryz.params3] at hA hval
  obtain ⟨v0, d0, rfl, rfl, h0⟩ := trodAll_one hA
  obtain ⟨rfl, rfl⟩ := trodVars_none hV
  obtain ⟨x, rfl, rfl, rfl, wx⟩ := open_int Tryz.underlying5 (hval 0 5 v0 rfl rfl) h0
  have hx : 0 ≤ x ∧ x ≤ 255 := by
    have h := wx
    simp [Lit.wf] at h
    exact h
  obtain ⟨r, rfl⟩ : ∃ r : Nat, x = Int.ofNat r := ⟨x.toNat, by have := hx.1; show x = ((x.toNat : Nat) : Int); omega⟩
  have hr : r < 256 := by
    have := hx.2
    have : ((r : Nat) : Int) ≤ 255 := this
    omega
  simp only [List.append_nil] at hW'
  refine (ff_sum hr W).mono fun e W' h => ?_
  cases e with
  | returned v =>
    obtain ⟨rfl, hext⟩ := h
    exact ⟨_, rfl, post_plain hW' (fun _ _ _ => trodAll_mk1 (shut_bool Tryz.underlying4 _)) (fun sp => trodAll_mk1 (shut_int Tryz.underlying5 wx)) (fun _ => rfl) (ext_kept hext _) (ok_one (by kernel_rfl) rfl (okWide_bool_mk Tryz.underlying4 _))⟩
  | _ => exact h.elim

end Go.Proofs.YthbkkpahoolhbaaGreatDoor

