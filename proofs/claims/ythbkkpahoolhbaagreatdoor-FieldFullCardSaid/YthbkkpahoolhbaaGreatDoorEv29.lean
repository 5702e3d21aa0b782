import Derived.Test.YthbkkpahoolhbaaGreatDoorEv28
import Derived.Test.YthbkkpahoolhbaaGreatDoorEv17
set_option linter.unusedSimpArgs false
set_option linter.unusedVariables false
set_option linter.unusedSectionVars false
namespace Go.E.FF
open Go.Proofs
set_option maxRecDepth 100000
theorem body137 : hasBody Tryz.prog 137 = true := by kernel_rfl
theorem body139 : hasBody Tryz.prog 139 = true := by kernel_rfl
theorem body140 : hasBody Tryz.prog 140 = true := by kernel_rfl
theorem body100 : hasBody Tryz.prog 100 = true := by kernel_rfl
theorem body101 : hasBody Tryz.prog 101 = true := by kernel_rfl
theorem body57 : hasBody Tryz.prog 57 = true := by kernel_rfl
theorem agg65 : aggT Tryz.prog 65 = some false := by kernel_rfl
theorem siz65 : siz Tryz.prog 65 = some 1 := by kernel_rfl
theorem agg182 : aggT Tryz.prog 182 = some false := by kernel_rfl
theorem siz182 : siz Tryz.prog 182 = some 1 := by kernel_rfl
theorem zer182 : zer Tryz.prog 182 = some .nilFunc := by kernel_rfl
/-- a good name -/
def GoodId (nm : ByteArray) : Prop := (bytes nm).length ≤ 40 ∧ (∀ j c, (bytes nm)[j]? = some c → letB c = true ∨ (j ≠ 0 ∧ digB c = true)) ∧ seq nm ⟨⟨[]⟩⟩ = false ∧
  seq nm ⟨⟨[97, 110, 100]⟩⟩ = false ∧ seq nm ⟨⟨[111, 114]⟩⟩ = false ∧ seq nm ⟨⟨[110, 111, 116]⟩⟩ = false ∧ seq nm ⟨⟨[116, 114, 117, 101]⟩⟩ = false ∧ seq nm ⟨⟨[102, 97, 108, 115, 101]⟩⟩ = false
section
variable {X : Ctx}
theorem good_ident {nm : ByteArray} {s : ES} (h : GoodId nm) : Exq Tryz.prog X (.call 139 [.string nm] .no) s (fun o => o = .ret (.bool true) .no s) :=
  ident_ok h.2.1 (Nat.lt_of_le_of_lt h.1 (by decide)) h.2.2.1
theorem good_res {nm : ByteArray} {s : ES} (h : GoodId nm) : Exq Tryz.prog X (.call 140 [.string nm] .no) s (fun o => o = .ret (.bool false) .no s) :=
  reserved_no h.2.2.2.1 h.2.2.2.2.1 h.2.2.2.2.2.1 h.2.2.2.2.2.2.1 h.2.2.2.2.2.2.2
variable (hx137 : X.x 137 = 0) (hx139 : X.x 139 = 0) (hx140 : X.x 140 = 0)
include hx137 hx139 hx140
theorem check_ident {nm : ByteArray} {st : Tr EObj} {n : Nat} {lg : List Nat} (hG : GoodId nm) :
    Exq Tryz.prog X (.call 101 [.agg ⟨[.int .i64 4, .int .i64 0, .string nm, .slice none 0 0]⟩] .no) ⟨st, n, lg⟩ (fun o => ∃ st' n' lg', o = .ret (.int .i64 0) .no ⟨st', n', lg'⟩ ∧ n ≤ n' ∧ ∀ m, m < n → st'.get m = st.get m) := by
  refine ex_callK Tryz.func101 rfl rfl rfl fun a K => ?_
  show Exq _ _ _ _ _
  repeat refine ex_seq ?_
  refine ex_region ?_
  refine g_box K rfl rfl rfl fun a K => ?_
  refine g_assign K rfl rfl fun a K => ?_
  refine g_end ?_
  show Exq _ _ _ _ _
  repeat refine ex_seq ?_
  refine ex_draw (by kernel_rfl) ?_
  refine d_loc (ns := []) K rfl rfl (e_fieldAddr K rfl (fa67_0 _)) rfl (by repeat (first | exact hist_nil | refine hist_rec (by simp (disch := omega) only [rec_ff, rec_ft, rec_tf, made_nil, made_cons, made_f, meets_nil, meets_cons, hasN_nil, hasN_cons, nbeq_ne, Bool.or_false, Bool.not_false, Bool.and_self]) ?_ | refine hist_ord (by kernel_rfl) ?_)) fun a K => ?_
  refine d_loc K rfl rfl (e_load1 K rfl agg3 siz3 (by repeat (first | exact get_upd_eq _ _ _ | assumption | refine (get_upd_ne _ _ (by omega)).trans ?_)) rfl) (n_load K rfl) (by repeat (first | exact hist_nil | refine hist_rec (by simp (disch := omega) only [rec_ff, rec_ft, rec_tf, made_nil, made_cons, made_f, meets_nil, meets_cons, hasN_nil, hasN_cons, nbeq_ne, Bool.or_false, Bool.not_false, Bool.and_self]) ?_ | refine hist_ord (by kernel_rfl) ?_)) fun a K => ?_
  refine d_loc (ns := []) K rfl rfl (e_binOp K rfl rfl (rfl)) rfl (by repeat (first | exact hist_nil | refine hist_rec (by simp (disch := omega) only [rec_ff, rec_ft, rec_tf, made_nil, made_cons, made_f, meets_nil, meets_cons, hasN_nil, hasN_cons, nbeq_ne, Bool.or_false, Bool.not_false, Bool.and_self]) ?_ | refine hist_ord (by kernel_rfl) ?_)) fun a K => ?_
  refine d_loc (ns := []) K rfl rfl (e_move K rfl) rfl (by repeat (first | exact hist_nil | refine hist_rec (by simp (disch := omega) only [rec_ff, rec_ft, rec_tf, made_nil, made_cons, made_f, meets_nil, meets_cons, hasN_nil, hasN_cons, nbeq_ne, Bool.or_false, Bool.not_false, Bool.and_self]) ?_ | refine hist_ord (by kernel_rfl) ?_)) fun a K => ?_
  refine d_if K rfl rfl rfl ?_
  refine d_loc (ns := []) K rfl rfl (e_fieldAddr K rfl (fa67_0 _)) rfl (by repeat (first | exact hist_nil | refine hist_rec (by simp (disch := omega) only [rec_ff, rec_ft, rec_tf, made_nil, made_cons, made_f, meets_nil, meets_cons, hasN_nil, hasN_cons, nbeq_ne, Bool.or_false, Bool.not_false, Bool.and_self]) ?_ | refine hist_ord (by kernel_rfl) ?_)) fun a K => ?_
  refine d_if K rfl rfl rfl ?_
  refine d_loc K rfl rfl (e_load1 K rfl agg3 siz3 (by repeat (first | exact get_upd_eq _ _ _ | assumption | refine (get_upd_ne _ _ (by omega)).trans ?_)) rfl) (n_load K rfl) (by repeat (first | exact hist_nil | refine hist_rec (by simp (disch := omega) only [rec_ff, rec_ft, rec_tf, made_nil, made_cons, made_f, meets_nil, meets_cons, hasN_nil, hasN_cons, nbeq_ne, Bool.or_false, Bool.not_false, Bool.and_self]) ?_ | refine hist_ord (by kernel_rfl) ?_)) fun a K => ?_
  refine d_if K rfl rfl rfl ?_
  refine d_loc (ns := []) K rfl rfl (e_binOp K rfl rfl (rfl)) rfl (by repeat (first | exact hist_nil | refine hist_rec (by simp (disch := omega) only [rec_ff, rec_ft, rec_tf, made_nil, made_cons, made_f, meets_nil, meets_cons, hasN_nil, hasN_cons, nbeq_ne, Bool.or_false, Bool.not_false, Bool.and_self]) ?_ | refine hist_ord (by kernel_rfl) ?_)) fun a K => ?_
  refine d_loc (ns := []) K rfl rfl (e_pick K rfl rfl) rfl (by repeat (first | exact hist_nil | refine hist_rec (by simp (disch := omega) only [rec_ff, rec_ft, rec_tf, made_nil, made_cons, made_f, meets_nil, meets_cons, hasN_nil, hasN_cons, nbeq_ne, Bool.or_false, Bool.not_false, Bool.and_self]) ?_ | refine hist_ord (by kernel_rfl) ?_)) fun a K => ?_
  refine d_loc (ns := []) K rfl rfl (e_fieldAddr K rfl (fa67_0 _)) rfl (by repeat (first | exact hist_nil | refine hist_rec (by simp (disch := omega) only [rec_ff, rec_ft, rec_tf, made_nil, made_cons, made_f, meets_nil, meets_cons, hasN_nil, hasN_cons, nbeq_ne, Bool.or_false, Bool.not_false, Bool.and_self]) ?_ | refine hist_ord (by kernel_rfl) ?_)) fun a K => ?_
  refine d_loc K rfl rfl (e_load1 K rfl agg3 siz3 (by repeat (first | exact get_upd_eq _ _ _ | assumption | refine (get_upd_ne _ _ (by omega)).trans ?_)) rfl) (n_load K rfl) (by repeat (first | exact hist_nil | refine hist_rec (by simp (disch := omega) only [rec_ff, rec_ft, rec_tf, made_nil, made_cons, made_f, meets_nil, meets_cons, hasN_nil, hasN_cons, nbeq_ne, Bool.or_false, Bool.not_false, Bool.and_self]) ?_ | refine hist_ord (by kernel_rfl) ?_)) fun a K => ?_
  refine d_loc (ns := []) K rfl rfl (e_binOp K rfl rfl (rfl)) rfl (by repeat (first | exact hist_nil | refine hist_rec (by simp (disch := omega) only [rec_ff, rec_ft, rec_tf, made_nil, made_cons, made_f, meets_nil, meets_cons, hasN_nil, hasN_cons, nbeq_ne, Bool.or_false, Bool.not_false, Bool.and_self]) ?_ | refine hist_ord (by kernel_rfl) ?_)) fun a K => ?_
  refine d_loc (ns := []) K rfl rfl (e_move K rfl) rfl (by repeat (first | exact hist_nil | refine hist_rec (by simp (disch := omega) only [rec_ff, rec_ft, rec_tf, made_nil, made_cons, made_f, meets_nil, meets_cons, hasN_nil, hasN_cons, nbeq_ne, Bool.or_false, Bool.not_false, Bool.and_self]) ?_ | refine hist_ord (by kernel_rfl) ?_)) fun a K => ?_
  refine d_if K rfl rfl rfl ?_
  refine d_loc (ns := []) K rfl rfl (e_fieldAddr K rfl (fa67_0 _)) rfl (by repeat (first | exact hist_nil | refine hist_rec (by simp (disch := omega) only [rec_ff, rec_ft, rec_tf, made_nil, made_cons, made_f, meets_nil, meets_cons, hasN_nil, hasN_cons, nbeq_ne, Bool.or_false, Bool.not_false, Bool.and_self]) ?_ | refine hist_ord (by kernel_rfl) ?_)) fun a K => ?_
  refine d_if K rfl rfl rfl ?_
  refine d_loc K rfl rfl (e_load1 K rfl agg3 siz3 (by repeat (first | exact get_upd_eq _ _ _ | assumption | refine (get_upd_ne _ _ (by omega)).trans ?_)) rfl) (n_load K rfl) (by repeat (first | exact hist_nil | refine hist_rec (by simp (disch := omega) only [rec_ff, rec_ft, rec_tf, made_nil, made_cons, made_f, meets_nil, meets_cons, hasN_nil, hasN_cons, nbeq_ne, Bool.or_false, Bool.not_false, Bool.and_self]) ?_ | refine hist_ord (by kernel_rfl) ?_)) fun a K => ?_
  refine d_if K rfl rfl rfl ?_
  refine d_loc (ns := []) K rfl rfl (e_binOp K rfl rfl (rfl)) rfl (by repeat (first | exact hist_nil | refine hist_rec (by simp (disch := omega) only [rec_ff, rec_ft, rec_tf, made_nil, made_cons, made_f, meets_nil, meets_cons, hasN_nil, hasN_cons, nbeq_ne, Bool.or_false, Bool.not_false, Bool.and_self]) ?_ | refine hist_ord (by kernel_rfl) ?_)) fun a K => ?_
  refine d_loc (ns := []) K rfl rfl (e_pick K rfl rfl) rfl (by repeat (first | exact hist_nil | refine hist_rec (by simp (disch := omega) only [rec_ff, rec_ft, rec_tf, made_nil, made_cons, made_f, meets_nil, meets_cons, hasN_nil, hasN_cons, nbeq_ne, Bool.or_false, Bool.not_false, Bool.and_self]) ?_ | refine hist_ord (by kernel_rfl) ?_)) fun a K => ?_
  refine d_loc (ns := []) K rfl rfl (e_move K rfl) rfl (by repeat (first | exact hist_nil | refine hist_rec (by simp (disch := omega) only [rec_ff, rec_ft, rec_tf, made_nil, made_cons, made_f, meets_nil, meets_cons, hasN_nil, hasN_cons, nbeq_ne, Bool.or_false, Bool.not_false, Bool.and_self]) ?_ | refine hist_ord (by kernel_rfl) ?_)) fun a K => ?_
  refine d_not K rfl rfl rfl rfl (by repeat (first | exact hist_nil | refine hist_rec (by simp (disch := omega) only [rec_ff, rec_ft, rec_tf, made_nil, made_cons, made_f, meets_nil, meets_cons, hasN_nil, hasN_cons, nbeq_ne, Bool.or_false, Bool.not_false, Bool.and_self]) ?_ | refine hist_ord (by kernel_rfl) ?_)) fun a K => ?_
  refine d_not K rfl rfl rfl rfl (by repeat (first | exact hist_nil | refine hist_rec (by simp (disch := omega) only [rec_ff, rec_ft, rec_tf, made_nil, made_cons, made_f, meets_nil, meets_cons, hasN_nil, hasN_cons, nbeq_ne, Bool.or_false, Bool.not_false, Bool.and_self]) ?_ | refine hist_ord (by kernel_rfl) ?_)) fun a K => ?_
  refine d_not K rfl rfl rfl rfl (by repeat (first | exact hist_nil | refine hist_rec (by simp (disch := omega) only [rec_ff, rec_ft, rec_tf, made_nil, made_cons, made_f, meets_nil, meets_cons, hasN_nil, hasN_cons, nbeq_ne, Bool.or_false, Bool.not_false, Bool.and_self]) ?_ | refine hist_ord (by kernel_rfl) ?_)) fun a K => ?_
  refine d_loc (ns := []) K rfl rfl (e_pick K rfl rfl) rfl (by repeat (first | exact hist_nil | refine hist_rec (by simp (disch := omega) only [rec_ff, rec_ft, rec_tf, made_nil, made_cons, made_f, meets_nil, meets_cons, hasN_nil, hasN_cons, nbeq_ne, Bool.or_false, Bool.not_false, Bool.and_self]) ?_ | refine hist_ord (by kernel_rfl) ?_)) fun a K => ?_
  refine d_loc (ns := []) K rfl rfl (e_assign K rfl) rfl (by repeat (first | exact hist_nil | refine hist_rec (by simp (disch := omega) only [rec_ff, rec_ft, rec_tf, made_nil, made_cons, made_f, meets_nil, meets_cons, hasN_nil, hasN_cons, nbeq_ne, Bool.or_false, Bool.not_false, Bool.and_self]) ?_ | refine hist_ord (by kernel_rfl) ?_)) fun a K => ?_
  refine d_loc (ns := []) K rfl rfl (e_assign K rfl) rfl (by repeat (first | exact hist_nil | refine hist_rec (by simp (disch := omega) only [rec_ff, rec_ft, rec_tf, made_nil, made_cons, made_f, meets_nil, meets_cons, hasN_nil, hasN_cons, nbeq_ne, Bool.or_false, Bool.not_false, Bool.and_self]) ?_ | refine hist_ord (by kernel_rfl) ?_)) fun a K => ?_
  refine d_end ?_
  show Exq _ _ _ _ _
  repeat refine ex_seq ?_
  refine ex_block ?_
  show Exq _ _ _ _ _
  repeat refine ex_seq ?_
  refine ex_region ?_
  refine g_fieldAddr K rfl rfl (fa67_0 _) fun a K => ?_
  refine g_load1 K rfl rfl agg3 siz3 (by repeat (first | exact get_upd_eq _ _ _ | assumption | refine (get_upd_ne _ _ (by omega)).trans ?_)) rfl fun a K => ?_
  refine g_binOp K rfl rfl rfl (rfl) fun a K => ?_
  refine g_move K rfl rfl fun a K => ?_
  refine g_if K rfl rfl rfl ?_
  refine g_fieldAddr K rfl rfl (fa67_0 _) fun a K => ?_
  refine g_if K rfl rfl rfl ?_
  refine g_load1 K rfl rfl agg3 siz3 (by repeat (first | exact get_upd_eq _ _ _ | assumption | refine (get_upd_ne _ _ (by omega)).trans ?_)) rfl fun a K => ?_
  refine g_if K rfl rfl rfl ?_
  refine g_binOp K rfl rfl rfl (rfl) fun a K => ?_
  refine g_pick K rfl rfl rfl fun a K => ?_
  refine g_assign K rfl rfl fun a K => ?_
  refine g_end ?_
  show Exq _ _ _ _ _
  repeat refine ex_seq ?_
  refine k_cond (t := false) K rfl ?_
  show Exq _ _ _ _ _
  repeat refine ex_seq ?_
  refine ex_draw (by kernel_rfl) ?_
  refine d_loc (ns := []) K rfl rfl (e_move K rfl) rfl (by repeat (first | exact hist_nil | refine hist_rec (by simp (disch := omega) only [rec_ff, rec_ft, rec_tf, made_nil, made_cons, made_f, meets_nil, meets_cons, hasN_nil, hasN_cons, nbeq_ne, Bool.or_false, Bool.not_false, Bool.and_self]) ?_ | refine hist_ord (by kernel_rfl) ?_)) fun a K => ?_
  refine d_loc (ns := []) K rfl rfl (e_unOp K rfl rfl) rfl (by repeat (first | exact hist_nil | refine hist_rec (by simp (disch := omega) only [rec_ff, rec_ft, rec_tf, made_nil, made_cons, made_f, meets_nil, meets_cons, hasN_nil, hasN_cons, nbeq_ne, Bool.or_false, Bool.not_false, Bool.and_self]) ?_ | refine hist_ord (by kernel_rfl) ?_)) fun a K => ?_
  refine d_loc (ns := []) K rfl rfl (e_move K rfl) rfl (by repeat (first | exact hist_nil | refine hist_rec (by simp (disch := omega) only [rec_ff, rec_ft, rec_tf, made_nil, made_cons, made_f, meets_nil, meets_cons, hasN_nil, hasN_cons, nbeq_ne, Bool.or_false, Bool.not_false, Bool.and_self]) ?_ | refine hist_ord (by kernel_rfl) ?_)) fun a K => ?_
  refine d_if K rfl rfl rfl ?_
  refine d_loc (ns := []) K rfl rfl (e_fieldAddr K rfl (fa67_1 _)) rfl (by repeat (first | exact hist_nil | refine hist_rec (by simp (disch := omega) only [rec_ff, rec_ft, rec_tf, made_nil, made_cons, made_f, meets_nil, meets_cons, hasN_nil, hasN_cons, nbeq_ne, Bool.or_false, Bool.not_false, Bool.and_self]) ?_ | refine hist_ord (by kernel_rfl) ?_)) fun a K => ?_
  refine d_if K rfl rfl rfl ?_
  refine d_loc K rfl rfl (e_load1 K rfl agg3 siz3 (by repeat (first | exact get_upd_eq _ _ _ | assumption | refine (get_upd_ne _ _ (by omega)).trans ?_)) rfl) (n_load K rfl) (by repeat (first | exact hist_nil | refine hist_rec (by simp (disch := omega) only [rec_ff, rec_ft, rec_tf, made_nil, made_cons, made_f, meets_nil, meets_cons, hasN_nil, hasN_cons, nbeq_ne, Bool.or_false, Bool.not_false, Bool.and_self]) ?_ | refine hist_ord (by kernel_rfl) ?_)) fun a K => ?_
  refine d_if K rfl rfl rfl ?_
  refine d_loc (ns := []) K rfl rfl (e_binOp K rfl rfl (rfl)) rfl (by repeat (first | exact hist_nil | refine hist_rec (by simp (disch := omega) only [rec_ff, rec_ft, rec_tf, made_nil, made_cons, made_f, meets_nil, meets_cons, hasN_nil, hasN_cons, nbeq_ne, Bool.or_false, Bool.not_false, Bool.and_self]) ?_ | refine hist_ord (by kernel_rfl) ?_)) fun a K => ?_
  refine d_loc (ns := []) K rfl rfl (e_pick K rfl rfl) rfl (by repeat (first | exact hist_nil | refine hist_rec (by simp (disch := omega) only [rec_ff, rec_ft, rec_tf, made_nil, made_cons, made_f, meets_nil, meets_cons, hasN_nil, hasN_cons, nbeq_ne, Bool.or_false, Bool.not_false, Bool.and_self]) ?_ | refine hist_ord (by kernel_rfl) ?_)) fun a K => ?_
  refine d_loc (ns := []) K rfl rfl (e_move K rfl) rfl (by repeat (first | exact hist_nil | refine hist_rec (by simp (disch := omega) only [rec_ff, rec_ft, rec_tf, made_nil, made_cons, made_f, meets_nil, meets_cons, hasN_nil, hasN_cons, nbeq_ne, Bool.or_false, Bool.not_false, Bool.and_self]) ?_ | refine hist_ord (by kernel_rfl) ?_)) fun a K => ?_
  refine d_if K rfl rfl rfl ?_
  refine d_loc (ns := []) K rfl rfl (e_move K rfl) rfl (by repeat (first | exact hist_nil | refine hist_rec (by simp (disch := omega) only [rec_ff, rec_ft, rec_tf, made_nil, made_cons, made_f, meets_nil, meets_cons, hasN_nil, hasN_cons, nbeq_ne, Bool.or_false, Bool.not_false, Bool.and_self]) ?_ | refine hist_ord (by kernel_rfl) ?_)) fun a K => ?_
  refine d_if K rfl rfl rfl ?_
  refine d_loc (ns := []) K rfl rfl (e_unOp K rfl rfl) rfl (by repeat (first | exact hist_nil | refine hist_rec (by simp (disch := omega) only [rec_ff, rec_ft, rec_tf, made_nil, made_cons, made_f, meets_nil, meets_cons, hasN_nil, hasN_cons, nbeq_ne, Bool.or_false, Bool.not_false, Bool.and_self]) ?_ | refine hist_ord (by kernel_rfl) ?_)) fun a K => ?_
  refine d_if K rfl rfl rfl ?_
  refine d_loc (ns := []) K rfl rfl (e_move K rfl) rfl (by repeat (first | exact hist_nil | refine hist_rec (by simp (disch := omega) only [rec_ff, rec_ft, rec_tf, made_nil, made_cons, made_f, meets_nil, meets_cons, hasN_nil, hasN_cons, nbeq_ne, Bool.or_false, Bool.not_false, Bool.and_self]) ?_ | refine hist_ord (by kernel_rfl) ?_)) fun a K => ?_
  refine d_not K rfl rfl rfl rfl (by repeat (first | exact hist_nil | refine hist_rec (by simp (disch := omega) only [rec_ff, rec_ft, rec_tf, made_nil, made_cons, made_f, meets_nil, meets_cons, hasN_nil, hasN_cons, nbeq_ne, Bool.or_false, Bool.not_false, Bool.and_self]) ?_ | refine hist_ord (by kernel_rfl) ?_)) fun a K => ?_
  refine d_not K rfl rfl rfl rfl (by repeat (first | exact hist_nil | refine hist_rec (by simp (disch := omega) only [rec_ff, rec_ft, rec_tf, made_nil, made_cons, made_f, meets_nil, meets_cons, hasN_nil, hasN_cons, nbeq_ne, Bool.or_false, Bool.not_false, Bool.and_self]) ?_ | refine hist_ord (by kernel_rfl) ?_)) fun a K => ?_
  refine d_not K rfl rfl rfl rfl (by repeat (first | exact hist_nil | refine hist_rec (by simp (disch := omega) only [rec_ff, rec_ft, rec_tf, made_nil, made_cons, made_f, meets_nil, meets_cons, hasN_nil, hasN_cons, nbeq_ne, Bool.or_false, Bool.not_false, Bool.and_self]) ?_ | refine hist_ord (by kernel_rfl) ?_)) fun a K => ?_
  refine d_if K rfl rfl rfl ?_
  refine d_loc (ns := []) K rfl rfl (e_pick K rfl rfl) rfl (by repeat (first | exact hist_nil | refine hist_rec (by simp (disch := omega) only [rec_ff, rec_ft, rec_tf, made_nil, made_cons, made_f, meets_nil, meets_cons, hasN_nil, hasN_cons, nbeq_ne, Bool.or_false, Bool.not_false, Bool.and_self]) ?_ | refine hist_ord (by kernel_rfl) ?_)) fun a K => ?_
  refine d_loc (ns := []) K rfl rfl (e_pick K rfl rfl) rfl (by repeat (first | exact hist_nil | refine hist_rec (by simp (disch := omega) only [rec_ff, rec_ft, rec_tf, made_nil, made_cons, made_f, meets_nil, meets_cons, hasN_nil, hasN_cons, nbeq_ne, Bool.or_false, Bool.not_false, Bool.and_self]) ?_ | refine hist_ord (by kernel_rfl) ?_)) fun a K => ?_
  refine d_loc (ns := []) K rfl rfl (e_move K rfl) rfl (by repeat (first | exact hist_nil | refine hist_rec (by simp (disch := omega) only [rec_ff, rec_ft, rec_tf, made_nil, made_cons, made_f, meets_nil, meets_cons, hasN_nil, hasN_cons, nbeq_ne, Bool.or_false, Bool.not_false, Bool.and_self]) ?_ | refine hist_ord (by kernel_rfl) ?_)) fun a K => ?_
  refine d_if K rfl rfl rfl ?_
  refine d_loc (ns := []) K rfl rfl (e_fieldAddr K rfl (fa67_0 _)) rfl (by repeat (first | exact hist_nil | refine hist_rec (by simp (disch := omega) only [rec_ff, rec_ft, rec_tf, made_nil, made_cons, made_f, meets_nil, meets_cons, hasN_nil, hasN_cons, nbeq_ne, Bool.or_false, Bool.not_false, Bool.and_self]) ?_ | refine hist_ord (by kernel_rfl) ?_)) fun a K => ?_
  refine d_if K rfl rfl rfl ?_
  refine d_loc K rfl rfl (e_load1 K rfl agg3 siz3 (by repeat (first | exact get_upd_eq _ _ _ | assumption | refine (get_upd_ne _ _ (by omega)).trans ?_)) rfl) (n_load K rfl) (by repeat (first | exact hist_nil | refine hist_rec (by simp (disch := omega) only [rec_ff, rec_ft, rec_tf, made_nil, made_cons, made_f, meets_nil, meets_cons, hasN_nil, hasN_cons, nbeq_ne, Bool.or_false, Bool.not_false, Bool.and_self]) ?_ | refine hist_ord (by kernel_rfl) ?_)) fun a K => ?_
  refine d_if K rfl rfl rfl ?_
  refine d_loc (ns := []) K rfl rfl (e_binOp K rfl rfl (rfl)) rfl (by repeat (first | exact hist_nil | refine hist_rec (by simp (disch := omega) only [rec_ff, rec_ft, rec_tf, made_nil, made_cons, made_f, meets_nil, meets_cons, hasN_nil, hasN_cons, nbeq_ne, Bool.or_false, Bool.not_false, Bool.and_self]) ?_ | refine hist_ord (by kernel_rfl) ?_)) fun a K => ?_
  refine d_if K rfl rfl rfl ?_
  refine d_loc (ns := []) K rfl rfl (e_move K rfl) rfl (by repeat (first | exact hist_nil | refine hist_rec (by simp (disch := omega) only [rec_ff, rec_ft, rec_tf, made_nil, made_cons, made_f, meets_nil, meets_cons, hasN_nil, hasN_cons, nbeq_ne, Bool.or_false, Bool.not_false, Bool.and_self]) ?_ | refine hist_ord (by kernel_rfl) ?_)) fun a K => ?_
  refine d_if K rfl rfl rfl ?_
  refine d_loc (ns := []) K rfl rfl (e_fieldAddr K rfl (fa67_3 _)) rfl (by repeat (first | exact hist_nil | refine hist_rec (by simp (disch := omega) only [rec_ff, rec_ft, rec_tf, made_nil, made_cons, made_f, meets_nil, meets_cons, hasN_nil, hasN_cons, nbeq_ne, Bool.or_false, Bool.not_false, Bool.and_self]) ?_ | refine hist_ord (by kernel_rfl) ?_)) fun a K => ?_
  refine d_if K rfl rfl rfl ?_
  refine d_loc K rfl rfl (e_load1 K rfl agg65 siz65 (by repeat (first | exact get_upd_eq _ _ _ | assumption | refine (get_upd_ne _ _ (by omega)).trans ?_)) rfl) (n_load K rfl) (by repeat (first | exact hist_nil | refine hist_rec (by simp (disch := omega) only [rec_ff, rec_ft, rec_tf, made_nil, made_cons, made_f, meets_nil, meets_cons, hasN_nil, hasN_cons, nbeq_ne, Bool.or_false, Bool.not_false, Bool.and_self]) ?_ | refine hist_ord (by kernel_rfl) ?_)) fun a K => ?_
  refine d_if K rfl rfl rfl ?_
  refine d_loc K rfl rfl (e_builtin K rfl (rfl)) (n_len K rfl) (by repeat (first | exact hist_nil | refine hist_rec (by simp (disch := omega) only [rec_ff, rec_ft, rec_tf, made_nil, made_cons, made_f, meets_nil, meets_cons, hasN_nil, hasN_cons, nbeq_ne, Bool.or_false, Bool.not_false, Bool.and_self]) ?_ | refine hist_ord (by kernel_rfl) ?_)) fun a K => ?_
  refine d_if K rfl rfl rfl ?_
  refine d_loc (ns := []) K rfl rfl (e_fieldAddr K rfl (fa67_0 _)) rfl (by repeat (first | exact hist_nil | refine hist_rec (by simp (disch := omega) only [rec_ff, rec_ft, rec_tf, made_nil, made_cons, made_f, meets_nil, meets_cons, hasN_nil, hasN_cons, nbeq_ne, Bool.or_false, Bool.not_false, Bool.and_self]) ?_ | refine hist_ord (by kernel_rfl) ?_)) fun a K => ?_
  refine d_if K rfl rfl rfl ?_
  refine d_loc K rfl rfl (e_load1 K rfl agg3 siz3 (by repeat (first | exact get_upd_eq _ _ _ | assumption | refine (get_upd_ne _ _ (by omega)).trans ?_)) rfl) (n_load K rfl) (by repeat (first | exact hist_nil | refine hist_rec (by simp (disch := omega) only [rec_ff, rec_ft, rec_tf, made_nil, made_cons, made_f, meets_nil, meets_cons, hasN_nil, hasN_cons, nbeq_ne, Bool.or_false, Bool.not_false, Bool.and_self]) ?_ | refine hist_ord (by kernel_rfl) ?_)) fun a K => ?_
  refine d_if K rfl rfl rfl ?_
  refine d_call K rfl rfl rfl hx137 body137 ((arity4 (X := X)).run) (by repeat (first | exact hist_nil | refine hist_rec (by simp (disch := omega) only [rec_ff, rec_ft, rec_tf, made_nil, made_cons, made_f, meets_nil, meets_cons, hasN_nil, hasN_cons, nbeq_ne, Bool.or_false, Bool.not_false, Bool.and_self]) ?_ | refine hist_ord (by kernel_rfl) ?_)) fun a K => ?_
  refine d_if K rfl rfl rfl ?_
  refine d_loc (ns := []) K rfl rfl (e_binOp K rfl rfl (rfl)) rfl (by repeat (first | exact hist_nil | refine hist_rec (by simp (disch := omega) only [rec_ff, rec_ft, rec_tf, made_nil, made_cons, made_f, meets_nil, meets_cons, hasN_nil, hasN_cons, nbeq_ne, Bool.or_false, Bool.not_false, Bool.and_self]) ?_ | refine hist_ord (by kernel_rfl) ?_)) fun a K => ?_
  refine d_if K rfl rfl rfl ?_
  refine d_loc (ns := []) K rfl rfl (e_pick K rfl rfl) rfl (by repeat (first | exact hist_nil | refine hist_rec (by simp (disch := omega) only [rec_ff, rec_ft, rec_tf, made_nil, made_cons, made_f, meets_nil, meets_cons, hasN_nil, hasN_cons, nbeq_ne, Bool.or_false, Bool.not_false, Bool.and_self]) ?_ | refine hist_ord (by kernel_rfl) ?_)) fun a K => ?_
  refine d_loc (ns := []) K rfl rfl (e_pick K rfl rfl) rfl (by repeat (first | exact hist_nil | refine hist_rec (by simp (disch := omega) only [rec_ff, rec_ft, rec_tf, made_nil, made_cons, made_f, meets_nil, meets_cons, hasN_nil, hasN_cons, nbeq_ne, Bool.or_false, Bool.not_false, Bool.and_self]) ?_ | refine hist_ord (by kernel_rfl) ?_)) fun a K => ?_
  refine d_loc (ns := []) K rfl rfl (e_assign K rfl) rfl (by repeat (first | exact hist_nil | refine hist_rec (by simp (disch := omega) only [rec_ff, rec_ft, rec_tf, made_nil, made_cons, made_f, meets_nil, meets_cons, hasN_nil, hasN_cons, nbeq_ne, Bool.or_false, Bool.not_false, Bool.and_self]) ?_ | refine hist_ord (by kernel_rfl) ?_)) fun a K => ?_
  refine d_end ?_
  show Exq _ _ _ _ _
  repeat refine ex_seq ?_
  refine k_cond (t := false) K rfl ?_
  refine ex_skip ?_
  (repeat first | rw [seqK_normal] | rw [blockK_normal] | rw [loopK_normal] | rw [seqK_exit] | rw [loopK_exit] | rw [blockK_exit])
  show Exq _ _ _ _ _
  repeat refine ex_seq ?_
  refine ex_region ?_
  refine g_fieldAddr K rfl rfl (fa67_0 _) fun a K => ?_
  refine g_load1 K rfl rfl agg3 siz3 (by repeat (first | exact get_upd_eq _ _ _ | assumption | refine (get_upd_ne _ _ (by omega)).trans ?_)) rfl fun a K => ?_
  refine g_end ?_
  show Exq _ _ _ _ _
  repeat refine ex_seq ?_
  refine ex_block ?_
  show Exq _ _ _ _ _
  repeat refine ex_seq ?_
  refine ex_region ?_
  refine g_binOp K rfl rfl rfl (rfl) fun a K => ?_
  refine g_assign K rfl rfl fun a K => ?_
  refine g_end ?_
  show Exq _ _ _ _ _
  repeat refine ex_seq ?_
  refine k_cond (t := false) K rfl ?_
  show Exq _ _ _ _ _
  repeat refine ex_seq ?_
  refine ex_region ?_
  refine g_binOp K rfl rfl rfl (rfl) fun a K => ?_
  refine g_assign K rfl rfl fun a K => ?_
  refine g_end ?_
  show Exq _ _ _ _ _
  repeat refine ex_seq ?_
  refine k_cond (t := false) K rfl ?_
  show Exq _ _ _ _ _
  repeat refine ex_seq ?_
  refine ex_region ?_
  refine g_binOp K rfl rfl rfl (rfl) fun a K => ?_
  refine g_assign K rfl rfl fun a K => ?_
  refine g_end ?_
  show Exq _ _ _ _ _
  repeat refine ex_seq ?_
  refine k_cond (t := false) K rfl ?_
  show Exq _ _ _ _ _
  repeat refine ex_seq ?_
  refine ex_region ?_
  refine g_binOp K rfl rfl rfl (rfl) fun a K => ?_
  refine g_assign K rfl rfl fun a K => ?_
  refine g_end ?_
  show Exq _ _ _ _ _
  repeat refine ex_seq ?_
  refine k_cond (t := true) K rfl ?_
  show Exq _ _ _ _ _
  repeat refine ex_seq ?_
  refine ex_region ?_
  refine g_fieldAddr K rfl rfl (fa67_2 _) fun a K => ?_
  refine g_load1 K rfl rfl agg9 siz9 (by repeat (first | exact get_upd_eq _ _ _ | assumption | refine (get_upd_ne _ _ (by omega)).trans ?_)) rfl fun a K => ?_
  refine g_callv K rfl rfl rfl hx139 body139 ((good_ident hG).run) fun a K => ?_
  refine g_unOp K rfl rfl rfl fun a K => ?_
  refine g_move K rfl rfl fun a K => ?_
  refine g_if K rfl rfl rfl ?_
  refine g_fieldAddr K rfl rfl (fa67_2 _) fun a K => ?_
  refine g_if K rfl rfl rfl ?_
  refine g_load1 K rfl rfl agg9 siz9 (by repeat (first | exact get_upd_eq _ _ _ | assumption | refine (get_upd_ne _ _ (by omega)).trans ?_)) rfl fun a K => ?_
  refine g_if K rfl rfl rfl ?_
  refine g_callv K rfl rfl rfl hx140 body140 ((good_res hG).run) fun a K => ?_
  refine g_pick K rfl rfl rfl fun a K => ?_
  refine g_move K rfl rfl fun a K => ?_
  refine g_if K rfl rfl rfl ?_
  refine g_fieldAddr K rfl rfl (fa67_2 _) fun a K => ?_
  refine g_if K rfl rfl rfl ?_
  refine g_load1 K rfl rfl agg9 siz9 (by repeat (first | exact get_upd_eq _ _ _ | assumption | refine (get_upd_ne _ _ (by omega)).trans ?_)) rfl fun a K => ?_
  refine g_if K rfl rfl rfl ?_
  refine g_builtin K rfl rfl (rfl) fun a K => ?_
  refine g_if K rfl rfl rfl ?_
  refine g_binOp K rfl rfl rfl (gtr_f (b := 40) hG.1) fun a K => ?_
  refine g_pick K rfl rfl rfl fun a K => ?_
  refine g_end ?_
  show Exq _ _ _ _ _
  repeat refine ex_seq ?_
  refine k_cond (t := false) K rfl ?_
  refine ex_skip ?_
  (repeat first | rw [seqK_normal] | rw [blockK_normal] | rw [loopK_normal] | rw [seqK_exit] | rw [loopK_exit] | rw [blockK_exit])
  show Exq _ _ _ _ _
  repeat refine ex_seq ?_
  refine ex_region ?_
  refine g_assign K rfl rfl fun a K => ?_
  refine g_end ?_
  show Exq _ _ _ _ _
  repeat refine ex_seq ?_
  refine ex_ret ?_
  (repeat first | rw [seqK_ret] | rw [blockK_ret] | rw [loopK_ret])
  refine leave K rfl (res_tmp K rfl res_nil) ?_
  exact ⟨_, _, _, rfl, (by (try dsimp only); omega), (by intro m hm ; (try dsimp only); repeat (first | rfl | refine (get_upd_ne _ _ (by omega)).trans ?_))⟩

end
end Go.E.FF

namespace Go.E.FF
open Go.Proofs
set_option maxRecDepth 100000
section
variable {X : Ctx}
variable (hx137 : X.x 137 = 0) (hx139 : X.x 139 = 0) (hx140 : X.x 140 = 0) (hx101 : X.x 101 = 0)
include hx137 hx139 hx140 hx101
theorem check1_ident {nm : ByteArray} {st : Tr EObj} {n c : Nat} {lg : List Nat} {fv : Value} (hG : GoodId nm) (hc : st.get c = some (.cells [.int .i64 0] 3)) (b1 : c < n) :
    Exq Tryz.prog X (.call 100 [.agg ⟨[.int .i64 4, .int .i64 0, .string nm, .slice none 0 0]⟩, .int .i64 1, .pointer (some ⟨c, 0, none⟩), fv] .no) ⟨st, n, lg⟩ (fun o => ∃ st' n' lg', o = .ret (.int .i64 0) .no ⟨st', n', lg'⟩ ∧ n ≤ n' ∧ ∀ m, m < n → m ≠ c → st'.get m = st.get m) := by
  refine ex_callK Tryz.func100 rfl rfl rfl fun a K => ?_
  show Exq _ _ _ _ _
  repeat refine ex_seq ?_
  refine ex_region ?_
  refine g_box K rfl rfl rfl fun a K => ?_
  refine g_assign K rfl rfl fun a K => ?_
  refine g_end ?_
  show Exq _ _ _ _ _
  repeat refine ex_seq ?_
  refine ex_block ?_
  show Exq _ _ _ _ _
  repeat refine ex_seq ?_
  refine ex_region ?_
  refine g_load1 K rfl rfl agg3 siz3 (by repeat (first | exact get_upd_eq _ _ _ | assumption | refine (get_upd_ne _ _ (by omega)).trans ?_)) rfl fun a K => ?_
  refine g_binOp K rfl rfl rfl (rfl) fun a K => ?_
  refine g_assign K rfl rfl fun a K => ?_
  refine g_end ?_
  show Exq _ _ _ _ _
  repeat refine ex_seq ?_
  refine k_cond (t := false) K rfl ?_
  show Exq _ _ _ _ _
  repeat refine ex_seq ?_
  refine ex_region ?_
  refine g_move K rfl rfl fun a K => ?_
  refine g_binOp K rfl rfl rfl (rfl) fun a K => ?_
  refine g_assign K rfl rfl fun a K => ?_
  refine g_end ?_
  show Exq _ _ _ _ _
  repeat refine ex_seq ?_
  refine k_cond (t := false) K rfl ?_
  refine ex_skip ?_
  (repeat first | rw [seqK_normal] | rw [blockK_normal] | rw [loopK_normal] | rw [seqK_exit] | rw [loopK_exit] | rw [blockK_exit])
  show Exq _ _ _ _ _
  repeat refine ex_seq ?_
  refine ex_region ?_
  refine g_load1 K rfl rfl agg3 siz3 (by repeat (first | exact get_upd_eq _ _ _ | assumption | refine (get_upd_ne _ _ (by omega)).trans ?_)) rfl fun a K => ?_
  refine g_binOp K rfl rfl rfl (rfl) fun a K => ?_
  refine g_store K rfl rfl siz3 rfl (by repeat (first | exact get_upd_eq _ _ _ | assumption | refine (get_upd_ne _ _ (by omega)).trans ?_)) rfl rfl ?_
  refine g_end ?_
  show Exq _ _ _ _ _
  repeat refine ex_seq ?_
  refine ex_region ?_
  refine g_loadA K rfl rfl agg67 siz67 (by repeat (first | exact get_upd_eq _ _ _ | assumption | refine (get_upd_ne _ _ (by omega)).trans ?_)) rfl rfl fun a K => ?_
  refine g_callq K rfl rfl rfl hx101 body101 ((check_ident hx137 hx139 hx140 hG).mono ?_)
  rintro _ ⟨st1, n1, lg1, rfl, hn1, hk⟩
  intro a K
  refine g_assign K rfl rfl fun a K => ?_
  refine g_end ?_
  show Exq _ _ _ _ _
  repeat refine ex_seq ?_
  refine ex_region ?_
  refine g_move K rfl rfl fun a K => ?_
  refine g_binOp K rfl rfl rfl (rfl) fun a K => ?_
  refine g_end ?_
  show Exq _ _ _ _ _
  repeat refine ex_seq ?_
  refine k_cond (t := false) K rfl ?_
  refine ex_skip ?_
  show Exq _ _ _ _ _
  repeat refine ex_seq ?_
  refine ex_region ?_
  refine g_fieldAddr K rfl rfl (fa67_3 _) fun a K => ?_
  refine g_load1 K rfl rfl agg65 siz65 (by repeat (first | exact get_upd_eq _ _ _ | assumption | refine (get_upd_ne _ _ (by omega)).trans ?_ | refine (hk _ (by omega)).trans ?_)) rfl fun a K => ?_
  refine g_builtin K rfl rfl (rfl) fun a K => ?_
  refine g_move K rfl rfl fun a K => ?_
  refine g_end ?_
  show Exq _ _ _ _ _
  repeat refine ex_seq ?_
  refine ex_block ?_
  refine ex_loop ?_
  show Exq _ _ _ _ _
  repeat refine ex_seq ?_
  refine ex_region ?_
  refine g_binOp K rfl rfl rfl (rfl) fun a K => ?_
  refine g_end ?_
  show Exq _ _ _ _ _
  repeat refine ex_seq ?_
  refine k_cond (t := false) K rfl ?_
  refine ex_exit ?_
  (repeat first | rw [seqK_normal] | rw [blockK_normal] | rw [loopK_normal] | rw [seqK_exit] | rw [loopK_exit] | rw [blockK_exit])
  show Exq _ _ _ _ _
  repeat refine ex_seq ?_
  refine ex_region ?_
  refine g_assign K rfl rfl fun a K => ?_
  refine g_end ?_
  show Exq _ _ _ _ _
  repeat refine ex_seq ?_
  refine ex_ret ?_
  (repeat first | rw [seqK_ret] | rw [blockK_ret] | rw [loopK_ret])
  refine leave K rfl (res_tmp K rfl res_nil) ?_
  exact ⟨_, _, _, rfl, (by (try dsimp only); omega), (by intro m hm h0'; (try dsimp only); repeat (first | rfl | refine (get_upd_ne _ _ (by omega)).trans ?_ | refine (hk _ (by omega)).trans ?_))⟩

variable (hx100 : X.x 100 = 0)
include hx100
theorem Check_ident {nm : ByteArray} {st : Tr EObj} {n : Nat} {lg : List Nat} (hG : GoodId nm) :
    Exq Tryz.prog X (.call 57 [.agg ⟨[.int .i64 4, .int .i64 0, .string nm, .slice none 0 0]⟩] .no) ⟨st, n, lg⟩ (fun o => ∃ st' n' lg', o = .ret (.int .i64 0) .no ⟨st', n', lg'⟩ ∧ n ≤ n' ∧ ∀ m, m < n → st'.get m = st.get m) := by
  refine ex_callK Tryz.func57 rfl rfl rfl fun a K => ?_
  show Exq _ _ _ _ _
  repeat refine ex_seq ?_
  refine ex_region ?_
  refine g_box K rfl rfl rfl fun a K => ?_
  refine g_assign K rfl rfl fun a K => ?_
  refine g_end ?_
  show Exq _ _ _ _ _
  repeat refine ex_seq ?_
  refine ex_region ?_
  refine g_alloc K rfl zer3 fun a K => ?_
  refine g_store K rfl rfl siz3 rfl (by repeat (first | exact get_upd_eq _ _ _ | assumption | refine (get_upd_ne _ _ (by omega)).trans ?_)) rfl rfl ?_
  refine g_end ?_
  show Exq _ _ _ _ _
  repeat refine ex_seq ?_
  refine ex_region ?_
  refine g_alloc K rfl zer182 fun a K => ?_
  refine g_end ?_
  show Exq _ _ _ _ _
  repeat refine ex_seq ?_
  refine ex_region ?_
  refine g_makeFunc K rfl rfl rfl fun a K => ?_
  refine g_store K rfl rfl siz182 rfl (by repeat (first | exact get_upd_eq _ _ _ | assumption | refine (get_upd_ne _ _ (by omega)).trans ?_)) rfl rfl ?_
  refine g_end ?_
  show Exq _ _ _ _ _
  repeat refine ex_seq ?_
  refine ex_region ?_
  refine g_load1 K rfl rfl agg182 siz182 (by repeat (first | exact get_upd_eq _ _ _ | assumption | refine (get_upd_ne _ _ (by omega)).trans ?_)) rfl fun a K => ?_
  refine g_loadA K rfl rfl agg67 siz67 (by repeat (first | exact get_upd_eq _ _ _ | assumption | refine (get_upd_ne _ _ (by omega)).trans ?_)) rfl rfl fun a K => ?_
  refine g_callq K rfl rfl rfl hx100 body100 ((check1_ident hx137 hx139 hx140 hx101 hG (by repeat (first | exact get_upd_eq _ _ _ | assumption | refine (get_upd_ne _ _ (by omega)).trans ?_)) (by omega)).mono ?_)
  rintro _ ⟨st1, n1, lg1, rfl, hn1, hk⟩
  intro a K
  refine g_assign K rfl rfl fun a K => ?_
  refine g_end ?_
  show Exq _ _ _ _ _
  repeat refine ex_seq ?_
  refine ex_ret ?_
  (repeat first | rw [seqK_ret] | rw [blockK_ret] | rw [loopK_ret])
  refine leave K rfl (res_tmp K rfl res_nil) ?_
  exact ⟨_, _, _, rfl, (by (try dsimp only); omega), (by intro m hm ; (try dsimp only); repeat (first | rfl | refine (get_upd_ne _ _ (by omega)).trans ?_ | refine (hk _ (by omega) (by omega)).trans ?_))⟩

variable (hx57 : X.x 57 = 0)
include hx57
theorem isIdent {nm : ByteArray} {st : Tr EObj} {n : Nat} {lg : List Nat} (hG : GoodId nm) :
    Exq Tryz.prog X (.call 19 [.string nm] .no) ⟨st, n, lg⟩ (fun o => ∃ st' n' lg', o = .ret (.bool true) .no ⟨st', n', lg'⟩ ∧ n ≤ n' ∧ ∀ m, m < n → st'.get m = st.get m) := by
  refine ex_callK Tryz.func19 rfl rfl rfl fun a K => ?_
  show Exq _ _ _ _ _
  repeat refine ex_seq ?_
  refine ex_region ?_
  refine g_assign K rfl rfl fun a K => ?_
  refine g_end ?_
  show Exq _ _ _ _ _
  repeat refine ex_seq ?_
  refine ex_region ?_
  refine g_move K rfl rfl fun a K => ?_
  refine g_build K rfl rfl (rfl) fun a K => ?_
  refine g_callq K rfl rfl rfl hx57 body57 ((Check_ident hx137 hx139 hx140 hx101 hx100 hG).mono ?_)
  rintro _ ⟨st1, n1, lg1, rfl, hn1, hk⟩
  intro a K
  refine g_binOp K rfl rfl rfl (rfl) fun a K => ?_
  refine g_assign K rfl rfl fun a K => ?_
  refine g_end ?_
  show Exq _ _ _ _ _
  repeat refine ex_seq ?_
  refine ex_ret ?_
  (repeat first | rw [seqK_ret] | rw [blockK_ret] | rw [loopK_ret])
  refine leave K rfl (res_tmp K rfl res_nil) ?_
  exact ⟨_, _, _, rfl, (by (try dsimp only); omega), (by intro m hm ; (try dsimp only); repeat (first | rfl | refine (get_upd_ne _ _ (by omega)).trans ?_ | refine (hk _ (by omega)).trans ?_))⟩

end
end Go.E.FF

