import Derived.Test.YthbkkpahoolhbaaGreatDoorEv15
import Derived.Test.YthbkkpahoolhbaaGreatDoorEv22
import Derived.Test.YthbkkpahoolhbaaGreatDoorEv16
set_option linter.unusedSimpArgs false
set_option linter.unusedVariables false
set_option linter.unusedSectionVars false
namespace Go.E.FF
open Go.Proofs
theorem agg3 : aggT Tryz.prog 3 = some false := by kernel_rfl
theorem siz3 : siz Tryz.prog 3 = some 1 := by kernel_rfl
theorem agg4 : aggT Tryz.prog 4 = some false := by kernel_rfl
theorem siz4 : siz Tryz.prog 4 = some 1 := by kernel_rfl
theorem agg9 : aggT Tryz.prog 9 = some false := by kernel_rfl
theorem siz9 : siz Tryz.prog 9 = some 1 := by kernel_rfl
theorem agg22 : aggT Tryz.prog 22 = some false := by kernel_rfl
theorem siz22 : siz Tryz.prog 22 = some 1 := by kernel_rfl
theorem agg25 : aggT Tryz.prog 25 = some false := by kernel_rfl
theorem siz25 : siz Tryz.prog 25 = some 1 := by kernel_rfl
theorem agg29 : aggT Tryz.prog 29 = some true := by kernel_rfl
theorem siz29 : siz Tryz.prog 29 = some 3 := by kernel_rfl
theorem agg32 : aggT Tryz.prog 32 = some false := by kernel_rfl
theorem siz32 : siz Tryz.prog 32 = some 1 := by kernel_rfl
theorem agg38 : aggT Tryz.prog 38 = some false := by kernel_rfl
theorem siz38 : siz Tryz.prog 38 = some 1 := by kernel_rfl
theorem agg39 : aggT Tryz.prog 39 = some false := by kernel_rfl
theorem siz39 : siz Tryz.prog 39 = some 1 := by kernel_rfl
theorem agg41 : aggT Tryz.prog 41 = some true := by kernel_rfl
theorem siz41 : siz Tryz.prog 41 = some 3 := by kernel_rfl
theorem agg67 : aggT Tryz.prog 67 = some true := by kernel_rfl
theorem siz67 : siz Tryz.prog 67 = some 4 := by kernel_rfl
theorem agg83 : aggT Tryz.prog 83 = some true := by kernel_rfl
theorem siz83 : siz Tryz.prog 83 = some 4 := by kernel_rfl
theorem agg84 : aggT Tryz.prog 84 = some false := by kernel_rfl
theorem siz84 : siz Tryz.prog 84 = some 1 := by kernel_rfl
theorem agg92 : aggT Tryz.prog 92 = some false := by kernel_rfl
theorem siz92 : siz Tryz.prog 92 = some 1 := by kernel_rfl
theorem agg148 : aggT Tryz.prog 148 = some false := by kernel_rfl
theorem siz148 : siz Tryz.prog 148 = some 1 := by kernel_rfl
theorem agg150 : aggT Tryz.prog 150 = some false := by kernel_rfl
theorem siz150 : siz Tryz.prog 150 = some 1 := by kernel_rfl
theorem agg152 : aggT Tryz.prog 152 = some true := by kernel_rfl
theorem siz152 : siz Tryz.prog 152 = some 3 := by kernel_rfl
theorem agg190 : aggT Tryz.prog 190 = some false := by kernel_rfl
theorem siz190 : siz Tryz.prog 190 = some 1 := by kernel_rfl
theorem fa41_0 (b : Nat) : eFieldAddr Tryz.prog 41 (.pointer (some ⟨b, 0, none⟩)) 0 = some (.pointer (some ⟨b, 0, none⟩)) := by kernel_rfl
theorem fa41_1 (b : Nat) : eFieldAddr Tryz.prog 41 (.pointer (some ⟨b, 0, none⟩)) 1 = some (.pointer (some ⟨b, 1, none⟩)) := by kernel_rfl
theorem fa41_2 (b : Nat) : eFieldAddr Tryz.prog 41 (.pointer (some ⟨b, 0, none⟩)) 2 = some (.pointer (some ⟨b, 2, none⟩)) := by kernel_rfl
theorem fa152_0 (b : Nat) : eFieldAddr Tryz.prog 152 (.pointer (some ⟨b, 0, none⟩)) 0 = some (.pointer (some ⟨b, 0, none⟩)) := by kernel_rfl
theorem fa152_1 (b : Nat) : eFieldAddr Tryz.prog 152 (.pointer (some ⟨b, 0, none⟩)) 1 = some (.pointer (some ⟨b, 1, none⟩)) := by kernel_rfl
theorem fa152_2 (b : Nat) : eFieldAddr Tryz.prog 152 (.pointer (some ⟨b, 0, none⟩)) 2 = some (.pointer (some ⟨b, 2, none⟩)) := by kernel_rfl
theorem fa83_0 (b : Nat) : eFieldAddr Tryz.prog 83 (.pointer (some ⟨b, 0, none⟩)) 0 = some (.pointer (some ⟨b, 0, none⟩)) := by kernel_rfl
theorem fa83_1 (b : Nat) : eFieldAddr Tryz.prog 83 (.pointer (some ⟨b, 0, none⟩)) 1 = some (.pointer (some ⟨b, 3, none⟩)) := by kernel_rfl
theorem fa29_0 (b : Nat) : eFieldAddr Tryz.prog 29 (.pointer (some ⟨b, 0, none⟩)) 0 = some (.pointer (some ⟨b, 0, none⟩)) := by kernel_rfl
theorem fa29_1 (b : Nat) : eFieldAddr Tryz.prog 29 (.pointer (some ⟨b, 0, none⟩)) 1 = some (.pointer (some ⟨b, 1, none⟩)) := by kernel_rfl
theorem fa29_2 (b : Nat) : eFieldAddr Tryz.prog 29 (.pointer (some ⟨b, 0, none⟩)) 2 = some (.pointer (some ⟨b, 2, none⟩)) := by kernel_rfl
theorem fa67_0 (b : Nat) : eFieldAddr Tryz.prog 67 (.pointer (some ⟨b, 0, none⟩)) 0 = some (.pointer (some ⟨b, 0, none⟩)) := by kernel_rfl
theorem fa67_1 (b : Nat) : eFieldAddr Tryz.prog 67 (.pointer (some ⟨b, 0, none⟩)) 1 = some (.pointer (some ⟨b, 1, none⟩)) := by kernel_rfl
theorem fa67_2 (b : Nat) : eFieldAddr Tryz.prog 67 (.pointer (some ⟨b, 0, none⟩)) 2 = some (.pointer (some ⟨b, 2, none⟩)) := by kernel_rfl
theorem fa67_3 (b : Nat) : eFieldAddr Tryz.prog 67 (.pointer (some ⟨b, 0, none⟩)) 3 = some (.pointer (some ⟨b, 3, none⟩)) := by kernel_rfl
theorem zer67 : zer Tryz.prog 67 = some (.agg #[.int .i64 0, .int .i64 0, .string ⟨⟨[]⟩⟩, .slice none 0 0]) := by kernel_rfl
theorem zer29 : zer Tryz.prog 29 = some (.agg #[.int .i64 0, .int .i64 0, .string ⟨⟨[]⟩⟩]) := by kernel_rfl
theorem zer83 : zer Tryz.prog 83 = some (.agg #[.int .i64 0, .int .i64 0, .string ⟨⟨[]⟩⟩, .int .i64 0]) := by kernel_rfl
theorem zer84 : zer Tryz.prog 84 = some (.pointer none) := by kernel_rfl
theorem zer92 : zer Tryz.prog 92 = some (.map none) := by kernel_rfl
theorem zer3 : zer Tryz.prog 3 = some (.int .i64 0) := by kernel_rfl
theorem zer4 : zer Tryz.prog 4 = some (.bool false) := by kernel_rfl
theorem zer32 : zer Tryz.prog 32 = some (.slice none 0 0) := by kernel_rfl
theorem body6 : hasBody Tryz.prog 6 = true := by kernel_rfl
theorem body7 : hasBody Tryz.prog 7 = true := by kernel_rfl
theorem body9 : hasBody Tryz.prog 9 = true := by kernel_rfl
theorem body21 : hasBody Tryz.prog 21 = true := by kernel_rfl
theorem body22 : hasBody Tryz.prog 22 = true := by kernel_rfl
theorem body23 : hasBody Tryz.prog 23 = true := by kernel_rfl
theorem body24 : hasBody Tryz.prog 24 = true := by kernel_rfl
theorem body30 : hasBody Tryz.prog 30 = true := by kernel_rfl
theorem body14 : hasBody Tryz.prog 14 = true := by kernel_rfl
theorem body38 : hasBody Tryz.prog 38 = true := by kernel_rfl
theorem body39 : hasBody Tryz.prog 39 = true := by kernel_rfl
theorem body37 : hasBody Tryz.prog 37 = true := by kernel_rfl
theorem body65 : hasBody Tryz.prog 65 = true := by kernel_rfl
theorem body66 : hasBody Tryz.prog 66 = true := by kernel_rfl
theorem body63 : hasBody Tryz.prog 63 = true := by kernel_rfl
theorem body4 : hasBody Tryz.prog 4 = true := by kernel_rfl
end Go.E.FF

namespace Go.E.FF
open Go.Proofs
set_option maxRecDepth 100000
variable {X : Ctx}
theorem b152 (sh a b : Nat) : eBuild Tryz.prog 152 [(0, .pointer (some ⟨sh, 0, none⟩)), (1, .map (some a)), (2, .map (some b))] = some (.agg ⟨[.pointer (some ⟨sh, 0, none⟩), .map (some a), .map (some b)]⟩) := by kernel_rfl

theorem begin_run {st : Tr EObj} {n : Nat} {lg : List Nat} (sh : Nat) : Exq Tryz.prog X (.call 23 [.pointer (some ⟨sh, 0, none⟩)] .no) ⟨st, n, lg⟩ (· = .ret (.pointer (some ⟨n + 1 + 1, 0, none⟩)) .no
    ⟨((st.upd n (some (.map [] 0))).upd (n + 1) (some (.map [] 0))).upd (n + 1 + 1) (some (.cells [.pointer (some ⟨sh, 0, none⟩), .map (some n), .map (some (n + 1))] 152)), n + 1 + 1 + 1, lg⟩) := by
  refine ex_callK Tryz.func23 rfl rfl rfl fun a K => ?_
  show Exq _ _ _ _ _
  repeat refine ex_seq ?_
  refine ex_region ?_
  refine g_assign K rfl rfl fun a K => ?_
  refine g_end ?_
  show Exq _ _ _ _ _
  repeat refine ex_seq ?_
  refine ex_region ?_
  refine g_move K rfl rfl fun a K => ?_
  refine g_makeMap K rfl fun a K => ?_
  refine g_makeMap K rfl fun a K => ?_
  refine g_build K rfl rfl (b152 _ _ _) fun a K => ?_
  refine g_box K rfl rfl rfl fun a K => ?_
  refine g_assign K rfl rfl fun a K => ?_
  refine g_end ?_
  show Exq _ _ _ _ _
  repeat refine ex_seq ?_
  refine ex_ret ?_
  refine leave K rfl (res_tmp K rfl res_nil) ?_
  rfl

end Go.E.FF

namespace Go.E.FF
open Go.Proofs
set_option maxRecDepth 100000
def K12 (k : Int) : Prop := k = 1 ∨ k = 2
theorem und9s : und Tryz.prog 9 = some .string := und9
theorem und39 : und Tryz.prog 39 = some (.map 9 67) := by kernel_rfl
theorem und38 : und Tryz.prog 38 = some (.map 9 29) := by kernel_rfl
theorem und150 : und Tryz.prog 150 = some (.map 9 3) := by kernel_rfl
theorem und148 : und Tryz.prog 148 = some (.map 9 83) := by kernel_rfl
theorem und92 : und Tryz.prog 92 = some (.map 9 4) := by kernel_rfl
theorem key9 (s : ByteArray) : keyV Tryz.prog 10 9 (.string s) = true := by kernel_rfl
theorem sameE_str (s : ByteArray) : sameE (.string s) (.string s) = true := seq_refl s
theorem body34 : hasBody Tryz.prog 34 = true := by kernel_rfl
theorem body109 : hasBody Tryz.prog 109 = true := by kernel_rfl
section
variable {X : Ctx} {st : Tr EObj} {n : Nat} {lg : List Nat}
variable (hx34 : X.x 34 = 8) (hN : ∀ k : Int, K12 k → X.m 34 [.agg ⟨[.int .i64 1, .int .i64 k, .string ⟨⟨[]⟩⟩, .slice none 0 0]⟩] = some (.slice none 0 0))
include hx34 hN
theorem reaches_num {xb sh cb wb vb db ck i : Nat} {es : List MapEntry} {ch : Value} {nm : ByteArray} {k : Int} {key : Value} {bo : Nat} (hx : st.get xb = some (.cells [.pointer (some ⟨sh, 0, none⟩), .map (some cb), .map (some wb)] 152))
    (hsh : st.get sh = some (.cells [.map (some vb), .map (some db), ch] 41)) (hdb : st.get db = some (.map es ck)) (hcb : st.get cb = some (.map [] 0))
    (b1 : xb < n) (b2 : sh < n) (b3 : db < n) (b4 : cb < n) (b5 : wb < n) (b6 : vb < n) (e1 : cb ≠ xb) (e2 : cb ≠ sh) (e3 : cb ≠ db) (e4 : wb ≠ xb) (e5 : wb ≠ sh) (e6 : wb ≠ db) (e7 : wb ≠ cb) (e8 : vb ≠ cb) (e9 : vb ≠ wb)
    (hkk : K12 k) (hf : findE Tryz.prog 9 (.string nm) es 0 = some (some (i, ⟨key, .agg ⟨[.int .i64 1, .int .i64 k, .string ⟨⟨[]⟩⟩, .slice none 0 0]⟩, bo⟩))) :
    Exq Tryz.prog X (.call 30 [.pointer (some ⟨xb, 0, none⟩), .string nm] .no) ⟨st, n, lg⟩ (fun o => ∃ st' n' lg', o = .ret (.bool false) .no ⟨st', n', lg'⟩ ∧ n ≤ n' ∧ ∀ m, m < n → m ≠ cb → st'.get m = st.get m) := by
  refine ex_callK Tryz.func30 rfl rfl rfl fun a K => ?_
  show Exq _ _ _ _ _
  repeat refine ex_seq ?_
  refine ex_region ?_
  refine g_assign K rfl rfl fun a K => ?_
  refine g_end ?_
  show Exq _ _ _ _ _
  repeat refine ex_seq ?_
  refine ex_region ?_
  refine g_move K rfl rfl fun a K => ?_
  refine g_nilCheck K rfl rfl fun a K => ?_
  refine g_fieldAddr K rfl rfl (fa152_0 _) fun a K => ?_
  refine g_load1 K rfl rfl agg22 siz22 (by repeat (first | exact get_upd_eq _ _ _ | assumption | refine (get_upd_ne _ _ (by omega)).trans ?_)) rfl fun a K => ?_
  refine g_nilCheck K rfl rfl fun a K => ?_
  refine g_fieldAddr K rfl rfl (fa41_1 _) fun a K => ?_
  refine g_load1 K rfl rfl agg39 siz39 (by repeat (first | exact get_upd_eq _ _ _ | assumption | refine (get_upd_ne _ _ (by omega)).trans ?_)) rfl fun a K => ?_
  refine g_move K rfl rfl fun a K => ?_
  refine g_lookup K rfl rfl rfl (lookup_ok und39 (by repeat (first | exact get_upd_eq _ _ _ | assumption | refine (get_upd_ne _ _ (by omega)).trans ?_)) (key9 _) (found_some hf)) fun a K => ?_
  refine g_move K rfl rfl fun a K => ?_
  refine g_extract K rfl rfl rfl rfl fun a K => ?_
  refine g_extract K rfl rfl rfl rfl fun a K => ?_
  refine g_alloc K rfl zer67 fun a K => ?_
  refine g_store K rfl rfl siz67 rfl (by repeat (first | exact get_upd_eq _ _ _ | assumption | refine (get_upd_ne _ _ (by omega)).trans ?_)) rfl rfl ?_
  refine g_assign K rfl rfl fun a K => ?_
  refine g_end ?_
  show Exq _ _ _ _ _
  repeat refine ex_seq ?_
  refine ex_region ?_
  refine g_move K rfl rfl fun a K => ?_
  refine g_unOp K rfl rfl rfl fun a K => ?_
  refine g_end ?_
  show Exq _ _ _ _ _
  repeat refine ex_seq ?_
  refine k_cond (t := false) K rfl ?_
  refine ex_skip ?_
  show Exq _ _ _ _ _
  repeat refine ex_seq ?_
  refine ex_region ?_
  refine g_move K rfl rfl fun a K => ?_
  refine g_nilCheck K rfl rfl fun a K => ?_
  refine g_fieldAddr K rfl rfl (fa152_1 _) fun a K => ?_
  refine g_load1 K rfl rfl agg150 siz150 (by repeat (first | exact get_upd_eq _ _ _ | assumption | refine (get_upd_ne _ _ (by omega)).trans ?_)) rfl fun a K => ?_
  refine g_move K rfl rfl fun a K => ?_
  refine g_lookup K rfl rfl rfl (lookup_ok und150 (by repeat (first | exact get_upd_eq _ _ _ | assumption | refine (get_upd_ne _ _ (by omega)).trans ?_)) (key9 _) (found_none rfl zer3)) fun a K => ?_
  refine g_end ?_
  show Exq _ _ _ _ _
  repeat refine ex_seq ?_
  refine ex_block ?_
  show Exq _ _ _ _ _
  repeat refine ex_seq ?_
  refine ex_region ?_
  refine g_binOp K rfl rfl rfl rfl fun a K => ?_
  refine g_assign K rfl rfl fun a K => ?_
  refine g_end ?_
  show Exq _ _ _ _ _
  repeat refine ex_seq ?_
  refine k_cond (t := false) K rfl ?_
  show Exq _ _ _ _ _
  repeat refine ex_seq ?_
  refine ex_region ?_
  refine g_binOp K rfl rfl rfl rfl fun a K => ?_
  refine g_assign K rfl rfl fun a K => ?_
  refine g_end ?_
  show Exq _ _ _ _ _
  repeat refine ex_seq ?_
  refine k_cond (t := false) K rfl ?_
  show Exq _ _ _ _ _
  repeat refine ex_seq ?_
  refine ex_region ?_
  refine g_binOp K rfl rfl rfl rfl fun a K => ?_
  refine g_assign K rfl rfl fun a K => ?_
  refine g_end ?_
  show Exq _ _ _ _ _
  repeat refine ex_seq ?_
  refine k_cond (t := false) K rfl ?_
  refine ex_skip ?_
  show Exq _ _ _ _ _
  repeat refine ex_seq ?_
  refine ex_region ?_
  refine g_move K rfl rfl fun a K => ?_
  refine g_nilCheck K rfl rfl fun a K => ?_
  refine g_fieldAddr K rfl rfl (fa152_1 _) fun a K => ?_
  refine g_load1 K rfl rfl agg150 siz150 (by repeat (first | exact get_upd_eq _ _ _ | assumption | refine (get_upd_ne _ _ (by omega)).trans ?_)) rfl fun a K => ?_
  refine g_move K rfl rfl fun a K => ?_
  refine g_mapUpdate K rfl rfl rfl (update_new und150 (by repeat (first | exact get_upd_eq _ _ _ | assumption | refine (get_upd_ne _ _ (by omega)).trans ?_)) (key9 _) rfl) ?_
  refine g_end ?_
  show Exq _ _ _ _ _
  repeat refine ex_seq ?_
  refine ex_region ?_
  refine g_assign K rfl rfl fun a K => ?_
  refine g_end ?_
  show Exq _ _ _ _ _
  repeat refine ex_seq ?_
  refine ex_region ?_
  refine g_loadA K rfl rfl agg67 siz67 (by repeat (first | exact get_upd_eq _ _ _ | assumption | refine (get_upd_ne _ _ (by omega)).trans ?_)) rfl rfl fun a K => ?_
  refine g_calls K rfl rfl rfl hx34 body34 (hN _ hkk) rfl fun a K => ?_
  refine g_builtin K rfl rfl (rfl) fun a K => ?_
  refine g_move K rfl rfl fun a K => ?_
  refine g_end ?_
  show Exq _ _ _ _ _
  repeat refine ex_seq ?_
  refine ex_block ?_
  refine ex_loop ?_
  show Exq _ _ _ _ _
  repeat refine ex_seq ?_
  refine ex_region ?_
  refine g_binOp K rfl rfl rfl rfl fun a K => ?_
  refine g_end ?_
  show Exq _ _ _ _ _
  repeat refine ex_seq ?_
  refine k_cond (t := false) K rfl ?_
  refine ex_exit ?_
  show Exq _ _ _ _ _
  repeat refine ex_seq ?_
  refine ex_region ?_
  refine g_move K rfl rfl fun a K => ?_
  refine g_nilCheck K rfl rfl fun a K => ?_
  refine g_fieldAddr K rfl rfl (fa152_1 _) fun a K => ?_
  refine g_load1 K rfl rfl agg150 siz150 (by repeat (first | exact get_upd_eq _ _ _ | assumption | refine (get_upd_ne _ _ (by omega)).trans ?_)) rfl fun a K => ?_
  refine g_move K rfl rfl fun a K => ?_
  refine g_move K rfl rfl fun a K => ?_
  refine g_mapUpdate K rfl rfl rfl (update_old und150 (by repeat (first | exact get_upd_eq _ _ _ | assumption | refine (get_upd_ne _ _ (by omega)).trans ?_)) (key9 _) (find_str und9s) (sameE_str _)) ?_
  refine g_end ?_
  show Exq _ _ _ _ _
  repeat refine ex_seq ?_
  refine ex_region ?_
  refine g_move K rfl rfl fun a K => ?_
  refine g_binOp K rfl rfl rfl rfl fun a K => ?_
  refine g_assign K rfl rfl fun a K => ?_
  refine g_end ?_
  show Exq _ _ _ _ _
  repeat refine ex_seq ?_
  refine ex_ret ?_
  (repeat first | rw [seqK_ret] | rw [blockK_ret] | rw [loopK_ret])
  refine leave K rfl (res_tmp K rfl res_nil) ?_
  exact ⟨_, _, _, rfl, (by first | omega | (dsimp only; omega)), (by intro m hm h0'; (try dsimp only); repeat (first | rfl | refine (get_upd_ne _ _ (by omega)).trans ?_))⟩

end
end Go.E.FF

namespace Go.E.FF
open Go.Proofs
set_option maxRecDepth 100000
theorem b83_2 (k : Int) : eBuild Tryz.prog 83 [(0, .agg ⟨[.int .i64 1, .int .i64 k, .string ⟨⟨[]⟩⟩]⟩), (1, .int .i64 0)] = some (.agg ⟨[.int .i64 1, .int .i64 k, .string ⟨⟨[]⟩⟩, .int .i64 0]⟩) := by kernel_rfl
section
variable {X : Ctx} {st : Tr EObj} {n : Nat} {lg : List Nat}
variable (hx34 : X.x 34 = 8) (hN : ∀ k : Int, K12 k → X.m 34 [.agg ⟨[.int .i64 1, .int .i64 k, .string ⟨⟨[]⟩⟩, .slice none 0 0]⟩] = some (.slice none 0 0))
variable (hx109 : X.x 109 = 8) (hE : ∀ k : Int, K12 k → X.m 109 [.agg ⟨[.int .i64 1, .int .i64 k, .string ⟨⟨[]⟩⟩, .slice none 0 0]⟩, .slice none 0 0] = some (.tuple ⟨[.agg ⟨[.int .i64 1, .int .i64 k, .string ⟨⟨[]⟩⟩]⟩, .int .i64 0]⟩))
variable (hx30 : X.x 30 = 0) (hx66 : X.x 66 = 0)
include hx34 hN hx109 hE hx30 hx66
theorem eval_num {x : Value} {k : Int} (hkk : K12 k) :
    Exq Tryz.prog X (.call 66 [x, .agg ⟨[.int .i64 1, .int .i64 k, .string ⟨⟨[]⟩⟩, .slice none 0 0]⟩] .no) ⟨st, n, lg⟩ (fun o => ∃ st' n' lg', o = .ret (.agg ⟨[.int .i64 1, .int .i64 k, .string ⟨⟨[]⟩⟩, .int .i64 0]⟩) .no ⟨st', n', lg'⟩ ∧ n ≤ n' ∧ ∀ m, m < n → st'.get m = st.get m) := by
  have _ := hx30
  have _ := hx66
  refine ex_callK Tryz.func66 rfl rfl rfl fun a K => ?_
  show Exq _ _ _ _ _
  repeat refine ex_seq ?_
  refine ex_region ?_
  refine g_box K rfl rfl rfl fun a K => ?_
  refine g_alloc K rfl zer83 fun a K => ?_
  refine g_end ?_
  show Exq _ _ _ _ _
  repeat refine ex_seq ?_
  refine ex_region ?_
  refine g_assign K rfl rfl fun a K => ?_
  refine g_end ?_
  show Exq _ _ _ _ _
  repeat refine ex_seq ?_
  refine ex_region ?_
  refine g_loadA K rfl rfl agg67 siz67 (by repeat (first | exact get_upd_eq _ _ _ | assumption | refine (get_upd_ne _ _ (by omega)).trans ?_)) rfl rfl fun a K => ?_
  refine g_calls K rfl rfl rfl hx34 body34 (hN _ hkk) rfl fun a K => ?_
  refine g_builtin K rfl rfl (rfl) fun a K => ?_
  refine g_move K rfl rfl fun a K => ?_
  refine g_end ?_
  show Exq _ _ _ _ _
  repeat refine ex_seq ?_
  refine ex_block ?_
  refine ex_loop ?_
  show Exq _ _ _ _ _
  repeat refine ex_seq ?_
  refine ex_region ?_
  refine g_binOp K rfl rfl rfl rfl fun a K => ?_
  refine g_end ?_
  show Exq _ _ _ _ _
  repeat refine ex_seq ?_
  refine k_cond (t := false) K rfl ?_
  refine ex_exit ?_
  show Exq _ _ _ _ _
  repeat refine ex_seq ?_
  refine ex_region ?_
  refine g_loadA K rfl rfl agg67 siz67 (by repeat (first | exact get_upd_eq _ _ _ | assumption | refine (get_upd_ne _ _ (by omega)).trans ?_)) rfl rfl fun a K => ?_
  refine g_move K rfl rfl fun a K => ?_
  refine g_calls K rfl rfl rfl hx109 body109 (hE _ hkk) rfl fun a K => ?_
  refine g_move K rfl rfl fun a K => ?_
  refine g_extract K rfl rfl rfl rfl fun a K => ?_
  refine g_extract K rfl rfl rfl rfl fun a K => ?_
  refine g_alloc K rfl zer29 fun a K => ?_
  refine g_store K rfl rfl siz29 rfl (by repeat (first | exact get_upd_eq _ _ _ | assumption | refine (get_upd_ne _ _ (by omega)).trans ?_)) rfl rfl ?_
  refine g_assign K rfl rfl fun a K => ?_
  refine g_end ?_
  show Exq _ _ _ _ _
  repeat refine ex_seq ?_
  refine ex_region ?_
  refine g_loadA K rfl rfl agg29 siz29 (by repeat (first | exact get_upd_eq _ _ _ | assumption | refine (get_upd_ne _ _ (by omega)).trans ?_)) rfl rfl fun a K => ?_
  refine g_move K rfl rfl fun a K => ?_
  refine g_build K rfl rfl (b83_2 _) fun a K => ?_
  refine g_store K rfl rfl siz83 rfl (by repeat (first | exact get_upd_eq _ _ _ | assumption | refine (get_upd_ne _ _ (by omega)).trans ?_)) rfl rfl ?_
  refine g_end ?_
  show Exq _ _ _ _ _
  repeat refine ex_seq ?_
  refine ex_ret ?_
  (repeat first | rw [seqK_ret] | rw [blockK_ret] | rw [loopK_ret])
  refine leave K rfl (res_cellA K rfl agg83 siz83 (by repeat (first | exact get_upd_eq _ _ _ | assumption | refine (get_upd_ne _ _ (by omega)).trans ?_)) rfl rfl res_nil) ?_
  exact ⟨_, _, _, rfl, (by first | omega | (dsimp only; omega)), (by intro m hm ; (try dsimp only); repeat (first | rfl | refine (get_upd_ne _ _ (by omega)).trans ?_))⟩

theorem of_num {xb sh cb wb vb db ck i : Nat} {es : List MapEntry} {ch : Value} {nm : ByteArray} {k : Int} {key : Value} {bo : Nat} (hx : st.get xb = some (.cells [.pointer (some ⟨sh, 0, none⟩), .map (some cb), .map (some wb)] 152))
    (hsh : st.get sh = some (.cells [.map (some vb), .map (some db), ch] 41)) (hdb : st.get db = some (.map es ck)) (hcb : st.get cb = some (.map [] 0)) (hwb : st.get wb = some (.map [] 0))
    (b1 : xb < n) (b2 : sh < n) (b3 : db < n) (b4 : cb < n) (b5 : wb < n) (b6 : vb < n) (e1 : cb ≠ xb) (e2 : cb ≠ sh) (e3 : cb ≠ db) (e4 : wb ≠ xb) (e5 : wb ≠ sh) (e6 : wb ≠ db) (e7 : wb ≠ cb) (e8 : vb ≠ cb) (e9 : vb ≠ wb)
    (hkk : K12 k) (hf : findE Tryz.prog 9 (.string nm) es 0 = some (some (i, ⟨key, .agg ⟨[.int .i64 1, .int .i64 k, .string ⟨⟨[]⟩⟩, .slice none 0 0]⟩, bo⟩))) :
    Exq Tryz.prog X (.call 24 [.pointer (some ⟨xb, 0, none⟩), .string nm] .no) ⟨st, n, lg⟩ (fun o => ∃ st' n' lg', o = .ret (.agg ⟨[.int .i64 1, .int .i64 k, .string ⟨⟨[]⟩⟩, .int .i64 0]⟩) .no ⟨st', n', lg'⟩ ∧ n ≤ n' ∧ ∀ m, m < n → m ≠ cb → m ≠ wb → st'.get m = st.get m) := by
  refine ex_callK Tryz.func24 rfl rfl rfl fun a K => ?_
  show Exq _ _ _ _ _
  repeat refine ex_seq ?_
  refine ex_region ?_
  refine g_alloc K rfl zer83 fun a K => ?_
  refine g_end ?_
  show Exq _ _ _ _ _
  repeat refine ex_seq ?_
  refine ex_region ?_
  refine g_move K rfl rfl fun a K => ?_
  refine g_nilCheck K rfl rfl fun a K => ?_
  refine g_fieldAddr K rfl rfl (fa152_0 _) fun a K => ?_
  refine g_load1 K rfl rfl agg22 siz22 (by repeat (first | exact get_upd_eq _ _ _ | assumption | refine (get_upd_ne _ _ (by omega)).trans ?_)) rfl fun a K => ?_
  refine g_nilCheck K rfl rfl fun a K => ?_
  refine g_fieldAddr K rfl rfl (fa41_1 _) fun a K => ?_
  refine g_load1 K rfl rfl agg39 siz39 (by repeat (first | exact get_upd_eq _ _ _ | assumption | refine (get_upd_ne _ _ (by omega)).trans ?_)) rfl fun a K => ?_
  refine g_move K rfl rfl fun a K => ?_
  refine g_lookup K rfl rfl rfl (lookup_ok und39 (by repeat (first | exact get_upd_eq _ _ _ | assumption | refine (get_upd_ne _ _ (by omega)).trans ?_)) (key9 _) (found_some hf)) fun a K => ?_
  refine g_move K rfl rfl fun a K => ?_
  refine g_extract K rfl rfl rfl rfl fun a K => ?_
  refine g_extract K rfl rfl rfl rfl fun a K => ?_
  refine g_alloc K rfl zer67 fun a K => ?_
  refine g_store K rfl rfl siz67 rfl (by repeat (first | exact get_upd_eq _ _ _ | assumption | refine (get_upd_ne _ _ (by omega)).trans ?_)) rfl rfl ?_
  refine g_assign K rfl rfl fun a K => ?_
  refine g_end ?_
  show Exq _ _ _ _ _
  repeat refine ex_seq ?_
  refine ex_region ?_
  refine g_move K rfl rfl fun a K => ?_
  refine g_unOp K rfl rfl rfl fun a K => ?_
  refine g_end ?_
  show Exq _ _ _ _ _
  repeat refine ex_seq ?_
  refine k_cond (t := false) K rfl ?_
  refine ex_skip ?_
  show Exq _ _ _ _ _
  repeat refine ex_seq ?_
  refine ex_region ?_
  refine g_move K rfl rfl fun a K => ?_
  refine g_move K rfl rfl fun a K => ?_
  refine g_callq K rfl rfl rfl hx30 body30 ((reaches_num hx34 hN (xb := xb) (sh := sh) (cb := cb) (wb := wb) (vb := vb) (db := db) (by repeat (first | exact get_upd_eq _ _ _ | assumption | refine (get_upd_ne _ _ (by omega)).trans ?_)) (by repeat (first | exact get_upd_eq _ _ _ | assumption | refine (get_upd_ne _ _ (by omega)).trans ?_)) (by repeat (first | exact get_upd_eq _ _ _ | assumption | refine (get_upd_ne _ _ (by omega)).trans ?_)) (by repeat (first | exact get_upd_eq _ _ _ | assumption | refine (get_upd_ne _ _ (by omega)).trans ?_)) (by omega) (by omega) (by omega) (by omega) (by omega) (by omega) e1 e2 e3 e4 e5 e6 e7 e8 e9 hkk hf).mono ?_)
  rintro _ ⟨st1, n1, lg1, rfl, h1, h2⟩
  intro a K
  refine g_end ?_
  show Exq _ _ _ _ _
  repeat refine ex_seq ?_
  refine k_cond (t := false) K rfl ?_
  refine ex_skip ?_
  show Exq _ _ _ _ _
  repeat refine ex_seq ?_
  refine ex_region ?_
  refine g_move K rfl rfl fun a K => ?_
  refine g_nilCheck K rfl rfl fun a K => ?_
  refine g_fieldAddr K rfl rfl (fa152_2 _) fun a K => ?_
  refine g_load1 K rfl rfl agg148 siz148 (by repeat (first | exact get_upd_eq _ _ _ | assumption | refine (get_upd_ne _ _ (by omega)).trans ?_ | refine (h2 _ (by omega) (by omega)).trans ?_)) rfl fun a K => ?_
  refine g_move K rfl rfl fun a K => ?_
  refine g_lookup K rfl rfl rfl (lookup_ok und148 (by repeat (first | exact get_upd_eq _ _ _ | assumption | refine (get_upd_ne _ _ (by omega)).trans ?_ | refine (h2 _ (by omega) (by omega)).trans ?_)) (key9 _) (found_none rfl zer83)) fun a K => ?_
  refine g_move K rfl rfl fun a K => ?_
  refine g_extract K rfl rfl rfl rfl fun a K => ?_
  refine g_extract K rfl rfl rfl rfl fun a K => ?_
  refine g_alloc K rfl zer83 fun a K => ?_
  refine g_store K rfl rfl siz83 rfl (by repeat (first | exact get_upd_eq _ _ _ | assumption | refine (get_upd_ne _ _ (by omega)).trans ?_ | refine (h2 _ (by omega) (by omega)).trans ?_)) rfl rfl ?_
  refine g_assign K rfl rfl fun a K => ?_
  refine g_end ?_
  show Exq _ _ _ _ _
  repeat refine ex_seq ?_
  refine ex_region ?_
  refine g_move K rfl rfl fun a K => ?_
  refine g_end ?_
  show Exq _ _ _ _ _
  repeat refine ex_seq ?_
  refine k_cond (t := false) K rfl ?_
  refine ex_skip ?_
  show Exq _ _ _ _ _
  repeat refine ex_seq ?_
  refine ex_region ?_
  refine g_move K rfl rfl fun a K => ?_
  refine g_loadA K rfl rfl agg67 siz67 (by repeat (first | exact get_upd_eq _ _ _ | assumption | refine (get_upd_ne _ _ (by omega)).trans ?_ | refine (h2 _ (by omega) (by omega)).trans ?_)) rfl rfl fun a K => ?_
  refine g_callq K rfl rfl rfl hx66 body66 ((eval_num hx34 hN hx109 hE hx30 hx66 hkk).mono ?_)
  rintro _ ⟨st2, n2, lg2, rfl, h3, h4⟩
  intro a K
  refine g_alloc K rfl zer83 fun a K => ?_
  refine g_store K rfl rfl siz83 rfl (by repeat (first | exact get_upd_eq _ _ _ | assumption | refine (get_upd_ne _ _ (by omega)).trans ?_ | refine (h2 _ (by omega) (by omega)).trans ?_ | refine (h4 _ (by omega)).trans ?_)) rfl rfl ?_
  refine g_end ?_
  show Exq _ _ _ _ _
  repeat refine ex_seq ?_
  refine ex_draw (by kernel_rfl) ?_
  refine d_loc (ns := []) K rfl rfl (e_move K rfl) rfl (by repeat (first | exact hist_nil | refine hist_rec (by simp (disch := omega) only [rec_ff, rec_ft, rec_tf, made_nil, made_cons, made_f, meets_nil, meets_cons, hasN_nil, hasN_cons, nbeq_ne, Bool.or_false, Bool.not_false, Bool.and_self]) ?_ | refine hist_ord (by kernel_rfl) ?_)) fun a K => ?_
  refine d_loc (ns := []) K rfl rfl (e_nilCheck K rfl) rfl (by repeat (first | exact hist_nil | refine hist_rec (by simp (disch := omega) only [rec_ff, rec_ft, rec_tf, made_nil, made_cons, made_f, meets_nil, meets_cons, hasN_nil, hasN_cons, nbeq_ne, Bool.or_false, Bool.not_false, Bool.and_self]) ?_ | refine hist_ord (by kernel_rfl) ?_)) fun a K => ?_
  refine d_loc (ns := []) K rfl rfl (e_fieldAddr K rfl (fa152_2 _)) rfl (by repeat (first | exact hist_nil | refine hist_rec (by simp (disch := omega) only [rec_ff, rec_ft, rec_tf, made_nil, made_cons, made_f, meets_nil, meets_cons, hasN_nil, hasN_cons, nbeq_ne, Bool.or_false, Bool.not_false, Bool.and_self]) ?_ | refine hist_ord (by kernel_rfl) ?_)) fun a K => ?_
  refine d_loc K rfl rfl (e_load1 K rfl agg148 siz148 (by repeat (first | exact get_upd_eq _ _ _ | assumption | refine (get_upd_ne _ _ (by omega)).trans ?_ | refine (h2 _ (by omega) (by omega)).trans ?_ | refine (h4 _ (by omega)).trans ?_)) rfl) (n_load K rfl) (by repeat (first | exact hist_nil | refine hist_rec (by simp (disch := omega) only [rec_ff, rec_ft, rec_tf, made_nil, made_cons, made_f, meets_nil, meets_cons, hasN_nil, hasN_cons, nbeq_ne, Bool.or_false, Bool.not_false, Bool.and_self]) ?_ | refine hist_ord (by kernel_rfl) ?_)) fun a K => ?_
  refine d_loc (ns := []) K rfl rfl (e_move K rfl) rfl (by repeat (first | exact hist_nil | refine hist_rec (by simp (disch := omega) only [rec_ff, rec_ft, rec_tf, made_nil, made_cons, made_f, meets_nil, meets_cons, hasN_nil, hasN_cons, nbeq_ne, Bool.or_false, Bool.not_false, Bool.and_self]) ?_ | refine hist_ord (by kernel_rfl) ?_)) fun a K => ?_
  refine d_loc K rfl rfl (e_loadA K rfl agg83 siz83 (by repeat (first | exact get_upd_eq _ _ _ | assumption | refine (get_upd_ne _ _ (by omega)).trans ?_ | refine (h2 _ (by omega) (by omega)).trans ?_ | refine (h4 _ (by omega)).trans ?_)) rfl rfl) (n_load K rfl) (by repeat (first | exact hist_nil | refine hist_rec (by simp (disch := omega) only [rec_ff, rec_ft, rec_tf, made_nil, made_cons, made_f, meets_nil, meets_cons, hasN_nil, hasN_cons, nbeq_ne, Bool.or_false, Bool.not_false, Bool.and_self]) ?_ | refine hist_ord (by kernel_rfl) ?_)) fun a K => ?_
  refine d_bigs rfl (e_mapUpdate K rfl rfl rfl (update_new und148 (by repeat (first | exact get_upd_eq _ _ _ | assumption | refine (get_upd_ne _ _ (by omega)).trans ?_ | refine (h2 _ (by omega) (by omega)).trans ?_ | refine (h4 _ (by omega)).trans ?_)) (key9 _) rfl)) (by repeat (first | exact hist_nil | refine hist_rec (by simp (disch := omega) only [rec_ff, rec_ft, rec_tf, made_nil, made_cons, made_f, meets_nil, meets_cons, hasN_nil, hasN_cons, nbeq_ne, Bool.or_false, Bool.not_false, Bool.and_self]) ?_ | refine hist_ord (by kernel_rfl) ?_)) ?_
  refine d_end ?_
  show Exq _ _ _ _ _
  repeat refine ex_seq ?_
  refine ex_region ?_
  refine g_loadA K rfl rfl agg83 siz83 (by repeat (first | exact get_upd_eq _ _ _ | assumption | refine (get_upd_ne _ _ (by omega)).trans ?_ | refine (h2 _ (by omega) (by omega)).trans ?_ | refine (h4 _ (by omega)).trans ?_)) rfl rfl fun a K => ?_
  refine g_store K rfl rfl siz83 rfl (by repeat (first | exact get_upd_eq _ _ _ | assumption | refine (get_upd_ne _ _ (by omega)).trans ?_ | refine (h2 _ (by omega) (by omega)).trans ?_ | refine (h4 _ (by omega)).trans ?_)) rfl rfl ?_
  refine g_end ?_
  show Exq _ _ _ _ _
  repeat refine ex_seq ?_
  refine ex_ret ?_
  (repeat first | rw [seqK_ret] | rw [blockK_ret] | rw [loopK_ret])
  refine leave K rfl (res_cellA K rfl agg83 siz83 (by repeat (first | exact get_upd_eq _ _ _ | assumption | refine (get_upd_ne _ _ (by omega)).trans ?_ | refine (h2 _ (by omega) (by omega)).trans ?_ | refine (h4 _ (by omega)).trans ?_)) rfl rfl res_nil) ?_
  exact ⟨_, _, _, rfl, (by first | omega | (dsimp only; omega)), (by intro m hm h0' h1'; (try dsimp only); repeat (first | rfl | refine (get_upd_ne _ _ (by omega)).trans ?_ | refine (h2 _ (by omega) (by omega)).trans ?_ | refine (h4 _ (by omega)).trans ?_))⟩

end
end Go.E.FF

