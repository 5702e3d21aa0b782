import Derived.Test.YthbkkpahoolhbaaGreatDoorEv23
set_option linter.unusedSimpArgs false
set_option linter.unusedVariables false
set_option linter.unusedSectionVars false
namespace Go.E.FF
open Go.Proofs
set_option maxRecDepth 100000
theorem b83_30 : eBuild Tryz.prog 83 [(1, .int .i64 30)] = some (.agg ⟨[.int .i64 0, .int .i64 0, .string ⟨⟨[]⟩⟩, .int .i64 30]⟩) := by kernel_rfl
theorem len32 (a : Option Addr) (k c : Nat) (s : ES) : eBuiltin Tryz.prog .len #[32] ⟨[.slice a k c]⟩ s = .ok (.val (.int .i64 (Int.ofNat k))) s := by kernel_rfl
theorem ix32 (c cap : Nat) : eIndexAddr Tryz.prog 32 (.slice (some ⟨c, 0, none⟩) 1 cap) (.int .i64 0) = some (.pointer (some ⟨c, 0, none⟩)) := by kernel_rfl
section
variable {X : Ctx} {st : Tr EObj} {n : Nat} {lg : List Nat}
variable (hx34 : X.x 34 = 8) (hN : ∀ k : Int, K12 k → X.m 34 [.agg ⟨[.int .i64 1, .int .i64 k, .string ⟨⟨[]⟩⟩, .slice none 0 0]⟩] = some (.slice none 0 0))
variable (hx109 : X.x 109 = 8) (hE : ∀ k : Int, K12 k → X.m 109 [.agg ⟨[.int .i64 1, .int .i64 k, .string ⟨⟨[]⟩⟩, .slice none 0 0]⟩, .slice none 0 0] = some (.tuple ⟨[.agg ⟨[.int .i64 1, .int .i64 k, .string ⟨⟨[]⟩⟩]⟩, .int .i64 0]⟩))
variable (hx30 : X.x 30 = 0) (hx66 : X.x 66 = 0)
include hx34 hN hx109 hE hx30 hx66
variable (hx23 : X.x 23 = 0) (hx24 : X.x 24 = 0)
theorem of_none {xb sh cb wb vb db ck : Nat} {es : List MapEntry} {ch : Value} {nm : ByteArray} (hx : st.get xb = some (.cells [.pointer (some ⟨sh, 0, none⟩), .map (some cb), .map (some wb)] 152))
    (hsh : st.get sh = some (.cells [.map (some vb), .map (some db), ch] 41)) (hdb : st.get db = some (.map es ck)) (hvb : st.get vb = some (.map [] 0))
    (b1 : xb < n) (b2 : sh < n) (b3 : db < n) (b4 : cb < n) (b5 : wb < n) (b6 : vb < n) (e1 : cb ≠ xb) (e2 : cb ≠ sh) (e3 : cb ≠ db) (e4 : wb ≠ xb) (e5 : wb ≠ sh) (e6 : wb ≠ db) (e7 : wb ≠ cb) (e8 : vb ≠ cb) (e9 : vb ≠ wb)
    (hf : findE Tryz.prog 9 (.string nm) es 0 = some none) :
    Exq Tryz.prog X (.call 24 [.pointer (some ⟨xb, 0, none⟩), .string nm] .no) ⟨st, n, lg⟩ (fun o => ∃ st' n' lg', o = .ret (.agg ⟨[.int .i64 0, .int .i64 0, .string ⟨⟨[]⟩⟩, .int .i64 30]⟩) .no ⟨st', n', lg'⟩ ∧ n ≤ n' ∧ ∀ m, m < n → m ≠ cb → m ≠ wb → st'.get m = st.get m) := by
  have _ := hx34
  have _ := hN
  have _ := hx109
  have _ := hE
  have _ := hx30
  have _ := hx66
  refine ex_callK Tryz.func24 rfl rfl rfl fun a K => ?_
  show Exq _ _ _ _ _
  repeat refine ex_seq ?_
  refine ex_region ?_
  refine g_alloc K rfl zer83 fun a K => ?_
  refine g_end ?_
  show Exq _ _ _ _ _
  repeat refine ex_seq ?_
  refine ex_region ?_
  refine g_move K rfl rfl fun a K => ?_
  refine g_nilCheck K rfl rfl fun a K => ?_
  refine g_fieldAddr K rfl rfl (fa152_0 _) fun a K => ?_
  refine g_load1 K rfl rfl agg22 siz22 (by repeat (first | exact get_upd_eq _ _ _ | assumption | refine (get_upd_ne _ _ (by omega)).trans ?_)) rfl fun a K => ?_
  refine g_nilCheck K rfl rfl fun a K => ?_
  refine g_fieldAddr K rfl rfl (fa41_1 _) fun a K => ?_
  refine g_load1 K rfl rfl agg39 siz39 (by repeat (first | exact get_upd_eq _ _ _ | assumption | refine (get_upd_ne _ _ (by omega)).trans ?_)) rfl fun a K => ?_
  refine g_move K rfl rfl fun a K => ?_
  refine g_lookup K rfl rfl rfl (lookup_ok und39 (by repeat (first | exact get_upd_eq _ _ _ | assumption | refine (get_upd_ne _ _ (by omega)).trans ?_)) (key9 _) (found_none hf zer67)) fun a K => ?_
  refine g_move K rfl rfl fun a K => ?_
  refine g_extract K rfl rfl rfl rfl fun a K => ?_
  refine g_extract K rfl rfl rfl rfl fun a K => ?_
  refine g_alloc K rfl zer67 fun a K => ?_
  refine g_store K rfl rfl siz67 rfl (by repeat (first | exact get_upd_eq _ _ _ | assumption | refine (get_upd_ne _ _ (by omega)).trans ?_)) rfl rfl ?_
  refine g_assign K rfl rfl fun a K => ?_
  refine g_end ?_
  show Exq _ _ _ _ _
  repeat refine ex_seq ?_
  refine ex_region ?_
  refine g_move K rfl rfl fun a K => ?_
  refine g_unOp K rfl rfl rfl fun a K => ?_
  refine g_end ?_
  show Exq _ _ _ _ _
  repeat refine ex_seq ?_
  refine k_cond (t := true) K rfl ?_
  show Exq _ _ _ _ _
  repeat refine ex_seq ?_
  refine ex_region ?_
  refine g_move K rfl rfl fun a K => ?_
  refine g_nilCheck K rfl rfl fun a K => ?_
  refine g_fieldAddr K rfl rfl (fa152_0 _) fun a K => ?_
  refine g_load1 K rfl rfl agg22 siz22 (by repeat (first | exact get_upd_eq _ _ _ | assumption | refine (get_upd_ne _ _ (by omega)).trans ?_)) rfl fun a K => ?_
  refine g_nilCheck K rfl rfl fun a K => ?_
  refine g_fieldAddr K rfl rfl (fa41_0 _) fun a K => ?_
  refine g_load1 K rfl rfl agg38 siz38 (by repeat (first | exact get_upd_eq _ _ _ | assumption | refine (get_upd_ne _ _ (by omega)).trans ?_)) rfl fun a K => ?_
  refine g_move K rfl rfl fun a K => ?_
  refine g_lookup K rfl rfl rfl (lookup_ok und38 (by repeat (first | exact get_upd_eq _ _ _ | assumption | refine (get_upd_ne _ _ (by omega)).trans ?_)) (key9 _) (found_none rfl zer29)) fun a K => ?_
  refine g_move K rfl rfl fun a K => ?_
  refine g_extract K rfl rfl rfl rfl fun a K => ?_
  refine g_extract K rfl rfl rfl rfl fun a K => ?_
  refine g_alloc K rfl zer29 fun a K => ?_
  refine g_store K rfl rfl siz29 rfl (by repeat (first | exact get_upd_eq _ _ _ | assumption | refine (get_upd_ne _ _ (by omega)).trans ?_)) rfl rfl ?_
  refine g_assign K rfl rfl fun a K => ?_
  refine g_end ?_
  show Exq _ _ _ _ _
  repeat refine ex_seq ?_
  refine ex_region ?_
  refine g_move K rfl rfl fun a K => ?_
  refine g_end ?_
  show Exq _ _ _ _ _
  repeat refine ex_seq ?_
  refine k_cond (t := false) K rfl ?_
  refine ex_skip ?_
  show Exq _ _ _ _ _
  repeat refine ex_seq ?_
  refine ex_region ?_
  refine g_build K rfl rfl (b83_30) fun a K => ?_
  refine g_store K rfl rfl siz83 rfl (by repeat (first | exact get_upd_eq _ _ _ | assumption | refine (get_upd_ne _ _ (by omega)).trans ?_)) rfl rfl ?_
  refine g_end ?_
  show Exq _ _ _ _ _
  repeat refine ex_seq ?_
  refine ex_ret ?_
  (repeat first | rw [seqK_ret] | rw [blockK_ret] | rw [loopK_ret])
  refine leave K rfl (res_cellA K rfl agg83 siz83 (by repeat (first | exact get_upd_eq _ _ _ | assumption | refine (get_upd_ne _ _ (by omega)).trans ?_)) rfl rfl res_nil) ?_
  exact ⟨_, _, _, rfl, (by first | omega | (dsimp only; omega)), (by intro m hm h0' h1'; (try dsimp only); repeat (first | rfl | refine (get_upd_ne _ _ (by omega)).trans ?_))⟩

include hx23 hx24
theorem snap_num {sh vb db ck i c cap : Nat} {es : List MapEntry} {ch : Value} {nm : ByteArray} {k : Int} {key : Value} {bo : Nat} {e0 : TypeId}
    (hsh : st.get sh = some (.cells [.map (some vb), .map (some db), ch] 41)) (hdb : st.get db = some (.map es ck)) (hvb : st.get vb = some (.map [] 0)) (hc : st.get c = some (.cells [.string nm] e0))
    (b2 : sh < n) (b3 : db < n) (b6 : vb < n) (b7 : c < n)
    (hkk : K12 k) (hf : findE Tryz.prog 9 (.string nm) es 0 = some (some (i, ⟨key, .agg ⟨[.int .i64 1, .int .i64 k, .string ⟨⟨[]⟩⟩, .slice none 0 0]⟩, bo⟩))) :
    Exq Tryz.prog X (.call 65 [.pointer (some ⟨sh, 0, none⟩), .slice (some ⟨c, 0, none⟩) 1 cap] .no) ⟨st, n, lg⟩ (fun o => ∃ r' st' n' lg', o = .ret (.map (some r')) .no ⟨st', n', lg'⟩ ∧ n ≤ n' ∧ n ≤ r' ∧ r' < n' ∧ st'.get r' = some (.map [⟨.string nm, .agg ⟨[.int .i64 1, .int .i64 k, .string ⟨⟨[]⟩⟩, .int .i64 0]⟩, 0⟩] 1) ∧ ∀ m, m < n → st'.get m = st.get m) := by
  refine ex_callK Tryz.func65 rfl rfl rfl fun a K => ?_
  show Exq _ _ _ _ _
  repeat refine ex_seq ?_
  refine ex_region ?_
  refine g_assign K rfl rfl fun a K => ?_
  refine g_end ?_
  show Exq _ _ _ _ _
  repeat refine ex_seq ?_
  refine ex_region ?_
  refine g_move K rfl rfl fun a K => ?_
  refine g_callv K rfl rfl rfl hx23 body23 ((begin_run _).run) fun a K => ?_
  refine g_makeMap K rfl fun a K => ?_
  refine g_assign K rfl rfl fun a K => ?_
  refine g_assign K rfl rfl fun a K => ?_
  refine g_end ?_
  show Exq _ _ _ _ _
  repeat refine ex_seq ?_
  refine ex_region ?_
  refine g_move K rfl rfl fun a K => ?_
  refine g_builtin K rfl rfl (len32 _ _ _ _) fun a K => ?_
  refine g_move K rfl rfl fun a K => ?_
  refine g_end ?_
  show Exq _ _ _ _ _
  repeat refine ex_seq ?_
  refine ex_block ?_
  refine ex_loop ?_
  show Exq _ _ _ _ _
  repeat refine ex_seq ?_
  refine ex_region ?_
  refine g_binOp K rfl rfl rfl rfl fun a K => ?_
  refine g_end ?_
  show Exq _ _ _ _ _
  repeat refine ex_seq ?_
  refine k_cond (t := true) K rfl ?_
  refine ex_skip ?_
  show Exq _ _ _ _ _
  repeat refine ex_seq ?_
  refine ex_block ?_
  show Exq _ _ _ _ _
  repeat refine ex_seq ?_
  refine ex_region ?_
  refine g_indexAddr K rfl rfl rfl (ix32 _ _) fun a K => ?_
  refine g_load1 K rfl rfl agg9 siz9 (by repeat (first | exact get_upd_eq _ _ _ | assumption | refine (get_upd_ne _ _ (by omega)).trans ?_)) rfl fun a K => ?_
  refine g_assign K rfl rfl fun a K => ?_
  refine g_end ?_
  show Exq _ _ _ _ _
  repeat refine ex_seq ?_
  refine ex_region ?_
  refine g_move K rfl rfl fun a K => ?_
  refine g_move K rfl rfl fun a K => ?_
  refine g_move K rfl rfl fun a K => ?_
  refine g_move K rfl rfl fun a K => ?_
  refine g_callq K rfl rfl rfl hx24 body24 ((of_num hx34 hN hx109 hE hx30 hx66 (xb := n + 1 + 1) (sh := sh) (cb := n) (wb := n + 1) (vb := vb) (db := db) (by repeat (first | exact get_upd_eq _ _ _ | assumption | refine (get_upd_ne _ _ (by omega)).trans ?_)) (by repeat (first | exact get_upd_eq _ _ _ | assumption | refine (get_upd_ne _ _ (by omega)).trans ?_)) (by repeat (first | exact get_upd_eq _ _ _ | assumption | refine (get_upd_ne _ _ (by omega)).trans ?_)) (by repeat (first | exact get_upd_eq _ _ _ | assumption | refine (get_upd_ne _ _ (by omega)).trans ?_)) (by repeat (first | exact get_upd_eq _ _ _ | assumption | refine (get_upd_ne _ _ (by omega)).trans ?_)) (by omega) (by omega) (by omega) (by omega) (by omega) (by omega) (by omega) (by omega) (by omega) (by omega) (by omega) (by omega) (by omega) (by omega) (by omega) hkk hf).mono ?_)
  rintro _ ⟨st1, n1, lg1, rfl, h1, h2⟩
  intro a K
  refine g_mapUpdate K rfl rfl rfl (update_new und148 (by repeat (first | exact get_upd_eq _ _ _ | assumption | refine (get_upd_ne _ _ (by omega)).trans ?_ | refine (h2 _ (by omega) (by omega) (by omega)).trans ?_)) (key9 _) rfl) ?_
  refine g_end ?_
  show Exq _ _ _ _ _
  repeat refine ex_seq ?_
  refine ex_region ?_
  refine g_binOp K rfl rfl rfl rfl fun a K => ?_
  refine g_move K rfl rfl fun a K => ?_
  refine g_end ?_
  show Exq _ _ _ _ _
  refine ex_loop ?_
  show Exq _ _ _ _ _
  repeat refine ex_seq ?_
  refine ex_region ?_
  refine g_binOp K rfl rfl rfl rfl fun a K => ?_
  refine g_end ?_
  show Exq _ _ _ _ _
  repeat refine ex_seq ?_
  refine k_cond (t := false) K rfl ?_
  refine ex_exit ?_
  show Exq _ _ _ _ _
  repeat refine ex_seq ?_
  refine ex_region ?_
  refine g_move K rfl rfl fun a K => ?_
  refine g_assign K rfl rfl fun a K => ?_
  refine g_end ?_
  show Exq _ _ _ _ _
  repeat refine ex_seq ?_
  refine ex_ret ?_
  (repeat first | rw [seqK_ret] | rw [blockK_ret] | rw [loopK_ret])
  refine leave K rfl (res_tmp K rfl res_nil) ?_
  exact ⟨n + 1 + 1 + 1, _, _, _, rfl, (by first | omega | (dsimp only; omega)), (by first | omega | (dsimp only; omega)), (by first | omega | (dsimp only; omega)), (by (try dsimp only); exact get_upd_eq _ _ _), (by intro m hm ; (try dsimp only); repeat (first | rfl | refine (get_upd_ne _ _ (by omega)).trans ?_ | refine (h2 _ (by omega) (by omega) (by omega)).trans ?_))⟩

theorem snap_none {sh vb db ck i c cap : Nat} {es : List MapEntry} {ch : Value} {nm : ByteArray} {k : Int} {key : Value} {bo : Nat} {e0 : TypeId}
    (hsh : st.get sh = some (.cells [.map (some vb), .map (some db), ch] 41)) (hdb : st.get db = some (.map es ck)) (hvb : st.get vb = some (.map [] 0)) (hc : st.get c = some (.cells [.string nm] e0))
    (b2 : sh < n) (b3 : db < n) (b6 : vb < n) (b7 : c < n)
    (hf : findE Tryz.prog 9 (.string nm) es 0 = some none) :
    Exq Tryz.prog X (.call 65 [.pointer (some ⟨sh, 0, none⟩), .slice (some ⟨c, 0, none⟩) 1 cap] .no) ⟨st, n, lg⟩ (fun o => ∃ r' st' n' lg', o = .ret (.map (some r')) .no ⟨st', n', lg'⟩ ∧ n ≤ n' ∧ n ≤ r' ∧ r' < n' ∧ st'.get r' = some (.map [⟨.string nm, .agg ⟨[.int .i64 0, .int .i64 0, .string ⟨⟨[]⟩⟩, .int .i64 30]⟩, 0⟩] 1) ∧ ∀ m, m < n → st'.get m = st.get m) := by
  refine ex_callK Tryz.func65 rfl rfl rfl fun a K => ?_
  show Exq _ _ _ _ _
  repeat refine ex_seq ?_
  refine ex_region ?_
  refine g_assign K rfl rfl fun a K => ?_
  refine g_end ?_
  show Exq _ _ _ _ _
  repeat refine ex_seq ?_
  refine ex_region ?_
  refine g_move K rfl rfl fun a K => ?_
  refine g_callv K rfl rfl rfl hx23 body23 ((begin_run _).run) fun a K => ?_
  refine g_makeMap K rfl fun a K => ?_
  refine g_assign K rfl rfl fun a K => ?_
  refine g_assign K rfl rfl fun a K => ?_
  refine g_end ?_
  show Exq _ _ _ _ _
  repeat refine ex_seq ?_
  refine ex_region ?_
  refine g_move K rfl rfl fun a K => ?_
  refine g_builtin K rfl rfl (len32 _ _ _ _) fun a K => ?_
  refine g_move K rfl rfl fun a K => ?_
  refine g_end ?_
  show Exq _ _ _ _ _
  repeat refine ex_seq ?_
  refine ex_block ?_
  refine ex_loop ?_
  show Exq _ _ _ _ _
  repeat refine ex_seq ?_
  refine ex_region ?_
  refine g_binOp K rfl rfl rfl rfl fun a K => ?_
  refine g_end ?_
  show Exq _ _ _ _ _
  repeat refine ex_seq ?_
  refine k_cond (t := true) K rfl ?_
  refine ex_skip ?_
  show Exq _ _ _ _ _
  repeat refine ex_seq ?_
  refine ex_block ?_
  show Exq _ _ _ _ _
  repeat refine ex_seq ?_
  refine ex_region ?_
  refine g_indexAddr K rfl rfl rfl (ix32 _ _) fun a K => ?_
  refine g_load1 K rfl rfl agg9 siz9 (by repeat (first | exact get_upd_eq _ _ _ | assumption | refine (get_upd_ne _ _ (by omega)).trans ?_)) rfl fun a K => ?_
  refine g_assign K rfl rfl fun a K => ?_
  refine g_end ?_
  show Exq _ _ _ _ _
  repeat refine ex_seq ?_
  refine ex_region ?_
  refine g_move K rfl rfl fun a K => ?_
  refine g_move K rfl rfl fun a K => ?_
  refine g_move K rfl rfl fun a K => ?_
  refine g_move K rfl rfl fun a K => ?_
  refine g_callq K rfl rfl rfl hx24 body24 ((of_none hx34 hN hx109 hE hx30 hx66 (xb := n + 1 + 1) (sh := sh) (cb := n) (wb := n + 1) (vb := vb) (db := db) (by repeat (first | exact get_upd_eq _ _ _ | assumption | refine (get_upd_ne _ _ (by omega)).trans ?_)) (by repeat (first | exact get_upd_eq _ _ _ | assumption | refine (get_upd_ne _ _ (by omega)).trans ?_)) (by repeat (first | exact get_upd_eq _ _ _ | assumption | refine (get_upd_ne _ _ (by omega)).trans ?_)) (by repeat (first | exact get_upd_eq _ _ _ | assumption | refine (get_upd_ne _ _ (by omega)).trans ?_)) (by omega) (by omega) (by omega) (by omega) (by omega) (by omega) (by omega) (by omega) (by omega) (by omega) (by omega) (by omega) (by omega) (by omega) (by omega) hf).mono ?_)
  rintro _ ⟨st1, n1, lg1, rfl, h1, h2⟩
  intro a K
  refine g_mapUpdate K rfl rfl rfl (update_new und148 (by repeat (first | exact get_upd_eq _ _ _ | assumption | refine (get_upd_ne _ _ (by omega)).trans ?_ | refine (h2 _ (by omega) (by omega) (by omega)).trans ?_)) (key9 _) rfl) ?_
  refine g_end ?_
  show Exq _ _ _ _ _
  repeat refine ex_seq ?_
  refine ex_region ?_
  refine g_binOp K rfl rfl rfl rfl fun a K => ?_
  refine g_move K rfl rfl fun a K => ?_
  refine g_end ?_
  show Exq _ _ _ _ _
  refine ex_loop ?_
  show Exq _ _ _ _ _
  repeat refine ex_seq ?_
  refine ex_region ?_
  refine g_binOp K rfl rfl rfl rfl fun a K => ?_
  refine g_end ?_
  show Exq _ _ _ _ _
  repeat refine ex_seq ?_
  refine k_cond (t := false) K rfl ?_
  refine ex_exit ?_
  show Exq _ _ _ _ _
  repeat refine ex_seq ?_
  refine ex_region ?_
  refine g_move K rfl rfl fun a K => ?_
  refine g_assign K rfl rfl fun a K => ?_
  refine g_end ?_
  show Exq _ _ _ _ _
  repeat refine ex_seq ?_
  refine ex_ret ?_
  (repeat first | rw [seqK_ret] | rw [blockK_ret] | rw [loopK_ret])
  refine leave K rfl (res_tmp K rfl res_nil) ?_
  exact ⟨n + 1 + 1 + 1, _, _, _, rfl, (by first | omega | (dsimp only; omega)), (by first | omega | (dsimp only; omega)), (by first | omega | (dsimp only; omega)), (by (try dsimp only); exact get_upd_eq _ _ _), (by intro m hm ; (try dsimp only); repeat (first | rfl | refine (get_upd_ne _ _ (by omega)).trans ?_ | refine (h2 _ (by omega) (by omega) (by omega)).trans ?_))⟩

end
end Go.E.FF

namespace Go.E.FF
open Go.Proofs
set_option maxRecDepth 100000
theorem eqm38 (x y : Operand) (r : Nat) : eBin Tryz.prog .eql 38 x y (.map (some r)) (.map none) = some (.bool false) := by kernel_rfl
theorem eqm39 (x y : Operand) (r : Nat) : eBin Tryz.prog .eql 39 x y (.map (some r)) (.map none) = some (.bool false) := by kernel_rfl
theorem eqs32n (x y : Operand) : eBin Tryz.prog .eql 32 x y (.slice none 0 0) (.slice none 0 0) = some (.bool true) := by kernel_rfl
theorem eqs32s (x y : Operand) (a : Addr) (k c : Nat) : eBin Tryz.prog .eql 32 x y (.slice (some a) k c) (.slice none 0 0) = some (.bool false) := by kernel_rfl
theorem eqp22 (x y : Operand) (a : Addr) : eBin Tryz.prog .eql 22 x y (.pointer (some a)) (.pointer none) = some (.bool false) := by kernel_rfl
theorem iface38 : (match und Tryz.prog 38 with | some (.interface _) | none => false | some _ => true) = true := by kernel_rfl
theorem iface39 : (match und Tryz.prog 39 with | some (.interface _) | none => false | some _ => true) = true := by kernel_rfl
theorem ta38 (v : Value) : eTypeAssert Tryz.prog (.iface 38 v) 38 false = some v := by kernel_rfl
theorem ta39 (v : Value) : eTypeAssert Tryz.prog (.iface 39 v) 39 false = some v := by kernel_rfl
theorem bs32_0 (st : Tr EObj) (n : Nat) (lg : List Nat) : eBuildSlice Tryz.prog 32 0 [] ⟨st, n, lg⟩ = .ok (.slice (some ⟨n, 0, none⟩) 0 1) ⟨st.upd n (some (.cells [] 9)), n + 1, lg⟩ := by kernel_rfl
theorem b41n (a b : Nat) : eBuild Tryz.prog 41 [(0, .map (some a)), (1, .map (some b)), (2, .slice none 0 0)] = some (.agg ⟨[.map (some a), .map (some b), .slice none 0 0]⟩) := by kernel_rfl
theorem b41s (a b : Nat) (c : Addr) (k m : Nat) : eBuild Tryz.prog 41 [(0, .map (some a)), (1, .map (some b)), (2, .slice (some c) k m)] = some (.agg ⟨[.map (some a), .map (some b), .slice (some c) k m]⟩) := by kernel_rfl
theorem clone_x {X : Ctx} {st : Tr EObj} {n : Nat} {lg : List Nat} {r c : Nat} {es : List MapEntry} {t : TypeId} (hx : X.x 71 = 4) (hr : st.get r = some (.map es c)) :
    eCallFunc Tryz.prog X 71 [.iface t (.map (some r))] ⟨st, n, lg⟩ = .ok (.val (.iface t (.map (some n)))) ⟨st.upd n (some (.map es c)), n + 1, lg⟩ := by
  unfold eCallFunc
  rw [hx]
  show (eClone r t).bnd _ _ = _
  have : eClone r t ⟨st, n, lg⟩ = .ok (.iface t (.map (some n))) ⟨st.upd n (some (.map es c)), n + 1, lg⟩ := by
    unfold eClone; rw [bnd_ok' (eget_ok hr)]; rfl
  rw [bnd_ok' this]; rfl
theorem und32 : und Tryz.prog 32 = some (.slice 9) := by kernel_rfl
theorem byt9 : byt Tryz.prog 9 = some 16 := by kernel_rfl
theorem zer9 : zer Tryz.prog 9 = some (.string ⟨⟨[]⟩⟩) := by kernel_rfl
theorem app32 {st : Tr EObj} {n m : Nat} {lg : List Nat} {c : Nat} {x : ByteArray} {e0 e1 : TypeId} (hn : st.get m = some (.cells [] e1)) (hc : st.get c = some (.cells [.string x] e0)) :
    eBuiltin Tryz.prog .append #[32, 32] ⟨[.slice (some ⟨m, 0, none⟩) 0 1, .slice (some ⟨c, 0, none⟩) 1 0]⟩ ⟨st, n, lg⟩ = .ok (.val (.slice (some ⟨n, 0, none⟩) 1 0)) ⟨st.upd n (some (.cells [.string x] 9)), n + 1, lg⟩ := by
  have h1 : rdCells ⟨c, 0, none⟩ 1 ⟨st, n, lg⟩ = .ok [.string x] ⟨st, n, lg⟩ := by
    unfold rdCells; simp only; rw [bnd_ok' (eget_ok hc)]; rfl
  have h2 : rdCells ⟨m, 0, none⟩ 0 ⟨st, n, lg⟩ = .ok [] ⟨st, n, lg⟩ := by
    unfold rdCells; simp only; rw [bnd_ok' (eget_ok hn)]; rfl
  have h3 : eAppend Tryz.prog #[32, 32] ⟨[.slice (some ⟨m, 0, none⟩) 0 1, .slice (some ⟨c, 0, none⟩) 1 0]⟩ ⟨st, n, lg⟩ = .ok (.slice (some ⟨n, 0, none⟩) 1 0) ⟨st.upd n (some (.cells [.string x] 9)), n + 1, lg⟩ := by
    unfold eAppend
    simp only [und32]
    unfold eAppend1
    simp only [siz9, byt9, zer9]
    have hs : srcCells 1 (.slice (some ⟨c, 0, none⟩) 1 0) ⟨st, n, lg⟩ = .ok (1, [.string x]) ⟨st, n, lg⟩ := by
      unfold srcCells; simp only; rw [bnd_ok' h1]; rfl
    show ((srcCells 1 (.slice (some ⟨c, 0, none⟩) 1 0)).bnd _) _ = _
    rw [bnd_ok' hs]
    show ((rdCells ⟨m, 0, none⟩ (Nat.mul 0 1)).bnd _) _ = _
    rw [bnd_ok' h2]
    rfl
  show vl (eAppend Tryz.prog #[32, 32] _) _ = _
  unfold vl
  rw [bnd_ok' h3]; rfl
section
variable {X : Ctx} {st : Tr EObj} {n : Nat} {lg : List Nat}
variable (hx71 : X.x 71 = 4)
include hx71
theorem mclone38 {r c : Nat} {es : List MapEntry} (hr : st.get r = some (.map es c)) :
    Exq Tryz.prog X (.call 38 [.map (some r)] .no) ⟨st, n, lg⟩ (· = .ret (.map (some n)) .no ⟨st.upd n (some (.map es c)), n + 1, lg⟩) := by
  refine ex_callK Tryz.func38 rfl rfl rfl fun a K => ?_
  show Exq _ _ _ _ _
  repeat refine ex_seq ?_
  refine ex_region ?_
  refine g_assign K rfl rfl fun a K => ?_
  refine g_end ?_
  show Exq _ _ _ _ _
  repeat refine ex_seq ?_
  refine ex_region ?_
  refine g_move K rfl rfl fun a K => ?_
  refine g_binOp K rfl rfl rfl (eqm38 _ _ _) fun a K => ?_
  refine g_end ?_
  show Exq _ _ _ _ _
  repeat refine ex_seq ?_
  refine k_cond (t := false) K rfl ?_
  refine ex_skip ?_
  show Exq _ _ _ _ _
  repeat refine ex_seq ?_
  refine ex_region ?_
  refine g_move K rfl rfl fun a K => ?_
  refine g_makeInterface K rfl rfl (iface38) fun a K => ?_
  refine g_callx K rfl rfl rfl (clone_x hx71 (by repeat (first | exact get_upd_eq _ _ _ | assumption | refine (get_upd_ne _ _ (by omega)).trans ?_))) fun a K => ?_
  refine g_typeAssert K rfl rfl (ta38 _) fun a K => ?_
  refine g_assign K rfl rfl fun a K => ?_
  refine g_end ?_
  show Exq _ _ _ _ _
  repeat refine ex_seq ?_
  refine ex_ret ?_
  (repeat first | rw [seqK_ret] | rw [blockK_ret] | rw [loopK_ret])
  refine leave K rfl (res_tmp K rfl res_nil) ?_
  rfl

theorem mclone39 {r c : Nat} {es : List MapEntry} (hr : st.get r = some (.map es c)) :
    Exq Tryz.prog X (.call 39 [.map (some r)] .no) ⟨st, n, lg⟩ (· = .ret (.map (some n)) .no ⟨st.upd n (some (.map es c)), n + 1, lg⟩) := by
  refine ex_callK Tryz.func39 rfl rfl rfl fun a K => ?_
  show Exq _ _ _ _ _
  repeat refine ex_seq ?_
  refine ex_region ?_
  refine g_assign K rfl rfl fun a K => ?_
  refine g_end ?_
  show Exq _ _ _ _ _
  repeat refine ex_seq ?_
  refine ex_region ?_
  refine g_move K rfl rfl fun a K => ?_
  refine g_binOp K rfl rfl rfl (eqm39 _ _ _) fun a K => ?_
  refine g_end ?_
  show Exq _ _ _ _ _
  repeat refine ex_seq ?_
  refine k_cond (t := false) K rfl ?_
  refine ex_skip ?_
  show Exq _ _ _ _ _
  repeat refine ex_seq ?_
  refine ex_region ?_
  refine g_move K rfl rfl fun a K => ?_
  refine g_makeInterface K rfl rfl (iface39) fun a K => ?_
  refine g_callx K rfl rfl rfl (clone_x hx71 (by repeat (first | exact get_upd_eq _ _ _ | assumption | refine (get_upd_ne _ _ (by omega)).trans ?_))) fun a K => ?_
  refine g_typeAssert K rfl rfl (ta39 _) fun a K => ?_
  refine g_assign K rfl rfl fun a K => ?_
  refine g_end ?_
  show Exq _ _ _ _ _
  repeat refine ex_seq ?_
  refine ex_ret ?_
  (repeat first | rw [seqK_ret] | rw [blockK_ret] | rw [loopK_ret])
  refine leave K rfl (res_tmp K rfl res_nil) ?_
  rfl

theorem sclone_nil : Exq Tryz.prog X (.call 37 [.slice none 0 0] .no) ⟨st, n, lg⟩ (· = .ret (.slice none 0 0) .no ⟨st, n, lg⟩) := by
  have _ := hx71
  refine ex_callK Tryz.func37 rfl rfl rfl fun a K => ?_
  show Exq _ _ _ _ _
  repeat refine ex_seq ?_
  refine ex_region ?_
  refine g_assign K rfl rfl fun a K => ?_
  refine g_end ?_
  show Exq _ _ _ _ _
  repeat refine ex_seq ?_
  refine ex_region ?_
  refine g_move K rfl rfl fun a K => ?_
  refine g_binOp K rfl rfl rfl (eqs32n _ _) fun a K => ?_
  refine g_end ?_
  show Exq _ _ _ _ _
  repeat refine ex_seq ?_
  refine k_cond (t := true) K rfl ?_
  show Exq _ _ _ _ _
  repeat refine ex_seq ?_
  refine ex_region ?_
  refine g_assign K rfl rfl fun a K => ?_
  refine g_end ?_
  show Exq _ _ _ _ _
  repeat refine ex_seq ?_
  refine ex_ret ?_
  (repeat first | rw [seqK_ret] | rw [blockK_ret] | rw [loopK_ret])
  refine leave K rfl (res_tmp K rfl res_nil) ?_
  rfl

theorem sclone_one {c : Nat} {x : ByteArray} {e0 : TypeId} (hc : st.get c = some (.cells [.string x] e0)) (b7 : c < n) : Exq Tryz.prog X (.call 37 [.slice (some ⟨c, 0, none⟩) 1 0] .no) ⟨st, n, lg⟩
    (· = .ret (.slice (some ⟨n + 1, 0, none⟩) 1 0) .no ⟨(st.upd n (some (.cells [] 9))).upd (n + 1) (some (.cells [.string x] 9)), n + 1 + 1, lg⟩) := by
  have _ := hx71
  refine ex_callK Tryz.func37 rfl rfl rfl fun a K => ?_
  show Exq _ _ _ _ _
  repeat refine ex_seq ?_
  refine ex_region ?_
  refine g_assign K rfl rfl fun a K => ?_
  refine g_end ?_
  show Exq _ _ _ _ _
  repeat refine ex_seq ?_
  refine ex_region ?_
  refine g_move K rfl rfl fun a K => ?_
  refine g_binOp K rfl rfl rfl (eqs32s _ _ _ _ _) fun a K => ?_
  refine g_end ?_
  show Exq _ _ _ _ _
  repeat refine ex_seq ?_
  refine k_cond (t := false) K rfl ?_
  refine ex_skip ?_
  show Exq _ _ _ _ _
  repeat refine ex_seq ?_
  refine ex_region ?_
  refine g_buildSlice K rfl rfl (bs32_0 _ _ _) fun a K => ?_
  refine g_move K rfl rfl fun a K => ?_
  refine g_builtin K rfl rfl (app32 (x := x) (e0 := e0) (by repeat (first | exact get_upd_eq _ _ _ | assumption | refine (get_upd_ne _ _ (by omega)).trans ?_)) (by repeat (first | exact get_upd_eq _ _ _ | assumption | refine (get_upd_ne _ _ (by omega)).trans ?_))) fun a K => ?_
  refine g_assign K rfl rfl fun a K => ?_
  refine g_end ?_
  show Exq _ _ _ _ _
  repeat refine ex_seq ?_
  refine ex_ret ?_
  (repeat first | rw [seqK_ret] | rw [blockK_ret] | rw [loopK_ret])
  refine leave K rfl (res_tmp K rfl res_nil) ?_
  rfl

variable (hx37 : X.x 37 = 0) (hx38 : X.x 38 = 0) (hx39 : X.x 39 = 0)
include hx37 hx38 hx39
theorem clone_nil {sh vb db ck : Nat} {es : List MapEntry} (hsh : st.get sh = some (.cells [.map (some vb), .map (some db), .slice none 0 0] 41)) (hdb : st.get db = some (.map es ck)) (hvb : st.get vb = some (.map [] 0))
    (b2 : sh < n) (b3 : db < n) (b6 : vb < n) :
    Exq Tryz.prog X (.call 14 [.pointer (some ⟨sh, 0, none⟩)] .no) ⟨st, n, lg⟩ (fun o => ∃ st' n' lg', o = .ret (.pointer (some ⟨n + 1 + 1, 0, none⟩)) .no ⟨st', n', lg'⟩ ∧ n + 1 + 1 < n' ∧
      st'.get (n + 1 + 1) = some (.cells [.map (some n), .map (some (n + 1)), .slice none 0 0] 41) ∧ st'.get n = some (.map [] 0) ∧ st'.get (n + 1) = some (.map es ck) ∧ ∀ m, m < n → st'.get m = st.get m) := by
  refine ex_callK Tryz.func14 rfl rfl rfl fun a K => ?_
  show Exq _ _ _ _ _
  repeat refine ex_seq ?_
  refine ex_region ?_
  refine g_assign K rfl rfl fun a K => ?_
  refine g_end ?_
  show Exq _ _ _ _ _
  repeat refine ex_seq ?_
  refine ex_region ?_
  refine g_move K rfl rfl fun a K => ?_
  refine g_binOp K rfl rfl rfl (eqp22 _ _ _) fun a K => ?_
  refine g_end ?_
  show Exq _ _ _ _ _
  repeat refine ex_seq ?_
  refine k_cond (t := false) K rfl ?_
  refine ex_skip ?_
  show Exq _ _ _ _ _
  repeat refine ex_seq ?_
  refine ex_draw (by kernel_rfl) ?_
  refine d_loc (ns := []) K rfl rfl (e_move K rfl) rfl (by repeat (first | exact hist_nil | refine hist_rec (by simp (disch := omega) only [rec_ff, rec_ft, rec_tf, made_nil, made_cons, made_f, meets_nil, meets_cons, hasN_nil, hasN_cons, nbeq_ne, Bool.or_false, Bool.not_false, Bool.and_self]) ?_ | refine hist_ord (by kernel_rfl) ?_)) fun a K => ?_
  refine d_loc (ns := []) K rfl rfl (e_nilCheck K rfl) rfl (by repeat (first | exact hist_nil | refine hist_rec (by simp (disch := omega) only [rec_ff, rec_ft, rec_tf, made_nil, made_cons, made_f, meets_nil, meets_cons, hasN_nil, hasN_cons, nbeq_ne, Bool.or_false, Bool.not_false, Bool.and_self]) ?_ | refine hist_ord (by kernel_rfl) ?_)) fun a K => ?_
  refine d_loc (ns := []) K rfl rfl (e_fieldAddr K rfl (fa41_0 _)) rfl (by repeat (first | exact hist_nil | refine hist_rec (by simp (disch := omega) only [rec_ff, rec_ft, rec_tf, made_nil, made_cons, made_f, meets_nil, meets_cons, hasN_nil, hasN_cons, nbeq_ne, Bool.or_false, Bool.not_false, Bool.and_self]) ?_ | refine hist_ord (by kernel_rfl) ?_)) fun a K => ?_
  refine d_loc K rfl rfl (e_load1 K rfl agg38 siz38 (by repeat (first | exact get_upd_eq _ _ _ | assumption | refine (get_upd_ne _ _ (by omega)).trans ?_)) rfl) (n_load K rfl) (by repeat (first | exact hist_nil | refine hist_rec (by simp (disch := omega) only [rec_ff, rec_ft, rec_tf, made_nil, made_cons, made_f, meets_nil, meets_cons, hasN_nil, hasN_cons, nbeq_ne, Bool.or_false, Bool.not_false, Bool.and_self]) ?_ | refine hist_ord (by kernel_rfl) ?_)) fun a K => ?_
  refine d_call K rfl rfl rfl hx38 body38 ((mclone38 hx71 (by repeat (first | exact get_upd_eq _ _ _ | assumption | refine (get_upd_ne _ _ (by omega)).trans ?_))).run) (by repeat (first | exact hist_nil | refine hist_rec (by simp (disch := omega) only [rec_ff, rec_ft, rec_tf, made_nil, made_cons, made_f, meets_nil, meets_cons, hasN_nil, hasN_cons, nbeq_ne, Bool.or_false, Bool.not_false, Bool.and_self]) ?_ | refine hist_ord (by kernel_rfl) ?_)) fun a K => ?_
  refine d_loc (ns := []) K rfl rfl (e_move K rfl) rfl (by repeat (first | exact hist_nil | refine hist_rec (by simp (disch := omega) only [rec_ff, rec_ft, rec_tf, made_nil, made_cons, made_f, meets_nil, meets_cons, hasN_nil, hasN_cons, nbeq_ne, Bool.or_false, Bool.not_false, Bool.and_self]) ?_ | refine hist_ord (by kernel_rfl) ?_)) fun a K => ?_
  refine d_loc (ns := []) K rfl rfl (e_nilCheck K rfl) rfl (by repeat (first | exact hist_nil | refine hist_rec (by simp (disch := omega) only [rec_ff, rec_ft, rec_tf, made_nil, made_cons, made_f, meets_nil, meets_cons, hasN_nil, hasN_cons, nbeq_ne, Bool.or_false, Bool.not_false, Bool.and_self]) ?_ | refine hist_ord (by kernel_rfl) ?_)) fun a K => ?_
  refine d_loc (ns := []) K rfl rfl (e_fieldAddr K rfl (fa41_1 _)) rfl (by repeat (first | exact hist_nil | refine hist_rec (by simp (disch := omega) only [rec_ff, rec_ft, rec_tf, made_nil, made_cons, made_f, meets_nil, meets_cons, hasN_nil, hasN_cons, nbeq_ne, Bool.or_false, Bool.not_false, Bool.and_self]) ?_ | refine hist_ord (by kernel_rfl) ?_)) fun a K => ?_
  refine d_loc K rfl rfl (e_load1 K rfl agg39 siz39 (by repeat (first | exact get_upd_eq _ _ _ | assumption | refine (get_upd_ne _ _ (by omega)).trans ?_)) rfl) (n_load K rfl) (by repeat (first | exact hist_nil | refine hist_rec (by simp (disch := omega) only [rec_ff, rec_ft, rec_tf, made_nil, made_cons, made_f, meets_nil, meets_cons, hasN_nil, hasN_cons, nbeq_ne, Bool.or_false, Bool.not_false, Bool.and_self]) ?_ | refine hist_ord (by kernel_rfl) ?_)) fun a K => ?_
  refine d_call K rfl rfl rfl hx39 body39 ((mclone39 hx71 (by repeat (first | exact get_upd_eq _ _ _ | assumption | refine (get_upd_ne _ _ (by omega)).trans ?_))).run) (by repeat (first | exact hist_nil | refine hist_rec (by simp (disch := omega) only [rec_ff, rec_ft, rec_tf, made_nil, made_cons, made_f, meets_nil, meets_cons, hasN_nil, hasN_cons, nbeq_ne, Bool.or_false, Bool.not_false, Bool.and_self]) ?_ | refine hist_ord (by kernel_rfl) ?_)) fun a K => ?_
  refine d_loc (ns := []) K rfl rfl (e_move K rfl) rfl (by repeat (first | exact hist_nil | refine hist_rec (by simp (disch := omega) only [rec_ff, rec_ft, rec_tf, made_nil, made_cons, made_f, meets_nil, meets_cons, hasN_nil, hasN_cons, nbeq_ne, Bool.or_false, Bool.not_false, Bool.and_self]) ?_ | refine hist_ord (by kernel_rfl) ?_)) fun a K => ?_
  refine d_loc (ns := []) K rfl rfl (e_nilCheck K rfl) rfl (by repeat (first | exact hist_nil | refine hist_rec (by simp (disch := omega) only [rec_ff, rec_ft, rec_tf, made_nil, made_cons, made_f, meets_nil, meets_cons, hasN_nil, hasN_cons, nbeq_ne, Bool.or_false, Bool.not_false, Bool.and_self]) ?_ | refine hist_ord (by kernel_rfl) ?_)) fun a K => ?_
  refine d_loc (ns := []) K rfl rfl (e_fieldAddr K rfl (fa41_2 _)) rfl (by repeat (first | exact hist_nil | refine hist_rec (by simp (disch := omega) only [rec_ff, rec_ft, rec_tf, made_nil, made_cons, made_f, meets_nil, meets_cons, hasN_nil, hasN_cons, nbeq_ne, Bool.or_false, Bool.not_false, Bool.and_self]) ?_ | refine hist_ord (by kernel_rfl) ?_)) fun a K => ?_
  refine d_loc K rfl rfl (e_load1 K rfl agg32 siz32 (by repeat (first | exact get_upd_eq _ _ _ | assumption | refine (get_upd_ne _ _ (by omega)).trans ?_)) rfl) (n_load K rfl) (by repeat (first | exact hist_nil | refine hist_rec (by simp (disch := omega) only [rec_ff, rec_ft, rec_tf, made_nil, made_cons, made_f, meets_nil, meets_cons, hasN_nil, hasN_cons, nbeq_ne, Bool.or_false, Bool.not_false, Bool.and_self]) ?_ | refine hist_ord (by kernel_rfl) ?_)) fun a K => ?_
  refine d_call K rfl rfl rfl hx37 body37 ((sclone_nil hx71).run) (by repeat (first | exact hist_nil | refine hist_rec (by simp (disch := omega) only [rec_ff, rec_ft, rec_tf, made_nil, made_cons, made_f, meets_nil, meets_cons, hasN_nil, hasN_cons, nbeq_ne, Bool.or_false, Bool.not_false, Bool.and_self]) ?_ | refine hist_ord (by kernel_rfl) ?_)) fun a K => ?_
  refine d_loc (ns := []) K rfl rfl (e_build K rfl (b41n _ _)) rfl (by repeat (first | exact hist_nil | refine hist_rec (by simp (disch := omega) only [rec_ff, rec_ft, rec_tf, made_nil, made_cons, made_f, meets_nil, meets_cons, hasN_nil, hasN_cons, nbeq_ne, Bool.or_false, Bool.not_false, Bool.and_self]) ?_ | refine hist_ord (by kernel_rfl) ?_)) fun a K => ?_
  refine d_loc (ns := []) K rfl rfl (e_box K rfl rfl) rfl (by repeat (first | exact hist_nil | refine hist_rec (by simp (disch := omega) only [rec_ff, rec_ft, rec_tf, made_nil, made_cons, made_f, meets_nil, meets_cons, hasN_nil, hasN_cons, nbeq_ne, Bool.or_false, Bool.not_false, Bool.and_self]) ?_ | refine hist_ord (by kernel_rfl) ?_)) fun a K => ?_
  refine d_loc (ns := []) K rfl rfl (e_assign K rfl) rfl (by repeat (first | exact hist_nil | refine hist_rec (by simp (disch := omega) only [rec_ff, rec_ft, rec_tf, made_nil, made_cons, made_f, meets_nil, meets_cons, hasN_nil, hasN_cons, nbeq_ne, Bool.or_false, Bool.not_false, Bool.and_self]) ?_ | refine hist_ord (by kernel_rfl) ?_)) fun a K => ?_
  refine d_end ?_
  show Exq _ _ _ _ _
  repeat refine ex_seq ?_
  refine ex_ret ?_
  (repeat first | rw [seqK_ret] | rw [blockK_ret] | rw [loopK_ret])
  refine leave K rfl (res_tmp K rfl res_nil) ?_
  exact ⟨_, _, _, rfl, (by first | omega | (dsimp only; omega)), (by (try dsimp only); repeat (first | exact get_upd_eq _ _ _ | refine (get_upd_ne _ _ (by omega)).trans ?_)), (by (try dsimp only); repeat (first | exact get_upd_eq _ _ _ | refine (get_upd_ne _ _ (by omega)).trans ?_)), (by (try dsimp only); repeat (first | exact get_upd_eq _ _ _ | refine (get_upd_ne _ _ (by omega)).trans ?_)), (by intro m hm ; (try dsimp only); repeat (first | rfl | refine (get_upd_ne _ _ (by omega)).trans ?_))⟩

theorem clone_one {sh vb db ck : Nat} {es : List MapEntry} {c : Nat} {x : ByteArray} {e0 : TypeId} (hc : st.get c = some (.cells [.string x] e0)) (b7 : c < n) (hsh : st.get sh = some (.cells [.map (some vb), .map (some db), .slice (some ⟨c, 0, none⟩) 1 0] 41)) (hdb : st.get db = some (.map es ck)) (hvb : st.get vb = some (.map [] 0))
    (b2 : sh < n) (b3 : db < n) (b6 : vb < n) :
    Exq Tryz.prog X (.call 14 [.pointer (some ⟨sh, 0, none⟩)] .no) ⟨st, n, lg⟩ (fun o => ∃ st' n' lg', o = .ret (.pointer (some ⟨n + 1 + 1 + 1 + 1, 0, none⟩)) .no ⟨st', n', lg'⟩ ∧ n + 1 + 1 + 1 + 1 < n' ∧
      st'.get (n + 1 + 1 + 1 + 1) = some (.cells [.map (some n), .map (some (n + 1)), .slice (some ⟨n + 1 + 1 + 1, 0, none⟩) 1 0] 41) ∧ st'.get n = some (.map [] 0) ∧ st'.get (n + 1) = some (.map es ck) ∧ st'.get (n + 1 + 1 + 1) = some (.cells [.string x] 9) ∧ ∀ m, m < n → st'.get m = st.get m) := by
  refine ex_callK Tryz.func14 rfl rfl rfl fun a K => ?_
  show Exq _ _ _ _ _
  repeat refine ex_seq ?_
  refine ex_region ?_
  refine g_assign K rfl rfl fun a K => ?_
  refine g_end ?_
  show Exq _ _ _ _ _
  repeat refine ex_seq ?_
  refine ex_region ?_
  refine g_move K rfl rfl fun a K => ?_
  refine g_binOp K rfl rfl rfl (eqp22 _ _ _) fun a K => ?_
  refine g_end ?_
  show Exq _ _ _ _ _
  repeat refine ex_seq ?_
  refine k_cond (t := false) K rfl ?_
  refine ex_skip ?_
  show Exq _ _ _ _ _
  repeat refine ex_seq ?_
  refine ex_draw (by kernel_rfl) ?_
  refine d_loc (ns := []) K rfl rfl (e_move K rfl) rfl (by repeat (first | exact hist_nil | refine hist_rec (by simp (disch := omega) only [rec_ff, rec_ft, rec_tf, made_nil, made_cons, made_f, meets_nil, meets_cons, hasN_nil, hasN_cons, nbeq_ne, Bool.or_false, Bool.not_false, Bool.and_self]) ?_ | refine hist_ord (by kernel_rfl) ?_)) fun a K => ?_
  refine d_loc (ns := []) K rfl rfl (e_nilCheck K rfl) rfl (by repeat (first | exact hist_nil | refine hist_rec (by simp (disch := omega) only [rec_ff, rec_ft, rec_tf, made_nil, made_cons, made_f, meets_nil, meets_cons, hasN_nil, hasN_cons, nbeq_ne, Bool.or_false, Bool.not_false, Bool.and_self]) ?_ | refine hist_ord (by kernel_rfl) ?_)) fun a K => ?_
  refine d_loc (ns := []) K rfl rfl (e_fieldAddr K rfl (fa41_0 _)) rfl (by repeat (first | exact hist_nil | refine hist_rec (by simp (disch := omega) only [rec_ff, rec_ft, rec_tf, made_nil, made_cons, made_f, meets_nil, meets_cons, hasN_nil, hasN_cons, nbeq_ne, Bool.or_false, Bool.not_false, Bool.and_self]) ?_ | refine hist_ord (by kernel_rfl) ?_)) fun a K => ?_
  refine d_loc K rfl rfl (e_load1 K rfl agg38 siz38 (by repeat (first | exact get_upd_eq _ _ _ | assumption | refine (get_upd_ne _ _ (by omega)).trans ?_)) rfl) (n_load K rfl) (by repeat (first | exact hist_nil | refine hist_rec (by simp (disch := omega) only [rec_ff, rec_ft, rec_tf, made_nil, made_cons, made_f, meets_nil, meets_cons, hasN_nil, hasN_cons, nbeq_ne, Bool.or_false, Bool.not_false, Bool.and_self]) ?_ | refine hist_ord (by kernel_rfl) ?_)) fun a K => ?_
  refine d_call K rfl rfl rfl hx38 body38 ((mclone38 hx71 (by repeat (first | exact get_upd_eq _ _ _ | assumption | refine (get_upd_ne _ _ (by omega)).trans ?_))).run) (by repeat (first | exact hist_nil | refine hist_rec (by simp (disch := omega) only [rec_ff, rec_ft, rec_tf, made_nil, made_cons, made_f, meets_nil, meets_cons, hasN_nil, hasN_cons, nbeq_ne, Bool.or_false, Bool.not_false, Bool.and_self]) ?_ | refine hist_ord (by kernel_rfl) ?_)) fun a K => ?_
  refine d_loc (ns := []) K rfl rfl (e_move K rfl) rfl (by repeat (first | exact hist_nil | refine hist_rec (by simp (disch := omega) only [rec_ff, rec_ft, rec_tf, made_nil, made_cons, made_f, meets_nil, meets_cons, hasN_nil, hasN_cons, nbeq_ne, Bool.or_false, Bool.not_false, Bool.and_self]) ?_ | refine hist_ord (by kernel_rfl) ?_)) fun a K => ?_
  refine d_loc (ns := []) K rfl rfl (e_nilCheck K rfl) rfl (by repeat (first | exact hist_nil | refine hist_rec (by simp (disch := omega) only [rec_ff, rec_ft, rec_tf, made_nil, made_cons, made_f, meets_nil, meets_cons, hasN_nil, hasN_cons, nbeq_ne, Bool.or_false, Bool.not_false, Bool.and_self]) ?_ | refine hist_ord (by kernel_rfl) ?_)) fun a K => ?_
  refine d_loc (ns := []) K rfl rfl (e_fieldAddr K rfl (fa41_1 _)) rfl (by repeat (first | exact hist_nil | refine hist_rec (by simp (disch := omega) only [rec_ff, rec_ft, rec_tf, made_nil, made_cons, made_f, meets_nil, meets_cons, hasN_nil, hasN_cons, nbeq_ne, Bool.or_false, Bool.not_false, Bool.and_self]) ?_ | refine hist_ord (by kernel_rfl) ?_)) fun a K => ?_
  refine d_loc K rfl rfl (e_load1 K rfl agg39 siz39 (by repeat (first | exact get_upd_eq _ _ _ | assumption | refine (get_upd_ne _ _ (by omega)).trans ?_)) rfl) (n_load K rfl) (by repeat (first | exact hist_nil | refine hist_rec (by simp (disch := omega) only [rec_ff, rec_ft, rec_tf, made_nil, made_cons, made_f, meets_nil, meets_cons, hasN_nil, hasN_cons, nbeq_ne, Bool.or_false, Bool.not_false, Bool.and_self]) ?_ | refine hist_ord (by kernel_rfl) ?_)) fun a K => ?_
  refine d_call K rfl rfl rfl hx39 body39 ((mclone39 hx71 (by repeat (first | exact get_upd_eq _ _ _ | assumption | refine (get_upd_ne _ _ (by omega)).trans ?_))).run) (by repeat (first | exact hist_nil | refine hist_rec (by simp (disch := omega) only [rec_ff, rec_ft, rec_tf, made_nil, made_cons, made_f, meets_nil, meets_cons, hasN_nil, hasN_cons, nbeq_ne, Bool.or_false, Bool.not_false, Bool.and_self]) ?_ | refine hist_ord (by kernel_rfl) ?_)) fun a K => ?_
  refine d_loc (ns := []) K rfl rfl (e_move K rfl) rfl (by repeat (first | exact hist_nil | refine hist_rec (by simp (disch := omega) only [rec_ff, rec_ft, rec_tf, made_nil, made_cons, made_f, meets_nil, meets_cons, hasN_nil, hasN_cons, nbeq_ne, Bool.or_false, Bool.not_false, Bool.and_self]) ?_ | refine hist_ord (by kernel_rfl) ?_)) fun a K => ?_
  refine d_loc (ns := []) K rfl rfl (e_nilCheck K rfl) rfl (by repeat (first | exact hist_nil | refine hist_rec (by simp (disch := omega) only [rec_ff, rec_ft, rec_tf, made_nil, made_cons, made_f, meets_nil, meets_cons, hasN_nil, hasN_cons, nbeq_ne, Bool.or_false, Bool.not_false, Bool.and_self]) ?_ | refine hist_ord (by kernel_rfl) ?_)) fun a K => ?_
  refine d_loc (ns := []) K rfl rfl (e_fieldAddr K rfl (fa41_2 _)) rfl (by repeat (first | exact hist_nil | refine hist_rec (by simp (disch := omega) only [rec_ff, rec_ft, rec_tf, made_nil, made_cons, made_f, meets_nil, meets_cons, hasN_nil, hasN_cons, nbeq_ne, Bool.or_false, Bool.not_false, Bool.and_self]) ?_ | refine hist_ord (by kernel_rfl) ?_)) fun a K => ?_
  refine d_loc K rfl rfl (e_load1 K rfl agg32 siz32 (by repeat (first | exact get_upd_eq _ _ _ | assumption | refine (get_upd_ne _ _ (by omega)).trans ?_)) rfl) (n_load K rfl) (by repeat (first | exact hist_nil | refine hist_rec (by simp (disch := omega) only [rec_ff, rec_ft, rec_tf, made_nil, made_cons, made_f, meets_nil, meets_cons, hasN_nil, hasN_cons, nbeq_ne, Bool.or_false, Bool.not_false, Bool.and_self]) ?_ | refine hist_ord (by kernel_rfl) ?_)) fun a K => ?_
  refine d_call K rfl rfl rfl hx37 body37 ((sclone_one hx71 (x := x) (e0 := e0) (by repeat (first | exact get_upd_eq _ _ _ | assumption | refine (get_upd_ne _ _ (by omega)).trans ?_)) (by omega)).run) (by repeat (first | exact hist_nil | refine hist_rec (by simp (disch := omega) only [rec_ff, rec_ft, rec_tf, made_nil, made_cons, made_f, meets_nil, meets_cons, hasN_nil, hasN_cons, nbeq_ne, Bool.or_false, Bool.not_false, Bool.and_self]) ?_ | refine hist_ord (by kernel_rfl) ?_)) fun a K => ?_
  refine d_loc (ns := []) K rfl rfl (e_build K rfl (b41s _ _ _ _ _)) rfl (by repeat (first | exact hist_nil | refine hist_rec (by simp (disch := omega) only [rec_ff, rec_ft, rec_tf, made_nil, made_cons, made_f, meets_nil, meets_cons, hasN_nil, hasN_cons, nbeq_ne, Bool.or_false, Bool.not_false, Bool.and_self]) ?_ | refine hist_ord (by kernel_rfl) ?_)) fun a K => ?_
  refine d_loc (ns := []) K rfl rfl (e_box K rfl rfl) rfl (by repeat (first | exact hist_nil | refine hist_rec (by simp (disch := omega) only [rec_ff, rec_ft, rec_tf, made_nil, made_cons, made_f, meets_nil, meets_cons, hasN_nil, hasN_cons, nbeq_ne, Bool.or_false, Bool.not_false, Bool.and_self]) ?_ | refine hist_ord (by kernel_rfl) ?_)) fun a K => ?_
  refine d_loc (ns := []) K rfl rfl (e_assign K rfl) rfl (by repeat (first | exact hist_nil | refine hist_rec (by simp (disch := omega) only [rec_ff, rec_ft, rec_tf, made_nil, made_cons, made_f, meets_nil, meets_cons, hasN_nil, hasN_cons, nbeq_ne, Bool.or_false, Bool.not_false, Bool.and_self]) ?_ | refine hist_ord (by kernel_rfl) ?_)) fun a K => ?_
  refine d_end ?_
  show Exq _ _ _ _ _
  repeat refine ex_seq ?_
  refine ex_ret ?_
  (repeat first | rw [seqK_ret] | rw [blockK_ret] | rw [loopK_ret])
  refine leave K rfl (res_tmp K rfl res_nil) ?_
  exact ⟨_, _, _, rfl, (by first | omega | (dsimp only; omega)), (by (try dsimp only); repeat (first | exact get_upd_eq _ _ _ | refine (get_upd_ne _ _ (by omega)).trans ?_)), (by (try dsimp only); repeat (first | exact get_upd_eq _ _ _ | refine (get_upd_ne _ _ (by omega)).trans ?_)), (by (try dsimp only); repeat (first | exact get_upd_eq _ _ _ | refine (get_upd_ne _ _ (by omega)).trans ?_)), (by (try dsimp only); repeat (first | exact get_upd_eq _ _ _ | refine (get_upd_ne _ _ (by omega)).trans ?_)), (by intro m hm ; (try dsimp only); repeat (first | rfl | refine (get_upd_ne _ _ (by omega)).trans ?_))⟩

end
end Go.E.FF

