import Derived.Test.YthbkkpahoolhbaaGreatDoorEv25
set_option linter.unusedSimpArgs false
set_option linter.unusedVariables false
set_option linter.unusedSectionVars false
namespace Go.E.FF
open Go.Proofs
set_option maxRecDepth 100000
theorem body64 : hasBody Tryz.prog 64 = true := by kernel_rfl
theorem neq_new (x y : Operand) (k : Int) : eBin Tryz.prog .neq 83 x y (.agg ⟨[.int .i64 0, .int .i64 0, .string ⟨⟨[]⟩⟩, .int .i64 30]⟩) (.agg ⟨[.int .i64 1, .int .i64 k, .string ⟨⟨[]⟩⟩, .int .i64 0]⟩) = some (.bool true) := by kernel_rfl
theorem neq_old (x y : Operand) : eBin Tryz.prog .neq 83 x y (.agg ⟨[.int .i64 1, .int .i64 1, .string ⟨⟨[]⟩⟩, .int .i64 0]⟩) (.agg ⟨[.int .i64 1, .int .i64 2, .string ⟨⟨[]⟩⟩, .int .i64 0]⟩) = some (.bool true) := by kernel_rfl
theorem bs32_1 (st : Tr EObj) (n : Nat) (lg : List Nat) (nm : ByteArray) : eBuildSlice Tryz.prog 32 1 [(0, .string nm)] ⟨st, n, lg⟩ = .ok (.slice (some ⟨n, 0, none⟩) 1 2) ⟨st.upd n (some (.cells [.string nm] 9)), n + 1, lg⟩ := by kernel_rfl
theorem appn32 {st : Tr EObj} {n : Nat} {lg : List Nat} {c : Nat} {x : ByteArray} {e0 : TypeId} (hc : st.get c = some (.cells [.string x] e0)) :
    eBuiltin Tryz.prog .append #[32, 32] ⟨[.slice none 0 0, .slice (some ⟨c, 0, none⟩) 1 2]⟩ ⟨st, n, lg⟩ = .ok (.val (.slice (some ⟨n, 0, none⟩) 1 0)) ⟨st.upd n (some (.cells [.string x] 9)), n + 1, lg⟩ := by
  have h1 : rdCells ⟨c, 0, none⟩ 1 ⟨st, n, lg⟩ = .ok [.string x] ⟨st, n, lg⟩ := by
    unfold rdCells; simp only; rw [bnd_ok' (eget_ok hc)]; rfl
  have h3 : eAppend Tryz.prog #[32, 32] ⟨[.slice none 0 0, .slice (some ⟨c, 0, none⟩) 1 2]⟩ ⟨st, n, lg⟩ = .ok (.slice (some ⟨n, 0, none⟩) 1 0) ⟨st.upd n (some (.cells [.string x] 9)), n + 1, lg⟩ := by
    unfold eAppend
    simp only [und32]
    unfold eAppend1
    simp only [siz9, byt9, zer9]
    have hs : srcCells 1 (.slice (some ⟨c, 0, none⟩) 1 2) ⟨st, n, lg⟩ = .ok (1, [.string x]) ⟨st, n, lg⟩ := by
      unfold srcCells; simp only; rw [bnd_ok' h1]; rfl
    show ((srcCells 1 (.slice (some ⟨c, 0, none⟩) 1 2)).bnd _) _ = _
    rw [bnd_ok' hs]
    rfl
  show vl (eAppend Tryz.prog #[32, 32] _) _ = _
  unfold vl
  rw [bnd_ok' h3]; rfl
section
variable {X : Ctx} {st : Tr EObj} {n : Nat} {lg : List Nat}
variable (hx34 : X.x 34 = 8) (hN : ∀ k : Int, K12 k → X.m 34 [.agg ⟨[.int .i64 1, .int .i64 k, .string ⟨⟨[]⟩⟩, .slice none 0 0]⟩] = some (.slice none 0 0))
variable (hx109 : X.x 109 = 8) (hE : ∀ k : Int, K12 k → X.m 109 [.agg ⟨[.int .i64 1, .int .i64 k, .string ⟨⟨[]⟩⟩, .slice none 0 0]⟩, .slice none 0 0] = some (.tuple ⟨[.agg ⟨[.int .i64 1, .int .i64 k, .string ⟨⟨[]⟩⟩]⟩, .int .i64 0]⟩))
variable (hx30 : X.x 30 = 0) (hx66 : X.x 66 = 0) (hx23 : X.x 23 = 0) (hx24 : X.x 24 = 0) (hx71 : X.x 71 = 4) (hx37 : X.x 37 = 0) (hx38 : X.x 38 = 0) (hx39 : X.x 39 = 0)
variable (hx63 : X.x 63 = 9) (hh63 : ∀ sh nm ob, X.h 63 [.pointer (some ⟨sh, 0, none⟩), .string nm, .map (some ob)] = some ⟨aUsers1 sh nm ob, wf_aUsers1 sh nm ob⟩)
variable (hx64 : X.x 64 = 9) (hh64 : ∀ ob, X.h 64 [.map (some ob)] = some ⟨aKeys 108 (.map (some ob)), wf_aKeys 108 (.map (some ob))⟩) (h25 : X.x 25 = 6) (h108 : X.x 108 = 7)
variable (hx14 : X.x 14 = 0) (hx22 : X.x 22 = 0) (hx65 : X.x 65 = 0)
include hx34 hN hx109 hE hx30 hx66 hx23 hx24 hx71 hx37 hx38 hx39 hx63 hh63 hx64 hh64 h25 h108 hx14 hx22 hx65
theorem change_new_nil {sh vb db ck c0 c1 c2 i2 bo2 : Nat} {es : List MapEntry} {nm : ByteArray} {k : Int} {key2 : Value} (hc0 : st.get c0 = some (.cells [.int .i64 1, .int .i64 k, .string ⟨⟨[]⟩⟩, .slice none 0 0] 67)) (hc1 : st.get c1 = some (.cells [.pointer (some ⟨sh, 0, none⟩)] 22)) (hc2 : st.get c2 = some (.cells [.string nm] 9))
    (hsh : st.get sh = some (.cells [.map (some vb), .map (some db), .slice none 0 0] 41)) (hdb : st.get db = some (.map es ck)) (hvb : st.get vb = some (.map [] 0)) (b1 : c0 < n) (b2 : sh < n) (b3 : db < n) (b4 : c1 < n) (b5 : c2 < n) (b6 : vb < n) (e1 : db ≠ c0) (e2 : db ≠ c1) (e3 : db ≠ c2) (e4 : db ≠ sh) (e5 : vb ≠ db) (e6 : vb ≠ sh) 
    (hkk : K12 k) (hf : findE Tryz.prog 9 (.string nm) es 0 = some none) (hl : (bytes nm).length.ble 1048576 = true) (hd : es.all (okE ck) = true) (hd2 : (es ++ [⟨.string nm, .agg ⟨[.int .i64 1, .int .i64 k, .string ⟨⟨[]⟩⟩, .slice none 0 0]⟩, ck⟩] : List MapEntry).all (okE (ck + 1)) = true)
    (hf2 : findE Tryz.prog 9 (.string nm) (es ++ [⟨.string nm, .agg ⟨[.int .i64 1, .int .i64 k, .string ⟨⟨[]⟩⟩, .slice none 0 0]⟩, ck⟩] : List MapEntry) 0 = some (some (i2, ⟨key2, .agg ⟨[.int .i64 1, .int .i64 k, .string ⟨⟨[]⟩⟩, .slice none 0 0]⟩, bo2⟩))) :
    Exq Tryz.prog X (.call 21 [.pointer (some ⟨sh, 0, none⟩), .string nm, .func (.func 22) ⟨[]⟩ ⟨[.pointer (some ⟨c0, 0, none⟩), .pointer (some ⟨c1, 0, none⟩), .pointer (some ⟨c2, 0, none⟩)]⟩] .no) ⟨st, n, lg⟩ (fun o => ∃ st' n' lg' c', o = .ret (.tuple ⟨[]⟩) .no ⟨st', n', lg'⟩ ∧ n ≤ n' ∧ n ≤ c' ∧ c' < n' ∧
      st'.get sh = some (.cells [.map (some vb), .map (some db), .slice (some ⟨c', 0, none⟩) 1 0] 41) ∧ st'.get c' = some (.cells [.string nm] 9) ∧ st'.get db = some (.map (es ++ [⟨.string nm, .agg ⟨[.int .i64 1, .int .i64 k, .string ⟨⟨[]⟩⟩, .slice none 0 0]⟩, ck⟩] : List MapEntry) (ck + 1)) ∧ st'.get vb = some (.map [] 0)) := by
  refine ex_callK Tryz.func21 rfl rfl rfl fun a K => ?_
  show Exq _ _ _ _ _
  repeat refine ex_seq ?_
  refine ex_region ?_
  refine g_makeMap K rfl fun a K => ?_
  refine g_assign K rfl rfl fun a K => ?_
  refine g_end ?_
  show Exq _ _ _ _ _
  repeat refine ex_seq ?_
  refine ex_region ?_
  refine g_move K rfl rfl fun a K => ?_
  refine g_move K rfl rfl fun a K => ?_
  refine g_move K rfl rfl fun a K => ?_
  refine g_callh K rfl rfl rfl hx63 body63 (hh63 _ _ _) (users_new (by repeat (first | exact get_upd_eq _ _ _ | assumption | refine (get_upd_ne _ _ (by omega)).trans ?_)) (by repeat (first | exact get_upd_eq _ _ _ | assumption | refine (get_upd_ne _ _ (by omega)).trans ?_)) hd (by repeat (first | exact get_upd_eq _ _ _ | assumption | refine (get_upd_ne _ _ (by omega)).trans ?_))) fun a K => ?_
  refine g_end ?_
  show Exq _ _ _ _ _
  repeat refine ex_seq ?_
  refine ex_region ?_
  refine g_move K rfl rfl fun a K => ?_
  refine g_callq K rfl rfl rfl hx14 body14 ((clone_nil hx71 hx37 hx38 hx39 (vb := vb) (db := db) (by repeat (first | exact get_upd_eq _ _ _ | assumption | refine (get_upd_ne _ _ (by omega)).trans ?_)) (by repeat (first | exact get_upd_eq _ _ _ | assumption | refine (get_upd_ne _ _ (by omega)).trans ?_)) (by repeat (first | exact get_upd_eq _ _ _ | assumption | refine (get_upd_ne _ _ (by omega)).trans ?_)) (by omega) (by omega) (by omega)).mono ?_)
  rintro _ ⟨st1, n1, lg1, rfl, h1, g1, g2, g3, h2⟩
  intro a K
  refine g_assign K rfl rfl fun a K => ?_
  refine g_end ?_
  show Exq _ _ _ _ _
  repeat refine ex_seq ?_
  refine ex_region ?_
  refine g_move K rfl rfl fun a K => ?_
  refine g_callv K rfl rfl rfl hx22 body22 ((define1_new (sh := sh) (vb := vb) (db := db) (by repeat (first | exact get_upd_eq _ _ _ | assumption | refine (get_upd_ne _ _ (by omega)).trans ?_ | refine (h2 _ (by omega)).trans ?_)) (by repeat (first | exact get_upd_eq _ _ _ | assumption | refine (get_upd_ne _ _ (by omega)).trans ?_ | refine (h2 _ (by omega)).trans ?_)) (by repeat (first | exact get_upd_eq _ _ _ | assumption | refine (get_upd_ne _ _ (by omega)).trans ?_ | refine (h2 _ (by omega)).trans ?_)) (by repeat (first | exact get_upd_eq _ _ _ | assumption | refine (get_upd_ne _ _ (by omega)).trans ?_ | refine (h2 _ (by omega)).trans ?_)) (by repeat (first | exact get_upd_eq _ _ _ | assumption | refine (get_upd_ne _ _ (by omega)).trans ?_ | refine (h2 _ (by omega)).trans ?_)) (by omega) (by omega) (by omega) (by omega) (by omega) (by omega) (by omega) (by omega) (by omega) hf).run) fun a K => ?_
  refine g_end ?_
  show Exq _ _ _ _ _
  repeat refine ex_seq ?_
  refine ex_region ?_
  refine g_move K rfl rfl fun a K => ?_
  refine g_move K rfl rfl fun a K => ?_
  refine g_move K rfl rfl fun a K => ?_
  refine g_callh K rfl rfl rfl hx63 body63 (hh63 _ _ _) (users_old (es := (es ++ [⟨.string nm, .agg ⟨[.int .i64 1, .int .i64 k, .string ⟨⟨[]⟩⟩, .slice none 0 0]⟩, ck⟩] : List MapEntry)) (by repeat (first | exact get_upd_eq _ _ _ | assumption | refine (get_upd_ne _ _ (by omega)).trans ?_ | refine (h2 _ (by omega)).trans ?_)) (by repeat (first | exact get_upd_eq _ _ _ | assumption | refine (get_upd_ne _ _ (by omega)).trans ?_ | refine (h2 _ (by omega)).trans ?_)) hd2 (by repeat (first | exact get_upd_eq _ _ _ | assumption | refine (get_upd_ne _ _ (by omega)).trans ?_ | refine (h2 _ (by omega)).trans ?_))) fun a K => ?_
  refine g_end ?_
  show Exq _ _ _ _ _
  repeat refine ex_seq ?_
  refine ex_region ?_
  refine g_move K rfl rfl fun a K => ?_
  refine g_callh K rfl rfl rfl hx64 body64 (hh64 _) (keys_run) fun a K => ?_
  refine g_callk K rfl rfl rfl (keys_x h25 h108) (elem25') (sorted_one (by repeat (first | exact get_upd_eq _ _ _ | assumption | refine (get_upd_ne _ _ (by omega)).trans ?_ | refine (h2 _ (by omega)).trans ?_)) (by repeat (first | exact get_upd_eq _ _ _ | assumption | refine (get_upd_ne _ _ (by omega)).trans ?_ | refine (h2 _ (by omega)).trans ?_)) hl) fun a K => ?_
  refine g_assign K rfl rfl fun a K => ?_
  refine g_end ?_
  show Exq _ _ _ _ _
  repeat refine ex_seq ?_
  refine ex_region ?_
  refine g_move K rfl rfl fun a K => ?_
  refine g_move K rfl rfl fun a K => ?_
  refine g_callq K rfl rfl rfl hx65 body65 ((snap_none hx34 hN hx109 hE hx30 hx66 hx23 hx24 (i := 0) (k := 0) (key := undef) (bo := 0) (sh := ((n + 1 + (es.length + 10)) + 1 + 1)) (vb := (n + 1 + (es.length + 10))) (db := (n + 1 + (es.length + 10)) + 1) (es := es) (e0 := 9) (by repeat (first | exact get_upd_eq _ _ _ | assumption | refine (get_upd_ne _ _ (by omega)).trans ?_ | refine (h2 _ (by omega)).trans ?_)) (by repeat (first | exact get_upd_eq _ _ _ | assumption | refine (get_upd_ne _ _ (by omega)).trans ?_ | refine (h2 _ (by omega)).trans ?_)) (by repeat (first | exact get_upd_eq _ _ _ | assumption | refine (get_upd_ne _ _ (by omega)).trans ?_ | refine (h2 _ (by omega)).trans ?_)) (by repeat (first | exact get_upd_eq _ _ _ | assumption | refine (get_upd_ne _ _ (by omega)).trans ?_ | refine (h2 _ (by omega)).trans ?_)) (by omega) (by omega) (by omega) (by omega) hf).mono ?_)
  rintro _ ⟨r1, st2, n2, lg2, rfl, h3, h4, h5, h6, h7⟩
  intro a K
  refine g_move K rfl rfl fun a K => ?_
  refine g_move K rfl rfl fun a K => ?_
  refine g_callq K rfl rfl rfl hx65 body65 ((snap_num hx34 hN hx109 hE hx30 hx66 hx23 hx24 (sh := sh) (vb := vb) (db := db) (es := (es ++ [⟨.string nm, .agg ⟨[.int .i64 1, .int .i64 k, .string ⟨⟨[]⟩⟩, .slice none 0 0]⟩, ck⟩] : List MapEntry)) (e0 := 9) (by repeat (first | exact get_upd_eq _ _ _ | assumption | refine (get_upd_ne _ _ (by omega)).trans ?_ | refine (h2 _ (by omega)).trans ?_ | refine (h7 _ (by omega)).trans ?_)) (by repeat (first | exact get_upd_eq _ _ _ | assumption | refine (get_upd_ne _ _ (by omega)).trans ?_ | refine (h2 _ (by omega)).trans ?_ | refine (h7 _ (by omega)).trans ?_)) (by repeat (first | exact get_upd_eq _ _ _ | assumption | refine (get_upd_ne _ _ (by omega)).trans ?_ | refine (h2 _ (by omega)).trans ?_ | refine (h7 _ (by omega)).trans ?_)) (by repeat (first | exact get_upd_eq _ _ _ | assumption | refine (get_upd_ne _ _ (by omega)).trans ?_ | refine (h2 _ (by omega)).trans ?_ | refine (h7 _ (by omega)).trans ?_)) (by omega) (by omega) (by omega) (by omega) hkk hf2).mono ?_)
  rintro _ ⟨r2, st3, n3, lg3, rfl, h8, h9, h10, h11, h12⟩
  intro a K
  refine g_assign K rfl rfl fun a K => ?_
  refine g_assign K rfl rfl fun a K => ?_
  refine g_end ?_
  show Exq _ _ _ _ _
  repeat refine ex_seq ?_
  refine ex_region ?_
  refine g_move K rfl rfl fun a K => ?_
  refine g_nilCheck K rfl rfl fun a K => ?_
  refine g_fieldAddr K rfl rfl (fa41_2 _) fun a K => ?_
  refine g_store K rfl rfl siz32 rfl (by repeat (first | exact get_upd_eq _ _ _ | assumption | refine (get_upd_ne _ _ (by omega)).trans ?_ | refine (h2 _ (by omega)).trans ?_ | refine (h7 _ (by omega)).trans ?_ | refine (h12 _ (by omega)).trans ?_)) rfl rfl ?_
  refine g_end ?_
  show Exq _ _ _ _ _
  repeat refine ex_seq ?_
  refine ex_region ?_
  refine g_move K rfl rfl fun a K => ?_
  refine g_builtin K rfl rfl (len32 _ _ _ _) fun a K => ?_
  refine g_move K rfl rfl fun a K => ?_
  refine g_end ?_
  show Exq _ _ _ _ _
  repeat refine ex_seq ?_
  refine ex_block ?_
  refine ex_loop ?_
  show Exq _ _ _ _ _
  repeat refine ex_seq ?_
  refine ex_region ?_
  refine g_binOp K rfl rfl rfl rfl fun a K => ?_
  refine g_end ?_
  show Exq _ _ _ _ _
  repeat refine ex_seq ?_
  refine k_cond (t := true) K rfl ?_
  refine ex_skip ?_
  show Exq _ _ _ _ _
  repeat refine ex_seq ?_
  refine ex_block ?_
  show Exq _ _ _ _ _
  repeat refine ex_seq ?_
  refine ex_region ?_
  refine g_indexAddr K rfl rfl rfl (ix32 _ _) fun a K => ?_
  refine g_load1 K rfl rfl agg9 siz9 (by repeat (first | exact get_upd_eq _ _ _ | assumption | refine (get_upd_ne _ _ (by omega)).trans ?_ | refine (h2 _ (by omega)).trans ?_ | refine (h7 _ (by omega)).trans ?_ | refine (h12 _ (by omega)).trans ?_)) rfl fun a K => ?_
  refine g_assign K rfl rfl fun a K => ?_
  refine g_end ?_
  show Exq _ _ _ _ _
  repeat refine ex_seq ?_
  refine ex_region ?_
  refine g_move K rfl rfl fun a K => ?_
  refine g_move K rfl rfl fun a K => ?_
  refine g_lookup K rfl rfl rfl (lookup_ok und148 (by repeat (first | exact get_upd_eq _ _ _ | assumption | refine (get_upd_ne _ _ (by omega)).trans ?_ | refine (h2 _ (by omega)).trans ?_ | refine (h7 _ (by omega)).trans ?_ | refine (h12 _ (by omega)).trans ?_)) (key9 _) (found_some (find_str und9s))) fun a K => ?_
  refine g_move K rfl rfl fun a K => ?_
  refine g_move K rfl rfl fun a K => ?_
  refine g_lookup K rfl rfl rfl (lookup_ok und148 (by repeat (first | exact get_upd_eq _ _ _ | assumption | refine (get_upd_ne _ _ (by omega)).trans ?_ | refine (h2 _ (by omega)).trans ?_ | refine (h7 _ (by omega)).trans ?_ | refine (h12 _ (by omega)).trans ?_)) (key9 _) (found_some (find_str und9s))) fun a K => ?_
  refine g_binOp K rfl rfl rfl (neq_new _ _ _) fun a K => ?_
  refine g_end ?_
  show Exq _ _ _ _ _
  repeat refine ex_seq ?_
  refine k_cond (t := true) K rfl ?_
  show Exq _ _ _ _ _
  repeat refine ex_seq ?_
  refine ex_region ?_
  refine g_move K rfl rfl fun a K => ?_
  refine g_move K rfl rfl fun a K => ?_
  refine g_nilCheck K rfl rfl fun a K => ?_
  refine g_fieldAddr K rfl rfl (fa41_2 _) fun a K => ?_
  refine g_load1 K rfl rfl agg32 siz32 (by repeat (first | exact get_upd_eq _ _ _ | assumption | refine (get_upd_ne _ _ (by omega)).trans ?_ | refine (h2 _ (by omega)).trans ?_ | refine (h7 _ (by omega)).trans ?_ | refine (h12 _ (by omega)).trans ?_)) rfl fun a K => ?_
  refine g_move K rfl rfl fun a K => ?_
  refine g_buildSlice K rfl rfl (bs32_1 _ _ _ _) fun a K => ?_
  refine g_builtin K rfl rfl (appn32 (by repeat (first | exact get_upd_eq _ _ _ | assumption | refine (get_upd_ne _ _ (by omega)).trans ?_ | refine (h2 _ (by omega)).trans ?_ | refine (h7 _ (by omega)).trans ?_ | refine (h12 _ (by omega)).trans ?_))) fun a K => ?_
  refine g_nilCheck K rfl rfl fun a K => ?_
  refine g_fieldAddr K rfl rfl (fa41_2 _) fun a K => ?_
  refine g_store K rfl rfl siz32 rfl (by repeat (first | exact get_upd_eq _ _ _ | assumption | refine (get_upd_ne _ _ (by omega)).trans ?_ | refine (h2 _ (by omega)).trans ?_ | refine (h7 _ (by omega)).trans ?_ | refine (h12 _ (by omega)).trans ?_)) rfl rfl ?_
  refine g_end ?_
  show Exq _ _ _ _ _
  repeat refine ex_seq ?_
  refine ex_region ?_
  refine g_binOp K rfl rfl rfl rfl fun a K => ?_
  refine g_move K rfl rfl fun a K => ?_
  refine g_end ?_
  show Exq _ _ _ _ _
  refine ex_loop ?_
  show Exq _ _ _ _ _
  repeat refine ex_seq ?_
  refine ex_region ?_
  refine g_binOp K rfl rfl rfl rfl fun a K => ?_
  refine g_end ?_
  show Exq _ _ _ _ _
  repeat refine ex_seq ?_
  refine k_cond (t := false) K rfl ?_
  refine ex_exit ?_
  (repeat first | rw [seqK_normal] | rw [blockK_normal] | rw [loopK_normal] | rw [seqK_exit] | rw [loopK_exit] | rw [blockK_exit])
  show FnK _ _ _ (.code .normal _ _)
  refine leaveN K rfl (res_nil) ?_
  exact ⟨_, _, _, n3 + 1, rfl, (by first | omega | (dsimp only; omega)), (by first | omega | (dsimp only; omega)), (by first | omega | (dsimp only; omega)), (by (try dsimp only); repeat (first | exact get_upd_eq _ _ _ | assumption | refine (get_upd_ne _ _ (by omega)).trans ?_ | refine (h2 _ (by omega)).trans ?_ | refine (h7 _ (by omega)).trans ?_ | refine (h12 _ (by omega)).trans ?_)), (by (try dsimp only); repeat (first | exact get_upd_eq _ _ _ | assumption | refine (get_upd_ne _ _ (by omega)).trans ?_ | refine (h2 _ (by omega)).trans ?_ | refine (h7 _ (by omega)).trans ?_ | refine (h12 _ (by omega)).trans ?_)), (by (try dsimp only); repeat (first | exact get_upd_eq _ _ _ | assumption | refine (get_upd_ne _ _ (by omega)).trans ?_ | refine (h2 _ (by omega)).trans ?_ | refine (h7 _ (by omega)).trans ?_ | refine (h12 _ (by omega)).trans ?_)), (by (try dsimp only); repeat (first | exact get_upd_eq _ _ _ | assumption | refine (get_upd_ne _ _ (by omega)).trans ?_ | refine (h2 _ (by omega)).trans ?_ | refine (h7 _ (by omega)).trans ?_ | refine (h12 _ (by omega)).trans ?_))⟩

theorem change_new_one {sh vb db ck c0 c1 c2 i2 bo2 : Nat} {es : List MapEntry} {nm : ByteArray} {k : Int} {key2 : Value} {c : Nat} {x : ByteArray} {e0 : TypeId} (hcx : st.get c = some (.cells [.string x] e0)) (b7 : c < n) (hc0 : st.get c0 = some (.cells [.int .i64 1, .int .i64 k, .string ⟨⟨[]⟩⟩, .slice none 0 0] 67)) (hc1 : st.get c1 = some (.cells [.pointer (some ⟨sh, 0, none⟩)] 22)) (hc2 : st.get c2 = some (.cells [.string nm] 9))
    (hsh : st.get sh = some (.cells [.map (some vb), .map (some db), .slice (some ⟨c, 0, none⟩) 1 0] 41)) (hdb : st.get db = some (.map es ck)) (hvb : st.get vb = some (.map [] 0)) (b1 : c0 < n) (b2 : sh < n) (b3 : db < n) (b4 : c1 < n) (b5 : c2 < n) (b6 : vb < n) (e1 : db ≠ c0) (e2 : db ≠ c1) (e3 : db ≠ c2) (e4 : db ≠ sh) (e5 : vb ≠ db) (e6 : vb ≠ sh) (e7 : c ≠ db)
    (hkk : K12 k) (hf : findE Tryz.prog 9 (.string nm) es 0 = some none) (hl : (bytes nm).length.ble 1048576 = true) (hd : es.all (okE ck) = true) (hd2 : (es ++ [⟨.string nm, .agg ⟨[.int .i64 1, .int .i64 k, .string ⟨⟨[]⟩⟩, .slice none 0 0]⟩, ck⟩] : List MapEntry).all (okE (ck + 1)) = true)
    (hf2 : findE Tryz.prog 9 (.string nm) (es ++ [⟨.string nm, .agg ⟨[.int .i64 1, .int .i64 k, .string ⟨⟨[]⟩⟩, .slice none 0 0]⟩, ck⟩] : List MapEntry) 0 = some (some (i2, ⟨key2, .agg ⟨[.int .i64 1, .int .i64 k, .string ⟨⟨[]⟩⟩, .slice none 0 0]⟩, bo2⟩))) :
    Exq Tryz.prog X (.call 21 [.pointer (some ⟨sh, 0, none⟩), .string nm, .func (.func 22) ⟨[]⟩ ⟨[.pointer (some ⟨c0, 0, none⟩), .pointer (some ⟨c1, 0, none⟩), .pointer (some ⟨c2, 0, none⟩)]⟩] .no) ⟨st, n, lg⟩ (fun o => ∃ st' n' lg' c', o = .ret (.tuple ⟨[]⟩) .no ⟨st', n', lg'⟩ ∧ n ≤ n' ∧ n ≤ c' ∧ c' < n' ∧
      st'.get sh = some (.cells [.map (some vb), .map (some db), .slice (some ⟨c', 0, none⟩) 1 0] 41) ∧ st'.get c' = some (.cells [.string nm] 9) ∧ st'.get db = some (.map (es ++ [⟨.string nm, .agg ⟨[.int .i64 1, .int .i64 k, .string ⟨⟨[]⟩⟩, .slice none 0 0]⟩, ck⟩] : List MapEntry) (ck + 1)) ∧ st'.get vb = some (.map [] 0)) := by
  refine ex_callK Tryz.func21 rfl rfl rfl fun a K => ?_
  show Exq _ _ _ _ _
  repeat refine ex_seq ?_
  refine ex_region ?_
  refine g_makeMap K rfl fun a K => ?_
  refine g_assign K rfl rfl fun a K => ?_
  refine g_end ?_
  show Exq _ _ _ _ _
  repeat refine ex_seq ?_
  refine ex_region ?_
  refine g_move K rfl rfl fun a K => ?_
  refine g_move K rfl rfl fun a K => ?_
  refine g_move K rfl rfl fun a K => ?_
  refine g_callh K rfl rfl rfl hx63 body63 (hh63 _ _ _) (users_new (by repeat (first | exact get_upd_eq _ _ _ | assumption | refine (get_upd_ne _ _ (by omega)).trans ?_)) (by repeat (first | exact get_upd_eq _ _ _ | assumption | refine (get_upd_ne _ _ (by omega)).trans ?_)) hd (by repeat (first | exact get_upd_eq _ _ _ | assumption | refine (get_upd_ne _ _ (by omega)).trans ?_))) fun a K => ?_
  refine g_end ?_
  show Exq _ _ _ _ _
  repeat refine ex_seq ?_
  refine ex_region ?_
  refine g_move K rfl rfl fun a K => ?_
  refine g_callq K rfl rfl rfl hx14 body14 ((clone_one hx71 hx37 hx38 hx39 (vb := vb) (db := db) (c := c) (x := x) (e0 := e0) (by repeat (first | exact get_upd_eq _ _ _ | assumption | refine (get_upd_ne _ _ (by omega)).trans ?_)) (by omega) (by repeat (first | exact get_upd_eq _ _ _ | assumption | refine (get_upd_ne _ _ (by omega)).trans ?_)) (by repeat (first | exact get_upd_eq _ _ _ | assumption | refine (get_upd_ne _ _ (by omega)).trans ?_)) (by repeat (first | exact get_upd_eq _ _ _ | assumption | refine (get_upd_ne _ _ (by omega)).trans ?_)) (by omega) (by omega) (by omega)).mono ?_)
  rintro _ ⟨st1, n1, lg1, rfl, h1, g1, g2, g3, g4, h2⟩
  intro a K
  refine g_assign K rfl rfl fun a K => ?_
  refine g_end ?_
  show Exq _ _ _ _ _
  repeat refine ex_seq ?_
  refine ex_region ?_
  refine g_move K rfl rfl fun a K => ?_
  refine g_callv K rfl rfl rfl hx22 body22 ((define1_new (sh := sh) (vb := vb) (db := db) (by repeat (first | exact get_upd_eq _ _ _ | assumption | refine (get_upd_ne _ _ (by omega)).trans ?_ | refine (h2 _ (by omega)).trans ?_)) (by repeat (first | exact get_upd_eq _ _ _ | assumption | refine (get_upd_ne _ _ (by omega)).trans ?_ | refine (h2 _ (by omega)).trans ?_)) (by repeat (first | exact get_upd_eq _ _ _ | assumption | refine (get_upd_ne _ _ (by omega)).trans ?_ | refine (h2 _ (by omega)).trans ?_)) (by repeat (first | exact get_upd_eq _ _ _ | assumption | refine (get_upd_ne _ _ (by omega)).trans ?_ | refine (h2 _ (by omega)).trans ?_)) (by repeat (first | exact get_upd_eq _ _ _ | assumption | refine (get_upd_ne _ _ (by omega)).trans ?_ | refine (h2 _ (by omega)).trans ?_)) (by omega) (by omega) (by omega) (by omega) (by omega) (by omega) (by omega) (by omega) (by omega) hf).run) fun a K => ?_
  refine g_end ?_
  show Exq _ _ _ _ _
  repeat refine ex_seq ?_
  refine ex_region ?_
  refine g_move K rfl rfl fun a K => ?_
  refine g_move K rfl rfl fun a K => ?_
  refine g_move K rfl rfl fun a K => ?_
  refine g_callh K rfl rfl rfl hx63 body63 (hh63 _ _ _) (users_old (es := (es ++ [⟨.string nm, .agg ⟨[.int .i64 1, .int .i64 k, .string ⟨⟨[]⟩⟩, .slice none 0 0]⟩, ck⟩] : List MapEntry)) (by repeat (first | exact get_upd_eq _ _ _ | assumption | refine (get_upd_ne _ _ (by omega)).trans ?_ | refine (h2 _ (by omega)).trans ?_)) (by repeat (first | exact get_upd_eq _ _ _ | assumption | refine (get_upd_ne _ _ (by omega)).trans ?_ | refine (h2 _ (by omega)).trans ?_)) hd2 (by repeat (first | exact get_upd_eq _ _ _ | assumption | refine (get_upd_ne _ _ (by omega)).trans ?_ | refine (h2 _ (by omega)).trans ?_))) fun a K => ?_
  refine g_end ?_
  show Exq _ _ _ _ _
  repeat refine ex_seq ?_
  refine ex_region ?_
  refine g_move K rfl rfl fun a K => ?_
  refine g_callh K rfl rfl rfl hx64 body64 (hh64 _) (keys_run) fun a K => ?_
  refine g_callk K rfl rfl rfl (keys_x h25 h108) (elem25') (sorted_one (by repeat (first | exact get_upd_eq _ _ _ | assumption | refine (get_upd_ne _ _ (by omega)).trans ?_ | refine (h2 _ (by omega)).trans ?_)) (by repeat (first | exact get_upd_eq _ _ _ | assumption | refine (get_upd_ne _ _ (by omega)).trans ?_ | refine (h2 _ (by omega)).trans ?_)) hl) fun a K => ?_
  refine g_assign K rfl rfl fun a K => ?_
  refine g_end ?_
  show Exq _ _ _ _ _
  repeat refine ex_seq ?_
  refine ex_region ?_
  refine g_move K rfl rfl fun a K => ?_
  refine g_move K rfl rfl fun a K => ?_
  refine g_callq K rfl rfl rfl hx65 body65 ((snap_none hx34 hN hx109 hE hx30 hx66 hx23 hx24 (i := 0) (k := 0) (key := undef) (bo := 0) (sh := ((n + 1 + (es.length + 10)) + 1 + 1 + 1 + 1)) (vb := (n + 1 + (es.length + 10))) (db := (n + 1 + (es.length + 10)) + 1) (es := es) (e0 := 9) (by repeat (first | exact get_upd_eq _ _ _ | assumption | refine (get_upd_ne _ _ (by omega)).trans ?_ | refine (h2 _ (by omega)).trans ?_)) (by repeat (first | exact get_upd_eq _ _ _ | assumption | refine (get_upd_ne _ _ (by omega)).trans ?_ | refine (h2 _ (by omega)).trans ?_)) (by repeat (first | exact get_upd_eq _ _ _ | assumption | refine (get_upd_ne _ _ (by omega)).trans ?_ | refine (h2 _ (by omega)).trans ?_)) (by repeat (first | exact get_upd_eq _ _ _ | assumption | refine (get_upd_ne _ _ (by omega)).trans ?_ | refine (h2 _ (by omega)).trans ?_)) (by omega) (by omega) (by omega) (by omega) hf).mono ?_)
  rintro _ ⟨r1, st2, n2, lg2, rfl, h3, h4, h5, h6, h7⟩
  intro a K
  refine g_move K rfl rfl fun a K => ?_
  refine g_move K rfl rfl fun a K => ?_
  refine g_callq K rfl rfl rfl hx65 body65 ((snap_num hx34 hN hx109 hE hx30 hx66 hx23 hx24 (sh := sh) (vb := vb) (db := db) (es := (es ++ [⟨.string nm, .agg ⟨[.int .i64 1, .int .i64 k, .string ⟨⟨[]⟩⟩, .slice none 0 0]⟩, ck⟩] : List MapEntry)) (e0 := 9) (by repeat (first | exact get_upd_eq _ _ _ | assumption | refine (get_upd_ne _ _ (by omega)).trans ?_ | refine (h2 _ (by omega)).trans ?_ | refine (h7 _ (by omega)).trans ?_)) (by repeat (first | exact get_upd_eq _ _ _ | assumption | refine (get_upd_ne _ _ (by omega)).trans ?_ | refine (h2 _ (by omega)).trans ?_ | refine (h7 _ (by omega)).trans ?_)) (by repeat (first | exact get_upd_eq _ _ _ | assumption | refine (get_upd_ne _ _ (by omega)).trans ?_ | refine (h2 _ (by omega)).trans ?_ | refine (h7 _ (by omega)).trans ?_)) (by repeat (first | exact get_upd_eq _ _ _ | assumption | refine (get_upd_ne _ _ (by omega)).trans ?_ | refine (h2 _ (by omega)).trans ?_ | refine (h7 _ (by omega)).trans ?_)) (by omega) (by omega) (by omega) (by omega) hkk hf2).mono ?_)
  rintro _ ⟨r2, st3, n3, lg3, rfl, h8, h9, h10, h11, h12⟩
  intro a K
  refine g_assign K rfl rfl fun a K => ?_
  refine g_assign K rfl rfl fun a K => ?_
  refine g_end ?_
  show Exq _ _ _ _ _
  repeat refine ex_seq ?_
  refine ex_region ?_
  refine g_move K rfl rfl fun a K => ?_
  refine g_nilCheck K rfl rfl fun a K => ?_
  refine g_fieldAddr K rfl rfl (fa41_2 _) fun a K => ?_
  refine g_store K rfl rfl siz32 rfl (by repeat (first | exact get_upd_eq _ _ _ | assumption | refine (get_upd_ne _ _ (by omega)).trans ?_ | refine (h2 _ (by omega)).trans ?_ | refine (h7 _ (by omega)).trans ?_ | refine (h12 _ (by omega)).trans ?_)) rfl rfl ?_
  refine g_end ?_
  show Exq _ _ _ _ _
  repeat refine ex_seq ?_
  refine ex_region ?_
  refine g_move K rfl rfl fun a K => ?_
  refine g_builtin K rfl rfl (len32 _ _ _ _) fun a K => ?_
  refine g_move K rfl rfl fun a K => ?_
  refine g_end ?_
  show Exq _ _ _ _ _
  repeat refine ex_seq ?_
  refine ex_block ?_
  refine ex_loop ?_
  show Exq _ _ _ _ _
  repeat refine ex_seq ?_
  refine ex_region ?_
  refine g_binOp K rfl rfl rfl rfl fun a K => ?_
  refine g_end ?_
  show Exq _ _ _ _ _
  repeat refine ex_seq ?_
  refine k_cond (t := true) K rfl ?_
  refine ex_skip ?_
  show Exq _ _ _ _ _
  repeat refine ex_seq ?_
  refine ex_block ?_
  show Exq _ _ _ _ _
  repeat refine ex_seq ?_
  refine ex_region ?_
  refine g_indexAddr K rfl rfl rfl (ix32 _ _) fun a K => ?_
  refine g_load1 K rfl rfl agg9 siz9 (by repeat (first | exact get_upd_eq _ _ _ | assumption | refine (get_upd_ne _ _ (by omega)).trans ?_ | refine (h2 _ (by omega)).trans ?_ | refine (h7 _ (by omega)).trans ?_ | refine (h12 _ (by omega)).trans ?_)) rfl fun a K => ?_
  refine g_assign K rfl rfl fun a K => ?_
  refine g_end ?_
  show Exq _ _ _ _ _
  repeat refine ex_seq ?_
  refine ex_region ?_
  refine g_move K rfl rfl fun a K => ?_
  refine g_move K rfl rfl fun a K => ?_
  refine g_lookup K rfl rfl rfl (lookup_ok und148 (by repeat (first | exact get_upd_eq _ _ _ | assumption | refine (get_upd_ne _ _ (by omega)).trans ?_ | refine (h2 _ (by omega)).trans ?_ | refine (h7 _ (by omega)).trans ?_ | refine (h12 _ (by omega)).trans ?_)) (key9 _) (found_some (find_str und9s))) fun a K => ?_
  refine g_move K rfl rfl fun a K => ?_
  refine g_move K rfl rfl fun a K => ?_
  refine g_lookup K rfl rfl rfl (lookup_ok und148 (by repeat (first | exact get_upd_eq _ _ _ | assumption | refine (get_upd_ne _ _ (by omega)).trans ?_ | refine (h2 _ (by omega)).trans ?_ | refine (h7 _ (by omega)).trans ?_ | refine (h12 _ (by omega)).trans ?_)) (key9 _) (found_some (find_str und9s))) fun a K => ?_
  refine g_binOp K rfl rfl rfl (neq_new _ _ _) fun a K => ?_
  refine g_end ?_
  show Exq _ _ _ _ _
  repeat refine ex_seq ?_
  refine k_cond (t := true) K rfl ?_
  show Exq _ _ _ _ _
  repeat refine ex_seq ?_
  refine ex_region ?_
  refine g_move K rfl rfl fun a K => ?_
  refine g_move K rfl rfl fun a K => ?_
  refine g_nilCheck K rfl rfl fun a K => ?_
  refine g_fieldAddr K rfl rfl (fa41_2 _) fun a K => ?_
  refine g_load1 K rfl rfl agg32 siz32 (by repeat (first | exact get_upd_eq _ _ _ | assumption | refine (get_upd_ne _ _ (by omega)).trans ?_ | refine (h2 _ (by omega)).trans ?_ | refine (h7 _ (by omega)).trans ?_ | refine (h12 _ (by omega)).trans ?_)) rfl fun a K => ?_
  refine g_move K rfl rfl fun a K => ?_
  refine g_buildSlice K rfl rfl (bs32_1 _ _ _ _) fun a K => ?_
  refine g_builtin K rfl rfl (appn32 (by repeat (first | exact get_upd_eq _ _ _ | assumption | refine (get_upd_ne _ _ (by omega)).trans ?_ | refine (h2 _ (by omega)).trans ?_ | refine (h7 _ (by omega)).trans ?_ | refine (h12 _ (by omega)).trans ?_))) fun a K => ?_
  refine g_nilCheck K rfl rfl fun a K => ?_
  refine g_fieldAddr K rfl rfl (fa41_2 _) fun a K => ?_
  refine g_store K rfl rfl siz32 rfl (by repeat (first | exact get_upd_eq _ _ _ | assumption | refine (get_upd_ne _ _ (by omega)).trans ?_ | refine (h2 _ (by omega)).trans ?_ | refine (h7 _ (by omega)).trans ?_ | refine (h12 _ (by omega)).trans ?_)) rfl rfl ?_
  refine g_end ?_
  show Exq _ _ _ _ _
  repeat refine ex_seq ?_
  refine ex_region ?_
  refine g_binOp K rfl rfl rfl rfl fun a K => ?_
  refine g_move K rfl rfl fun a K => ?_
  refine g_end ?_
  show Exq _ _ _ _ _
  refine ex_loop ?_
  show Exq _ _ _ _ _
  repeat refine ex_seq ?_
  refine ex_region ?_
  refine g_binOp K rfl rfl rfl rfl fun a K => ?_
  refine g_end ?_
  show Exq _ _ _ _ _
  repeat refine ex_seq ?_
  refine k_cond (t := false) K rfl ?_
  refine ex_exit ?_
  (repeat first | rw [seqK_normal] | rw [blockK_normal] | rw [loopK_normal] | rw [seqK_exit] | rw [loopK_exit] | rw [blockK_exit])
  show FnK _ _ _ (.code .normal _ _)
  refine leaveN K rfl (res_nil) ?_
  exact ⟨_, _, _, n3 + 1, rfl, (by first | omega | (dsimp only; omega)), (by first | omega | (dsimp only; omega)), (by first | omega | (dsimp only; omega)), (by (try dsimp only); repeat (first | exact get_upd_eq _ _ _ | assumption | refine (get_upd_ne _ _ (by omega)).trans ?_ | refine (h2 _ (by omega)).trans ?_ | refine (h7 _ (by omega)).trans ?_ | refine (h12 _ (by omega)).trans ?_)), (by (try dsimp only); repeat (first | exact get_upd_eq _ _ _ | assumption | refine (get_upd_ne _ _ (by omega)).trans ?_ | refine (h2 _ (by omega)).trans ?_ | refine (h7 _ (by omega)).trans ?_ | refine (h12 _ (by omega)).trans ?_)), (by (try dsimp only); repeat (first | exact get_upd_eq _ _ _ | assumption | refine (get_upd_ne _ _ (by omega)).trans ?_ | refine (h2 _ (by omega)).trans ?_ | refine (h7 _ (by omega)).trans ?_ | refine (h12 _ (by omega)).trans ?_)), (by (try dsimp only); repeat (first | exact get_upd_eq _ _ _ | assumption | refine (get_upd_ne _ _ (by omega)).trans ?_ | refine (h2 _ (by omega)).trans ?_ | refine (h7 _ (by omega)).trans ?_ | refine (h12 _ (by omega)).trans ?_))⟩

theorem change_old_one {sh vb db ck c0 c1 c2 i2 bo2 : Nat} {es : List MapEntry} {nm : ByteArray} {key2 : Value} {c : Nat} {x : ByteArray} {e0 : TypeId} (hcx : st.get c = some (.cells [.string x] e0)) (b7 : c < n) (hc0 : st.get c0 = some (.cells [.int .i64 1, .int .i64 2, .string ⟨⟨[]⟩⟩, .slice none 0 0] 67)) (hc1 : st.get c1 = some (.cells [.pointer (some ⟨sh, 0, none⟩)] 22)) (hc2 : st.get c2 = some (.cells [.string nm] 9))
    (hsh : st.get sh = some (.cells [.map (some vb), .map (some db), .slice (some ⟨c, 0, none⟩) 1 0] 41)) (hdb : st.get db = some (.map es ck)) (hvb : st.get vb = some (.map [] 0)) (b1 : c0 < n) (b2 : sh < n) (b3 : db < n) (b4 : c1 < n) (b5 : c2 < n) (b6 : vb < n) (e1 : db ≠ c0) (e2 : db ≠ c1) (e3 : db ≠ c2) (e4 : db ≠ sh) (e5 : vb ≠ db) (e6 : vb ≠ sh) (e7 : c ≠ db)
    {i bo : Nat} (hf : findE Tryz.prog 9 (.string nm) es 0 = some (some (i, ⟨.string nm, .agg ⟨[.int .i64 1, .int .i64 1, .string ⟨⟨[]⟩⟩, .slice none 0 0]⟩, bo⟩)))  (hl : (bytes nm).length.ble 1048576 = true) (hd : es.all (okE ck) = true) (hd2 : (putAt es i ⟨.string nm, .agg ⟨[.int .i64 1, .int .i64 2, .string ⟨⟨[]⟩⟩, .slice none 0 0]⟩, bo⟩ : List MapEntry).all (okE ck) = true)
    (hf2 : findE Tryz.prog 9 (.string nm) (putAt es i ⟨.string nm, .agg ⟨[.int .i64 1, .int .i64 2, .string ⟨⟨[]⟩⟩, .slice none 0 0]⟩, bo⟩ : List MapEntry) 0 = some (some (i2, ⟨key2, .agg ⟨[.int .i64 1, .int .i64 2, .string ⟨⟨[]⟩⟩, .slice none 0 0]⟩, bo2⟩))) :
    Exq Tryz.prog X (.call 21 [.pointer (some ⟨sh, 0, none⟩), .string nm, .func (.func 22) ⟨[]⟩ ⟨[.pointer (some ⟨c0, 0, none⟩), .pointer (some ⟨c1, 0, none⟩), .pointer (some ⟨c2, 0, none⟩)]⟩] .no) ⟨st, n, lg⟩ (fun o => ∃ st' n' lg' c', o = .ret (.tuple ⟨[]⟩) .no ⟨st', n', lg'⟩ ∧ n ≤ n' ∧ n ≤ c' ∧ c' < n' ∧
      st'.get sh = some (.cells [.map (some vb), .map (some db), .slice (some ⟨c', 0, none⟩) 1 0] 41) ∧ st'.get c' = some (.cells [.string nm] 9) ∧ st'.get db = some (.map (putAt es i ⟨.string nm, .agg ⟨[.int .i64 1, .int .i64 2, .string ⟨⟨[]⟩⟩, .slice none 0 0]⟩, bo⟩ : List MapEntry) ck) ∧ st'.get vb = some (.map [] 0)) := by
  refine ex_callK Tryz.func21 rfl rfl rfl fun a K => ?_
  show Exq _ _ _ _ _
  repeat refine ex_seq ?_
  refine ex_region ?_
  refine g_makeMap K rfl fun a K => ?_
  refine g_assign K rfl rfl fun a K => ?_
  refine g_end ?_
  show Exq _ _ _ _ _
  repeat refine ex_seq ?_
  refine ex_region ?_
  refine g_move K rfl rfl fun a K => ?_
  refine g_move K rfl rfl fun a K => ?_
  refine g_move K rfl rfl fun a K => ?_
  refine g_callh K rfl rfl rfl hx63 body63 (hh63 _ _ _) (users_new (by repeat (first | exact get_upd_eq _ _ _ | assumption | refine (get_upd_ne _ _ (by omega)).trans ?_)) (by repeat (first | exact get_upd_eq _ _ _ | assumption | refine (get_upd_ne _ _ (by omega)).trans ?_)) hd (by repeat (first | exact get_upd_eq _ _ _ | assumption | refine (get_upd_ne _ _ (by omega)).trans ?_))) fun a K => ?_
  refine g_end ?_
  show Exq _ _ _ _ _
  repeat refine ex_seq ?_
  refine ex_region ?_
  refine g_move K rfl rfl fun a K => ?_
  refine g_callq K rfl rfl rfl hx14 body14 ((clone_one hx71 hx37 hx38 hx39 (vb := vb) (db := db) (c := c) (x := x) (e0 := e0) (by repeat (first | exact get_upd_eq _ _ _ | assumption | refine (get_upd_ne _ _ (by omega)).trans ?_)) (by omega) (by repeat (first | exact get_upd_eq _ _ _ | assumption | refine (get_upd_ne _ _ (by omega)).trans ?_)) (by repeat (first | exact get_upd_eq _ _ _ | assumption | refine (get_upd_ne _ _ (by omega)).trans ?_)) (by repeat (first | exact get_upd_eq _ _ _ | assumption | refine (get_upd_ne _ _ (by omega)).trans ?_)) (by omega) (by omega) (by omega)).mono ?_)
  rintro _ ⟨st1, n1, lg1, rfl, h1, g1, g2, g3, g4, h2⟩
  intro a K
  refine g_assign K rfl rfl fun a K => ?_
  refine g_end ?_
  show Exq _ _ _ _ _
  repeat refine ex_seq ?_
  refine ex_region ?_
  refine g_move K rfl rfl fun a K => ?_
  refine g_callv K rfl rfl rfl hx22 body22 ((define1_old (sh := sh) (vb := vb) (db := db) (by repeat (first | exact get_upd_eq _ _ _ | assumption | refine (get_upd_ne _ _ (by omega)).trans ?_ | refine (h2 _ (by omega)).trans ?_)) (by repeat (first | exact get_upd_eq _ _ _ | assumption | refine (get_upd_ne _ _ (by omega)).trans ?_ | refine (h2 _ (by omega)).trans ?_)) (by repeat (first | exact get_upd_eq _ _ _ | assumption | refine (get_upd_ne _ _ (by omega)).trans ?_ | refine (h2 _ (by omega)).trans ?_)) (by repeat (first | exact get_upd_eq _ _ _ | assumption | refine (get_upd_ne _ _ (by omega)).trans ?_ | refine (h2 _ (by omega)).trans ?_)) (by repeat (first | exact get_upd_eq _ _ _ | assumption | refine (get_upd_ne _ _ (by omega)).trans ?_ | refine (h2 _ (by omega)).trans ?_)) (by omega) (by omega) (by omega) (by omega) (by omega) (by omega) (by omega) (by omega) (by omega) hf).run) fun a K => ?_
  refine g_end ?_
  show Exq _ _ _ _ _
  repeat refine ex_seq ?_
  refine ex_region ?_
  refine g_move K rfl rfl fun a K => ?_
  refine g_move K rfl rfl fun a K => ?_
  refine g_move K rfl rfl fun a K => ?_
  refine g_callh K rfl rfl rfl hx63 body63 (hh63 _ _ _) (users_old (es := (putAt es i ⟨.string nm, .agg ⟨[.int .i64 1, .int .i64 2, .string ⟨⟨[]⟩⟩, .slice none 0 0]⟩, bo⟩ : List MapEntry)) (by repeat (first | exact get_upd_eq _ _ _ | assumption | refine (get_upd_ne _ _ (by omega)).trans ?_ | refine (h2 _ (by omega)).trans ?_)) (by repeat (first | exact get_upd_eq _ _ _ | assumption | refine (get_upd_ne _ _ (by omega)).trans ?_ | refine (h2 _ (by omega)).trans ?_)) hd2 (by repeat (first | exact get_upd_eq _ _ _ | assumption | refine (get_upd_ne _ _ (by omega)).trans ?_ | refine (h2 _ (by omega)).trans ?_))) fun a K => ?_
  refine g_end ?_
  show Exq _ _ _ _ _
  repeat refine ex_seq ?_
  refine ex_region ?_
  refine g_move K rfl rfl fun a K => ?_
  refine g_callh K rfl rfl rfl hx64 body64 (hh64 _) (keys_run) fun a K => ?_
  refine g_callk K rfl rfl rfl (keys_x h25 h108) (elem25') (sorted_one (by repeat (first | exact get_upd_eq _ _ _ | assumption | refine (get_upd_ne _ _ (by omega)).trans ?_ | refine (h2 _ (by omega)).trans ?_)) (by repeat (first | exact get_upd_eq _ _ _ | assumption | refine (get_upd_ne _ _ (by omega)).trans ?_ | refine (h2 _ (by omega)).trans ?_)) hl) fun a K => ?_
  refine g_assign K rfl rfl fun a K => ?_
  refine g_end ?_
  show Exq _ _ _ _ _
  repeat refine ex_seq ?_
  refine ex_region ?_
  refine g_move K rfl rfl fun a K => ?_
  refine g_move K rfl rfl fun a K => ?_
  refine g_callq K rfl rfl rfl hx65 body65 ((snap_num hx34 hN hx109 hE hx30 hx66 hx23 hx24 (sh := ((n + 1 + (es.length + 10)) + 1 + 1 + 1 + 1)) (vb := (n + 1 + (es.length + 10))) (db := (n + 1 + (es.length + 10)) + 1) (es := es) (e0 := 9) (by repeat (first | exact get_upd_eq _ _ _ | assumption | refine (get_upd_ne _ _ (by omega)).trans ?_ | refine (h2 _ (by omega)).trans ?_)) (by repeat (first | exact get_upd_eq _ _ _ | assumption | refine (get_upd_ne _ _ (by omega)).trans ?_ | refine (h2 _ (by omega)).trans ?_)) (by repeat (first | exact get_upd_eq _ _ _ | assumption | refine (get_upd_ne _ _ (by omega)).trans ?_ | refine (h2 _ (by omega)).trans ?_)) (by repeat (first | exact get_upd_eq _ _ _ | assumption | refine (get_upd_ne _ _ (by omega)).trans ?_ | refine (h2 _ (by omega)).trans ?_)) (by omega) (by omega) (by omega) (by omega) (.inl rfl) hf).mono ?_)
  rintro _ ⟨r1, st2, n2, lg2, rfl, h3, h4, h5, h6, h7⟩
  intro a K
  refine g_move K rfl rfl fun a K => ?_
  refine g_move K rfl rfl fun a K => ?_
  refine g_callq K rfl rfl rfl hx65 body65 ((snap_num hx34 hN hx109 hE hx30 hx66 hx23 hx24 (sh := sh) (vb := vb) (db := db) (es := (putAt es i ⟨.string nm, .agg ⟨[.int .i64 1, .int .i64 2, .string ⟨⟨[]⟩⟩, .slice none 0 0]⟩, bo⟩ : List MapEntry)) (e0 := 9) (by repeat (first | exact get_upd_eq _ _ _ | assumption | refine (get_upd_ne _ _ (by omega)).trans ?_ | refine (h2 _ (by omega)).trans ?_ | refine (h7 _ (by omega)).trans ?_)) (by repeat (first | exact get_upd_eq _ _ _ | assumption | refine (get_upd_ne _ _ (by omega)).trans ?_ | refine (h2 _ (by omega)).trans ?_ | refine (h7 _ (by omega)).trans ?_)) (by repeat (first | exact get_upd_eq _ _ _ | assumption | refine (get_upd_ne _ _ (by omega)).trans ?_ | refine (h2 _ (by omega)).trans ?_ | refine (h7 _ (by omega)).trans ?_)) (by repeat (first | exact get_upd_eq _ _ _ | assumption | refine (get_upd_ne _ _ (by omega)).trans ?_ | refine (h2 _ (by omega)).trans ?_ | refine (h7 _ (by omega)).trans ?_)) (by omega) (by omega) (by omega) (by omega) (.inr rfl) hf2).mono ?_)
  rintro _ ⟨r2, st3, n3, lg3, rfl, h8, h9, h10, h11, h12⟩
  intro a K
  refine g_assign K rfl rfl fun a K => ?_
  refine g_assign K rfl rfl fun a K => ?_
  refine g_end ?_
  show Exq _ _ _ _ _
  repeat refine ex_seq ?_
  refine ex_region ?_
  refine g_move K rfl rfl fun a K => ?_
  refine g_nilCheck K rfl rfl fun a K => ?_
  refine g_fieldAddr K rfl rfl (fa41_2 _) fun a K => ?_
  refine g_store K rfl rfl siz32 rfl (by repeat (first | exact get_upd_eq _ _ _ | assumption | refine (get_upd_ne _ _ (by omega)).trans ?_ | refine (h2 _ (by omega)).trans ?_ | refine (h7 _ (by omega)).trans ?_ | refine (h12 _ (by omega)).trans ?_)) rfl rfl ?_
  refine g_end ?_
  show Exq _ _ _ _ _
  repeat refine ex_seq ?_
  refine ex_region ?_
  refine g_move K rfl rfl fun a K => ?_
  refine g_builtin K rfl rfl (len32 _ _ _ _) fun a K => ?_
  refine g_move K rfl rfl fun a K => ?_
  refine g_end ?_
  show Exq _ _ _ _ _
  repeat refine ex_seq ?_
  refine ex_block ?_
  refine ex_loop ?_
  show Exq _ _ _ _ _
  repeat refine ex_seq ?_
  refine ex_region ?_
  refine g_binOp K rfl rfl rfl rfl fun a K => ?_
  refine g_end ?_
  show Exq _ _ _ _ _
  repeat refine ex_seq ?_
  refine k_cond (t := true) K rfl ?_
  refine ex_skip ?_
  show Exq _ _ _ _ _
  repeat refine ex_seq ?_
  refine ex_block ?_
  show Exq _ _ _ _ _
  repeat refine ex_seq ?_
  refine ex_region ?_
  refine g_indexAddr K rfl rfl rfl (ix32 _ _) fun a K => ?_
  refine g_load1 K rfl rfl agg9 siz9 (by repeat (first | exact get_upd_eq _ _ _ | assumption | refine (get_upd_ne _ _ (by omega)).trans ?_ | refine (h2 _ (by omega)).trans ?_ | refine (h7 _ (by omega)).trans ?_ | refine (h12 _ (by omega)).trans ?_)) rfl fun a K => ?_
  refine g_assign K rfl rfl fun a K => ?_
  refine g_end ?_
  show Exq _ _ _ _ _
  repeat refine ex_seq ?_
  refine ex_region ?_
  refine g_move K rfl rfl fun a K => ?_
  refine g_move K rfl rfl fun a K => ?_
  refine g_lookup K rfl rfl rfl (lookup_ok und148 (by repeat (first | exact get_upd_eq _ _ _ | assumption | refine (get_upd_ne _ _ (by omega)).trans ?_ | refine (h2 _ (by omega)).trans ?_ | refine (h7 _ (by omega)).trans ?_ | refine (h12 _ (by omega)).trans ?_)) (key9 _) (found_some (find_str und9s))) fun a K => ?_
  refine g_move K rfl rfl fun a K => ?_
  refine g_move K rfl rfl fun a K => ?_
  refine g_lookup K rfl rfl rfl (lookup_ok und148 (by repeat (first | exact get_upd_eq _ _ _ | assumption | refine (get_upd_ne _ _ (by omega)).trans ?_ | refine (h2 _ (by omega)).trans ?_ | refine (h7 _ (by omega)).trans ?_ | refine (h12 _ (by omega)).trans ?_)) (key9 _) (found_some (find_str und9s))) fun a K => ?_
  refine g_binOp K rfl rfl rfl (neq_old _ _) fun a K => ?_
  refine g_end ?_
  show Exq _ _ _ _ _
  repeat refine ex_seq ?_
  refine k_cond (t := true) K rfl ?_
  show Exq _ _ _ _ _
  repeat refine ex_seq ?_
  refine ex_region ?_
  refine g_move K rfl rfl fun a K => ?_
  refine g_move K rfl rfl fun a K => ?_
  refine g_nilCheck K rfl rfl fun a K => ?_
  refine g_fieldAddr K rfl rfl (fa41_2 _) fun a K => ?_
  refine g_load1 K rfl rfl agg32 siz32 (by repeat (first | exact get_upd_eq _ _ _ | assumption | refine (get_upd_ne _ _ (by omega)).trans ?_ | refine (h2 _ (by omega)).trans ?_ | refine (h7 _ (by omega)).trans ?_ | refine (h12 _ (by omega)).trans ?_)) rfl fun a K => ?_
  refine g_move K rfl rfl fun a K => ?_
  refine g_buildSlice K rfl rfl (bs32_1 _ _ _ _) fun a K => ?_
  refine g_builtin K rfl rfl (appn32 (by repeat (first | exact get_upd_eq _ _ _ | assumption | refine (get_upd_ne _ _ (by omega)).trans ?_ | refine (h2 _ (by omega)).trans ?_ | refine (h7 _ (by omega)).trans ?_ | refine (h12 _ (by omega)).trans ?_))) fun a K => ?_
  refine g_nilCheck K rfl rfl fun a K => ?_
  refine g_fieldAddr K rfl rfl (fa41_2 _) fun a K => ?_
  refine g_store K rfl rfl siz32 rfl (by repeat (first | exact get_upd_eq _ _ _ | assumption | refine (get_upd_ne _ _ (by omega)).trans ?_ | refine (h2 _ (by omega)).trans ?_ | refine (h7 _ (by omega)).trans ?_ | refine (h12 _ (by omega)).trans ?_)) rfl rfl ?_
  refine g_end ?_
  show Exq _ _ _ _ _
  repeat refine ex_seq ?_
  refine ex_region ?_
  refine g_binOp K rfl rfl rfl rfl fun a K => ?_
  refine g_move K rfl rfl fun a K => ?_
  refine g_end ?_
  show Exq _ _ _ _ _
  refine ex_loop ?_
  show Exq _ _ _ _ _
  repeat refine ex_seq ?_
  refine ex_region ?_
  refine g_binOp K rfl rfl rfl rfl fun a K => ?_
  refine g_end ?_
  show Exq _ _ _ _ _
  repeat refine ex_seq ?_
  refine k_cond (t := false) K rfl ?_
  refine ex_exit ?_
  (repeat first | rw [seqK_normal] | rw [blockK_normal] | rw [loopK_normal] | rw [seqK_exit] | rw [loopK_exit] | rw [blockK_exit])
  show FnK _ _ _ (.code .normal _ _)
  refine leaveN K rfl (res_nil) ?_
  exact ⟨_, _, _, n3 + 1, rfl, (by first | omega | (dsimp only; omega)), (by first | omega | (dsimp only; omega)), (by first | omega | (dsimp only; omega)), (by (try dsimp only); repeat (first | exact get_upd_eq _ _ _ | assumption | refine (get_upd_ne _ _ (by omega)).trans ?_ | refine (h2 _ (by omega)).trans ?_ | refine (h7 _ (by omega)).trans ?_ | refine (h12 _ (by omega)).trans ?_)), (by (try dsimp only); repeat (first | exact get_upd_eq _ _ _ | assumption | refine (get_upd_ne _ _ (by omega)).trans ?_ | refine (h2 _ (by omega)).trans ?_ | refine (h7 _ (by omega)).trans ?_ | refine (h12 _ (by omega)).trans ?_)), (by (try dsimp only); repeat (first | exact get_upd_eq _ _ _ | assumption | refine (get_upd_ne _ _ (by omega)).trans ?_ | refine (h2 _ (by omega)).trans ?_ | refine (h7 _ (by omega)).trans ?_ | refine (h12 _ (by omega)).trans ?_)), (by (try dsimp only); repeat (first | exact get_upd_eq _ _ _ | assumption | refine (get_upd_ne _ _ (by omega)).trans ?_ | refine (h2 _ (by omega)).trans ?_ | refine (h7 _ (by omega)).trans ?_ | refine (h12 _ (by omega)).trans ?_))⟩

end
end Go.E.FF

