import Derived.Test.YthbkkpahoolhbaaGreatDoorEv26
set_option linter.unusedSimpArgs false
set_option linter.unusedVariables false
set_option linter.unusedSectionVars false
namespace Go.E.FF
open Go.Proofs
set_option maxRecDepth 100000
theorem body19 : hasBody Tryz.prog 19 = true := by kernel_rfl
theorem body20 : hasBody Tryz.prog 20 = true := by kernel_rfl
theorem len39 {st : Tr EObj} {n : Nat} {lg : List Nat} {r c : Nat} {es : List MapEntry} (hr : st.get r = some (.map es c)) : eBuiltin Tryz.prog .len #[39] ⟨[.map (some r)]⟩ ⟨st, n, lg⟩ = .ok (.val (.int .i64 (Int.ofNat es.length))) ⟨st, n, lg⟩ := by
  have h : eLen Tryz.prog #[39] ⟨[.map (some r)]⟩ ⟨st, n, lg⟩ = .ok (.int .i64 (Int.ofNat es.length)) ⟨st, n, lg⟩ := by
    unfold eLen
    simp only [und39]
    have : mapOf (.map (some r)) ⟨st, n, lg⟩ = .ok (es, c) ⟨st, n, lg⟩ := by
      unfold mapOf; simp only; rw [bnd_ok' (eget_ok hr)]; rfl
    rw [bnd_ok' this]; rfl
  show vl (eLen Tryz.prog #[39] ⟨[.map (some r)]⟩) _ = _
  unfold vl
  rw [bnd_ok' h]; rfl
theorem geq_b {P : Program} {x y : Operand} {m : Nat} {b : Bool} (h : ile 256 (Int.ofNat m) = b) : eBin P .geq 3 x y (.int .i64 (Int.ofNat m)) (.int .i64 256) = some (.bool b) := by rw [← h]; rfl
section
variable {X : Ctx} {st : Tr EObj} {n : Nat} {lg : List Nat}
variable (hx34 : X.x 34 = 8) (hN : ∀ k : Int, K12 k → X.m 34 [.agg ⟨[.int .i64 1, .int .i64 k, .string ⟨⟨[]⟩⟩, .slice none 0 0]⟩] = some (.slice none 0 0))
variable (hx109 : X.x 109 = 8) (hE : ∀ k : Int, K12 k → X.m 109 [.agg ⟨[.int .i64 1, .int .i64 k, .string ⟨⟨[]⟩⟩, .slice none 0 0]⟩, .slice none 0 0] = some (.tuple ⟨[.agg ⟨[.int .i64 1, .int .i64 k, .string ⟨⟨[]⟩⟩]⟩, .int .i64 0]⟩))
variable (hx30 : X.x 30 = 0) (hx66 : X.x 66 = 0) (hx23 : X.x 23 = 0) (hx24 : X.x 24 = 0) (hx71 : X.x 71 = 4) (hx37 : X.x 37 = 0) (hx38 : X.x 38 = 0) (hx39 : X.x 39 = 0)
variable (hx63 : X.x 63 = 9) (hh63 : ∀ sh nm ob, X.h 63 [.pointer (some ⟨sh, 0, none⟩), .string nm, .map (some ob)] = some ⟨aUsers1 sh nm ob, wf_aUsers1 sh nm ob⟩)
variable (hx64 : X.x 64 = 9) (hh64 : ∀ ob, X.h 64 [.map (some ob)] = some ⟨aKeys 108 (.map (some ob)), wf_aKeys 108 (.map (some ob))⟩) (h25 : X.x 25 = 6) (h108 : X.x 108 = 7)
variable (hx14 : X.x 14 = 0) (hx22 : X.x 22 = 0) (hx65 : X.x 65 = 0)
variable (hx19 : X.x 19 = 8) (hx20 : X.x 20 = 8) (hx21 : X.x 21 = 0)
include hx34 hN hx109 hE hx30 hx66 hx23 hx24 hx71 hx37 hx38 hx39 hx63 hh63 hx64 hh64 h25 h108 hx14 hx22 hx65 hx19 hx20 hx21
theorem define_new_nil {sh vb db ck i2 bo2 : Nat} {es : List MapEntry} {nm expr : ByteArray} {k : Int} {key2 : Value} 
    (hsh : st.get sh = some (.cells [.map (some vb), .map (some db), .slice none 0 0] 41)) (hdb : st.get db = some (.map es ck)) (hvb : st.get vb = some (.map [] 0)) (b2 : sh < n) (b3 : db < n) (b6 : vb < n) (e4 : db ≠ sh) (e5 : vb ≠ db) (e6 : vb ≠ sh) 
    (hid : X.m 19 [.string nm] = some (.bool true)) (hp : X.m 20 [.string expr] = some (.tuple ⟨[.agg ⟨[.int .i64 1, .int .i64 k, .string ⟨⟨[]⟩⟩, .slice none 0 0]⟩, .int .i64 0, .int .i64 0]⟩))
    (hkk : K12 k) (hf : findE Tryz.prog 9 (.string nm) es 0 = some none) (hlen : ile 256 (Int.ofNat es.length) = false) (hl : (bytes nm).length.ble 1048576 = true) (hd : es.all (okE ck) = true) (hd2 : (es ++ [⟨.string nm, .agg ⟨[.int .i64 1, .int .i64 k, .string ⟨⟨[]⟩⟩, .slice none 0 0]⟩, ck⟩] : List MapEntry).all (okE (ck + 1)) = true)
    (hf2 : findE Tryz.prog 9 (.string nm) (es ++ [⟨.string nm, .agg ⟨[.int .i64 1, .int .i64 k, .string ⟨⟨[]⟩⟩, .slice none 0 0]⟩, ck⟩] : List MapEntry) 0 = some (some (i2, ⟨key2, .agg ⟨[.int .i64 1, .int .i64 k, .string ⟨⟨[]⟩⟩, .slice none 0 0]⟩, bo2⟩))) :
    Exq Tryz.prog X (.call 6 [.pointer (some ⟨sh, 0, none⟩), .string nm, .string expr] .no) ⟨st, n, lg⟩ (fun o => ∃ st' n' lg' c', o = .ret (.int .i64 0) .no ⟨st', n', lg'⟩ ∧ n ≤ n' ∧ n ≤ c' ∧ c' < n' ∧ st'.get sh = some (.cells [.map (some vb), .map (some db), .slice (some ⟨c', 0, none⟩) 1 0] 41) ∧ st'.get c' = some (.cells [.string nm] 9) ∧ st'.get db = some (.map (es ++ [⟨.string nm, .agg ⟨[.int .i64 1, .int .i64 k, .string ⟨⟨[]⟩⟩, .slice none 0 0]⟩, ck⟩] : List MapEntry) (ck + 1)) ∧ st'.get vb = some (.map [] 0)) := by
  refine ex_callK Tryz.func6 rfl rfl rfl fun a K => ?_
  show Exq _ _ _ _ _
  repeat refine ex_seq ?_
  refine ex_region ?_
  refine g_box K rfl rfl rfl fun a K => ?_
  refine g_box K rfl rfl rfl fun a K => ?_
  refine g_assign K rfl rfl fun a K => ?_
  refine g_end ?_
  show Exq _ _ _ _ _
  repeat refine ex_seq ?_
  refine ex_region ?_
  refine g_load1 K rfl rfl agg22 siz22 (by repeat (first | exact get_upd_eq _ _ _ | assumption | refine (get_upd_ne _ _ (by omega)).trans ?_)) rfl fun a K => ?_
  refine g_binOp K rfl rfl rfl (eqp22 _ _ _) fun a K => ?_
  refine g_end ?_
  show Exq _ _ _ _ _
  repeat refine ex_seq ?_
  refine k_cond (t := false) K rfl ?_
  refine ex_skip ?_
  show Exq _ _ _ _ _
  repeat refine ex_seq ?_
  refine ex_region ?_
  refine g_load1 K rfl rfl agg9 siz9 (by repeat (first | exact get_upd_eq _ _ _ | assumption | refine (get_upd_ne _ _ (by omega)).trans ?_)) rfl fun a K => ?_
  refine g_calls K rfl rfl rfl hx19 body19 (hid) rfl fun a K => ?_
  refine g_unOp K rfl rfl rfl fun a K => ?_
  refine g_end ?_
  show Exq _ _ _ _ _
  repeat refine ex_seq ?_
  refine k_cond (t := false) K rfl ?_
  refine ex_skip ?_
  show Exq _ _ _ _ _
  repeat refine ex_seq ?_
  refine ex_region ?_
  refine g_move K rfl rfl fun a K => ?_
  refine g_calls K rfl rfl rfl hx20 body20 (hp) rfl fun a K => ?_
  refine g_move K rfl rfl fun a K => ?_
  refine g_extract K rfl rfl rfl rfl fun a K => ?_
  refine g_extract K rfl rfl rfl rfl fun a K => ?_
  refine g_extract K rfl rfl rfl rfl fun a K => ?_
  refine g_alloc K rfl zer67 fun a K => ?_
  refine g_store K rfl rfl siz67 rfl (by repeat (first | exact get_upd_eq _ _ _ | assumption | refine (get_upd_ne _ _ (by omega)).trans ?_)) rfl rfl ?_
  refine g_assign K rfl rfl fun a K => ?_
  refine g_assign K rfl rfl fun a K => ?_
  refine g_end ?_
  show Exq _ _ _ _ _
  repeat refine ex_seq ?_
  refine ex_region ?_
  refine g_move K rfl rfl fun a K => ?_
  refine g_binOp K rfl rfl rfl rfl fun a K => ?_
  refine g_end ?_
  show Exq _ _ _ _ _
  repeat refine ex_seq ?_
  refine k_cond (t := false) K rfl ?_
  refine ex_skip ?_
  show Exq _ _ _ _ _
  repeat refine ex_seq ?_
  refine ex_draw (by kernel_rfl) ?_
  refine d_loc K rfl rfl (e_load1 K rfl agg22 siz22 (by repeat (first | exact get_upd_eq _ _ _ | assumption | refine (get_upd_ne _ _ (by omega)).trans ?_)) rfl) (n_load K rfl) (by repeat (first | exact hist_nil | refine hist_rec (by simp (disch := omega) only [rec_ff, rec_ft, rec_tf, made_nil, made_cons, made_f, meets_nil, meets_cons, hasN_nil, hasN_cons, nbeq_ne, Bool.or_false, Bool.not_false, Bool.and_self]) ?_ | refine hist_ord (by kernel_rfl) ?_)) fun a K => ?_
  refine d_loc (ns := []) K rfl rfl (e_nilCheck K rfl) rfl (by repeat (first | exact hist_nil | refine hist_rec (by simp (disch := omega) only [rec_ff, rec_ft, rec_tf, made_nil, made_cons, made_f, meets_nil, meets_cons, hasN_nil, hasN_cons, nbeq_ne, Bool.or_false, Bool.not_false, Bool.and_self]) ?_ | refine hist_ord (by kernel_rfl) ?_)) fun a K => ?_
  refine d_loc (ns := []) K rfl rfl (e_fieldAddr K rfl (fa41_1 _)) rfl (by repeat (first | exact hist_nil | refine hist_rec (by simp (disch := omega) only [rec_ff, rec_ft, rec_tf, made_nil, made_cons, made_f, meets_nil, meets_cons, hasN_nil, hasN_cons, nbeq_ne, Bool.or_false, Bool.not_false, Bool.and_self]) ?_ | refine hist_ord (by kernel_rfl) ?_)) fun a K => ?_
  refine d_loc K rfl rfl (e_load1 K rfl agg39 siz39 (by repeat (first | exact get_upd_eq _ _ _ | assumption | refine (get_upd_ne _ _ (by omega)).trans ?_)) rfl) (n_load K rfl) (by repeat (first | exact hist_nil | refine hist_rec (by simp (disch := omega) only [rec_ff, rec_ft, rec_tf, made_nil, made_cons, made_f, meets_nil, meets_cons, hasN_nil, hasN_cons, nbeq_ne, Bool.or_false, Bool.not_false, Bool.and_self]) ?_ | refine hist_ord (by kernel_rfl) ?_)) fun a K => ?_
  refine d_loc K rfl rfl (e_load1 K rfl agg9 siz9 (by repeat (first | exact get_upd_eq _ _ _ | assumption | refine (get_upd_ne _ _ (by omega)).trans ?_)) rfl) (n_load K rfl) (by repeat (first | exact hist_nil | refine hist_rec (by simp (disch := omega) only [rec_ff, rec_ft, rec_tf, made_nil, made_cons, made_f, meets_nil, meets_cons, hasN_nil, hasN_cons, nbeq_ne, Bool.or_false, Bool.not_false, Bool.and_self]) ?_ | refine hist_ord (by kernel_rfl) ?_)) fun a K => ?_
  refine d_loc K rfl rfl (e_lookup K rfl rfl (lookup_ok und39 (by repeat (first | exact get_upd_eq _ _ _ | assumption | refine (get_upd_ne _ _ (by omega)).trans ?_)) (key9 _) (found_none hf zer67))) (n_lookup K rfl) (by repeat (first | exact hist_nil | refine hist_rec (by simp (disch := omega) only [rec_ff, rec_ft, rec_tf, made_nil, made_cons, made_f, meets_nil, meets_cons, hasN_nil, hasN_cons, nbeq_ne, Bool.or_false, Bool.not_false, Bool.and_self]) ?_ | refine hist_ord (by kernel_rfl) ?_)) fun a K => ?_
  refine d_loc (ns := []) K rfl rfl (e_move K rfl) rfl (by repeat (first | exact hist_nil | refine hist_rec (by simp (disch := omega) only [rec_ff, rec_ft, rec_tf, made_nil, made_cons, made_f, meets_nil, meets_cons, hasN_nil, hasN_cons, nbeq_ne, Bool.or_false, Bool.not_false, Bool.and_self]) ?_ | refine hist_ord (by kernel_rfl) ?_)) fun a K => ?_
  refine d_loc (ns := []) K rfl rfl (e_extract K rfl rfl rfl) rfl (by repeat (first | exact hist_nil | refine hist_rec (by simp (disch := omega) only [rec_ff, rec_ft, rec_tf, made_nil, made_cons, made_f, meets_nil, meets_cons, hasN_nil, hasN_cons, nbeq_ne, Bool.or_false, Bool.not_false, Bool.and_self]) ?_ | refine hist_ord (by kernel_rfl) ?_)) fun a K => ?_
  refine d_loc (ns := []) K rfl rfl (e_extract K rfl rfl rfl) rfl (by repeat (first | exact hist_nil | refine hist_rec (by simp (disch := omega) only [rec_ff, rec_ft, rec_tf, made_nil, made_cons, made_f, meets_nil, meets_cons, hasN_nil, hasN_cons, nbeq_ne, Bool.or_false, Bool.not_false, Bool.and_self]) ?_ | refine hist_ord (by kernel_rfl) ?_)) fun a K => ?_
  refine d_loc (ns := []) K rfl rfl (e_alloc K zer67) rfl (by repeat (first | exact hist_nil | refine hist_rec (by simp (disch := omega) only [rec_ff, rec_ft, rec_tf, made_nil, made_cons, made_f, meets_nil, meets_cons, hasN_nil, hasN_cons, nbeq_ne, Bool.or_false, Bool.not_false, Bool.and_self]) ?_ | refine hist_ord (by kernel_rfl) ?_)) fun a K => ?_
  refine d_bigs rfl (e_store K rfl rfl siz67 rfl (by repeat (first | exact get_upd_eq _ _ _ | assumption | refine (get_upd_ne _ _ (by omega)).trans ?_)) rfl rfl) (by repeat (first | exact hist_nil | refine hist_rec (by simp (disch := omega) only [rec_ff, rec_ft, rec_tf, made_nil, made_cons, made_f, meets_nil, meets_cons, hasN_nil, hasN_cons, nbeq_ne, Bool.or_false, Bool.not_false, Bool.and_self]) ?_ | refine hist_ord (by kernel_rfl) ?_)) ?_
  refine d_loc (ns := []) K rfl rfl (e_assign K rfl) rfl (by repeat (first | exact hist_nil | refine hist_rec (by simp (disch := omega) only [rec_ff, rec_ft, rec_tf, made_nil, made_cons, made_f, meets_nil, meets_cons, hasN_nil, hasN_cons, nbeq_ne, Bool.or_false, Bool.not_false, Bool.and_self]) ?_ | refine hist_ord (by kernel_rfl) ?_)) fun a K => ?_
  refine d_end ?_
  show Exq _ _ _ _ _
  repeat refine ex_seq ?_
  refine ex_region ?_
  refine g_move K rfl rfl fun a K => ?_
  refine g_unOp K rfl rfl rfl fun a K => ?_
  refine g_move K rfl rfl fun a K => ?_
  refine g_if K rfl rfl rfl ?_
  refine g_load1 K rfl rfl agg22 siz22 (by repeat (first | exact get_upd_eq _ _ _ | assumption | refine (get_upd_ne _ _ (by omega)).trans ?_)) rfl fun a K => ?_
  refine g_if K rfl rfl rfl ?_
  refine g_nilCheck K rfl rfl fun a K => ?_
  refine g_if K rfl rfl rfl ?_
  refine g_fieldAddr K rfl rfl (fa41_1 _) fun a K => ?_
  refine g_if K rfl rfl rfl ?_
  refine g_load1 K rfl rfl agg39 siz39 (by repeat (first | exact get_upd_eq _ _ _ | assumption | refine (get_upd_ne _ _ (by omega)).trans ?_)) rfl fun a K => ?_
  refine g_if K rfl rfl rfl ?_
  refine g_builtin K rfl rfl (len39 (by repeat (first | exact get_upd_eq _ _ _ | assumption | refine (get_upd_ne _ _ (by omega)).trans ?_))) fun a K => ?_
  refine g_if K rfl rfl rfl ?_
  refine g_binOp K rfl rfl rfl (geq_b hlen) fun a K => ?_
  refine g_pick K rfl rfl rfl fun a K => ?_
  refine g_end ?_
  show Exq _ _ _ _ _
  repeat refine ex_seq ?_
  refine k_cond (t := false) K rfl ?_
  refine ex_skip ?_
  show Exq _ _ _ _ _
  repeat refine ex_seq ?_
  refine ex_region ?_
  refine g_load1 K rfl rfl agg22 siz22 (by repeat (first | exact get_upd_eq _ _ _ | assumption | refine (get_upd_ne _ _ (by omega)).trans ?_)) rfl fun a K => ?_
  refine g_load1 K rfl rfl agg9 siz9 (by repeat (first | exact get_upd_eq _ _ _ | assumption | refine (get_upd_ne _ _ (by omega)).trans ?_)) rfl fun a K => ?_
  refine g_makeFunc K rfl rfl rfl fun a K => ?_
  refine g_callq K rfl rfl rfl hx21 body21 ((change_new_nil hx34 hN hx109 hE hx30 hx66 hx23 hx24 hx71 hx37 hx38 hx39 hx63 hh63 hx64 hh64 h25 h108 hx14 hx22 hx65 (sh := sh) (vb := vb) (db := db) (c0 := n + 1 + 1) (c1 := n) (c2 := n + 1) (es := es) (nm := nm) (by repeat (first | exact get_upd_eq _ _ _ | assumption | refine (get_upd_ne _ _ (by omega)).trans ?_)) (by repeat (first | exact get_upd_eq _ _ _ | assumption | refine (get_upd_ne _ _ (by omega)).trans ?_)) (by repeat (first | exact get_upd_eq _ _ _ | assumption | refine (get_upd_ne _ _ (by omega)).trans ?_)) (by repeat (first | exact get_upd_eq _ _ _ | assumption | refine (get_upd_ne _ _ (by omega)).trans ?_)) (by repeat (first | exact get_upd_eq _ _ _ | assumption | refine (get_upd_ne _ _ (by omega)).trans ?_)) (by repeat (first | exact get_upd_eq _ _ _ | assumption | refine (get_upd_ne _ _ (by omega)).trans ?_)) (by omega) (by omega) (by omega) (by omega) (by omega) (by omega) (by omega) (by omega) (by omega) (by omega) (by omega) (by omega) hkk hf hl hd hd2 hf2).mono ?_)
  rintro _ ⟨st1, n1, lg1, c1', rfl, h1, h2, h3, g1, g2, g3, g4⟩
  intro a K
  refine g_end ?_
  show Exq _ _ _ _ _
  repeat refine ex_seq ?_
  refine ex_region ?_
  refine g_assign K rfl rfl fun a K => ?_
  refine g_end ?_
  show Exq _ _ _ _ _
  repeat refine ex_seq ?_
  refine ex_ret ?_
  (repeat first | rw [seqK_ret] | rw [blockK_ret] | rw [loopK_ret])
  refine leave K rfl (res_tmp K rfl res_nil) ?_
  exact ⟨_, _, _, c1', rfl, (by first | omega | (dsimp only; omega)), (by first | omega | (dsimp only; omega)), (by first | omega | (dsimp only; omega)), g1, g2, g3, g4⟩

theorem define_new_one {sh vb db ck i2 bo2 : Nat} {es : List MapEntry} {nm expr : ByteArray} {k : Int} {key2 : Value} {c : Nat} {x : ByteArray} {e0 : TypeId} (hcx : st.get c = some (.cells [.string x] e0)) (b7 : c < n) 
    (hsh : st.get sh = some (.cells [.map (some vb), .map (some db), .slice (some ⟨c, 0, none⟩) 1 0] 41)) (hdb : st.get db = some (.map es ck)) (hvb : st.get vb = some (.map [] 0)) (b2 : sh < n) (b3 : db < n) (b6 : vb < n) (e4 : db ≠ sh) (e5 : vb ≠ db) (e6 : vb ≠ sh) (e7 : c ≠ db)
    (hid : X.m 19 [.string nm] = some (.bool true)) (hp : X.m 20 [.string expr] = some (.tuple ⟨[.agg ⟨[.int .i64 1, .int .i64 k, .string ⟨⟨[]⟩⟩, .slice none 0 0]⟩, .int .i64 0, .int .i64 0]⟩))
    (hkk : K12 k) (hf : findE Tryz.prog 9 (.string nm) es 0 = some none) (hlen : ile 256 (Int.ofNat es.length) = false) (hl : (bytes nm).length.ble 1048576 = true) (hd : es.all (okE ck) = true) (hd2 : (es ++ [⟨.string nm, .agg ⟨[.int .i64 1, .int .i64 k, .string ⟨⟨[]⟩⟩, .slice none 0 0]⟩, ck⟩] : List MapEntry).all (okE (ck + 1)) = true)
    (hf2 : findE Tryz.prog 9 (.string nm) (es ++ [⟨.string nm, .agg ⟨[.int .i64 1, .int .i64 k, .string ⟨⟨[]⟩⟩, .slice none 0 0]⟩, ck⟩] : List MapEntry) 0 = some (some (i2, ⟨key2, .agg ⟨[.int .i64 1, .int .i64 k, .string ⟨⟨[]⟩⟩, .slice none 0 0]⟩, bo2⟩))) :
    Exq Tryz.prog X (.call 6 [.pointer (some ⟨sh, 0, none⟩), .string nm, .string expr] .no) ⟨st, n, lg⟩ (fun o => ∃ st' n' lg' c', o = .ret (.int .i64 0) .no ⟨st', n', lg'⟩ ∧ n ≤ n' ∧ n ≤ c' ∧ c' < n' ∧ st'.get sh = some (.cells [.map (some vb), .map (some db), .slice (some ⟨c', 0, none⟩) 1 0] 41) ∧ st'.get c' = some (.cells [.string nm] 9) ∧ st'.get db = some (.map (es ++ [⟨.string nm, .agg ⟨[.int .i64 1, .int .i64 k, .string ⟨⟨[]⟩⟩, .slice none 0 0]⟩, ck⟩] : List MapEntry) (ck + 1)) ∧ st'.get vb = some (.map [] 0)) := by
  refine ex_callK Tryz.func6 rfl rfl rfl fun a K => ?_
  show Exq _ _ _ _ _
  repeat refine ex_seq ?_
  refine ex_region ?_
  refine g_box K rfl rfl rfl fun a K => ?_
  refine g_box K rfl rfl rfl fun a K => ?_
  refine g_assign K rfl rfl fun a K => ?_
  refine g_end ?_
  show Exq _ _ _ _ _
  repeat refine ex_seq ?_
  refine ex_region ?_
  refine g_load1 K rfl rfl agg22 siz22 (by repeat (first | exact get_upd_eq _ _ _ | assumption | refine (get_upd_ne _ _ (by omega)).trans ?_)) rfl fun a K => ?_
  refine g_binOp K rfl rfl rfl (eqp22 _ _ _) fun a K => ?_
  refine g_end ?_
  show Exq _ _ _ _ _
  repeat refine ex_seq ?_
  refine k_cond (t := false) K rfl ?_
  refine ex_skip ?_
  show Exq _ _ _ _ _
  repeat refine ex_seq ?_
  refine ex_region ?_
  refine g_load1 K rfl rfl agg9 siz9 (by repeat (first | exact get_upd_eq _ _ _ | assumption | refine (get_upd_ne _ _ (by omega)).trans ?_)) rfl fun a K => ?_
  refine g_calls K rfl rfl rfl hx19 body19 (hid) rfl fun a K => ?_
  refine g_unOp K rfl rfl rfl fun a K => ?_
  refine g_end ?_
  show Exq _ _ _ _ _
  repeat refine ex_seq ?_
  refine k_cond (t := false) K rfl ?_
  refine ex_skip ?_
  show Exq _ _ _ _ _
  repeat refine ex_seq ?_
  refine ex_region ?_
  refine g_move K rfl rfl fun a K => ?_
  refine g_calls K rfl rfl rfl hx20 body20 (hp) rfl fun a K => ?_
  refine g_move K rfl rfl fun a K => ?_
  refine g_extract K rfl rfl rfl rfl fun a K => ?_
  refine g_extract K rfl rfl rfl rfl fun a K => ?_
  refine g_extract K rfl rfl rfl rfl fun a K => ?_
  refine g_alloc K rfl zer67 fun a K => ?_
  refine g_store K rfl rfl siz67 rfl (by repeat (first | exact get_upd_eq _ _ _ | assumption | refine (get_upd_ne _ _ (by omega)).trans ?_)) rfl rfl ?_
  refine g_assign K rfl rfl fun a K => ?_
  refine g_assign K rfl rfl fun a K => ?_
  refine g_end ?_
  show Exq _ _ _ _ _
  repeat refine ex_seq ?_
  refine ex_region ?_
  refine g_move K rfl rfl fun a K => ?_
  refine g_binOp K rfl rfl rfl rfl fun a K => ?_
  refine g_end ?_
  show Exq _ _ _ _ _
  repeat refine ex_seq ?_
  refine k_cond (t := false) K rfl ?_
  refine ex_skip ?_
  show Exq _ _ _ _ _
  repeat refine ex_seq ?_
  refine ex_draw (by kernel_rfl) ?_
  refine d_loc K rfl rfl (e_load1 K rfl agg22 siz22 (by repeat (first | exact get_upd_eq _ _ _ | assumption | refine (get_upd_ne _ _ (by omega)).trans ?_)) rfl) (n_load K rfl) (by repeat (first | exact hist_nil | refine hist_rec (by simp (disch := omega) only [rec_ff, rec_ft, rec_tf, made_nil, made_cons, made_f, meets_nil, meets_cons, hasN_nil, hasN_cons, nbeq_ne, Bool.or_false, Bool.not_false, Bool.and_self]) ?_ | refine hist_ord (by kernel_rfl) ?_)) fun a K => ?_
  refine d_loc (ns := []) K rfl rfl (e_nilCheck K rfl) rfl (by repeat (first | exact hist_nil | refine hist_rec (by simp (disch := omega) only [rec_ff, rec_ft, rec_tf, made_nil, made_cons, made_f, meets_nil, meets_cons, hasN_nil, hasN_cons, nbeq_ne, Bool.or_false, Bool.not_false, Bool.and_self]) ?_ | refine hist_ord (by kernel_rfl) ?_)) fun a K => ?_
  refine d_loc (ns := []) K rfl rfl (e_fieldAddr K rfl (fa41_1 _)) rfl (by repeat (first | exact hist_nil | refine hist_rec (by simp (disch := omega) only [rec_ff, rec_ft, rec_tf, made_nil, made_cons, made_f, meets_nil, meets_cons, hasN_nil, hasN_cons, nbeq_ne, Bool.or_false, Bool.not_false, Bool.and_self]) ?_ | refine hist_ord (by kernel_rfl) ?_)) fun a K => ?_
  refine d_loc K rfl rfl (e_load1 K rfl agg39 siz39 (by repeat (first | exact get_upd_eq _ _ _ | assumption | refine (get_upd_ne _ _ (by omega)).trans ?_)) rfl) (n_load K rfl) (by repeat (first | exact hist_nil | refine hist_rec (by simp (disch := omega) only [rec_ff, rec_ft, rec_tf, made_nil, made_cons, made_f, meets_nil, meets_cons, hasN_nil, hasN_cons, nbeq_ne, Bool.or_false, Bool.not_false, Bool.and_self]) ?_ | refine hist_ord (by kernel_rfl) ?_)) fun a K => ?_
  refine d_loc K rfl rfl (e_load1 K rfl agg9 siz9 (by repeat (first | exact get_upd_eq _ _ _ | assumption | refine (get_upd_ne _ _ (by omega)).trans ?_)) rfl) (n_load K rfl) (by repeat (first | exact hist_nil | refine hist_rec (by simp (disch := omega) only [rec_ff, rec_ft, rec_tf, made_nil, made_cons, made_f, meets_nil, meets_cons, hasN_nil, hasN_cons, nbeq_ne, Bool.or_false, Bool.not_false, Bool.and_self]) ?_ | refine hist_ord (by kernel_rfl) ?_)) fun a K => ?_
  refine d_loc K rfl rfl (e_lookup K rfl rfl (lookup_ok und39 (by repeat (first | exact get_upd_eq _ _ _ | assumption | refine (get_upd_ne _ _ (by omega)).trans ?_)) (key9 _) (found_none hf zer67))) (n_lookup K rfl) (by repeat (first | exact hist_nil | refine hist_rec (by simp (disch := omega) only [rec_ff, rec_ft, rec_tf, made_nil, made_cons, made_f, meets_nil, meets_cons, hasN_nil, hasN_cons, nbeq_ne, Bool.or_false, Bool.not_false, Bool.and_self]) ?_ | refine hist_ord (by kernel_rfl) ?_)) fun a K => ?_
  refine d_loc (ns := []) K rfl rfl (e_move K rfl) rfl (by repeat (first | exact hist_nil | refine hist_rec (by simp (disch := omega) only [rec_ff, rec_ft, rec_tf, made_nil, made_cons, made_f, meets_nil, meets_cons, hasN_nil, hasN_cons, nbeq_ne, Bool.or_false, Bool.not_false, Bool.and_self]) ?_ | refine hist_ord (by kernel_rfl) ?_)) fun a K => ?_
  refine d_loc (ns := []) K rfl rfl (e_extract K rfl rfl rfl) rfl (by repeat (first | exact hist_nil | refine hist_rec (by simp (disch := omega) only [rec_ff, rec_ft, rec_tf, made_nil, made_cons, made_f, meets_nil, meets_cons, hasN_nil, hasN_cons, nbeq_ne, Bool.or_false, Bool.not_false, Bool.and_self]) ?_ | refine hist_ord (by kernel_rfl) ?_)) fun a K => ?_
  refine d_loc (ns := []) K rfl rfl (e_extract K rfl rfl rfl) rfl (by repeat (first | exact hist_nil | refine hist_rec (by simp (disch := omega) only [rec_ff, rec_ft, rec_tf, made_nil, made_cons, made_f, meets_nil, meets_cons, hasN_nil, hasN_cons, nbeq_ne, Bool.or_false, Bool.not_false, Bool.and_self]) ?_ | refine hist_ord (by kernel_rfl) ?_)) fun a K => ?_
  refine d_loc (ns := []) K rfl rfl (e_alloc K zer67) rfl (by repeat (first | exact hist_nil | refine hist_rec (by simp (disch := omega) only [rec_ff, rec_ft, rec_tf, made_nil, made_cons, made_f, meets_nil, meets_cons, hasN_nil, hasN_cons, nbeq_ne, Bool.or_false, Bool.not_false, Bool.and_self]) ?_ | refine hist_ord (by kernel_rfl) ?_)) fun a K => ?_
  refine d_bigs rfl (e_store K rfl rfl siz67 rfl (by repeat (first | exact get_upd_eq _ _ _ | assumption | refine (get_upd_ne _ _ (by omega)).trans ?_)) rfl rfl) (by repeat (first | exact hist_nil | refine hist_rec (by simp (disch := omega) only [rec_ff, rec_ft, rec_tf, made_nil, made_cons, made_f, meets_nil, meets_cons, hasN_nil, hasN_cons, nbeq_ne, Bool.or_false, Bool.not_false, Bool.and_self]) ?_ | refine hist_ord (by kernel_rfl) ?_)) ?_
  refine d_loc (ns := []) K rfl rfl (e_assign K rfl) rfl (by repeat (first | exact hist_nil | refine hist_rec (by simp (disch := omega) only [rec_ff, rec_ft, rec_tf, made_nil, made_cons, made_f, meets_nil, meets_cons, hasN_nil, hasN_cons, nbeq_ne, Bool.or_false, Bool.not_false, Bool.and_self]) ?_ | refine hist_ord (by kernel_rfl) ?_)) fun a K => ?_
  refine d_end ?_
  show Exq _ _ _ _ _
  repeat refine ex_seq ?_
  refine ex_region ?_
  refine g_move K rfl rfl fun a K => ?_
  refine g_unOp K rfl rfl rfl fun a K => ?_
  refine g_move K rfl rfl fun a K => ?_
  refine g_if K rfl rfl rfl ?_
  refine g_load1 K rfl rfl agg22 siz22 (by repeat (first | exact get_upd_eq _ _ _ | assumption | refine (get_upd_ne _ _ (by omega)).trans ?_)) rfl fun a K => ?_
  refine g_if K rfl rfl rfl ?_
  refine g_nilCheck K rfl rfl fun a K => ?_
  refine g_if K rfl rfl rfl ?_
  refine g_fieldAddr K rfl rfl (fa41_1 _) fun a K => ?_
  refine g_if K rfl rfl rfl ?_
  refine g_load1 K rfl rfl agg39 siz39 (by repeat (first | exact get_upd_eq _ _ _ | assumption | refine (get_upd_ne _ _ (by omega)).trans ?_)) rfl fun a K => ?_
  refine g_if K rfl rfl rfl ?_
  refine g_builtin K rfl rfl (len39 (by repeat (first | exact get_upd_eq _ _ _ | assumption | refine (get_upd_ne _ _ (by omega)).trans ?_))) fun a K => ?_
  refine g_if K rfl rfl rfl ?_
  refine g_binOp K rfl rfl rfl (geq_b hlen) fun a K => ?_
  refine g_pick K rfl rfl rfl fun a K => ?_
  refine g_end ?_
  show Exq _ _ _ _ _
  repeat refine ex_seq ?_
  refine k_cond (t := false) K rfl ?_
  refine ex_skip ?_
  show Exq _ _ _ _ _
  repeat refine ex_seq ?_
  refine ex_region ?_
  refine g_load1 K rfl rfl agg22 siz22 (by repeat (first | exact get_upd_eq _ _ _ | assumption | refine (get_upd_ne _ _ (by omega)).trans ?_)) rfl fun a K => ?_
  refine g_load1 K rfl rfl agg9 siz9 (by repeat (first | exact get_upd_eq _ _ _ | assumption | refine (get_upd_ne _ _ (by omega)).trans ?_)) rfl fun a K => ?_
  refine g_makeFunc K rfl rfl rfl fun a K => ?_
  refine g_callq K rfl rfl rfl hx21 body21 ((change_new_one hx34 hN hx109 hE hx30 hx66 hx23 hx24 hx71 hx37 hx38 hx39 hx63 hh63 hx64 hh64 h25 h108 hx14 hx22 hx65 (sh := sh) (vb := vb) (db := db) (c0 := n + 1 + 1) (c1 := n) (c2 := n + 1) (es := es) (nm := nm) (c := c) (x := x) (e0 := e0) (by repeat (first | exact get_upd_eq _ _ _ | assumption | refine (get_upd_ne _ _ (by omega)).trans ?_)) (by omega) (by repeat (first | exact get_upd_eq _ _ _ | assumption | refine (get_upd_ne _ _ (by omega)).trans ?_)) (by repeat (first | exact get_upd_eq _ _ _ | assumption | refine (get_upd_ne _ _ (by omega)).trans ?_)) (by repeat (first | exact get_upd_eq _ _ _ | assumption | refine (get_upd_ne _ _ (by omega)).trans ?_)) (by repeat (first | exact get_upd_eq _ _ _ | assumption | refine (get_upd_ne _ _ (by omega)).trans ?_)) (by repeat (first | exact get_upd_eq _ _ _ | assumption | refine (get_upd_ne _ _ (by omega)).trans ?_)) (by repeat (first | exact get_upd_eq _ _ _ | assumption | refine (get_upd_ne _ _ (by omega)).trans ?_)) (by omega) (by omega) (by omega) (by omega) (by omega) (by omega) (by omega) (by omega) (by omega) (by omega) (by omega) (by omega) (by omega) hkk hf hl hd hd2 hf2).mono ?_)
  rintro _ ⟨st1, n1, lg1, c1', rfl, h1, h2, h3, g1, g2, g3, g4⟩
  intro a K
  refine g_end ?_
  show Exq _ _ _ _ _
  repeat refine ex_seq ?_
  refine ex_region ?_
  refine g_assign K rfl rfl fun a K => ?_
  refine g_end ?_
  show Exq _ _ _ _ _
  repeat refine ex_seq ?_
  refine ex_ret ?_
  (repeat first | rw [seqK_ret] | rw [blockK_ret] | rw [loopK_ret])
  refine leave K rfl (res_tmp K rfl res_nil) ?_
  exact ⟨_, _, _, c1', rfl, (by first | omega | (dsimp only; omega)), (by first | omega | (dsimp only; omega)), (by first | omega | (dsimp only; omega)), g1, g2, g3, g4⟩

theorem define_old_one {sh vb db ck i2 bo2 : Nat} {es : List MapEntry} {nm expr : ByteArray} {key2 : Value} {c : Nat} {x : ByteArray} {e0 : TypeId} (hcx : st.get c = some (.cells [.string x] e0)) (b7 : c < n) 
    (hsh : st.get sh = some (.cells [.map (some vb), .map (some db), .slice (some ⟨c, 0, none⟩) 1 0] 41)) (hdb : st.get db = some (.map es ck)) (hvb : st.get vb = some (.map [] 0)) (b2 : sh < n) (b3 : db < n) (b6 : vb < n) (e4 : db ≠ sh) (e5 : vb ≠ db) (e6 : vb ≠ sh) (e7 : c ≠ db)
    (hid : X.m 19 [.string nm] = some (.bool true)) (hp : X.m 20 [.string expr] = some (.tuple ⟨[.agg ⟨[.int .i64 1, .int .i64 2, .string ⟨⟨[]⟩⟩, .slice none 0 0]⟩, .int .i64 0, .int .i64 0]⟩))
    {i bo : Nat} (hf : findE Tryz.prog 9 (.string nm) es 0 = some (some (i, ⟨.string nm, .agg ⟨[.int .i64 1, .int .i64 1, .string ⟨⟨[]⟩⟩, .slice none 0 0]⟩, bo⟩))) (hl : (bytes nm).length.ble 1048576 = true) (hd : es.all (okE ck) = true) (hd2 : (putAt es i ⟨.string nm, .agg ⟨[.int .i64 1, .int .i64 2, .string ⟨⟨[]⟩⟩, .slice none 0 0]⟩, bo⟩ : List MapEntry).all (okE ck) = true)
    (hf2 : findE Tryz.prog 9 (.string nm) (putAt es i ⟨.string nm, .agg ⟨[.int .i64 1, .int .i64 2, .string ⟨⟨[]⟩⟩, .slice none 0 0]⟩, bo⟩ : List MapEntry) 0 = some (some (i2, ⟨key2, .agg ⟨[.int .i64 1, .int .i64 2, .string ⟨⟨[]⟩⟩, .slice none 0 0]⟩, bo2⟩))) :
    Exq Tryz.prog X (.call 6 [.pointer (some ⟨sh, 0, none⟩), .string nm, .string expr] .no) ⟨st, n, lg⟩ (fun o => ∃ st' n' lg' c', o = .ret (.int .i64 0) .no ⟨st', n', lg'⟩ ∧ n ≤ n' ∧ n ≤ c' ∧ c' < n' ∧ st'.get sh = some (.cells [.map (some vb), .map (some db), .slice (some ⟨c', 0, none⟩) 1 0] 41) ∧ st'.get c' = some (.cells [.string nm] 9) ∧ st'.get db = some (.map (putAt es i ⟨.string nm, .agg ⟨[.int .i64 1, .int .i64 2, .string ⟨⟨[]⟩⟩, .slice none 0 0]⟩, bo⟩ : List MapEntry) ck) ∧ st'.get vb = some (.map [] 0)) := by
  refine ex_callK Tryz.func6 rfl rfl rfl fun a K => ?_
  show Exq _ _ _ _ _
  repeat refine ex_seq ?_
  refine ex_region ?_
  refine g_box K rfl rfl rfl fun a K => ?_
  refine g_box K rfl rfl rfl fun a K => ?_
  refine g_assign K rfl rfl fun a K => ?_
  refine g_end ?_
  show Exq _ _ _ _ _
  repeat refine ex_seq ?_
  refine ex_region ?_
  refine g_load1 K rfl rfl agg22 siz22 (by repeat (first | exact get_upd_eq _ _ _ | assumption | refine (get_upd_ne _ _ (by omega)).trans ?_)) rfl fun a K => ?_
  refine g_binOp K rfl rfl rfl (eqp22 _ _ _) fun a K => ?_
  refine g_end ?_
  show Exq _ _ _ _ _
  repeat refine ex_seq ?_
  refine k_cond (t := false) K rfl ?_
  refine ex_skip ?_
  show Exq _ _ _ _ _
  repeat refine ex_seq ?_
  refine ex_region ?_
  refine g_load1 K rfl rfl agg9 siz9 (by repeat (first | exact get_upd_eq _ _ _ | assumption | refine (get_upd_ne _ _ (by omega)).trans ?_)) rfl fun a K => ?_
  refine g_calls K rfl rfl rfl hx19 body19 (hid) rfl fun a K => ?_
  refine g_unOp K rfl rfl rfl fun a K => ?_
  refine g_end ?_
  show Exq _ _ _ _ _
  repeat refine ex_seq ?_
  refine k_cond (t := false) K rfl ?_
  refine ex_skip ?_
  show Exq _ _ _ _ _
  repeat refine ex_seq ?_
  refine ex_region ?_
  refine g_move K rfl rfl fun a K => ?_
  refine g_calls K rfl rfl rfl hx20 body20 (hp) rfl fun a K => ?_
  refine g_move K rfl rfl fun a K => ?_
  refine g_extract K rfl rfl rfl rfl fun a K => ?_
  refine g_extract K rfl rfl rfl rfl fun a K => ?_
  refine g_extract K rfl rfl rfl rfl fun a K => ?_
  refine g_alloc K rfl zer67 fun a K => ?_
  refine g_store K rfl rfl siz67 rfl (by repeat (first | exact get_upd_eq _ _ _ | assumption | refine (get_upd_ne _ _ (by omega)).trans ?_)) rfl rfl ?_
  refine g_assign K rfl rfl fun a K => ?_
  refine g_assign K rfl rfl fun a K => ?_
  refine g_end ?_
  show Exq _ _ _ _ _
  repeat refine ex_seq ?_
  refine ex_region ?_
  refine g_move K rfl rfl fun a K => ?_
  refine g_binOp K rfl rfl rfl rfl fun a K => ?_
  refine g_end ?_
  show Exq _ _ _ _ _
  repeat refine ex_seq ?_
  refine k_cond (t := false) K rfl ?_
  refine ex_skip ?_
  show Exq _ _ _ _ _
  repeat refine ex_seq ?_
  refine ex_draw (by kernel_rfl) ?_
  refine d_loc K rfl rfl (e_load1 K rfl agg22 siz22 (by repeat (first | exact get_upd_eq _ _ _ | assumption | refine (get_upd_ne _ _ (by omega)).trans ?_)) rfl) (n_load K rfl) (by repeat (first | exact hist_nil | refine hist_rec (by simp (disch := omega) only [rec_ff, rec_ft, rec_tf, made_nil, made_cons, made_f, meets_nil, meets_cons, hasN_nil, hasN_cons, nbeq_ne, Bool.or_false, Bool.not_false, Bool.and_self]) ?_ | refine hist_ord (by kernel_rfl) ?_)) fun a K => ?_
  refine d_loc (ns := []) K rfl rfl (e_nilCheck K rfl) rfl (by repeat (first | exact hist_nil | refine hist_rec (by simp (disch := omega) only [rec_ff, rec_ft, rec_tf, made_nil, made_cons, made_f, meets_nil, meets_cons, hasN_nil, hasN_cons, nbeq_ne, Bool.or_false, Bool.not_false, Bool.and_self]) ?_ | refine hist_ord (by kernel_rfl) ?_)) fun a K => ?_
  refine d_loc (ns := []) K rfl rfl (e_fieldAddr K rfl (fa41_1 _)) rfl (by repeat (first | exact hist_nil | refine hist_rec (by simp (disch := omega) only [rec_ff, rec_ft, rec_tf, made_nil, made_cons, made_f, meets_nil, meets_cons, hasN_nil, hasN_cons, nbeq_ne, Bool.or_false, Bool.not_false, Bool.and_self]) ?_ | refine hist_ord (by kernel_rfl) ?_)) fun a K => ?_
  refine d_loc K rfl rfl (e_load1 K rfl agg39 siz39 (by repeat (first | exact get_upd_eq _ _ _ | assumption | refine (get_upd_ne _ _ (by omega)).trans ?_)) rfl) (n_load K rfl) (by repeat (first | exact hist_nil | refine hist_rec (by simp (disch := omega) only [rec_ff, rec_ft, rec_tf, made_nil, made_cons, made_f, meets_nil, meets_cons, hasN_nil, hasN_cons, nbeq_ne, Bool.or_false, Bool.not_false, Bool.and_self]) ?_ | refine hist_ord (by kernel_rfl) ?_)) fun a K => ?_
  refine d_loc K rfl rfl (e_load1 K rfl agg9 siz9 (by repeat (first | exact get_upd_eq _ _ _ | assumption | refine (get_upd_ne _ _ (by omega)).trans ?_)) rfl) (n_load K rfl) (by repeat (first | exact hist_nil | refine hist_rec (by simp (disch := omega) only [rec_ff, rec_ft, rec_tf, made_nil, made_cons, made_f, meets_nil, meets_cons, hasN_nil, hasN_cons, nbeq_ne, Bool.or_false, Bool.not_false, Bool.and_self]) ?_ | refine hist_ord (by kernel_rfl) ?_)) fun a K => ?_
  refine d_loc K rfl rfl (e_lookup K rfl rfl (lookup_ok und39 (by repeat (first | exact get_upd_eq _ _ _ | assumption | refine (get_upd_ne _ _ (by omega)).trans ?_)) (key9 _) (found_some hf))) (n_lookup K rfl) (by repeat (first | exact hist_nil | refine hist_rec (by simp (disch := omega) only [rec_ff, rec_ft, rec_tf, made_nil, made_cons, made_f, meets_nil, meets_cons, hasN_nil, hasN_cons, nbeq_ne, Bool.or_false, Bool.not_false, Bool.and_self]) ?_ | refine hist_ord (by kernel_rfl) ?_)) fun a K => ?_
  refine d_loc (ns := []) K rfl rfl (e_move K rfl) rfl (by repeat (first | exact hist_nil | refine hist_rec (by simp (disch := omega) only [rec_ff, rec_ft, rec_tf, made_nil, made_cons, made_f, meets_nil, meets_cons, hasN_nil, hasN_cons, nbeq_ne, Bool.or_false, Bool.not_false, Bool.and_self]) ?_ | refine hist_ord (by kernel_rfl) ?_)) fun a K => ?_
  refine d_loc (ns := []) K rfl rfl (e_extract K rfl rfl rfl) rfl (by repeat (first | exact hist_nil | refine hist_rec (by simp (disch := omega) only [rec_ff, rec_ft, rec_tf, made_nil, made_cons, made_f, meets_nil, meets_cons, hasN_nil, hasN_cons, nbeq_ne, Bool.or_false, Bool.not_false, Bool.and_self]) ?_ | refine hist_ord (by kernel_rfl) ?_)) fun a K => ?_
  refine d_loc (ns := []) K rfl rfl (e_extract K rfl rfl rfl) rfl (by repeat (first | exact hist_nil | refine hist_rec (by simp (disch := omega) only [rec_ff, rec_ft, rec_tf, made_nil, made_cons, made_f, meets_nil, meets_cons, hasN_nil, hasN_cons, nbeq_ne, Bool.or_false, Bool.not_false, Bool.and_self]) ?_ | refine hist_ord (by kernel_rfl) ?_)) fun a K => ?_
  refine d_loc (ns := []) K rfl rfl (e_alloc K zer67) rfl (by repeat (first | exact hist_nil | refine hist_rec (by simp (disch := omega) only [rec_ff, rec_ft, rec_tf, made_nil, made_cons, made_f, meets_nil, meets_cons, hasN_nil, hasN_cons, nbeq_ne, Bool.or_false, Bool.not_false, Bool.and_self]) ?_ | refine hist_ord (by kernel_rfl) ?_)) fun a K => ?_
  refine d_bigs rfl (e_store K rfl rfl siz67 rfl (by repeat (first | exact get_upd_eq _ _ _ | assumption | refine (get_upd_ne _ _ (by omega)).trans ?_)) rfl rfl) (by repeat (first | exact hist_nil | refine hist_rec (by simp (disch := omega) only [rec_ff, rec_ft, rec_tf, made_nil, made_cons, made_f, meets_nil, meets_cons, hasN_nil, hasN_cons, nbeq_ne, Bool.or_false, Bool.not_false, Bool.and_self]) ?_ | refine hist_ord (by kernel_rfl) ?_)) ?_
  refine d_loc (ns := []) K rfl rfl (e_assign K rfl) rfl (by repeat (first | exact hist_nil | refine hist_rec (by simp (disch := omega) only [rec_ff, rec_ft, rec_tf, made_nil, made_cons, made_f, meets_nil, meets_cons, hasN_nil, hasN_cons, nbeq_ne, Bool.or_false, Bool.not_false, Bool.and_self]) ?_ | refine hist_ord (by kernel_rfl) ?_)) fun a K => ?_
  refine d_end ?_
  show Exq _ _ _ _ _
  repeat refine ex_seq ?_
  refine ex_region ?_
  refine g_move K rfl rfl fun a K => ?_
  refine g_unOp K rfl rfl rfl fun a K => ?_
  refine g_move K rfl rfl fun a K => ?_
  refine g_not K rfl rfl rfl rfl fun a K => ?_
  refine g_not K rfl rfl rfl rfl fun a K => ?_
  refine g_not K rfl rfl rfl rfl fun a K => ?_
  refine g_not K rfl rfl rfl rfl fun a K => ?_
  refine g_not K rfl rfl rfl rfl fun a K => ?_
  refine g_not K rfl rfl rfl rfl fun a K => ?_
  refine g_pick K rfl rfl rfl fun a K => ?_
  refine g_end ?_
  show Exq _ _ _ _ _
  repeat refine ex_seq ?_
  refine k_cond (t := false) K rfl ?_
  refine ex_skip ?_
  show Exq _ _ _ _ _
  repeat refine ex_seq ?_
  refine ex_region ?_
  refine g_load1 K rfl rfl agg22 siz22 (by repeat (first | exact get_upd_eq _ _ _ | assumption | refine (get_upd_ne _ _ (by omega)).trans ?_)) rfl fun a K => ?_
  refine g_load1 K rfl rfl agg9 siz9 (by repeat (first | exact get_upd_eq _ _ _ | assumption | refine (get_upd_ne _ _ (by omega)).trans ?_)) rfl fun a K => ?_
  refine g_makeFunc K rfl rfl rfl fun a K => ?_
  refine g_callq K rfl rfl rfl hx21 body21 ((change_old_one hx34 hN hx109 hE hx30 hx66 hx23 hx24 hx71 hx37 hx38 hx39 hx63 hh63 hx64 hh64 h25 h108 hx14 hx22 hx65 (sh := sh) (vb := vb) (db := db) (c0 := n + 1 + 1) (c1 := n) (c2 := n + 1) (es := es) (nm := nm) (c := c) (x := x) (e0 := e0) (by repeat (first | exact get_upd_eq _ _ _ | assumption | refine (get_upd_ne _ _ (by omega)).trans ?_)) (by omega) (by repeat (first | exact get_upd_eq _ _ _ | assumption | refine (get_upd_ne _ _ (by omega)).trans ?_)) (by repeat (first | exact get_upd_eq _ _ _ | assumption | refine (get_upd_ne _ _ (by omega)).trans ?_)) (by repeat (first | exact get_upd_eq _ _ _ | assumption | refine (get_upd_ne _ _ (by omega)).trans ?_)) (by repeat (first | exact get_upd_eq _ _ _ | assumption | refine (get_upd_ne _ _ (by omega)).trans ?_)) (by repeat (first | exact get_upd_eq _ _ _ | assumption | refine (get_upd_ne _ _ (by omega)).trans ?_)) (by repeat (first | exact get_upd_eq _ _ _ | assumption | refine (get_upd_ne _ _ (by omega)).trans ?_)) (by omega) (by omega) (by omega) (by omega) (by omega) (by omega) (by omega) (by omega) (by omega) (by omega) (by omega) (by omega) (by omega) hf hl hd hd2 hf2).mono ?_)
  rintro _ ⟨st1, n1, lg1, c1', rfl, h1, h2, h3, g1, g2, g3, g4⟩
  intro a K
  refine g_end ?_
  show Exq _ _ _ _ _
  repeat refine ex_seq ?_
  refine ex_region ?_
  refine g_assign K rfl rfl fun a K => ?_
  refine g_end ?_
  show Exq _ _ _ _ _
  repeat refine ex_seq ?_
  refine ex_ret ?_
  (repeat first | rw [seqK_ret] | rw [blockK_ret] | rw [loopK_ret])
  refine leave K rfl (res_tmp K rfl res_nil) ?_
  exact ⟨_, _, _, c1', rfl, (by first | omega | (dsimp only; omega)), (by first | omega | (dsimp only; omega)), (by first | omega | (dsimp only; omega)), g1, g2, g3, g4⟩

theorem define_limit_one {sh vb db ck i2 bo2 : Nat} {es : List MapEntry} {nm expr : ByteArray} {k : Int} {key2 : Value} {c : Nat} {x : ByteArray} {e0 : TypeId} (hcx : st.get c = some (.cells [.string x] e0)) (b7 : c < n) 
    (hsh : st.get sh = some (.cells [.map (some vb), .map (some db), .slice (some ⟨c, 0, none⟩) 1 0] 41)) (hdb : st.get db = some (.map es ck)) (hvb : st.get vb = some (.map [] 0)) (b2 : sh < n) (b3 : db < n) (b6 : vb < n) (e4 : db ≠ sh) (e5 : vb ≠ db) (e6 : vb ≠ sh) (e7 : c ≠ db)
    (hid : X.m 19 [.string nm] = some (.bool true)) (hp : X.m 20 [.string expr] = some (.tuple ⟨[.agg ⟨[.int .i64 1, .int .i64 k, .string ⟨⟨[]⟩⟩, .slice none 0 0]⟩, .int .i64 0, .int .i64 0]⟩))
    (hf : findE Tryz.prog 9 (.string nm) es 0 = some none) (hlen : ile 256 (Int.ofNat es.length) = true)  :
    Exq Tryz.prog X (.call 6 [.pointer (some ⟨sh, 0, none⟩), .string nm, .string expr] .no) ⟨st, n, lg⟩ (fun o => ∃ st' n' lg', o = .ret (.int .i64 9) .no ⟨st', n', lg'⟩ ∧ n ≤ n' ∧ ∀ m, m < n → st'.get m = st.get m) := by
  have _ := hx34
  have _ := hN
  have _ := hx109
  have _ := hE
  have _ := hx30
  have _ := hx66
  have _ := hx23
  have _ := hx24
  have _ := hx71
  have _ := hx37
  have _ := hx38
  have _ := hx39
  have _ := hx63
  have _ := hh63
  have _ := hx64
  have _ := hh64
  have _ := h25
  have _ := h108
  have _ := hx14
  have _ := hx22
  have _ := hx65
  have _ := hx21
  refine ex_callK Tryz.func6 rfl rfl rfl fun a K => ?_
  show Exq _ _ _ _ _
  repeat refine ex_seq ?_
  refine ex_region ?_
  refine g_box K rfl rfl rfl fun a K => ?_
  refine g_box K rfl rfl rfl fun a K => ?_
  refine g_assign K rfl rfl fun a K => ?_
  refine g_end ?_
  show Exq _ _ _ _ _
  repeat refine ex_seq ?_
  refine ex_region ?_
  refine g_load1 K rfl rfl agg22 siz22 (by repeat (first | exact get_upd_eq _ _ _ | assumption | refine (get_upd_ne _ _ (by omega)).trans ?_)) rfl fun a K => ?_
  refine g_binOp K rfl rfl rfl (eqp22 _ _ _) fun a K => ?_
  refine g_end ?_
  show Exq _ _ _ _ _
  repeat refine ex_seq ?_
  refine k_cond (t := false) K rfl ?_
  refine ex_skip ?_
  show Exq _ _ _ _ _
  repeat refine ex_seq ?_
  refine ex_region ?_
  refine g_load1 K rfl rfl agg9 siz9 (by repeat (first | exact get_upd_eq _ _ _ | assumption | refine (get_upd_ne _ _ (by omega)).trans ?_)) rfl fun a K => ?_
  refine g_calls K rfl rfl rfl hx19 body19 (hid) rfl fun a K => ?_
  refine g_unOp K rfl rfl rfl fun a K => ?_
  refine g_end ?_
  show Exq _ _ _ _ _
  repeat refine ex_seq ?_
  refine k_cond (t := false) K rfl ?_
  refine ex_skip ?_
  show Exq _ _ _ _ _
  repeat refine ex_seq ?_
  refine ex_region ?_
  refine g_move K rfl rfl fun a K => ?_
  refine g_calls K rfl rfl rfl hx20 body20 (hp) rfl fun a K => ?_
  refine g_move K rfl rfl fun a K => ?_
  refine g_extract K rfl rfl rfl rfl fun a K => ?_
  refine g_extract K rfl rfl rfl rfl fun a K => ?_
  refine g_extract K rfl rfl rfl rfl fun a K => ?_
  refine g_alloc K rfl zer67 fun a K => ?_
  refine g_store K rfl rfl siz67 rfl (by repeat (first | exact get_upd_eq _ _ _ | assumption | refine (get_upd_ne _ _ (by omega)).trans ?_)) rfl rfl ?_
  refine g_assign K rfl rfl fun a K => ?_
  refine g_assign K rfl rfl fun a K => ?_
  refine g_end ?_
  show Exq _ _ _ _ _
  repeat refine ex_seq ?_
  refine ex_region ?_
  refine g_move K rfl rfl fun a K => ?_
  refine g_binOp K rfl rfl rfl rfl fun a K => ?_
  refine g_end ?_
  show Exq _ _ _ _ _
  repeat refine ex_seq ?_
  refine k_cond (t := false) K rfl ?_
  refine ex_skip ?_
  show Exq _ _ _ _ _
  repeat refine ex_seq ?_
  refine ex_draw (by kernel_rfl) ?_
  refine d_loc K rfl rfl (e_load1 K rfl agg22 siz22 (by repeat (first | exact get_upd_eq _ _ _ | assumption | refine (get_upd_ne _ _ (by omega)).trans ?_)) rfl) (n_load K rfl) (by repeat (first | exact hist_nil | refine hist_rec (by simp (disch := omega) only [rec_ff, rec_ft, rec_tf, made_nil, made_cons, made_f, meets_nil, meets_cons, hasN_nil, hasN_cons, nbeq_ne, Bool.or_false, Bool.not_false, Bool.and_self]) ?_ | refine hist_ord (by kernel_rfl) ?_)) fun a K => ?_
  refine d_loc (ns := []) K rfl rfl (e_nilCheck K rfl) rfl (by repeat (first | exact hist_nil | refine hist_rec (by simp (disch := omega) only [rec_ff, rec_ft, rec_tf, made_nil, made_cons, made_f, meets_nil, meets_cons, hasN_nil, hasN_cons, nbeq_ne, Bool.or_false, Bool.not_false, Bool.and_self]) ?_ | refine hist_ord (by kernel_rfl) ?_)) fun a K => ?_
  refine d_loc (ns := []) K rfl rfl (e_fieldAddr K rfl (fa41_1 _)) rfl (by repeat (first | exact hist_nil | refine hist_rec (by simp (disch := omega) only [rec_ff, rec_ft, rec_tf, made_nil, made_cons, made_f, meets_nil, meets_cons, hasN_nil, hasN_cons, nbeq_ne, Bool.or_false, Bool.not_false, Bool.and_self]) ?_ | refine hist_ord (by kernel_rfl) ?_)) fun a K => ?_
  refine d_loc K rfl rfl (e_load1 K rfl agg39 siz39 (by repeat (first | exact get_upd_eq _ _ _ | assumption | refine (get_upd_ne _ _ (by omega)).trans ?_)) rfl) (n_load K rfl) (by repeat (first | exact hist_nil | refine hist_rec (by simp (disch := omega) only [rec_ff, rec_ft, rec_tf, made_nil, made_cons, made_f, meets_nil, meets_cons, hasN_nil, hasN_cons, nbeq_ne, Bool.or_false, Bool.not_false, Bool.and_self]) ?_ | refine hist_ord (by kernel_rfl) ?_)) fun a K => ?_
  refine d_loc K rfl rfl (e_load1 K rfl agg9 siz9 (by repeat (first | exact get_upd_eq _ _ _ | assumption | refine (get_upd_ne _ _ (by omega)).trans ?_)) rfl) (n_load K rfl) (by repeat (first | exact hist_nil | refine hist_rec (by simp (disch := omega) only [rec_ff, rec_ft, rec_tf, made_nil, made_cons, made_f, meets_nil, meets_cons, hasN_nil, hasN_cons, nbeq_ne, Bool.or_false, Bool.not_false, Bool.and_self]) ?_ | refine hist_ord (by kernel_rfl) ?_)) fun a K => ?_
  refine d_loc K rfl rfl (e_lookup K rfl rfl (lookup_ok und39 (by repeat (first | exact get_upd_eq _ _ _ | assumption | refine (get_upd_ne _ _ (by omega)).trans ?_)) (key9 _) (found_none hf zer67))) (n_lookup K rfl) (by repeat (first | exact hist_nil | refine hist_rec (by simp (disch := omega) only [rec_ff, rec_ft, rec_tf, made_nil, made_cons, made_f, meets_nil, meets_cons, hasN_nil, hasN_cons, nbeq_ne, Bool.or_false, Bool.not_false, Bool.and_self]) ?_ | refine hist_ord (by kernel_rfl) ?_)) fun a K => ?_
  refine d_loc (ns := []) K rfl rfl (e_move K rfl) rfl (by repeat (first | exact hist_nil | refine hist_rec (by simp (disch := omega) only [rec_ff, rec_ft, rec_tf, made_nil, made_cons, made_f, meets_nil, meets_cons, hasN_nil, hasN_cons, nbeq_ne, Bool.or_false, Bool.not_false, Bool.and_self]) ?_ | refine hist_ord (by kernel_rfl) ?_)) fun a K => ?_
  refine d_loc (ns := []) K rfl rfl (e_extract K rfl rfl rfl) rfl (by repeat (first | exact hist_nil | refine hist_rec (by simp (disch := omega) only [rec_ff, rec_ft, rec_tf, made_nil, made_cons, made_f, meets_nil, meets_cons, hasN_nil, hasN_cons, nbeq_ne, Bool.or_false, Bool.not_false, Bool.and_self]) ?_ | refine hist_ord (by kernel_rfl) ?_)) fun a K => ?_
  refine d_loc (ns := []) K rfl rfl (e_extract K rfl rfl rfl) rfl (by repeat (first | exact hist_nil | refine hist_rec (by simp (disch := omega) only [rec_ff, rec_ft, rec_tf, made_nil, made_cons, made_f, meets_nil, meets_cons, hasN_nil, hasN_cons, nbeq_ne, Bool.or_false, Bool.not_false, Bool.and_self]) ?_ | refine hist_ord (by kernel_rfl) ?_)) fun a K => ?_
  refine d_loc (ns := []) K rfl rfl (e_alloc K zer67) rfl (by repeat (first | exact hist_nil | refine hist_rec (by simp (disch := omega) only [rec_ff, rec_ft, rec_tf, made_nil, made_cons, made_f, meets_nil, meets_cons, hasN_nil, hasN_cons, nbeq_ne, Bool.or_false, Bool.not_false, Bool.and_self]) ?_ | refine hist_ord (by kernel_rfl) ?_)) fun a K => ?_
  refine d_bigs rfl (e_store K rfl rfl siz67 rfl (by repeat (first | exact get_upd_eq _ _ _ | assumption | refine (get_upd_ne _ _ (by omega)).trans ?_)) rfl rfl) (by repeat (first | exact hist_nil | refine hist_rec (by simp (disch := omega) only [rec_ff, rec_ft, rec_tf, made_nil, made_cons, made_f, meets_nil, meets_cons, hasN_nil, hasN_cons, nbeq_ne, Bool.or_false, Bool.not_false, Bool.and_self]) ?_ | refine hist_ord (by kernel_rfl) ?_)) ?_
  refine d_loc (ns := []) K rfl rfl (e_assign K rfl) rfl (by repeat (first | exact hist_nil | refine hist_rec (by simp (disch := omega) only [rec_ff, rec_ft, rec_tf, made_nil, made_cons, made_f, meets_nil, meets_cons, hasN_nil, hasN_cons, nbeq_ne, Bool.or_false, Bool.not_false, Bool.and_self]) ?_ | refine hist_ord (by kernel_rfl) ?_)) fun a K => ?_
  refine d_end ?_
  show Exq _ _ _ _ _
  repeat refine ex_seq ?_
  refine ex_region ?_
  refine g_move K rfl rfl fun a K => ?_
  refine g_unOp K rfl rfl rfl fun a K => ?_
  refine g_move K rfl rfl fun a K => ?_
  refine g_if K rfl rfl rfl ?_
  refine g_load1 K rfl rfl agg22 siz22 (by repeat (first | exact get_upd_eq _ _ _ | assumption | refine (get_upd_ne _ _ (by omega)).trans ?_)) rfl fun a K => ?_
  refine g_if K rfl rfl rfl ?_
  refine g_nilCheck K rfl rfl fun a K => ?_
  refine g_if K rfl rfl rfl ?_
  refine g_fieldAddr K rfl rfl (fa41_1 _) fun a K => ?_
  refine g_if K rfl rfl rfl ?_
  refine g_load1 K rfl rfl agg39 siz39 (by repeat (first | exact get_upd_eq _ _ _ | assumption | refine (get_upd_ne _ _ (by omega)).trans ?_)) rfl fun a K => ?_
  refine g_if K rfl rfl rfl ?_
  refine g_builtin K rfl rfl (len39 (by repeat (first | exact get_upd_eq _ _ _ | assumption | refine (get_upd_ne _ _ (by omega)).trans ?_))) fun a K => ?_
  refine g_if K rfl rfl rfl ?_
  refine g_binOp K rfl rfl rfl (geq_b hlen) fun a K => ?_
  refine g_pick K rfl rfl rfl fun a K => ?_
  refine g_end ?_
  show Exq _ _ _ _ _
  repeat refine ex_seq ?_
  refine k_cond (t := true) K rfl ?_
  show Exq _ _ _ _ _
  repeat refine ex_seq ?_
  refine ex_region ?_
  refine g_assign K rfl rfl fun a K => ?_
  refine g_end ?_
  show Exq _ _ _ _ _
  repeat refine ex_seq ?_
  refine ex_ret ?_
  (repeat first | rw [seqK_ret] | rw [blockK_ret] | rw [loopK_ret])
  refine leave K rfl (res_tmp K rfl res_nil) ?_
  exact ⟨_, _, _, rfl, (by first | omega | (dsimp only; omega)), (by intro m hm ; (try dsimp only); repeat (first | rfl | refine (get_upd_ne _ _ (by omega)).trans ?_))⟩

end
end Go.E.FF

