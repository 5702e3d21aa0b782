import Derived.Test.YthbkkpahoolhbaaGreatDoorEv24
set_option linter.unusedSimpArgs false
set_option linter.unusedVariables false
set_option linter.unusedSectionVars false
namespace Go.E.FF
open Go.Proofs
set_option maxRecDepth 100000

/-! ### users, where no definition uses a name -/
def dull (v : Value) : Bool :=
  match v with
  | .agg ⟨[.int .i64 o, .int .i64 k, .string ⟨⟨[]⟩⟩, .slice none 0 0]⟩ => ieq o 1 && (ieq k 1 || ieq k 2)
  | _ => false
def okE (c : Nat) (e : MapEntry) : Bool := dull e.val && notTup e.key && e.born.blt c
def bump (k : Nat) : EM Unit := fun s => .ok () { s with nx := s.nx + k }
theorem wf_bump (k : Nat) : Wf (bump k) := by
  intro s a s' h
  simp only [bump, Res.ok.injEq] at h
  obtain ⟨_, rfl⟩ := h
  exact ⟨Nat.le_add_right _ _, [], rfl, fun _ _ _ => rfl⟩
noncomputable def aUsers1 (sh : Nat) (nm : ByteArray) (ob : Nat) : EM Value := (eget sh).bnd fun o =>
  match o with
  | .cells [_, .map (some db), _] _ => (eget db).bnd fun o2 =>
    match o2 with
    | .map es c => bif es.all (okE c) then (eMapUpdate Tryz.prog 92 (.map (some ob)) (.string nm) (.bool true)).bnd fun _ => (bump (es.length + 10)).bnd fun _ => EM.ret undef else bad "users"
    | _ => bad "users"
  | _ => bad "users"
theorem wf_aUsers1 (sh : Nat) (nm : ByteArray) (ob : Nat) : Wf (aUsers1 sh nm ob) := by
  unfold aUsers1
  refine wf_bnd (wf_eget _) fun o => ?_
  split
  · refine wf_bnd (wf_eget _) fun o2 => ?_
    split
    · refine wf_cond _ (wf_bnd ?_ fun _ => wf_bnd (wf_bump _) fun _ => wf_ret _) (wf_bad _)
      unfold eMapUpdate eMapUpdate1
      (repeat' first | exact wf_bad _ | exact wf_ret _ | exact wf_eget _ | exact wf_eset _ _ | refine wf_cond _ ?_ ?_ | refine wf_bnd ?_ fun _ => ?_ | split)
    · exact wf_bad _
  · exact wf_bad _
noncomputable def wmUsers : List Value → Option WM
  | [.pointer (some ⟨sh, 0, none⟩), .string nm, .map (some ob)] => some ⟨aUsers1 sh nm ob, wf_aUsers1 sh nm ob⟩
  | _ => none
theorem und92' : und Tryz.prog 92 = some (.map 9 4) := und92
section
variable {st : Tr EObj} {n : Nat} {lg : List Nat}
theorem users_new {sh vb db ck ob c : Nat} {es : List MapEntry} {ch : Value} {nm : ByteArray} {e0 : TypeId} (hsh : st.get sh = some (.cells [.map (some vb), .map (some db), ch] e0)) (hdb : st.get db = some (.map es ck)) (hd : es.all (okE ck) = true)
    (hob : st.get ob = some (.map [] c)) : (WM.mk (aUsers1 sh nm ob) (wf_aUsers1 sh nm ob)).run ⟨st, n, lg⟩ = .ok undef ⟨st.upd ob (some (.map [⟨.string nm, .bool true, c⟩] (c + 1))), n + (es.length + 10), ob :: lg⟩ := by
  show aUsers1 sh nm ob ⟨st, n, lg⟩ = _
  unfold aUsers1
  rw [bnd_ok' (eget_ok hsh)]
  simp only
  rw [bnd_ok' (eget_ok hdb)]
  simp only [hd, cond_true]
  rw [bnd_ok' (update_new und92 hob (key9 _) rfl)]
  rfl
theorem users_old {sh vb db ck ob c b : Nat} {es : List MapEntry} {ch : Value} {nm : ByteArray} {e0 : TypeId} (hsh : st.get sh = some (.cells [.map (some vb), .map (some db), ch] e0)) (hdb : st.get db = some (.map es ck)) (hd : es.all (okE ck) = true)
    (hob : st.get ob = some (.map [⟨.string nm, .bool true, b⟩] c)) : (WM.mk (aUsers1 sh nm ob) (wf_aUsers1 sh nm ob)).run ⟨st, n, lg⟩ = .ok undef ⟨st.upd ob (some (.map [⟨.string nm, .bool true, b⟩] c)), n + (es.length + 10), ob :: lg⟩ := by
  show aUsers1 sh nm ob ⟨st, n, lg⟩ = _
  unfold aUsers1
  rw [bnd_ok' (eget_ok hsh)]
  simp only
  rw [bnd_ok' (eget_ok hdb)]
  simp only [hd, cond_true]
  rw [bnd_ok' (update_old und92 hob (key9 _) (find_str und9s) (sameE_str _))]
  rfl
theorem keys_x {X : Ctx} {s : ES} {a : Addr} (h25 : X.x 25 = 6) (h108 : X.x 108 = 7) : eCallFunc Tryz.prog X 25 [.func (.func 108) ⟨[]⟩ ⟨[.pointer (some a)]⟩] s = .ok (.keys 25 108 a) s := by
  unfold eCallFunc
  rw [h25]
  have : hasBody Tryz.prog 25 = true := by kernel_rfl
  simp only [this, cond_true]
  unfold eKeysFn
  simp only [h108]
  rfl
theorem elem25' : elemOf Tryz.prog 25 = some 9 := by kernel_rfl
theorem sorted_one {r ob : Nat} {nm : ByteArray} (hr : st.get r = some (.kcell (.map (some ob)))) (hob : st.get ob = some (.map [⟨.string nm, .bool true, 0⟩] 1)) (hl : (bytes nm).length.ble 1048576 = true) :
    eSortedKeys 9 ⟨r, 0, none⟩ ⟨st, n, lg⟩ = .ok (.slice (some ⟨n, 0, none⟩) 1 0) ⟨st.upd n (some (.cells [.string nm] 9)), n + 1, lg⟩ := by
  unfold eSortedKeys
  simp only
  rw [bnd_ok' (eget_ok hr)]
  simp only
  unfold eSortedM
  have : mapOf (.map (some ob)) ⟨st, n, lg⟩ = .ok ([⟨.string nm, .bool true, 0⟩], 1) ⟨st, n, lg⟩ := by
    unfold mapOf; simp only; rw [bnd_ok' (eget_ok hob)]; rfl
  rw [bnd_ok' this]
  have hk : keyB [⟨.string nm, .bool true, 0⟩] = some [bytes nm] := rfl
  have hok : keysOk [bytes nm] 1 [⟨.string nm, .bool true, 0⟩] = true := by
    unfold keysOk
    simp only [List.all_cons, List.all_nil, hl]
    rfl
  simp only [hk, hok, cond_true]
  obtain ⟨⟨nm⟩⟩ := nm
  rfl
theorem keys_run {ob : Nat} : (⟨aKeys 108 (.map (some ob)), wf_aKeys 108 (.map (some ob))⟩ : WM).run ⟨st, n, lg⟩ = .ok (.func (.func 108) ⟨[]⟩ ⟨[.pointer (some ⟨n, 0, none⟩)]⟩) ⟨st.upd n (some (.kcell (.map (some ob)))), n + 1, lg⟩ := rfl
end
end Go.E.FF

namespace Go.E.FF
open Go.Proofs
set_option maxRecDepth 100000
section
variable {X : Ctx} {st : Tr EObj} {n : Nat} {lg : List Nat}
theorem define1_new {sh vb db ck c0 c1 c2 : Nat} {es : List MapEntry} {ch : Value} {nm : ByteArray} {k : Int} (hc0 : st.get c0 = some (.cells [.int .i64 1, .int .i64 k, .string ⟨⟨[]⟩⟩, .slice none 0 0] 67)) (hc1 : st.get c1 = some (.cells [.pointer (some ⟨sh, 0, none⟩)] 22)) (hc2 : st.get c2 = some (.cells [.string nm] 9))
    (hsh : st.get sh = some (.cells [.map (some vb), .map (some db), ch] 41)) (hdb : st.get db = some (.map es ck)) (b1 : c0 < n) (b2 : sh < n) (b3 : db < n) (b4 : c1 < n) (b5 : c2 < n) (e1 : db ≠ c0) (e2 : db ≠ c1) (e3 : db ≠ c2) (e4 : db ≠ sh)
    (hf : findE Tryz.prog 9 (.string nm) es 0 = some none) : Exq Tryz.prog X (.call 22 [.pointer (some ⟨c0, 0, none⟩), .pointer (some ⟨c1, 0, none⟩), .pointer (some ⟨c2, 0, none⟩)] .no) ⟨st, n, lg⟩ (· = .ret (.tuple ⟨[]⟩) .no ⟨st.upd db (some (.map (es ++ [⟨.string nm, .agg ⟨[.int .i64 1, .int .i64 k, .string ⟨⟨[]⟩⟩, .slice none 0 0]⟩, ck⟩]) (ck + 1))), n, db :: lg⟩) := by
  refine ex_callK Tryz.func22 rfl rfl rfl fun a K => ?_
  show Exq _ _ _ _ _
  repeat refine ex_seq ?_
  refine ex_draw (by kernel_rfl) ?_
  refine d_loc K rfl rfl (e_load1 K rfl agg22 siz22 (by repeat (first | exact get_upd_eq _ _ _ | assumption | refine (get_upd_ne _ _ (by omega)).trans ?_)) rfl) (n_load K rfl) (by repeat (first | exact hist_nil | refine hist_rec (by simp (disch := omega) only [rec_ff, rec_ft, rec_tf, made_nil, made_cons, made_f, meets_nil, meets_cons, hasN_nil, hasN_cons, nbeq_ne, Bool.or_false, Bool.not_false, Bool.and_self]) ?_ | refine hist_ord (by kernel_rfl) ?_)) fun a K => ?_
  refine d_loc (ns := []) K rfl rfl (e_nilCheck K rfl) rfl (by repeat (first | exact hist_nil | refine hist_rec (by simp (disch := omega) only [rec_ff, rec_ft, rec_tf, made_nil, made_cons, made_f, meets_nil, meets_cons, hasN_nil, hasN_cons, nbeq_ne, Bool.or_false, Bool.not_false, Bool.and_self]) ?_ | refine hist_ord (by kernel_rfl) ?_)) fun a K => ?_
  refine d_loc (ns := []) K rfl rfl (e_fieldAddr K rfl (fa41_1 _)) rfl (by repeat (first | exact hist_nil | refine hist_rec (by simp (disch := omega) only [rec_ff, rec_ft, rec_tf, made_nil, made_cons, made_f, meets_nil, meets_cons, hasN_nil, hasN_cons, nbeq_ne, Bool.or_false, Bool.not_false, Bool.and_self]) ?_ | refine hist_ord (by kernel_rfl) ?_)) fun a K => ?_
  refine d_loc K rfl rfl (e_load1 K rfl agg39 siz39 (by repeat (first | exact get_upd_eq _ _ _ | assumption | refine (get_upd_ne _ _ (by omega)).trans ?_)) rfl) (n_load K rfl) (by repeat (first | exact hist_nil | refine hist_rec (by simp (disch := omega) only [rec_ff, rec_ft, rec_tf, made_nil, made_cons, made_f, meets_nil, meets_cons, hasN_nil, hasN_cons, nbeq_ne, Bool.or_false, Bool.not_false, Bool.and_self]) ?_ | refine hist_ord (by kernel_rfl) ?_)) fun a K => ?_
  refine d_loc K rfl rfl (e_load1 K rfl agg9 siz9 (by repeat (first | exact get_upd_eq _ _ _ | assumption | refine (get_upd_ne _ _ (by omega)).trans ?_)) rfl) (n_load K rfl) (by repeat (first | exact hist_nil | refine hist_rec (by simp (disch := omega) only [rec_ff, rec_ft, rec_tf, made_nil, made_cons, made_f, meets_nil, meets_cons, hasN_nil, hasN_cons, nbeq_ne, Bool.or_false, Bool.not_false, Bool.and_self]) ?_ | refine hist_ord (by kernel_rfl) ?_)) fun a K => ?_
  refine d_loc K rfl rfl (e_loadA K rfl agg67 siz67 (by repeat (first | exact get_upd_eq _ _ _ | assumption | refine (get_upd_ne _ _ (by omega)).trans ?_)) rfl rfl) (n_load K rfl) (by repeat (first | exact hist_nil | refine hist_rec (by simp (disch := omega) only [rec_ff, rec_ft, rec_tf, made_nil, made_cons, made_f, meets_nil, meets_cons, hasN_nil, hasN_cons, nbeq_ne, Bool.or_false, Bool.not_false, Bool.and_self]) ?_ | refine hist_ord (by kernel_rfl) ?_)) fun a K => ?_
  refine d_bigs rfl (e_mapUpdate K rfl rfl rfl (update_new und39 (by repeat (first | exact get_upd_eq _ _ _ | assumption | refine (get_upd_ne _ _ (by omega)).trans ?_)) (key9 _) hf)) (by repeat (first | exact hist_nil | refine hist_rec (by simp (disch := omega) only [rec_ff, rec_ft, rec_tf, made_nil, made_cons, made_f, meets_nil, meets_cons, hasN_nil, hasN_cons, nbeq_ne, Bool.or_false, Bool.not_false, Bool.and_self]) ?_ | refine hist_ord (by kernel_rfl) ?_)) ?_
  refine d_end ?_
  (repeat first | rw [seqK_normal] | rw [blockK_normal] | rw [loopK_normal] | rw [seqK_exit] | rw [loopK_exit] | rw [blockK_exit])
  show FnK _ _ _ (.code .normal _ _)
  refine leaveN K rfl (res_nil) ?_
  rfl

theorem define1_old {sh vb db ck c0 c1 c2 : Nat} {es : List MapEntry} {ch : Value} {nm : ByteArray} {k : Int} (hc0 : st.get c0 = some (.cells [.int .i64 1, .int .i64 k, .string ⟨⟨[]⟩⟩, .slice none 0 0] 67)) (hc1 : st.get c1 = some (.cells [.pointer (some ⟨sh, 0, none⟩)] 22)) (hc2 : st.get c2 = some (.cells [.string nm] 9))
    (hsh : st.get sh = some (.cells [.map (some vb), .map (some db), ch] 41)) (hdb : st.get db = some (.map es ck)) (b1 : c0 < n) (b2 : sh < n) (b3 : db < n) (b4 : c1 < n) (b5 : c2 < n) (e1 : db ≠ c0) (e2 : db ≠ c1) (e3 : db ≠ c2) (e4 : db ≠ sh)
    {i bo : Nat} {v0 : Value} (hf : findE Tryz.prog 9 (.string nm) es 0 = some (some (i, ⟨.string nm, v0, bo⟩))) : Exq Tryz.prog X (.call 22 [.pointer (some ⟨c0, 0, none⟩), .pointer (some ⟨c1, 0, none⟩), .pointer (some ⟨c2, 0, none⟩)] .no) ⟨st, n, lg⟩ (· = .ret (.tuple ⟨[]⟩) .no ⟨st.upd db (some (.map (putAt es i ⟨.string nm, .agg ⟨[.int .i64 1, .int .i64 k, .string ⟨⟨[]⟩⟩, .slice none 0 0]⟩, bo⟩) (ck))), n, db :: lg⟩) := by
  refine ex_callK Tryz.func22 rfl rfl rfl fun a K => ?_
  show Exq _ _ _ _ _
  repeat refine ex_seq ?_
  refine ex_draw (by kernel_rfl) ?_
  refine d_loc K rfl rfl (e_load1 K rfl agg22 siz22 (by repeat (first | exact get_upd_eq _ _ _ | assumption | refine (get_upd_ne _ _ (by omega)).trans ?_)) rfl) (n_load K rfl) (by repeat (first | exact hist_nil | refine hist_rec (by simp (disch := omega) only [rec_ff, rec_ft, rec_tf, made_nil, made_cons, made_f, meets_nil, meets_cons, hasN_nil, hasN_cons, nbeq_ne, Bool.or_false, Bool.not_false, Bool.and_self]) ?_ | refine hist_ord (by kernel_rfl) ?_)) fun a K => ?_
  refine d_loc (ns := []) K rfl rfl (e_nilCheck K rfl) rfl (by repeat (first | exact hist_nil | refine hist_rec (by simp (disch := omega) only [rec_ff, rec_ft, rec_tf, made_nil, made_cons, made_f, meets_nil, meets_cons, hasN_nil, hasN_cons, nbeq_ne, Bool.or_false, Bool.not_false, Bool.and_self]) ?_ | refine hist_ord (by kernel_rfl) ?_)) fun a K => ?_
  refine d_loc (ns := []) K rfl rfl (e_fieldAddr K rfl (fa41_1 _)) rfl (by repeat (first | exact hist_nil | refine hist_rec (by simp (disch := omega) only [rec_ff, rec_ft, rec_tf, made_nil, made_cons, made_f, meets_nil, meets_cons, hasN_nil, hasN_cons, nbeq_ne, Bool.or_false, Bool.not_false, Bool.and_self]) ?_ | refine hist_ord (by kernel_rfl) ?_)) fun a K => ?_
  refine d_loc K rfl rfl (e_load1 K rfl agg39 siz39 (by repeat (first | exact get_upd_eq _ _ _ | assumption | refine (get_upd_ne _ _ (by omega)).trans ?_)) rfl) (n_load K rfl) (by repeat (first | exact hist_nil | refine hist_rec (by simp (disch := omega) only [rec_ff, rec_ft, rec_tf, made_nil, made_cons, made_f, meets_nil, meets_cons, hasN_nil, hasN_cons, nbeq_ne, Bool.or_false, Bool.not_false, Bool.and_self]) ?_ | refine hist_ord (by kernel_rfl) ?_)) fun a K => ?_
  refine d_loc K rfl rfl (e_load1 K rfl agg9 siz9 (by repeat (first | exact get_upd_eq _ _ _ | assumption | refine (get_upd_ne _ _ (by omega)).trans ?_)) rfl) (n_load K rfl) (by repeat (first | exact hist_nil | refine hist_rec (by simp (disch := omega) only [rec_ff, rec_ft, rec_tf, made_nil, made_cons, made_f, meets_nil, meets_cons, hasN_nil, hasN_cons, nbeq_ne, Bool.or_false, Bool.not_false, Bool.and_self]) ?_ | refine hist_ord (by kernel_rfl) ?_)) fun a K => ?_
  refine d_loc K rfl rfl (e_loadA K rfl agg67 siz67 (by repeat (first | exact get_upd_eq _ _ _ | assumption | refine (get_upd_ne _ _ (by omega)).trans ?_)) rfl rfl) (n_load K rfl) (by repeat (first | exact hist_nil | refine hist_rec (by simp (disch := omega) only [rec_ff, rec_ft, rec_tf, made_nil, made_cons, made_f, meets_nil, meets_cons, hasN_nil, hasN_cons, nbeq_ne, Bool.or_false, Bool.not_false, Bool.and_self]) ?_ | refine hist_ord (by kernel_rfl) ?_)) fun a K => ?_
  refine d_bigs rfl (e_mapUpdate K rfl rfl rfl (update_old und39 (by repeat (first | exact get_upd_eq _ _ _ | assumption | refine (get_upd_ne _ _ (by omega)).trans ?_)) (key9 _) hf (sameE_str _))) (by repeat (first | exact hist_nil | refine hist_rec (by simp (disch := omega) only [rec_ff, rec_ft, rec_tf, made_nil, made_cons, made_f, meets_nil, meets_cons, hasN_nil, hasN_cons, nbeq_ne, Bool.or_false, Bool.not_false, Bool.and_self]) ?_ | refine hist_ord (by kernel_rfl) ?_)) ?_
  refine d_end ?_
  (repeat first | rw [seqK_normal] | rw [blockK_normal] | rw [loopK_normal] | rw [seqK_exit] | rw [loopK_exit] | rw [blockK_exit])
  show FnK _ _ _ (.code .normal _ _)
  refine leaveN K rfl (res_nil) ?_
  rfl

end
end Go.E.FF

