import Derived.Test.YthbkkpahoolhbaaGreatDoorEv25
import Derived.Test.YthbkkpahoolhbaaGreatDoorEv17
import Derived.Test.YthbkkpahoolhbaaGreatDoorEv20
set_option linter.unusedSimpArgs false
set_option linter.unusedVariables false
set_option linter.unusedSectionVars false
namespace Go.E.FF
open Go.Proofs
set_option maxRecDepth 100000
/-- the parts of 'users' -/
noncomputable def usersLoop : Code := match Tryz.f63.body with
  | some (.seq _ (.seq (.seq _ (.block _ (.loop L))) _)) => L
  | _ => .skip
noncomputable def usersRest : Code := match usersLoop with
  | .seq _ y => y
  | _ => .skip
section
variable {X : Ctx} {st : Tr EObj} {n : Nat} {lg : List Nat}
variable (hx34 : X.x 34 = 8) (hN : ∀ k : Int, K12 k → X.m 34 [.agg ⟨[.int .i64 1, .int .i64 k, .string ⟨⟨[]⟩⟩, .slice none 0 0]⟩] = some (.slice none 0 0))
include hx34 hN
theorem users_iter {it rev sh ob db ck b : Nat} {se : List Nat} {es : List MapEntry} {nm : ByteArray} {ky : Value} {bo : Nat} {k : Int} {a : Fr} {tv : Value}
    (K : Kn 83 [] .no ((23, .bool true) :: (22, tv) :: [(21, .pointer (some ⟨it, 0, none⟩)), (6, .map (some rev)), (0, .pointer (some ⟨sh, 0, none⟩)), (1, .string nm), (2, .map (some ob))]) a) (hit : st.get it = some (.miter (some db) ck (se ++ [b]) ck)) (hdb : st.get db = some (.map es ck))
    (hb2 : bornAt b es = some ⟨ky, .agg ⟨[.int .i64 1, .int .i64 k, .string ⟨⟨[]⟩⟩, .slice none 0 0]⟩, bo⟩) (hkk : K12 k) (hk : notTup ky = true) :
    Exq Tryz.prog X (.code usersRest none a) ⟨st, n, lg⟩ (fun o => match o with
      | .code e a' s' => e = .normal ∧ Kn 83 [] .no [(21, .pointer (some ⟨it, 0, none⟩)), (6, .map (some rev)), (0, .pointer (some ⟨sh, 0, none⟩)), (1, .string nm), (2, .map (some ob))] a' ∧ ∃ st' lg', s' = ⟨st', n + 1, lg'⟩ ∧ ∀ m, m ≠ n → st'.get m = st.get m
      | _ => False) := by
  show Exq _ _ _ _ _
  repeat refine ex_seq ?_
  refine k_cond (t := true) K rfl ?_
  refine ex_skip ?_
  show Exq _ _ _ _ _
  repeat refine ex_seq ?_
  refine ex_block ?_
  show Exq _ _ _ _ _
  repeat refine ex_seq ?_
  refine ex_region ?_
  refine g_entry K rfl rfl (entry_ok hit hdb hb2) fun a K => ?_
  refine g_extract K rfl rfl rfl hk fun a K => ?_
  refine g_extract K rfl rfl rfl rfl fun a K => ?_
  refine g_alloc K rfl zer67 fun a K => ?_
  refine g_assign K rfl rfl fun a K => ?_
  refine g_store K rfl rfl siz67 rfl (by repeat (first | exact get_upd_eq _ _ _ | assumption | refine (get_upd_ne _ _ (by omega)).trans ?_)) rfl rfl ?_
  refine g_end ?_
  show Exq _ _ _ _ _
  repeat refine ex_seq ?_
  refine ex_region ?_
  refine g_loadA K rfl rfl agg67 siz67 (by repeat (first | exact get_upd_eq _ _ _ | assumption | refine (get_upd_ne _ _ (by omega)).trans ?_)) rfl rfl fun a K => ?_
  refine g_calls K rfl rfl rfl hx34 body34 (hN _ hkk) rfl fun a K => ?_
  refine g_builtin K rfl rfl (rfl) fun a K => ?_
  refine g_move K rfl rfl fun a K => ?_
  refine g_end ?_
  show Exq _ _ _ _ _
  repeat refine ex_seq ?_
  refine ex_block ?_
  refine ex_loop ?_
  show Exq _ _ _ _ _
  repeat refine ex_seq ?_
  refine ex_region ?_
  refine g_binOp K rfl rfl rfl rfl fun a K => ?_
  refine g_end ?_
  show Exq _ _ _ _ _
  repeat refine ex_seq ?_
  refine k_cond (t := false) K rfl ?_
  refine ex_exit ?_
  (repeat first | rw [seqK_exit] | rw [loopK_exit] | rw [blockK_exit] | rw [blockK_normal])
  exact ⟨rfl, K.sub ⟨rfl, rfl, rfl, rfl, rfl, trivial⟩, _, _, rfl, (by intro m hm; (try dsimp only); repeat (first | rfl | refine (get_upd_ne _ _ (by omega)).trans ?_))⟩

end
end Go.E.FF

namespace Go.E.FF
open Go.Proofs
set_option maxRecDepth 100000
theorem left_sub {se : List Nat} {b : Nat} {es : List MapEntry} : (leftOf (se ++ [b]) es).length ≤ (leftOf se es).length := by
  unfold leftOf
  induction es with
  | nil => simp
  | cons e es ih =>
    simp only [List.filter_cons, List.any_append]
    cases h : se.any fun b => b.beq e.born with
    | true => simpa [h] using ih
    | false =>
      simp only [List.any_cons, List.any_nil, Bool.or_false, Bool.false_or, Bool.not_false]
      cases hb : b.beq e.born with
      | true => simp; simpa using Nat.le_succ_of_le (by simpa using ih)
      | false => simp; simpa using ih
theorem left_less {se : List Nat} {e : MapEntry} : ∀ {es : List MapEntry}, e ∈ leftOf se es → (leftOf (se ++ [e.born]) es).length < (leftOf se es).length
  | x :: es, h => by
    unfold leftOf at h ⊢
    simp only [List.filter_cons, List.any_append] at h ⊢
    cases hx : se.any fun b => b.beq x.born with
    | true =>
      simp only [hx, Bool.not_true, Bool.true_or, Bool.false_eq_true, if_false] at h ⊢
      have := left_less (se := se) (e := e) (es := es) (by unfold leftOf; exact h)
      unfold leftOf at this
      simpa using this
    | false =>
      simp only [hx, Bool.not_false, Bool.false_or, List.any_cons, List.any_nil, Bool.or_false, if_true] at h ⊢
      cases hb : e.born.beq x.born with
      | true =>
        have := left_sub (se := se) (b := e.born) (es := es)
        unfold leftOf at this
        simp
        simp at this
        omega
      | false =>
        rcases List.mem_cons.1 h with rfl | h
        · rw [Nat.beq_refl] at hb; cases hb
        · have := left_less (se := se) (e := e) (es := es) (by unfold leftOf; exact h)
          unfold leftOf at this
          simp
          simp at this
          omega
theorem left_mem {se : List Nat} {es : List MapEntry} {e : MapEntry} (h : e ∈ leftOf se es) : e ∈ es := (List.mem_filter.1 h).1
theorem left_nil (es : List MapEntry) : leftOf [] es = es := by unfold leftOf; simp
theorem ok_all {ck : Nat} {es : List MapEntry} (hd : es.all (okE ck) = true) {e : MapEntry} (he : e ∈ es) : ∃ k, K12 k ∧ e.val = .agg ⟨[.int .i64 1, .int .i64 k, .string ⟨⟨[]⟩⟩, .slice none 0 0]⟩ ∧ notTup e.key = true ∧ e.born < ck := by
  have h := List.all_eq_true.1 hd e he
  unfold okE at h
  simp only [Bool.and_eq_true] at h
  obtain ⟨⟨h1, h2⟩, h3⟩ := h
  unfold dull at h1
  split at h1
  · rename_i o k hv
    simp only [Bool.and_eq_true, Bool.or_eq_true] at h1
    refine ⟨k, ?_, ?_, h2, ?_⟩
    · unfold K12
      rcases h1.2 with h | h
      · exact .inl (ieq_sound h)
      · exact .inr (ieq_sound h)
    · rw [hv]
      have : o = 1 := ieq_sound h1.1
      rw [this]
    · exact Nat.le_of_ble_eq_true h3
  · cases h1
theorem hall_no {ck : Nat} {se : List Nat} {es : List MapEntry} (hd : es.all (okE ck) = true) : (!se.isEmpty && !es.isEmpty && es.all (fun e => ck.ble e.born)) = false := by
  cases es with
  | nil => simp
  | cons e es =>
    obtain ⟨k, _, _, _, h⟩ := ok_all hd (List.mem_cons_self ..)
    have : ck.ble e.born = false := by rw [← Bool.not_eq_true, Nat.ble_eq]; omega
    simp [this]
section
variable {X : Ctx}
variable (hX : CtxOk Tryz.prog X) (hS : SumOk Tryz.prog X) (hx34 : X.x 34 = 8) (hN : ∀ k : Int, K12 k → X.m 34 [.agg ⟨[.int .i64 1, .int .i64 k, .string ⟨⟨[]⟩⟩, .slice none 0 0]⟩] = some (.slice none 0 0))
include hX hS hx34 hN
theorem users_loop {it rev sh ob db ck : Nat} {es : List MapEntry} {nm : ByteArray} {B : Nat} (hd : es.all (okE ck) = true) : ∀ (len : Nat) {se : List Nat} {a : Fr} {st : Tr EObj} {n : Nat} {lg : List Nat}, (leftOf se es).length = len → n + len ≤ B →
    Kn 83 [] .no [(21, .pointer (some ⟨it, 0, none⟩)), (6, .map (some rev)), (0, .pointer (some ⟨sh, 0, none⟩)), (1, .string nm), (2, .map (some ob))] a → st.get it = some (.miter (some db) ck se ck) → st.get db = some (.map es ck) → it < n → ¬ (n ≤ db ∧ db < B) → db ≠ it →
    HC Tryz.prog (.loop usersLoop) none a ⟨st, n, lg⟩ B fun e a' s' => e = .exit 0 ∧ Kn 83 [] .no [(21, .pointer (some ⟨it, 0, none⟩)), (6, .map (some rev)), (0, .pointer (some ⟨sh, 0, none⟩)), (1, .string nm), (2, .map (some ob))] a' ∧
      ∃ st' n' lg', s' = ⟨st', n', lg'⟩ ∧ n ≤ n' ∧ n' ≤ n + len ∧ ∀ m, m ≠ it → ¬ (n ≤ m ∧ m < n') → st'.get m = st.get m := by
  intro len
  induction len using Nat.strongRecOn with
  | ind len ih =>
    intro se a st n lg hl hB K hit hdb b1 b2 b3
    cases hL : leftOf se es with
    | nil =>
      rw [hL] at hl
      subst hl
      refine hc_exq hX hS ?_
      refine ex_loop ?_
      refine ex_seq ?_
      refine ex_region ?_
      refine g_next K rfl rfl (next_end hit hdb (hall_no hd) hL) fun a K => ?_
      refine g_extract K rfl rfl rfl rfl fun a K => ?_
      refine g_end ?_
      show Exq _ _ _ _ _
      repeat refine ex_seq ?_
      refine k_cond (t := false) K rfl ?_
      refine ex_exit ?_
      refine ⟨hB, rfl, K.sub ⟨rfl, rfl, rfl, rfl, rfl, trivial⟩, _, _, _, rfl, Nat.le_refl _, Nat.le_refl _, fun m _ _ => rfl⟩
    | cons e0 l0 =>
      refine hc_loop (fun a s h => by cases h.1) (fun v a s h => by cases h.1) ?_
      refine hc_seq ?_
      refine hc_next hX hS (s := ⟨st, n, lg⟩) hit hdb (hall_no hd) (by rw [hL]; exact List.cons_ne_nil _ _) (fun e he => by obtain ⟨_, _, _, _, h⟩ := ok_all hd (left_mem he); exact h) (K.op (x := .tmp 21) rfl) (Nat.le_trans (Nat.le_add_right _ _) hB) fun e he => ?_
      refine ex_ops ?_
      have K := K.put (d := 22) rfl (.tuple ⟨[.bool true, e.key, e.val]⟩)
      refine g_extract K rfl rfl rfl rfl fun a K => ?_
      refine g_end ?_
      refine ⟨by exact Nat.le_trans (Nat.le_add_right _ _) hB, rfl, ?_⟩
      obtain ⟨e2, he2, hbo⟩ := born_some (left_mem he)
      obtain ⟨k, hk, hv, hkey, _⟩ := ok_all hd he2
      obtain ⟨ky, va, bo⟩ := e2
      simp only at hv hkey
      subst hv
      refine hc_exq hX hS ((users_iter hx34 hN K (get_upd_eq _ _ _) ((get_upd_ne _ _ b3).trans hdb) hbo hk hkey).mono fun o h => ?_)
      cases o with
      | code e' a' s' =>
        obtain ⟨rfl, K, st', lg', rfl, hkeep⟩ := h
        replace hkeep : ∀ m, m ≠ n → st'.get m = (st.upd it _).get m := hkeep
        have hlt := left_less he
        rw [hl] at hlt
        refine ⟨by show n + 1 ≤ B; omega, rfl, ?_⟩
        refine hc_mono (ih _ hlt rfl (by (try dsimp only); omega) K ((hkeep _ (by omega)).trans (get_upd_eq _ _ _)) ((hkeep _ (fun h => b2 ⟨by omega, by omega⟩)).trans ((get_upd_ne _ _ b3).trans hdb)) (Nat.lt_succ_of_lt b1) (fun h => b2 ⟨Nat.le_of_succ_le h.1, h.2⟩) b3) fun e a s h => ?_
        obtain ⟨h1, h2, st2, n2, lg2, h3, h4, h5, h6⟩ := h
        replace h4 : n + 1 ≤ n2 := h4
        replace h6 : ∀ m, m ≠ it → ¬ (n + 1 ≤ m ∧ m < n2) → st2.get m = st'.get m := h6
        exact ⟨h1, h2, st2, n2, lg2, h3, by (try dsimp only at h4 h5); omega, by (try dsimp only at h4 h5); omega, fun m q1 q2 => (h6 m q1 (by (try dsimp only); omega)).trans ((hkeep m (by omega)).trans (get_upd_ne _ _ q1))⟩
      | _ => exact h.elim
end
end Go.E.FF

namespace Go.E.FF
open Go.Proofs
set_option maxRecDepth 100000
noncomputable def usersTail : Code := match Tryz.f63.body with
  | some (.seq _ (.seq (.seq _ (.block _ (.loop _))) T)) => T
  | _ => .skip
noncomputable def usersR0 : Code := match Tryz.f63.body with
  | some (.seq R (.seq (.seq _ (.block _ (.loop _))) _)) => R
  | _ => .skip
noncomputable def usersR1 : Code := match Tryz.f63.body with
  | some (.seq _ (.seq (.seq R (.block _ (.loop _))) _)) => R
  | _ => .skip
theorem users_body : Tryz.f63.body = some (.seq usersR0 (.seq (.seq usersR1 (.block 0 (.loop usersLoop))) usersTail)) := rfl
theorem und190 : und Tryz.prog 190 = some (.map 9 32) := by kernel_rfl
theorem bs32 {st : Tr EObj} {n : Nat} {lg : List Nat} {nm : ByteArray} : eBuildSlice Tryz.prog 32 1 [(0, .string nm)] ⟨st, n, lg⟩ = .ok (.slice (some ⟨n, 0, none⟩) 1 2) ⟨st.upd n (some (.cells [.string nm] 9)), n + 1, lg⟩ := by kernel_rfl
theorem ia32 {r : Nat} : eIndexAddr Tryz.prog 32 (.slice (some ⟨r, 0, none⟩) 1 2) (.int .i64 0) = some (.pointer (some ⟨r, 0, none⟩)) := by kernel_rfl
theorem sl32 {r : Nat} {s : ES} : eSlice Tryz.prog 32 (.slice (some ⟨r, 0, none⟩) 1 2) none (some (.int .i64 0)) none s = .ok (.slice (some ⟨r, 0, none⟩) 0 2) s := by kernel_rfl
section
variable {X : Ctx} {st : Tr EObj} {n : Nat} {lg : List Nat}
theorem users_tail {it rev sh ob c co co2 : Nat} {eo eo2 : List MapEntry} {nm : ByteArray} {a : Fr}
    (K : Kn 83 [] .no [(21, .pointer (some ⟨it, 0, none⟩)), (6, .map (some rev)), (0, .pointer (some ⟨sh, 0, none⟩)), (1, .string nm), (2, .map (some ob))] a) (hrev : st.get rev = some (.map [] c)) (hob : st.get ob = some (.map eo co)) (b1 : rev < n) (b2 : ob ≠ n) (b2' : ob ≠ n + 1) (b3 : ob ≠ rev)
    (hup : ∀ st n lg, st.get ob = some (.map eo co) → eMapUpdate Tryz.prog 92 (.map (some ob)) (.string nm) (.bool true) ⟨st, n, lg⟩ = .ok () ⟨st.upd ob (some (.map eo2 co2)), n, ob :: lg⟩) :
    Exq Tryz.prog X (.code usersTail none a) ⟨st, n, lg⟩ (fun o => match o with
      | .code e a' s' => e = .normal ∧ a'.df = [] ∧ ∃ st' n' lg', s' = ⟨st', n', lg'⟩ ∧ n ≤ n' ∧ n' ≤ n + 4 ∧ st'.get ob = some (.map eo2 co2) ∧ ∀ m, m ≠ ob → ¬ (n ≤ m ∧ m < n') → st'.get m = st.get m
      | _ => False) := by
  show Exq _ _ _ _ _
  repeat refine ex_seq ?_
  refine ex_region ?_
  refine g_move K rfl rfl fun a K => ?_
  refine g_buildSlice K rfl rfl (bs32) fun a K => ?_
  refine g_assign K rfl rfl fun a K => ?_
  refine g_end ?_
  show Exq _ _ _ _ _
  repeat refine ex_seq ?_
  refine ex_region ?_
  refine g_makeMap K rfl fun a K => ?_
  refine g_move K rfl rfl fun a K => ?_
  refine g_insert K rfl rfl rfl (update_new und92 (by repeat (first | exact get_upd_eq _ _ _ | assumption | refine (get_upd_ne _ _ (by omega)).trans ?_)) (key9 _) rfl) ?_
  refine g_move K rfl rfl fun a K => ?_
  refine g_assign K rfl rfl fun a K => ?_
  refine g_end ?_
  show Exq _ _ _ _ _
  repeat refine ex_seq ?_
  refine ex_block ?_
  refine ex_loop ?_
  show Exq _ _ _ _ _
  repeat refine ex_seq ?_
  refine ex_region ?_
  refine g_move K rfl rfl fun a K => ?_
  refine g_builtin K rfl rfl (rfl) fun a K => ?_
  refine g_binOp K rfl rfl rfl rfl fun a K => ?_
  refine g_end ?_
  show Exq _ _ _ _ _
  repeat refine ex_seq ?_
  refine k_cond (t := true) K rfl ?_
  refine ex_skip ?_
  show Exq _ _ _ _ _
  repeat refine ex_seq ?_
  refine ex_block ?_
  show Exq _ _ _ _ _
  repeat refine ex_seq ?_
  refine ex_region ?_
  refine g_move K rfl rfl fun a K => ?_
  refine g_move K rfl rfl fun a K => ?_
  refine g_builtin K rfl rfl (rfl) fun a K => ?_
  refine g_binOp K rfl rfl rfl rfl fun a K => ?_
  refine g_indexAddr K rfl rfl rfl (ia32) fun a K => ?_
  refine g_load1 K rfl rfl agg9 siz9 (by repeat (first | exact get_upd_eq _ _ _ | assumption | refine (get_upd_ne _ _ (by omega)).trans ?_)) rfl fun a K => ?_
  refine g_assign K rfl rfl fun a K => ?_
  refine g_end ?_
  show Exq _ _ _ _ _
  repeat refine ex_seq ?_
  refine ex_region ?_
  refine g_move K rfl rfl fun a K => ?_
  refine g_move K rfl rfl fun a K => ?_
  refine g_builtin K rfl rfl (rfl) fun a K => ?_
  refine g_binOp K rfl rfl rfl rfl fun a K => ?_
  refine g_slice K rfl rfl rfl (congrArg some (K.op (x := .tmp 60) rfl)) rfl sl32 fun a K => ?_
  refine g_assign K rfl rfl fun a K => ?_
  refine g_end ?_
  show Exq _ _ _ _ _
  repeat refine ex_seq ?_
  refine ex_region ?_
  refine g_move K rfl rfl fun a K => ?_
  refine g_move K rfl rfl fun a K => ?_
  refine g_mapUpdate K rfl rfl rfl (hup _ _ _ (by repeat (first | exact get_upd_eq _ _ _ | assumption | refine (get_upd_ne _ _ (by omega)).trans ?_))) ?_
  refine g_end ?_
  show Exq _ _ _ _ _
  repeat refine ex_seq ?_
  refine ex_region ?_
  refine g_move K rfl rfl fun a K => ?_
  refine g_move K rfl rfl fun a K => ?_
  refine g_lookup K rfl rfl rfl (lookup_ok und190 (by repeat (first | exact get_upd_eq _ _ _ | assumption | refine (get_upd_ne _ _ (by omega)).trans ?_)) (key9 _) (found_none rfl zer32)) fun a K => ?_
  refine g_builtin K rfl rfl (rfl) fun a K => ?_
  refine g_move K rfl rfl fun a K => ?_
  refine g_end ?_
  show Exq _ _ _ _ _
  repeat refine ex_seq ?_
  refine ex_block ?_
  refine ex_loop ?_
  show Exq _ _ _ _ _
  repeat refine ex_seq ?_
  refine ex_region ?_
  refine g_binOp K rfl rfl rfl rfl fun a K => ?_
  refine g_end ?_
  show Exq _ _ _ _ _
  repeat refine ex_seq ?_
  refine k_cond (t := false) K rfl ?_
  refine ex_exit ?_
  (repeat first | rw [seqK_normal] | rw [blockK_normal] | rw [loopK_normal] | rw [seqK_exit] | rw [loopK_exit] | rw [blockK_exit])
  show Exq _ _ _ _ _
  refine ex_loop ?_
  show Exq _ _ _ _ _
  repeat refine ex_seq ?_
  refine ex_region ?_
  refine g_move K rfl rfl fun a K => ?_
  refine g_builtin K rfl rfl (rfl) fun a K => ?_
  refine g_binOp K rfl rfl rfl rfl fun a K => ?_
  refine g_end ?_
  show Exq _ _ _ _ _
  repeat refine ex_seq ?_
  refine k_cond (t := false) K rfl ?_
  refine ex_exit ?_
  (repeat first | rw [seqK_normal] | rw [blockK_normal] | rw [loopK_normal] | rw [seqK_exit] | rw [loopK_exit] | rw [blockK_exit])
  exact ⟨rfl, K.df, _, _, _, rfl, by (try dsimp only); omega, by (try dsimp only); omega, (by repeat (first | exact get_upd_eq _ _ _ | assumption | refine (get_upd_ne _ _ (by omega)).trans ?_)), (by intro m hm hm2; (try dsimp only at hm2); (try dsimp only); repeat (first | rfl | refine (get_upd_ne _ _ (by omega)).trans ?_))⟩

theorem users_head0 {sh ob : Nat} {nm : ByteArray} {a : Fr}
    (K : Kn 83 [] .no [(0, .pointer (some ⟨sh, 0, none⟩)), (1, .string nm), (2, .map (some ob))] a) :
    Exq Tryz.prog X (.code usersR0 none a) ⟨st, n, lg⟩ (fun o => match o with
      | .code e a' s' => e = .normal ∧ Kn 83 [] .no [(6, .map (some n)), (0, .pointer (some ⟨sh, 0, none⟩)), (1, .string nm), (2, .map (some ob))] a' ∧ s' = ⟨st.upd n (some (.map [] 0)), n + 1, lg⟩
      | _ => False) := by
  show Exq _ _ _ _ _
  repeat refine ex_seq ?_
  refine ex_region ?_
  refine g_makeMap K rfl fun a K => ?_
  refine g_assign K rfl rfl fun a K => ?_
  refine g_end ?_
  exact ⟨rfl, K.sub ⟨rfl, rfl, rfl, rfl, trivial⟩, rfl⟩

theorem users_head1 {sh ob db ck rev : Nat} {es : List MapEntry} {v0 ch : Value} {nm : ByteArray} {a : Fr} {e0 : TypeId}
    (K : Kn 83 [] .no [(6, .map (some rev)), (0, .pointer (some ⟨sh, 0, none⟩)), (1, .string nm), (2, .map (some ob))] a) (hsh : st.get sh = some (.cells [v0, .map (some db), ch] e0)) (hdb : st.get db = some (.map es ck)) :
    Exq Tryz.prog X (.code usersR1 none a) ⟨st, n, lg⟩ (fun o => match o with
      | .code e a' s' => e = .normal ∧ Kn 83 [] .no [(21, .pointer (some ⟨n, 0, none⟩)), (6, .map (some rev)), (0, .pointer (some ⟨sh, 0, none⟩)), (1, .string nm), (2, .map (some ob))] a' ∧ s' = ⟨st.upd n (some (.miter (some db) ck [] ck)), n + 1, lg⟩
      | _ => False) := by
  show Exq _ _ _ _ _
  repeat refine ex_seq ?_
  refine ex_region ?_
  refine g_move K rfl rfl fun a K => ?_
  refine g_nilCheck K rfl rfl fun a K => ?_
  refine g_fieldAddr K rfl rfl (fa41_1 _) fun a K => ?_
  refine g_load1 K rfl rfl agg39 siz39 (by repeat (first | exact get_upd_eq _ _ _ | assumption | refine (get_upd_ne _ _ (by omega)).trans ?_)) rfl fun a K => ?_
  refine g_range K rfl rfl (range_map und39 (by repeat (first | exact get_upd_eq _ _ _ | assumption | refine (get_upd_ne _ _ (by omega)).trans ?_))) fun a K => ?_
  refine g_end ?_
  exact ⟨rfl, K.sub ⟨rfl, rfl, rfl, rfl, rfl, trivial⟩, rfl⟩

end
end Go.E.FF

namespace Go.E.FF
open Go.Proofs
set_option maxRecDepth 100000
theorem Nxt.less {P : Program} {μ μ' : Ren} {s s1 s2 : ES} {w w' : World} (h : Nxt P μ s w μ' s1 w') (hs : ∀ n o, s2.st.get n = some o → s1.st.get n = some o) (hn : s1.nx ≤ s2.nx) : Nxt P μ s w μ' s2 w' := by
  have hl : ∀ n, Live s2.st n → Live s1.st n := fun n h => by obtain ⟨o, h⟩ := h; exact ⟨o, hs n o h⟩
  exact ⟨h.sub, fun n hx => h.same n (fun hh => hx ⟨hh.1, Nat.lt_of_lt_of_le hh.2 hn⟩), ⟨fun n o hg => h.st.obj n o (hs n o hg), fun n m pl pm h1 h2 => h.st.inj n m pl pm (hl _ h1) (hl _ h2)⟩, h.frm, fun n pl h1 h2 => h.cover n pl (hl _ h1) h2⟩

theorem get_inv {r : Nat} {o : EObj} {s s1 : ES} (h : eget r s = .ok o s1) : s.st.get r = some o ∧ s1 = s := by
  unfold eget at h
  cases hg : s.st.get r with
  | none => rw [hg] at h; cases h
  | some o' =>
    rw [hg] at h
    simp only [Res.ok.injEq] at h
    exact ⟨by rw [h.1], h.2.symm⟩
theorem update_inv {t kt et : TypeId} {r : Nat} {k v : Value} {s s2 : ES} {u : Unit} (hu : und Tryz.prog t = some (.map kt et)) (h : eMapUpdate Tryz.prog t (.map (some r)) k v s = .ok u s2) :
    ∃ eo co eo2 co2, s.st.get r = some (.map eo co) ∧ s2 = ⟨s.st.upd r (some (.map eo2 co2)), s.nx, r :: s.lg⟩ ∧
      ∀ st n lg, st.get r = some (.map eo co) → eMapUpdate Tryz.prog t (.map (some r)) k v ⟨st, n, lg⟩ = .ok () ⟨st.upd r (some (.map eo2 co2)), n, r :: lg⟩ := by
  obtain ⟨st, n, lg⟩ := s
  have h0 := h
  unfold eMapUpdate at h
  rw [hu] at h
  simp only at h
  cases hk : keyV Tryz.prog 10 kt k with
  | false => rw [hk] at h; cases h
  | true =>
    rw [hk] at h
    simp only [cond_true] at h
    unfold eMapUpdate1 at h
    obtain ⟨o, s1, h1, h2⟩ := bnd_ok h
    obtain ⟨hg, rfl⟩ := get_inv h1
    simp only at hg
    split at h2
    · rename_i eo co
      cases hf : findE Tryz.prog kt k eo 0 with
      | none => rw [hf] at h2; cases h2
      | some q =>
        rw [hf] at h2
        cases q with
        | none =>
          have := update_new (v := v) (n := n) (lg := lg) hu hg hk hf
          rw [this] at h0
          simp only [Res.ok.injEq] at h0
          exact ⟨eo, co, _, _, hg, h0.2.symm, fun st n lg hg => update_new hu hg hk hf⟩
        | some q =>
          obtain ⟨i, e⟩ := q
          simp only at h2
          cases hs : sameE e.key k with
          | false => rw [hs] at h2; cases h2
          | true =>
            have := update_old (v := v) (n := n) (lg := lg) hu hg hk hf hs
            rw [this] at h0
            simp only [Res.ok.injEq] at h0
            exact ⟨eo, co, _, _, hg, h0.2.symm, fun st n lg hg => update_old hu hg hk hf hs⟩
    · cases h2

section
variable {X : Ctx}
variable (hX : CtxOk Tryz.prog X) (hS : SumOk Tryz.prog X) (hx34 : X.x 34 = 8) (hN : ∀ k : Int, K12 k → X.m 34 [.agg ⟨[.int .i64 1, .int .i64 k, .string ⟨⟨[]⟩⟩, .slice none 0 0]⟩] = some (.slice none 0 0))
include hX hS hx34 hN
theorem users_hc {sh ob db ck co co2 : Nat} {es eo eo2 : List MapEntry} {v0 ch : Value} {nm : ByteArray} {a : Fr} {e0 : TypeId} {st : Tr EObj} {n B : Nat} {lg : List Nat}
    (K : Kn 83 [] .no [(0, .pointer (some ⟨sh, 0, none⟩)), (1, .string nm), (2, .map (some ob))] a) (hsh : st.get sh = some (.cells [v0, .map (some db), ch] e0)) (hdb : st.get db = some (.map es ck)) (hob : st.get ob = some (.map eo co))
    (hd : es.all (okE ck) = true) (hB : n + (es.length + 10) = B) (b1 : ¬ (n ≤ sh ∧ sh < B)) (b2 : ¬ (n ≤ db ∧ db < B)) (b3 : ¬ (n ≤ ob ∧ ob < B))
    (hup : ∀ st n lg, st.get ob = some (.map eo co) → eMapUpdate Tryz.prog 92 (.map (some ob)) (.string nm) (.bool true) ⟨st, n, lg⟩ = .ok () ⟨st.upd ob (some (.map eo2 co2)), n, ob :: lg⟩) :
    HC Tryz.prog (.seq usersR0 (.seq (.seq usersR1 (.block 0 (.loop usersLoop))) usersTail)) none a ⟨st, n, lg⟩ B fun e a' s' => e = .normal ∧ a'.df = [] ∧ ∃ st' n' lg', s' = ⟨st', n', lg'⟩ ∧ n' ≤ B ∧ st'.get ob = some (.map eo2 co2) ∧ ∀ m, m ≠ ob → ¬ (n ≤ m ∧ m < B) → st'.get m = st.get m := by
  refine hc_seq (hc_exq hX hS ((users_head0 K).mono fun o h => ?_))
  cases o with
  | code e a s' =>
    obtain ⟨rfl, K, rfl⟩ := h
    refine ⟨by show n + 1 ≤ B; omega, rfl, ?_⟩
    refine hc_seq (hc_seq (hc_exq hX hS ((users_head1 (st := st.upd n (some (.map [] 0))) (n := n + 1) K ((get_upd_ne _ _ (by omega)).trans hsh) ((get_upd_ne _ _ (by omega)).trans hdb)).mono fun o h => ?_)))
    cases o with
    | code e a s' =>
      obtain ⟨rfl, K, rfl⟩ := h
      refine ⟨by show n + 2 ≤ B; omega, rfl, ?_⟩
      refine hc_block (hc_mono (users_loop hX hS hx34 hN (B := B) hd es.length (se := []) (by rw [left_nil]) (by omega) K (get_upd_eq _ _ _) ((get_upd_ne _ _ (by omega)).trans ((get_upd_ne _ _ (by omega)).trans hdb)) (by omega) (fun h => b2 ⟨by omega, h.2⟩) (by omega)) fun e a s h => ?_)
      obtain ⟨rfl, K, st2, n2, lg2, rfl, h3, h4, h5⟩ := h
      refine ⟨rfl, rfl, hc_exq hX hS ((users_tail K (c := 0) (co := co) (eo := eo) ((h5 n (by omega) (by omega)).trans ((get_upd_ne _ _ (by omega)).trans (get_upd_eq _ _ _))) ((h5 ob (by omega) (by omega)).trans ((get_upd_ne _ _ (by omega)).trans ((get_upd_ne _ _ (by omega)).trans hob))) (by omega) (by omega) (by omega) (by omega) hup).mono fun o h => ?_)⟩
      cases o with
      | code e a s' =>
        obtain ⟨rfl, hdf, st3, n3, lg3, rfl, k1, k2, k3, k4⟩ := h
        refine ⟨by show n3 ≤ B; omega, rfl, hdf, st3, n3, lg3, rfl, by omega, k3, fun m q1 q2 => ?_⟩
        rw [k4 m q1 (by omega), h5 m (by omega) (by omega), get_upd_ne _ _ (by omega), get_upd_ne _ _ (by omega)]
      | _ => exact h.elim
    | _ => exact h.elim
  | _ => exact h.elim

theorem users_ok {args : List Value} {wm : WM} (hw : wmUsers args = some wm) (μ : Ren) (s : ES) (w : World) (args' : List Value) (v : Value) (s' : ES) (he : wm.run s = .ok v s') (hst : St Tryz.prog μ s.st w) (hf : Free μ s.nx s'.nx)
    (ha : VRL Tryz.prog μ args args') : Calls Tryz.prog 63 ⟨args'⟩ w fun
      | .returned v', w' => ∃ μ', Nxt Tryz.prog μ s w μ' s' w' ∧ VR Tryz.prog μ' v v'
      | _, _ => False := by
  unfold wmUsers at hw
  split at hw
  · rename_i sh nm ob
    simp only [Option.some.injEq] at hw
    subst hw
    simp only at he
    unfold aUsers1 at he
    obtain ⟨o, s1, h1, hz⟩ := bnd_ok he
    obtain ⟨hsh, rfl⟩ := get_inv h1
    split at hz
    · rename_i v0 db ch e0
      obtain ⟨o, s2, h2, hy⟩ := bnd_ok hz
      obtain ⟨hdb, rfl⟩ := get_inv h2
      split at hy
      · rename_i es ck
        cases hd : es.all (okE ck) with
        | false => rw [hd] at hy; cases hy
        | true =>
          rw [hd] at hy
          simp only [cond_true] at hy
          obtain ⟨u, s3, h3, hx⟩ := bnd_ok hy
          obtain ⟨eo, co, eo2, co2, hob, rfl, hup⟩ := update_inv und92 h3
          obtain ⟨u2, s4, h4, hr⟩ := bnd_ok hx
          simp only [bump, Res.ok.injEq] at h4
          obtain ⟨_, rfl⟩ := h4
          simp only [EM.ret, Res.ok.injEq] at hr
          obtain ⟨rfl, rfl⟩ := hr
          have hlive : ∀ {m : Nat} {o : EObj}, s2.st.get m = some o → ¬ (s2.nx ≤ m ∧ m < s2.nx + (es.length + 10)) := by
            intro m o hm hh
            obtain ⟨pl, o', k1, _⟩ := hst.obj m o hm
            rw [hf m hh.1 hh.2] at k1
            cases k1
          refine (hc_calls (X := X) hX hS (f := 63) (fn := Tryz.f63) (B := s2.nx + (es.length + 10)) (QR := fun v s9 => v = undef ∧ s9.nx ≤ s2.nx + (es.length + 10) ∧ s9.st.get ob = some (.map eo2 co2) ∧ ∀ m, m ≠ ob → ¬ (s2.nx ≤ m ∧ m < s2.nx + (es.length + 10)) → s9.st.get m = s2.st.get m)
            Tryz.func63 users_body ?_ hst hf ha).mono ?_
          · refine hc_mono (users_hc hX hS hx34 hN (st := s2.st) (n := s2.nx) (lg := s2.lg) (show Kn 83 [] .no (argsL 0 [.pointer (some ⟨sh, 0, none⟩), .string nm, .map (some ob)]) (emptyFr 83 [.pointer (some ⟨sh, 0, none⟩), .string nm, .map (some ob)] .no) from kn_new rfl) hsh hdb hob hd rfl (hlive hsh) (hlive hdb) (hlive hob) hup) fun e a s h => ?_
            obtain ⟨rfl, hdf, st', n', lg', rfl, h1, h2, h3⟩ := h
            exact ⟨rfl, undef, hdf, rfl, rfl, h1, h2, h3⟩
          · intro o w' h
            cases o with
            | returned v' =>
              obtain ⟨v, s9, μ', ⟨rfl, q1, q2, q3⟩, _, _, hn, hv⟩ := h
              refine ⟨μ', Nxt.less hn (fun m o hm => ?_) q1, hv⟩
              by_cases e : m = ob
              · subst e
                rw [get_upd_eq] at hm
                rw [q2, hm]
              · rw [get_upd_ne _ _ e] at hm
                rw [q3 m e (hlive hm), hm]
            | _ => exact h.elim
      · cases hy
    · cases hz
  · cases hw
end
end Go.E.FF

namespace Go.E.FF
open Go.Proofs
set_option maxRecDepth 100000
/-! ### identifiers -/
noncomputable def identL : Code := match Tryz.f139.body with
  | some (.seq _ (.seq (.seq _ (.block _ (.loop L))) _)) => L
  | _ => .skip
section
variable {X : Ctx} {s : ES}
theorem ident_let {nm : ByteArray} {len i : Nat} {c : UInt8} {a : Fr} (K : Kn 45 [] .no ((7, .int .i64 (Int.ofNat i)) :: [(6, .int .i64 (Int.ofNat len)), (0, .string nm)]) a) (hi : i < len) (hlt : i + 1 < 9223372036854775808) (hc : (bytes nm)[i]? = some c) (h1 : 97 ≤ Nat.lor c.toNat 32) (h2 : Nat.lor c.toNat 32 ≤ 122) :
    Exq Tryz.prog X (.code identL none a) s (fun o => match o with
      | .code e a' s' => e = .normal ∧ Kn 45 [] .no ((7, .int .i64 (Int.ofNat (i + 1))) :: [(6, .int .i64 (Int.ofNat len)), (0, .string nm)]) a' ∧ s' = s
      | _ => False) := by
  show Exq _ _ _ _ _
  repeat refine ex_seq ?_
  refine ex_region ?_
  refine g_binOp K rfl rfl rfl (lss_t hi) fun a K => ?_
  refine g_end ?_
  show Exq _ _ _ _ _
  repeat refine ex_seq ?_
  refine k_cond (t := true) K rfl ?_
  refine ex_skip ?_
  show Exq _ _ _ _ _
  repeat refine ex_seq ?_
  refine ex_block ?_
  show Exq _ _ _ _ _
  repeat refine ex_seq ?_
  refine ex_region ?_
  refine g_move K rfl rfl fun a K => ?_
  refine g_assign K rfl rfl fun a K => ?_
  refine g_end ?_
  show Exq _ _ _ _ _
  repeat refine ex_seq ?_
  refine ex_region ?_
  refine g_move K rfl rfl fun a K => ?_
  refine g_move K rfl rfl fun a K => ?_
  refine g_index K rfl rfl rfl (index_n und9s hc) fun a K => ?_
  refine g_binOp K rfl rfl rfl (or_u8 (b := 32) c.toNat_lt (by decide)) fun a K => ?_
  refine g_assign K rfl rfl fun a K => ?_
  refine g_end ?_
  show Exq _ _ _ _ _
  repeat refine ex_seq ?_
  refine ex_region ?_
  refine g_move K rfl rfl fun a K => ?_
  refine g_binOp K rfl rfl rfl (lss_f (b := 97) h1) fun a K => ?_
  refine g_move K rfl rfl fun a K => ?_
  refine g_if K rfl rfl rfl ?_
  refine g_move K rfl rfl fun a K => ?_
  refine g_if K rfl rfl rfl ?_
  refine g_binOp K rfl rfl rfl (gtr_f (b := 122) h2) fun a K => ?_
  refine g_pick K rfl rfl rfl fun a K => ?_
  refine g_move K rfl rfl fun a K => ?_
  refine g_not K rfl rfl rfl rfl fun a K => ?_
  refine g_not K rfl rfl rfl rfl fun a K => ?_
  refine g_not K rfl rfl rfl rfl fun a K => ?_
  refine g_notu K rfl rfl rfl fun a K => ?_
  refine g_notu K rfl rfl rfl fun a K => ?_
  refine g_notu K rfl rfl rfl fun a K => ?_
  refine g_notu K rfl rfl rfl fun a K => ?_
  refine g_notu K rfl rfl rfl fun a K => ?_
  refine g_notu K rfl rfl rfl fun a K => ?_
  refine g_notu K rfl rfl rfl fun a K => ?_
  refine g_notu K rfl rfl rfl fun a K => ?_
  refine g_notu K rfl rfl rfl fun a K => ?_
  refine g_notu K rfl rfl rfl fun a K => ?_
  refine g_notu K rfl rfl rfl fun a K => ?_
  refine g_notu K rfl rfl rfl fun a K => ?_
  refine g_notu K rfl rfl rfl fun a K => ?_
  refine g_notu K rfl rfl rfl fun a K => ?_
  refine g_notu K rfl rfl rfl fun a K => ?_
  refine g_notu K rfl rfl rfl fun a K => ?_
  refine g_not K rfl rfl rfl rfl fun a K => ?_
  refine g_pick K rfl rfl rfl fun a K => ?_
  refine g_end ?_
  show Exq _ _ _ _ _
  repeat refine ex_seq ?_
  refine k_cond (t := false) K rfl ?_
  refine ex_skip ?_
  (repeat first | rw [seqK_normal] | rw [blockK_normal] | rw [loopK_normal] | rw [seqK_exit] | rw [loopK_exit] | rw [blockK_exit])
  show Exq _ _ _ _ _
  repeat refine ex_seq ?_
  refine ex_region ?_
  refine g_binOp K rfl rfl rfl (add_n (b := 1) hlt) fun a K => ?_
  refine g_move K rfl rfl fun a K => ?_
  refine g_end ?_
  exact ⟨rfl, K.sub ⟨rfl, rfl, rfl, trivial⟩, rfl⟩

theorem ident_dig {nm : ByteArray} {len i : Nat} {c : UInt8} {a : Fr} (K : Kn 45 [] .no ((7, .int .i64 (Int.ofNat i)) :: [(6, .int .i64 (Int.ofNat len)), (0, .string nm)]) a) (hi : i < len) (hlt : i + 1 < 9223372036854775808) (hc : (bytes nm)[i]? = some c) (h0 : i ≠ 0) (h3 : Nat.lor c.toNat 32 < 97) (h1 : 48 ≤ c.toNat) (h2 : c.toNat ≤ 57) :
    Exq Tryz.prog X (.code identL none a) s (fun o => match o with
      | .code e a' s' => e = .normal ∧ Kn 45 [] .no ((7, .int .i64 (Int.ofNat (i + 1))) :: [(6, .int .i64 (Int.ofNat len)), (0, .string nm)]) a' ∧ s' = s
      | _ => False) := by
  show Exq _ _ _ _ _
  repeat refine ex_seq ?_
  refine ex_region ?_
  refine g_binOp K rfl rfl rfl (lss_t hi) fun a K => ?_
  refine g_end ?_
  show Exq _ _ _ _ _
  repeat refine ex_seq ?_
  refine k_cond (t := true) K rfl ?_
  refine ex_skip ?_
  show Exq _ _ _ _ _
  repeat refine ex_seq ?_
  refine ex_block ?_
  show Exq _ _ _ _ _
  repeat refine ex_seq ?_
  refine ex_region ?_
  refine g_move K rfl rfl fun a K => ?_
  refine g_assign K rfl rfl fun a K => ?_
  refine g_end ?_
  show Exq _ _ _ _ _
  repeat refine ex_seq ?_
  refine ex_region ?_
  refine g_move K rfl rfl fun a K => ?_
  refine g_move K rfl rfl fun a K => ?_
  refine g_index K rfl rfl rfl (index_n und9s hc) fun a K => ?_
  refine g_binOp K rfl rfl rfl (or_u8 (b := 32) c.toNat_lt (by decide)) fun a K => ?_
  refine g_assign K rfl rfl fun a K => ?_
  refine g_end ?_
  show Exq _ _ _ _ _
  repeat refine ex_seq ?_
  refine ex_region ?_
  refine g_move K rfl rfl fun a K => ?_
  refine g_binOp K rfl rfl rfl (lss_t (b := 97) h3) fun a K => ?_
  refine g_move K rfl rfl fun a K => ?_
  refine g_not K rfl rfl rfl rfl fun a K => ?_
  refine g_not K rfl rfl rfl rfl fun a K => ?_
  refine g_pick K rfl rfl rfl fun a K => ?_
  refine g_move K rfl rfl fun a K => ?_
  refine g_if K rfl rfl rfl ?_
  refine g_move K rfl rfl fun a K => ?_
  refine g_if K rfl rfl rfl ?_
  refine g_binOp K rfl rfl rfl (eql_f (b := 0) h0) fun a K => ?_
  refine g_if K rfl rfl rfl ?_
  refine g_move K rfl rfl fun a K => ?_
  refine g_if K rfl rfl rfl ?_
  refine g_move K rfl rfl fun a K => ?_
  refine g_if K rfl rfl rfl ?_
  refine g_move K rfl rfl fun a K => ?_
  refine g_if K rfl rfl rfl ?_
  refine g_index K rfl rfl rfl (index_n und9s hc) fun a K => ?_
  refine g_if K rfl rfl rfl ?_
  refine g_binOp K rfl rfl rfl (lss_f (b := 48) h1) fun a K => ?_
  refine g_if K rfl rfl rfl ?_
  refine g_move K rfl rfl fun a K => ?_
  refine g_if K rfl rfl rfl ?_
  refine g_move K rfl rfl fun a K => ?_
  refine g_if K rfl rfl rfl ?_
  refine g_move K rfl rfl fun a K => ?_
  refine g_if K rfl rfl rfl ?_
  refine g_index K rfl rfl rfl (index_n und9s hc) fun a K => ?_
  refine g_if K rfl rfl rfl ?_
  refine g_binOp K rfl rfl rfl (gtr_f (b := 57) h2) fun a K => ?_
  refine g_if K rfl rfl rfl ?_
  refine g_pick K rfl rfl rfl fun a K => ?_
  refine g_if K rfl rfl rfl ?_
  refine g_move K rfl rfl fun a K => ?_
  refine g_not K rfl rfl rfl rfl fun a K => ?_
  refine g_not K rfl rfl rfl rfl fun a K => ?_
  refine g_not K rfl rfl rfl rfl fun a K => ?_
  refine g_not K rfl rfl rfl rfl fun a K => ?_
  refine g_if K rfl rfl rfl ?_
  refine g_pick K rfl rfl rfl fun a K => ?_
  refine g_if K rfl rfl rfl ?_
  refine g_pick K rfl rfl rfl fun a K => ?_
  refine g_pick K rfl rfl rfl fun a K => ?_
  refine g_end ?_
  show Exq _ _ _ _ _
  repeat refine ex_seq ?_
  refine k_cond (t := false) K rfl ?_
  refine ex_skip ?_
  (repeat first | rw [seqK_normal] | rw [blockK_normal] | rw [loopK_normal] | rw [seqK_exit] | rw [loopK_exit] | rw [blockK_exit])
  show Exq _ _ _ _ _
  repeat refine ex_seq ?_
  refine ex_region ?_
  refine g_binOp K rfl rfl rfl (add_n (b := 1) hlt) fun a K => ?_
  refine g_move K rfl rfl fun a K => ?_
  refine g_end ?_
  exact ⟨rfl, K.sub ⟨rfl, rfl, rfl, trivial⟩, rfl⟩

theorem ident_out {nm : ByteArray} {len : Nat} {a : Fr} (K : Kn 45 [] .no ((7, .int .i64 (Int.ofNat len)) :: [(6, .int .i64 (Int.ofNat len)), (0, .string nm)]) a) :
    Exq Tryz.prog X (.code identL none a) s (fun o => match o with
      | .code e a' s' => e = .exit 0 ∧ Kn 45 [] .no [(6, .int .i64 (Int.ofNat len)), (0, .string nm)] a' ∧ s' = s
      | _ => False) := by
  show Exq _ _ _ _ _
  repeat refine ex_seq ?_
  refine ex_region ?_
  refine g_binOp K rfl rfl rfl (lss_f (Nat.le_refl _)) fun a K => ?_
  refine g_end ?_
  show Exq _ _ _ _ _
  repeat refine ex_seq ?_
  refine k_cond (t := false) K rfl ?_
  refine ex_exit ?_
  exact ⟨rfl, K.sub ⟨rfl, rfl, trivial⟩, rfl⟩

end
end Go.E.FF

namespace Go.E.FF
open Go.Proofs
set_option maxRecDepth 100000
def letB (c : UInt8) : Bool := Nat.ble 97 (Nat.lor c.toNat 32) && Nat.ble (Nat.lor c.toNat 32) 122
def digB (c : UInt8) : Bool := Nat.ble 48 c.toNat && Nat.ble c.toNat 57 && Nat.blt (Nat.lor c.toNat 32) 97
theorem eql_str {P : Program} {t : TypeId} {x y : Operand} {a b : ByteArray} {r : Bool} (h : seq a b = r) : eBin P .eql t x y (.string a) (.string b) = some (.bool r) := by rw [← h]; rfl
theorem neq_str {P : Program} {t : TypeId} {x y : Operand} {a b : ByteArray} {r : Bool} (h : seq a b = r) : eBin P .neq t x y (.string a) (.string b) = some (.bool (!r)) := by rw [← h]; rfl
section
variable {X : Ctx}
theorem ident_loop {nm : ByteArray} {len : Nat} {s : ES} (hg : ∀ j c, (bytes nm)[j]? = some c → letB c = true ∨ (j ≠ 0 ∧ digB c = true)) (hl : (bytes nm).length = len) (hlen : len < 9223372036854775807) :
    ∀ (k : Nat) {i : Nat} {a : Fr}, i + k = len → Kn 45 [] .no ((7, .int .i64 (Int.ofNat i)) :: [(6, .int .i64 (Int.ofNat len)), (0, .string nm)]) a →
    Exq Tryz.prog X (.code (.loop identL) none a) s (fun o => match o with
      | .code e a' s' => e = .exit 0 ∧ Kn 45 [] .no [(6, .int .i64 (Int.ofNat len)), (0, .string nm)] a' ∧ s' = s
      | _ => False)
  | 0, i, a, hi, K => by
    obtain rfl : i = len := by omega
    refine ex_loop ((ident_out K).mono fun o h => ?_)
    cases o with
    | code e a s => obtain ⟨rfl, K, rfl⟩ := h; exact ⟨rfl, K, rfl⟩
    | _ => exact h.elim
  | k + 1, i, a, hi, K => by
    have hlt : i < len := by omega
    obtain ⟨c, hc⟩ : ∃ c, (bytes nm)[i]? = some c := ⟨_, List.getElem?_eq_getElem (by rw [hl]; exact hlt)⟩
    have next : ∀ o, (match o with
      | .code e a' s' => e = .normal ∧ Kn 45 [] .no ((7, .int .i64 (Int.ofNat (i + 1))) :: [(6, .int .i64 (Int.ofNat len)), (0, .string nm)]) a' ∧ s' = s
      | _ => False) → LoopK Tryz.prog X identL none (fun o => match o with
      | .code e a' s' => e = .exit 0 ∧ Kn 45 [] .no [(6, .int .i64 (Int.ofNat len)), (0, .string nm)] a' ∧ s' = s
      | _ => False) o := by
      intro o h
      cases o with
      | code e a s =>
        obtain ⟨rfl, K, rfl⟩ := h
        exact ident_loop hg hl hlen k (by omega) K
      | _ => exact h.elim
    refine ex_loop ?_
    rcases hg i c hc with h | ⟨h0, h⟩
    · simp only [letB, Bool.and_eq_true, Nat.ble_eq] at h
      exact (ident_let K hlt (by omega) hc h.1 h.2).mono next
    · simp only [digB, Bool.and_eq_true, Nat.ble_eq, Nat.blt_eq] at h
      exact (ident_dig K hlt (by omega) hc h0 h.2 h.1.1 h.1.2).mono next
theorem ident_ok {nm : ByteArray} {s : ES} (hg : ∀ j c, (bytes nm)[j]? = some c → letB c = true ∨ (j ≠ 0 ∧ digB c = true)) (hlen : (bytes nm).length < 9223372036854775807) (hne : seq nm ⟨⟨[]⟩⟩ = false) :
    Exq Tryz.prog X (.call 139 [.string nm] .no) s (fun o => o = .ret (.bool true) .no s) := by
  refine ex_callK Tryz.func139 rfl rfl rfl fun a K => ?_
  show Exq _ _ _ _ _
  repeat refine ex_seq ?_
  refine ex_region ?_
  refine g_assign K rfl rfl fun a K => ?_
  refine g_end ?_
  show Exq _ _ _ _ _
  repeat refine ex_seq ?_
  refine ex_region ?_
  refine g_move K rfl rfl fun a K => ?_
  refine g_builtin K rfl rfl (rfl) fun a K => ?_
  refine g_move K rfl rfl fun a K => ?_
  refine g_end ?_
  show Exq _ _ _ _ _
  repeat refine ex_seq ?_
  refine ex_block ?_
  refine (ident_loop hg (len := (bytes nm).length) rfl hlen _ (Nat.zero_add _) (K.sub ⟨rfl, rfl, rfl, trivial⟩)).mono ?_
  intro o h
  cases o with
  | code e a s =>
    obtain ⟨rfl, K, rfl⟩ := h
    (repeat first | rw [seqK_normal] | rw [blockK_normal] | rw [loopK_normal] | rw [seqK_exit] | rw [loopK_exit] | rw [blockK_exit])
    show Exq _ _ _ _ _
    repeat refine ex_seq ?_
    refine ex_region ?_
    refine g_move K rfl rfl fun a K => ?_
    refine g_binOp K rfl rfl rfl (neq_str hne) fun a K => ?_
    refine g_assign K rfl rfl fun a K => ?_
    refine g_end ?_
    show Exq _ _ _ _ _
    repeat refine ex_seq ?_
    refine ex_ret ?_
    (repeat first | rw [seqK_ret] | rw [blockK_ret] | rw [loopK_ret])
    refine leave K rfl (res_tmp K rfl res_nil) ?_
    rfl
  | _ => exact h.elim

theorem reserved_no {nm : ByteArray} {s : ES} (h1 : seq nm ⟨⟨[97, 110, 100]⟩⟩ = false) (h2 : seq nm ⟨⟨[111, 114]⟩⟩ = false) (h3 : seq nm ⟨⟨[110, 111, 116]⟩⟩ = false) (h4 : seq nm ⟨⟨[116, 114, 117, 101]⟩⟩ = false) (h5 : seq nm ⟨⟨[102, 97, 108, 115, 101]⟩⟩ = false) :
    Exq Tryz.prog X (.call 140 [.string nm] .no) s (fun o => o = .ret (.bool false) .no s) := by
  refine ex_callK Tryz.func140 rfl rfl rfl fun a K => ?_
  show Exq _ _ _ _ _
  repeat refine ex_seq ?_
  refine ex_region ?_
  refine g_assign K rfl rfl fun a K => ?_
  refine g_end ?_
  show Exq _ _ _ _ _
  repeat refine ex_seq ?_
  refine ex_region ?_
  refine g_move K rfl rfl fun a K => ?_
  refine g_binOp K rfl rfl rfl (eql_str h1) fun a K => ?_
  refine g_move K rfl rfl fun a K => ?_
  refine g_if K rfl rfl rfl ?_
  refine g_move K rfl rfl fun a K => ?_
  refine g_if K rfl rfl rfl ?_
  refine g_binOp K rfl rfl rfl (eql_str h2) fun a K => ?_
  refine g_pick K rfl rfl rfl fun a K => ?_
  refine g_move K rfl rfl fun a K => ?_
  refine g_if K rfl rfl rfl ?_
  refine g_move K rfl rfl fun a K => ?_
  refine g_if K rfl rfl rfl ?_
  refine g_binOp K rfl rfl rfl (eql_str h3) fun a K => ?_
  refine g_pick K rfl rfl rfl fun a K => ?_
  refine g_move K rfl rfl fun a K => ?_
  refine g_if K rfl rfl rfl ?_
  refine g_move K rfl rfl fun a K => ?_
  refine g_if K rfl rfl rfl ?_
  refine g_binOp K rfl rfl rfl (eql_str h4) fun a K => ?_
  refine g_pick K rfl rfl rfl fun a K => ?_
  refine g_move K rfl rfl fun a K => ?_
  refine g_if K rfl rfl rfl ?_
  refine g_move K rfl rfl fun a K => ?_
  refine g_if K rfl rfl rfl ?_
  refine g_binOp K rfl rfl rfl (eql_str h5) fun a K => ?_
  refine g_pick K rfl rfl rfl fun a K => ?_
  refine g_assign K rfl rfl fun a K => ?_
  refine g_end ?_
  show Exq _ _ _ _ _
  repeat refine ex_seq ?_
  refine ex_ret ?_
  (repeat first | rw [seqK_ret] | rw [blockK_ret] | rw [loopK_ret])
  refine leave K rfl (res_tmp K rfl res_nil) ?_
  rfl

theorem arity4 {s : ES} : Exq Tryz.prog X (.call 137 [.int .i64 4] .no) s (fun o => o = .ret (.int .i64 0) .no s) := by
  refine ex_callK Tryz.func137 rfl rfl rfl fun a K => ?_
  show Exq _ _ _ _ _
  repeat refine ex_seq ?_
  refine ex_region ?_
  refine g_assign K rfl rfl fun a K => ?_
  refine g_end ?_
  show Exq _ _ _ _ _
  repeat refine ex_seq ?_
  refine ex_block ?_
  show Exq _ _ _ _ _
  repeat refine ex_seq ?_
  refine ex_region ?_
  refine g_move K rfl rfl fun a K => ?_
  refine g_binOp K rfl rfl rfl (rfl) fun a K => ?_
  refine g_assign K rfl rfl fun a K => ?_
  refine g_end ?_
  show Exq _ _ _ _ _
  repeat refine ex_seq ?_
  refine k_cond (t := true) K rfl ?_
  show Exq _ _ _ _ _
  repeat refine ex_seq ?_
  refine ex_region ?_
  refine g_assign K rfl rfl fun a K => ?_
  refine g_end ?_
  show Exq _ _ _ _ _
  repeat refine ex_seq ?_
  refine ex_ret ?_
  (repeat first | rw [seqK_ret] | rw [blockK_ret] | rw [loopK_ret])
  refine leave K rfl (res_tmp K rfl res_nil) ?_
  rfl

end
end Go.E.FF

