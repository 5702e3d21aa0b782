import Derived.Test.YthbkkpahoolhbaaGreatDoorEv30
import Derived.Test.YthbkkpahoolhbaaGreatDoorEv27
import Derived.Test.YthbkkpahoolhbaaGreatDoorEv28
import Derived.Test.YthbkkpahoolhbaaGreatDoorEv22
set_option linter.unusedSimpArgs false
set_option linter.unusedVariables false
set_option linter.unusedSectionVars false
namespace Go.E.FF
open Go.Proofs
set_option maxRecDepth 100000
/-- closed runs, on a nil sheet -/
def tabN : Tab := [
  (8, [(.pointer none), (.string ⟨⟨[97]⟩⟩)], (.tuple #[(.agg #[(.int .i64 0), (.int .i64 0), (.string ⟨⟨[]⟩⟩)]), (.int .i64 1)])),
  (10, [(.pointer none), (.string ⟨⟨[97]⟩⟩)], (.int .i64 1)),
  (11, [(.pointer none)], (.slice none 0 0)),
  (12, [(.pointer none)], (.slice none 0 0)),
  (13, [(.pointer none)], (.slice none 0 0))]
theorem tabN_ok : TabOk Tryz.prog tabN := tab_of_ev x0 s0_ok (n := 100000) (by kernel_rfl)
theorem tabK5_ok : TabOk Tryz.prog [(5, [], .bool true)] := fun e he => by
  rcases List.mem_cons.1 he with rfl | h
  · exact known_sum
  · cases h
def tabF : Tab := (5, [], .bool true) :: (tabN ++ tabA)
theorem tabF_ok : TabOk Tryz.prog tabF := TabOk.append tabK5_ok (TabOk.append tabN_ok tabA_ok)

/-! the context of 'users' -/
def kfU : List (Nat × Nat) := kf ++ [(34, 8)]
noncomputable def XU : Ctx := ⟨xk kfU, fun f args => look f args tabA, kh⟩
theorem xu : CtxOk Tryz.prog XU := ctx_ok (by kernel_rfl)
theorem su_ok : SumOk Tryz.prog XU := sum_ok (by kernel_rfl) (fun f args v h _ _ => look_ok tabA_ok h) kh_ok
theorem names_u : ∀ k : Int, K12 k → XU.m 34 [.agg ⟨[.int .i64 1, .int .i64 k, .string ⟨⟨[]⟩⟩, .slice none 0 0]⟩] = some (.slice none 0 0) := by
  intro k hk
  rcases hk with rfl | rfl
  · kernel_rfl
  · kernel_rfl

/-! the context of all -/
def m19 : List Value → Option Value
  | [.string nm] => bif goodB nm then some (.bool true) else none
  | _ => none
def m7 : List Value → Option Value
  | [.int .i64 (.ofNat j)] => bif j.blt 256 then some (.string (dec j)) else none
  | _ => none
def kfF : List (Nat × Nat) := kf ++ [(63, 9), (19, 8), (7, 8), (5, 8), (20, 8), (34, 8), (109, 8), (8, 8), (10, 8), (11, 8), (12, 8), (13, 8)]
noncomputable def mF (f : FuncId) (args : List Value) : Option Value := bif Nat.beq f 19 then m19 args else bif Nat.beq f 7 then m7 args else look f args tabF
noncomputable def hF (f : FuncId) (args : List Value) : Option WM := bif Nat.beq f 63 then wmUsers args else kh f args
noncomputable def XF : Ctx := ⟨xk kfF, mF, hF⟩
theorem xf : CtxOk Tryz.prog XF := ctx_ok (by kernel_rfl)
theorem mF_ok (f : FuncId) (args : List Value) (v : Value) (h : mF f args = some v) : Sum Tryz.prog f args v := by
  unfold mF at h
  cases e1 : Nat.beq f 19 with
  | true =>
    rw [e1] at h
    obtain rfl := Nat.eq_of_beq_eq_true e1
    simp only [cond_true] at h
    unfold m19 at h
    split at h
    · rename_i nm
      cases hg : goodB nm with
      | false => rw [hg] at h; cases h
      | true =>
        rw [hg] at h
        simp only [cond_true, Option.some.injEq] at h
        subst h
        exact ident_sum hg
    · cases h
  | false =>
    rw [e1] at h
    simp only [cond_false] at h
    cases e2 : Nat.beq f 7 with
    | true =>
      rw [e2] at h
      obtain rfl := Nat.eq_of_beq_eq_true e2
      simp only [cond_true] at h
      unfold m7 at h
      split at h
      · rename_i j
        cases hg : j.blt 256 with
        | false => rw [hg] at h; cases h
        | true =>
          rw [hg] at h
          simp only [cond_true, Option.some.injEq] at h
          subst h
          exact dec_sum (by rw [Nat.blt_eq] at hg; exact hg)
      · cases h
    | false =>
      rw [e2] at h
      simp only [cond_false] at h
      exact look_ok tabF_ok h
theorem sf_ok : SumOk Tryz.prog XF := sum_ok (by kernel_rfl) (fun f args v h _ _ => mF_ok f args v h) (by
  intro f args wm h μ s w args' v s' he hst hf ha
  unfold hF at h
  cases e1 : Nat.beq f 63 with
  | true =>
    rw [e1] at h
    obtain rfl := Nat.eq_of_beq_eq_true e1
    simp only [cond_true] at h
    exact users_ok xu su_ok rfl names_u h μ s w args' v s' he hst hf ha
  | false =>
    rw [e1] at h
    simp only [cond_false] at h
    exact kh_ok f args wm h μ s w args' v s' he hst hf ha)
theorem names_f : ∀ k : Int, K12 k → XF.m 34 [.agg ⟨[.int .i64 1, .int .i64 k, .string ⟨⟨[]⟩⟩, .slice none 0 0]⟩] = some (.slice none 0 0) := by
  intro k hk
  rcases hk with rfl | rfl
  · kernel_rfl
  · kernel_rfl
theorem eval_f : ∀ k : Int, K12 k → XF.m 109 [.agg ⟨[.int .i64 1, .int .i64 k, .string ⟨⟨[]⟩⟩, .slice none 0 0]⟩, .slice none 0 0] = some (.tuple ⟨[.agg ⟨[.int .i64 1, .int .i64 k, .string ⟨⟨[]⟩⟩]⟩, .int .i64 0]⟩) := by
  intro k hk
  rcases hk with rfl | rfl
  · kernel_rfl
  · kernel_rfl
theorem parse_1 : XF.m 20 [.string ⟨⟨[49]⟩⟩] = some (.tuple ⟨[.agg ⟨[.int .i64 1, .int .i64 1, .string ⟨⟨[]⟩⟩, .slice none 0 0]⟩, .int .i64 0, .int .i64 0]⟩) := by kernel_rfl
theorem parse_2 : XF.m 20 [.string ⟨⟨[50]⟩⟩] = some (.tuple ⟨[.agg ⟨[.int .i64 1, .int .i64 2, .string ⟨⟨[]⟩⟩, .slice none 0 0]⟩, .int .i64 0, .int .i64 0]⟩) := by kernel_rfl
theorem good_f {nm : ByteArray} (h : goodB nm = true) : XF.m 19 [.string nm] = some (.bool true) := by
  show m19 [.string nm] = _
  simp only [m19, h, cond_true]
theorem dec_f {j : Nat} (h : j < 256) : XF.m 7 [.int .i64 (Int.ofNat j)] = some (.string (dec j)) := by
  show m7 [.int .i64 (Int.ofNat j)] = some (.string (dec j))
  have : j.blt 256 = true := by rw [Nat.blt_eq]; exact h
  simp only [m7, this, cond_true]
end Go.E.FF

namespace Go.E.FF
open Go.Proofs
set_option maxRecDepth 100000

/-! ### the sheet that FieldFull fills -/
def nmJ (j : Nat) : ByteArray := cat ⟨⟨[110]⟩⟩ (dec j)
def node (k : Int) : Value := .agg ⟨[.int .i64 1, .int .i64 k, .string ⟨⟨[]⟩⟩, .slice none 0 0]⟩
def ent (j : Nat) : MapEntry := ⟨.string (nmJ j), .agg ⟨[.int .i64 1, .int .i64 1, .string ⟨⟨[]⟩⟩, .slice none 0 0]⟩, j⟩
def ent2 (j : Nat) : MapEntry := ⟨.string (nmJ j), .agg ⟨[.int .i64 1, .int .i64 2, .string ⟨⟨[]⟩⟩, .slice none 0 0]⟩, j⟩
def seg : Nat → Nat → List MapEntry
  | _, 0 => []
  | a, k + 1 => ent a :: seg (a + 1) k
theorem seg_append : ∀ (k a m : Nat), seg a (k + m) = seg a k ++ seg (a + k) m
  | 0, a, m => by simp [seg]
  | k + 1, a, m => by
    rw [show k + 1 + m = (k + m) + 1 by omega]
    show ent a :: seg (a + 1) (k + m) = ent a :: seg (a + 1) k ++ _
    rw [seg_append k (a + 1) m, show a + 1 + k = a + (k + 1) by omega]
    rfl
theorem seg_succ (j : Nat) : seg 0 (j + 1) = seg 0 j ++ [ent j] := by
  rw [seg_append j 0 1, Nat.zero_add]; rfl
theorem seg_length : ∀ (k a : Nat), (seg a k).length = k
  | 0, a => rfl
  | k + 1, a => by show (seg (a + 1) k).length + 1 = _; rw [seg_length k (a + 1)]
theorem seg_mem : ∀ {k a : Nat} {e : MapEntry}, e ∈ seg a k → ∃ j, a ≤ j ∧ j < a + k ∧ e = ent j
  | 0, a, e, h => by cases h
  | k + 1, a, e, h => by
    rcases List.mem_cons.1 h with rfl | h
    · exact ⟨a, Nat.le_refl _, by omega, rfl⟩
    · obtain ⟨j, h1, h2, h3⟩ := seg_mem h
      exact ⟨j, by omega, by omega, h3⟩
def more : ByteArray := ⟨⟨[109, 111, 114, 101]⟩⟩
def undec (nm : ByteArray) : Nat := ((bytes nm).drop 1).foldl (fun a c => a * 10 + (c.toNat - 48)) 0
theorem names_all : ((List.range 256).all fun j => goodB (nmJ j) && Nat.beq (undec (nmJ j)) j && !seq more (nmJ j)) = true := by kernel_rfl
theorem names_at {j : Nat} (h : j < 256) : goodB (nmJ j) = true ∧ undec (nmJ j) = j ∧ seq more (nmJ j) = false := by
  have := List.all_eq_true.1 names_all j (List.mem_range.2 h)
  simp only [Bool.and_eq_true, Nat.beq_eq, Bool.not_eq_true'] at this
  exact ⟨this.1.1, this.1.2, this.2⟩
theorem names_ne {i j : Nat} (hi : i < 256) (hj : j < 256) (h : i ≠ j) : seq (nmJ i) (nmJ j) = false := by
  rw [← Bool.not_eq_true]
  intro hs
  have := seq_sound hs
  have h1 := (names_at hi).2.1
  rw [this, (names_at hj).2.1] at h1
  exact h h1.symm
theorem more_good : goodB more = true := by kernel_rfl
theorem good_len {nm : ByteArray} (h : goodB nm = true) : (bytes nm).length.ble 1048576 = true := by
  have := (good_of h).1
  rw [Nat.ble_eq]
  omega
theorem eeq_str {s u : ByteArray} : eeq Tryz.prog 100 9 (.string s) (.string u) = some (seq s u) := by
  unfold eeq; rw [und9s]
theorem find_step {nm s : ByteArray} {e : MapEntry} {es : List MapEntry} {i : Nat} (h1 : e.key = .string s) (h2 : seq nm s = false) : findE Tryz.prog 9 (.string nm) (e :: es) i = findE Tryz.prog 9 (.string nm) es (i + 1) := by
  rw [findE, h1, eeq_str, h2]
theorem find_skip {nm : ByteArray} {r : List MapEntry} : ∀ {es : List MapEntry} {i : Nat}, (∀ e ∈ es, ∃ s, e.key = .string s ∧ seq nm s = false) → findE Tryz.prog 9 (.string nm) (es ++ r) i = findE Tryz.prog 9 (.string nm) r (i + es.length)
  | [], i, _ => rfl
  | e :: es, i, h => by
    obtain ⟨s, h1, h2⟩ := h e (List.mem_cons_self ..)
    show findE Tryz.prog 9 (.string nm) (e :: (es ++ r)) i = _
    rw [find_step h1 h2, find_skip fun e he => h e (List.mem_cons_of_mem _ he)]
    rw [show i + 1 + es.length = i + (e :: es).length by simp only [List.length_cons]; omega]
theorem find_hit {nm : ByteArray} {v : Value} {b i : Nat} {r : List MapEntry} : findE Tryz.prog 9 (.string nm) (⟨.string nm, v, b⟩ :: r) i = some (some (i, ⟨.string nm, v, b⟩)) := by
  unfold findE
  rw [eeq_str, seq_refl]
theorem seg_other {w a k : Nat} (hw : w < 256) (hk : a + k ≤ 256) (h : w < a ∨ a + k ≤ w) : ∀ e ∈ seg a k, ∃ s, e.key = .string s ∧ seq (nmJ w) s = false := by
  intro e he
  obtain ⟨j, h1, h2, rfl⟩ := seg_mem he
  exact ⟨_, rfl, names_ne hw (by omega) (by omega)⟩
theorem seg_more {a k : Nat} (hk : a + k ≤ 256) : ∀ e ∈ seg a k, ∃ s, e.key = .string s ∧ seq more s = false := by
  intro e he
  obtain ⟨j, h1, h2, rfl⟩ := seg_mem he
  exact ⟨_, rfl, (names_at (by omega)).2.2⟩
/-- a new name -/
theorem find_new {j : Nat} (h : j < 256) : findE Tryz.prog 9 (.string (nmJ j)) (seg 0 j) 0 = some none := by
  have := find_skip (r := []) (i := 0) (seg_other (w := j) (a := 0) (k := j) h (by omega) (.inr (by omega)))
  rw [List.append_nil] at this
  rw [this]; rfl
theorem find_more : findE Tryz.prog 9 (.string more) (seg 0 256) 0 = some none := by
  have := find_skip (r := []) (i := 0) (seg_more (a := 0) (k := 256) (by omega))
  rw [List.append_nil] at this
  rw [this]; rfl
theorem find_last {j : Nat} (h : j < 256) : findE Tryz.prog 9 (.string (nmJ j)) (seg 0 j ++ [ent j]) 0 = some (some (0 + (seg 0 j).length, ent j)) := by
  rw [find_skip (seg_other (w := j) (a := 0) (k := j) h (by omega) (.inr (by omega)))]
  exact find_hit
theorem okE_ent {j c : Nat} (h : j < c) : okE c (ent j) = true := by
  have : Nat.blt j c = true := by rw [Nat.blt_eq]; exact h
  show (_ && _ && Nat.blt j c) = true
  rw [this]; rfl
theorem okE_ent2 {j c : Nat} (h : j < c) : okE c (ent2 j) = true := by
  have : Nat.blt j c = true := by rw [Nat.blt_eq]; exact h
  show (_ && _ && Nat.blt j c) = true
  rw [this]; rfl
theorem okE_seg {a k c : Nat} (h : a + k ≤ c) : (seg a k).all (okE c) = true := by
  rw [List.all_eq_true]
  intro e he
  obtain ⟨j, h1, h2, rfl⟩ := seg_mem he
  exact okE_ent (by omega)
/-- the sheet with one name anew -/
def segW (w : Nat) : List MapEntry := seg 0 w ++ ent2 w :: seg (w + 1) (255 - w)
theorem seg_split {w : Nat} (h : w < 256) : seg 0 256 = seg 0 w ++ ent w :: seg (w + 1) (255 - w) := by
  have h1 := seg_append w 0 (256 - w)
  rw [show w + (256 - w) = 256 by omega, Nat.zero_add, show 256 - w = (255 - w) + 1 by omega] at h1
  exact h1
theorem put_w {w : Nat} (h : w < 256) : putAt (seg 0 256) (0 + (seg 0 w).length) (ent2 w) = segW w := by
  rw [seg_split h, Nat.zero_add]
  unfold putAt segW
  rw [List.take_left, show Nat.succ (seg 0 w).length = (seg 0 w).length + 1 from rfl]
  congr 1
  simp
theorem find_w {w : Nat} (h : w < 256) : findE Tryz.prog 9 (.string (nmJ w)) (seg 0 256) 0 = some (some (0 + (seg 0 w).length, ent w)) := by
  rw [seg_split h, find_skip (seg_other (w := w) (a := 0) (k := w) h (by omega) (.inr (by omega)))]
  exact find_hit
theorem find_w2 {w : Nat} (h : w < 256) : findE Tryz.prog 9 (.string (nmJ w)) (segW w) 0 = some (some (0 + (seg 0 w).length, ent2 w)) := by
  unfold segW
  rw [find_skip (seg_other (w := w) (a := 0) (k := w) h (by omega) (.inr (by omega)))]
  exact find_hit
theorem okE_segW {w : Nat} (h : w < 256) : (segW w).all (okE 256) = true := by
  unfold segW
  rw [List.all_append, List.all_cons, okE_seg (by omega), okE_ent2 h, okE_seg (by omega)]
  rfl
theorem keyB_same {e e2 : MapEntry} (hk : e.key = e2.key) {ys : List MapEntry} : ∀ {xs : List MapEntry}, keyB (xs ++ e :: ys) = keyB (xs ++ e2 :: ys)
  | [] => by show keyB (e :: ys) = keyB (e2 :: ys); unfold keyB; rw [hk]
  | x :: xs => by
    show keyB (x :: (xs ++ e :: ys)) = keyB (x :: (xs ++ e2 :: ys))
    unfold keyB
    rw [keyB_same hk (xs := xs)]
theorem stamp_same {c : Nat} {e e2 : MapEntry} (hk : e.born = e2.born) {ys : List MapEntry} : ∀ {xs : List MapEntry} {lo : Nat}, stampB c lo (xs ++ e :: ys) = stampB c lo (xs ++ e2 :: ys)
  | [], lo => by show stampB c lo (e :: ys) = stampB c lo (e2 :: ys); unfold stampB; rw [hk]
  | x :: xs, lo => by
    show stampB c lo (x :: (xs ++ e :: ys)) = stampB c lo (x :: (xs ++ e2 :: ys))
    unfold stampB
    rw [stamp_same hk (xs := xs)]
def keysL : List (List UInt8) := (List.range 256).map fun j => bytes (nmJ j)
theorem keys_all : keyB (seg 0 256) = some keysL := by kernel_rfl
theorem keys_fit : keysOk keysL 256 (seg 0 256) = true := by kernel_rfl
theorem keys_len : keysL.length = 256 := by simp [keysL]
theorem keysW {w : Nat} (h : w < 256) : keyB (segW w) = some keysL ∧ keysOk keysL 256 (segW w) = true := by
  constructor
  · unfold segW
    rw [keyB_same (e := ent2 w) (e2 := ent w) rfl, ← seg_split h, keys_all]
  · have : stampB 256 0 (segW w) = stampB 256 0 (seg 0 256) := by
      unfold segW
      rw [stamp_same (e := ent2 w) (e2 := ent w) rfl, ← seg_split h]
    unfold keysOk
    rw [this]
    exact keys_fit
theorem sorted_w {st : Tr EObj} {n : Nat} {lg : List Nat} {r db w : Nat} (h : w < 256) (hr : st.get r = some (.kcell (.map (some db)))) (hdb : st.get db = some (.map (segW w) 256)) :
    eSortedKeys 9 ⟨r, 0, none⟩ ⟨st, n, lg⟩ = .ok (.slice (some ⟨n, 0, none⟩) 256 0) ⟨st.upd n (some (.cells ((sortB keysL).map fun b => .string (ofBytes b)) 9)), n + 1, lg⟩ := by
  unfold eSortedKeys
  simp only
  rw [bnd_ok' (eget_ok hr)]
  simp only
  unfold eSortedM
  have : mapOf (.map (some db)) ⟨st, n, lg⟩ = .ok (segW w, 256) ⟨st, n, lg⟩ := by
    unfold mapOf; simp only; rw [bnd_ok' (eget_ok hdb)]; rfl
  rw [bnd_ok' this]
  obtain ⟨h1, h2⟩ := keysW h
  simp only [h1]
  have hl := keys_len
  clear h1
  generalize keysL = L at hl h2 ⊢
  cases L with
  | nil => cases hl
  | cons x l => simp only [h2, cond_true, hl]; rfl
end Go.E.FF

namespace Go.E.FF
open Go.Proofs
set_option maxRecDepth 100000
theorem eqp22n (x y : Operand) : eBin Tryz.prog .eql 22 x y (.pointer none) (.pointer none) = some (.bool true) := by kernel_rfl
theorem b41m (a b : Nat) : eBuild Tryz.prog 41 [(0, .map (some a)), (1, .map (some b))] = some (.agg ⟨[.map (some a), .map (some b), .slice none 0 0]⟩) := by kernel_rfl
theorem body26 : hasBody Tryz.prog 26 = true := by kernel_rfl
theorem keys_x69 {X : Ctx} {s : ES} {a : Addr} (h25 : X.x 25 = 6) (h69 : X.x 69 = 7) : eCallFunc Tryz.prog X 25 [.func (.func 69) ⟨[]⟩ ⟨[.pointer (some a)]⟩] s = .ok (.keys 25 69 a) s := by
  unfold eCallFunc
  rw [h25]
  have : hasBody Tryz.prog 25 = true := by kernel_rfl
  simp only [this, cond_true]
  unfold eKeysFn
  simp only [h69]
  rfl
theorem keys_run69 {st : Tr EObj} {n : Nat} {lg : List Nat} {ob : Nat} : (⟨aKeys 69 (.map (some ob)), wf_aKeys 69 (.map (some ob))⟩ : WM).run ⟨st, n, lg⟩ = .ok (.func (.func 69) ⟨[]⟩ ⟨[.pointer (some ⟨n, 0, none⟩)]⟩) ⟨st.upd n (some (.kcell (.map (some ob)))), n + 1, lg⟩ := rfl
section
variable {X : Ctx} {st : Tr EObj} {n : Nat} {lg : List Nat}
theorem define_nil {nm expr : ByteArray} : Exq Tryz.prog X (.call 6 [.pointer none, .string nm, .string expr] .no) ⟨st, n, lg⟩ (fun o => ∃ st' n' lg', o = .ret (.int .i64 1) .no ⟨st', n', lg'⟩ ∧ n ≤ n' ∧ ∀ m, m < n → st'.get m = st.get m) := by
  refine ex_callK Tryz.func6 rfl rfl rfl fun a K => ?_
  show Exq _ _ _ _ _
  repeat refine ex_seq ?_
  refine ex_region ?_
  refine g_box K rfl rfl rfl fun a K => ?_
  refine g_box K rfl rfl rfl fun a K => ?_
  refine g_assign K rfl rfl fun a K => ?_
  refine g_end ?_
  show Exq _ _ _ _ _
  repeat refine ex_seq ?_
  refine ex_region ?_
  refine g_load1 K rfl rfl agg22 siz22 (by repeat (first | exact get_upd_eq _ _ _ | assumption | refine (get_upd_ne _ _ (by omega)).trans ?_)) rfl fun a K => ?_
  refine g_binOp K rfl rfl rfl (eqp22n _ _) fun a K => ?_
  refine g_end ?_
  show Exq _ _ _ _ _
  repeat refine ex_seq ?_
  refine k_cond (t := true) K rfl ?_
  show Exq _ _ _ _ _
  repeat refine ex_seq ?_
  refine ex_region ?_
  refine g_assign K rfl rfl fun a K => ?_
  refine g_end ?_
  show Exq _ _ _ _ _
  repeat refine ex_seq ?_
  refine ex_ret ?_
  (repeat first | rw [seqK_ret] | rw [blockK_ret] | rw [loopK_ret])
  refine leave K rfl (res_tmp K rfl res_nil) ?_
  exact ⟨_, _, _, rfl, (by (try dsimp only); omega), (by intro m hm ; (try dsimp only); repeat (first | rfl | refine (get_upd_ne _ _ (by omega)).trans ?_))⟩

theorem namesNil : Exq Tryz.prog X (.call 9 [.pointer none] .no) ⟨st, n, lg⟩ (· = .ret (.slice none 0 0) .no ⟨st, n, lg⟩) := by
  refine ex_callK Tryz.func9 rfl rfl rfl fun a K => ?_
  show Exq _ _ _ _ _
  repeat refine ex_seq ?_
  refine ex_region ?_
  refine g_assign K rfl rfl fun a K => ?_
  refine g_end ?_
  show Exq _ _ _ _ _
  repeat refine ex_seq ?_
  refine ex_region ?_
  refine g_move K rfl rfl fun a K => ?_
  refine g_binOp K rfl rfl rfl (eqp22n _ _) fun a K => ?_
  refine g_end ?_
  show Exq _ _ _ _ _
  repeat refine ex_seq ?_
  refine k_cond (t := true) K rfl ?_
  show Exq _ _ _ _ _
  repeat refine ex_seq ?_
  refine ex_region ?_
  refine g_assign K rfl rfl fun a K => ?_
  refine g_end ?_
  show Exq _ _ _ _ _
  repeat refine ex_seq ?_
  refine ex_ret ?_
  (repeat first | rw [seqK_ret] | rw [blockK_ret] | rw [loopK_ret])
  refine leave K rfl (res_tmp K rfl res_nil) ?_
  rfl

theorem cloneNil : Exq Tryz.prog X (.call 14 [.pointer none] .no) ⟨st, n, lg⟩ (· = .ret (.pointer none) .no ⟨st, n, lg⟩) := by
  refine ex_callK Tryz.func14 rfl rfl rfl fun a K => ?_
  show Exq _ _ _ _ _
  repeat refine ex_seq ?_
  refine ex_region ?_
  refine g_assign K rfl rfl fun a K => ?_
  refine g_end ?_
  show Exq _ _ _ _ _
  repeat refine ex_seq ?_
  refine ex_region ?_
  refine g_move K rfl rfl fun a K => ?_
  refine g_binOp K rfl rfl rfl (eqp22n _ _) fun a K => ?_
  refine g_end ?_
  show Exq _ _ _ _ _
  repeat refine ex_seq ?_
  refine k_cond (t := true) K rfl ?_
  show Exq _ _ _ _ _
  repeat refine ex_seq ?_
  refine ex_region ?_
  refine g_assign K rfl rfl fun a K => ?_
  refine g_end ?_
  show Exq _ _ _ _ _
  repeat refine ex_seq ?_
  refine ex_ret ?_
  (repeat first | rw [seqK_ret] | rw [blockK_ret] | rw [loopK_ret])
  refine leave K rfl (res_tmp K rfl res_nil) ?_
  rfl

theorem new_nil : Exq Tryz.prog X (.call 4 [.slice none 0 0] .no) ⟨st, n, lg⟩ (· = .ret (.pointer (some ⟨n + 1 + 1, 0, none⟩)) .no
    ⟨((st.upd n (some (.map [] 0))).upd (n + 1) (some (.map [] 0))).upd (n + 1 + 1) (some (.cells [.map (some n), .map (some (n + 1)), .slice none 0 0] 41)), n + 1 + 1 + 1, lg⟩) := by
  refine ex_callK Tryz.func4 rfl rfl rfl fun a K => ?_
  show Exq _ _ _ _ _
  repeat refine ex_seq ?_
  refine ex_region ?_
  refine g_assign K rfl rfl fun a K => ?_
  refine g_end ?_
  show Exq _ _ _ _ _
  repeat refine ex_seq ?_
  refine ex_region ?_
  refine g_makeMap K rfl fun a K => ?_
  refine g_makeMap K rfl fun a K => ?_
  refine g_build K rfl rfl (b41m _ _) fun a K => ?_
  refine g_box K rfl rfl rfl fun a K => ?_
  refine g_assign K rfl rfl fun a K => ?_
  refine g_end ?_
  show Exq _ _ _ _ _
  repeat refine ex_seq ?_
  refine ex_region ?_
  refine g_move K rfl rfl fun a K => ?_
  refine g_builtin K rfl rfl (rfl) fun a K => ?_
  refine g_move K rfl rfl fun a K => ?_
  refine g_end ?_
  show Exq _ _ _ _ _
  repeat refine ex_seq ?_
  refine ex_block ?_
  refine ex_loop ?_
  show Exq _ _ _ _ _
  repeat refine ex_seq ?_
  refine ex_region ?_
  refine g_binOp K rfl rfl rfl (rfl) fun a K => ?_
  refine g_end ?_
  show Exq _ _ _ _ _
  repeat refine ex_seq ?_
  refine k_cond (t := false) K rfl ?_
  refine ex_exit ?_
  (repeat first | rw [seqK_normal] | rw [blockK_normal] | rw [loopK_normal] | rw [seqK_exit] | rw [loopK_exit] | rw [blockK_exit])
  show Exq _ _ _ _ _
  repeat refine ex_seq ?_
  refine ex_region ?_
  refine g_move K rfl rfl fun a K => ?_
  refine g_assign K rfl rfl fun a K => ?_
  refine g_end ?_
  show Exq _ _ _ _ _
  repeat refine ex_seq ?_
  refine ex_ret ?_
  (repeat first | rw [seqK_ret] | rw [blockK_ret] | rw [loopK_ret])
  refine leave K rfl (res_tmp K rfl res_nil) ?_
  rfl

variable (h26 : X.x 26 = 9) (hh26 : ∀ ob, X.h 26 [.map (some ob)] = some ⟨aKeys 69 (.map (some ob)), wf_aKeys 69 (.map (some ob))⟩) (h25 : X.x 25 = 6) (h69 : X.x 69 = 7)
include h26 hh26 h25 h69
theorem names_w {sh db w : Nat} {v0 ch : Value} {e0 : TypeId} (hw : w < 256) (hsh : st.get sh = some (.cells [v0, .map (some db), ch] e0)) (hdb : st.get db = some (.map (segW w) 256)) (b1 : sh < n) (b2 : db < n) :
    Exq Tryz.prog X (.call 9 [.pointer (some ⟨sh, 0, none⟩)] .no) ⟨st, n, lg⟩ (fun o => ∃ r st' n' lg', o = .ret (.slice (some ⟨r, 0, none⟩) 256 0) .no ⟨st', n', lg'⟩ ∧ n ≤ n' ∧ ∀ m, m < n → st'.get m = st.get m) := by
  refine ex_callK Tryz.func9 rfl rfl rfl fun a K => ?_
  show Exq _ _ _ _ _
  repeat refine ex_seq ?_
  refine ex_region ?_
  refine g_assign K rfl rfl fun a K => ?_
  refine g_end ?_
  show Exq _ _ _ _ _
  repeat refine ex_seq ?_
  refine ex_region ?_
  refine g_move K rfl rfl fun a K => ?_
  refine g_binOp K rfl rfl rfl (eqp22 _ _ _) fun a K => ?_
  refine g_end ?_
  show Exq _ _ _ _ _
  repeat refine ex_seq ?_
  refine k_cond (t := false) K rfl ?_
  refine ex_skip ?_
  show Exq _ _ _ _ _
  repeat refine ex_seq ?_
  refine ex_region ?_
  refine g_move K rfl rfl fun a K => ?_
  refine g_nilCheck K rfl rfl fun a K => ?_
  refine g_fieldAddr K rfl rfl (fa41_1 _) fun a K => ?_
  refine g_load1 K rfl rfl agg39 siz39 (by repeat (first | exact get_upd_eq _ _ _ | assumption | refine (get_upd_ne _ _ (by omega)).trans ?_)) rfl fun a K => ?_
  refine g_callh K rfl rfl rfl h26 body26 (hh26 _) (keys_run69) fun a K => ?_
  refine g_callk K rfl rfl rfl (keys_x69 h25 h69) (elem25') (sorted_w hw (by repeat (first | exact get_upd_eq _ _ _ | assumption | refine (get_upd_ne _ _ (by omega)).trans ?_)) (by repeat (first | exact get_upd_eq _ _ _ | assumption | refine (get_upd_ne _ _ (by omega)).trans ?_))) fun a K => ?_
  refine g_assign K rfl rfl fun a K => ?_
  refine g_end ?_
  show Exq _ _ _ _ _
  repeat refine ex_seq ?_
  refine ex_ret ?_
  (repeat first | rw [seqK_ret] | rw [blockK_ret] | rw [loopK_ret])
  refine leave K rfl (res_tmp K rfl res_nil) ?_
  exact ⟨_, _, _, _, rfl, (by (try dsimp only); omega), (by intro m hm ; (try dsimp only); repeat (first | rfl | refine (get_upd_ne _ _ (by omega)).trans ?_))⟩

end
end Go.E.FF

namespace Go.E.FF
open Go.Proofs
set_option maxRecDepth 100000
noncomputable def ffL : Code := match Tryz.f3.body with
  | some (.seq _ (.seq _ (.seq _ (.seq (.seq _ (.block _ (.loop L))) _)))) => L
  | _ => .skip
theorem body5 : hasBody Tryz.prog 5 = true := by kernel_rfl
theorem body8 : hasBody Tryz.prog 8 = true := by kernel_rfl
theorem body10 : hasBody Tryz.prog 10 = true := by kernel_rfl
theorem body11 : hasBody Tryz.prog 11 = true := by kernel_rfl
theorem body12 : hasBody Tryz.prog 12 = true := by kernel_rfl
theorem body13 : hasBody Tryz.prog 13 = true := by kernel_rfl
theorem known_f : XF.m 5 [] = some (.bool true) := by kernel_rfl
theorem val_n : XF.m 8 [.pointer none, .string ⟨⟨[97]⟩⟩] = some (.tuple #[(.agg #[(.int .i64 0), (.int .i64 0), (.string ⟨⟨[]⟩⟩)]), (.int .i64 1)]) := by kernel_rfl
theorem rem_n : XF.m 10 [.pointer none, .string ⟨⟨[97]⟩⟩] = some (.int .i64 1) := by kernel_rfl
theorem cyc_n : XF.m 11 [.pointer none] = some (.slice none 0 0) := by kernel_rfl
theorem ord_n : XF.m 12 [.pointer none] = some (.slice none 0 0) := by kernel_rfl
theorem chg_n : XF.m 13 [.pointer none] = some (.slice none 0 0) := by kernel_rfl
theorem lim256 : ile 256 (Int.ofNat (seg 0 256).length) = true := by rw [seg_length]; rfl
theorem put_w' {w : Nat} (h : w < 256) : putAt (seg 0 256) (0 + (seg 0 w).length) ⟨.string (nmJ w), .agg ⟨[.int .i64 1, .int .i64 2, .string ⟨⟨[]⟩⟩, .slice none 0 0]⟩, w⟩ = segW w := put_w h
theorem wrap_n {a : Nat} (h : a < 9223372036854775808) : ewrap .i64 (Int.ofNat a) = Int.ofNat a := by
  unfold ewrap
  have h1 : ile (lo .i64) (Int.ofNat a) = true := rfl
  have h2 : ile (Int.ofNat a) (hi .i64) = true := by
    show Nat.ble a _ = true
    rw [Nat.ble_eq]
    exact Nat.le_of_lt_succ h
  rw [h1, h2]; rfl
theorem und5 : (und Tryz.prog 5).isSome = true := by kernel_rfl
theorem und3 : und Tryz.prog 3 = some (.int .i64) := by kernel_rfl
theorem conv53 {w : Nat} {s : ES} (h : w < 256) : eConvert Tryz.prog 5 3 (.int .u8 (Int.ofNat w)) s = .ok (.int .i64 (Int.ofNat w)) s := by
  unfold eConvert
  obtain ⟨u, hu⟩ := Option.isSome_iff_exists.1 und5
  rw [hu, und3]
  simp only [wrap_n (show w < 9223372036854775808 by omega)]
  rfl
theorem dec_len (j : Nat) : (bytes (dec j)).length ≤ 3 := by
  unfold dec
  cases h1 : j.blt 10 with
  | true => exact (by decide : 1 ≤ 3)
  | false =>
    cases h2 : j.blt 100 with
    | true => exact (by decide : 2 ≤ 3)
    | false => exact (by decide : 3 ≤ 3)
theorem add_name {j : Nat} {t : TypeId} {x y : Operand} (h : j < 256) : eBin Tryz.prog .add t x y (.string ⟨⟨[110]⟩⟩) (.string (dec j)) = some (.string (nmJ j)) := by
  show eStr .add _ _ = _
  unfold eStr
  simp only
  have : (Nat.add (bytes ⟨⟨[110]⟩⟩).length (bytes (dec j)).length).ble 4611686018427387904 = true := by
    rw [Nat.ble_eq]
    have := dec_len j
    show 1 + (bytes (dec j)).length ≤ _
    omega
  rw [this]
  rfl
/-- the sheet behind j definitions -/
def Inv (j : Nat) (st : Tr EObj) (n : Nat) : Prop := 3 ≤ n ∧ st.get 1 = some (.map (seg 0 j) j) ∧ st.get 0 = some (.map [] 0) ∧
  ((j = 0 ∧ st.get 2 = some (.cells [.map (some 0), .map (some 1), .slice none 0 0] 41)) ∨
    (0 < j ∧ ∃ c x e0, 3 ≤ c ∧ c < n ∧ st.get c = some (.cells [.string x] e0) ∧ st.get 2 = some (.cells [.map (some 0), .map (some 1), .slice (some ⟨c, 0, none⟩) 1 0] 41)))
section
variable {st : Tr EObj} {n : Nat} {lg : List Nat} {s : ES}
theorem inv0 : Inv 0 ((((Tr.nil : Tr EObj).upd 0 (some (.map [] 0))).upd (0 + 1) (some (.map [] 0))).upd (0 + 1 + 1) (some (.cells [.map (some 0), .map (some (0 + 1)), .slice none 0 0] 41))) (0 + 1 + 1 + 1) :=
  ⟨by decide, (get_upd_ne _ _ (by decide)).trans (get_upd_eq _ _ _), (get_upd_ne _ _ (by decide)).trans ((get_upd_ne _ _ (by decide)).trans (get_upd_eq _ _ _)), .inl ⟨rfl, get_upd_eq _ _ _⟩⟩
theorem h256 {e : Ex} {s : ES} {R : Prop} (h : e = .exit 0 ∧ R ∧ ∃ st' n' lg', s = ⟨st', n', lg'⟩ ∧ Inv 256 st' n') :
    e = .exit 0 ∧ R ∧ ∃ st' n' lg', s = ⟨st', n', lg'⟩ ∧ 3 ≤ n' ∧ st'.get 1 = some (.map (seg 0 256) 256) ∧ st'.get 0 = some (.map [] 0) ∧ ∃ c x e0, 3 ≤ c ∧ c < n' ∧ st'.get c = some (.cells [.string x] e0) ∧ st'.get 2 = some (.cells [.map (some 0), .map (some 1), .slice (some ⟨c, 0, none⟩) 1 0] 41) := by
  obtain ⟨h1, h2, st', n', lg', h3, h4, h5, h6, h7⟩ := h
  rcases h7 with ⟨h, _⟩ | ⟨_, h8⟩
  · cases h
  · exact ⟨h1, h2, st', n', lg', h3, h4, h5, h6, h8⟩
theorem define_step {j : Nat} (hj : j < 256) (hI : Inv j st n) : Exq Tryz.prog XF (.call 6 [.pointer (some ⟨2, 0, none⟩), .string (nmJ j), .string ⟨⟨[49]⟩⟩] .no) ⟨st, n, lg⟩
    (fun o => ∃ st' n' lg', o = .ret (.int .i64 0) .no ⟨st', n', lg'⟩ ∧ Inv (j + 1) st' n') := by
  obtain ⟨h3, hdb, hvb, h⟩ := hI
  have hg := (names_at hj).1
  have hl : ile 256 (Int.ofNat (seg 0 j).length) = false := by
    rw [seg_length, ile_false]
    exact Int.ofNat_lt.2 hj
  have ok2 : (seg 0 j ++ [ent j]).all (okE (j + 1)) = true := by rw [← seg_succ]; exact okE_seg (by omega)
  have fin : ∀ o, (∃ st' n' lg' c', o = Out.ret (.int .i64 0) .no ⟨st', n', lg'⟩ ∧ n ≤ n' ∧ n ≤ c' ∧ c' < n' ∧ st'.get 2 = some (.cells [.map (some 0), .map (some 1), .slice (some ⟨c', 0, none⟩) 1 0] 41) ∧ st'.get c' = some (.cells [.string (nmJ j)] 9) ∧ st'.get 1 = some (.map (seg 0 j ++ [ent j]) (j + 1)) ∧ st'.get 0 = some (.map [] 0)) →
      ∃ st' n' lg', o = .ret (.int .i64 0) .no ⟨st', n', lg'⟩ ∧ Inv (j + 1) st' n' := by
    rintro o ⟨st', n', lg', c', rfl, q1, q2, q3, q4, q5, q6, q7⟩
    exact ⟨st', n', lg', rfl, by omega, by rw [q6, seg_succ], q7, .inr ⟨by omega, c', _, _, by omega, q3, q5, q4⟩⟩
  rcases h with ⟨rfl, hsh⟩ | ⟨hpos, c, x, e0, c1, c2, hcx, hsh⟩
  · exact (define_new_nil rfl names_f rfl eval_f rfl rfl rfl rfl rfl rfl rfl rfl rfl (fun _ _ _ => rfl) rfl (fun _ => rfl) rfl rfl rfl rfl rfl rfl rfl rfl (k := 1) hsh hdb hvb (by omega) (by omega) (by omega) (by omega) (by omega) (by omega) (good_f hg) parse_1 (.inl rfl) (find_new hj) hl (good_len hg) (okE_seg (by omega)) ok2 (find_last hj)).mono fin
  · exact (define_new_one rfl names_f rfl eval_f rfl rfl rfl rfl rfl rfl rfl rfl rfl (fun _ _ _ => rfl) rfl (fun _ => rfl) rfl rfl rfl rfl rfl rfl rfl rfl (k := 1) hcx c2 hsh hdb hvb (by omega) (by omega) (by omega) (by omega) (by omega) (by omega) (by omega) (good_f hg) parse_1 (.inl rfl) (find_new hj) hl (good_len hg) (okE_seg (by omega)) ok2 (find_last hj)).mono fin
theorem ff_iter {j w : Nat} {a : Fr} (K : Kn 85 [] .no ((4, .int .i64 (Int.ofNat j)) :: [(3, .pointer (some ⟨2, 0, none⟩)), (0, .int .u8 (Int.ofNat w))]) a) (hj : j < 256) (hI : Inv j st n) :
    Exq Tryz.prog XF (.code ffL none a) ⟨st, n, lg⟩ (fun o => match o with
      | .code e a' s' => e = .normal ∧ Kn 85 [] .no ((4, .int .i64 (Int.ofNat (j + 1))) :: [(3, .pointer (some ⟨2, 0, none⟩)), (0, .int .u8 (Int.ofNat w))]) a' ∧ ∃ st' n' lg', s' = ⟨st', n', lg'⟩ ∧ Inv (j + 1) st' n'
      | _ => False) := by
  show Exq _ _ _ _ _
  repeat refine ex_seq ?_
  refine ex_region ?_
  refine g_move K rfl rfl fun a K => ?_
  refine g_binOp K rfl rfl rfl (lss_t (b := 256) hj) fun a K => ?_
  refine g_end ?_
  show Exq _ _ _ _ _
  repeat refine ex_seq ?_
  refine k_cond (t := true) K rfl ?_
  refine ex_skip ?_
  show Exq _ _ _ _ _
  repeat refine ex_seq ?_
  refine ex_block ?_
  show Exq _ _ _ _ _
  repeat refine ex_seq ?_
  refine ex_region ?_
  refine g_move K rfl rfl fun a K => ?_
  refine g_move K rfl rfl fun a K => ?_
  refine g_calls K rfl rfl rfl rfl body7 (dec_f hj) rfl fun a K => ?_
  refine g_binOp K rfl rfl rfl (add_name hj) fun a K => ?_
  refine g_callq K rfl rfl rfl rfl body6 ((define_step hj hI).mono ?_)
  rintro _ ⟨st1, n1, lg1, rfl, hI1⟩
  intro a K
  refine g_binOp K rfl rfl rfl (rfl) fun a K => ?_
  refine g_end ?_
  show Exq _ _ _ _ _
  repeat refine ex_seq ?_
  refine k_cond (t := false) K rfl ?_
  refine ex_skip ?_
  (repeat first | rw [seqK_normal] | rw [blockK_normal] | rw [loopK_normal] | rw [seqK_exit] | rw [loopK_exit] | rw [blockK_exit])
  show Exq _ _ _ _ _
  repeat refine ex_seq ?_
  refine ex_region ?_
  refine g_move K rfl rfl fun a K => ?_
  refine g_binOp K rfl rfl rfl (add_n (b := 1) (by omega)) fun a K => ?_
  refine g_assign K rfl rfl fun a K => ?_
  refine g_end ?_
  exact ⟨rfl, K.sub ⟨rfl, rfl, rfl, trivial⟩, _, _, _, rfl, hI1⟩

theorem ff_out {w : Nat} {a : Fr} (K : Kn 85 [] .no ((4, .int .i64 (Int.ofNat 256)) :: [(3, .pointer (some ⟨2, 0, none⟩)), (0, .int .u8 (Int.ofNat w))]) a) :
    Exq Tryz.prog XF (.code ffL none a) s (fun o => match o with
      | .code e a' s' => e = .exit 0 ∧ Kn 85 [] .no [(3, .pointer (some ⟨2, 0, none⟩)), (0, .int .u8 (Int.ofNat w))] a' ∧ s' = s
      | _ => False) := by
  show Exq _ _ _ _ _
  repeat refine ex_seq ?_
  refine ex_region ?_
  refine g_move K rfl rfl fun a K => ?_
  refine g_binOp K rfl rfl rfl (lss_f (b := 256) (Nat.le_refl _)) fun a K => ?_
  refine g_end ?_
  show Exq _ _ _ _ _
  repeat refine ex_seq ?_
  refine k_cond (t := false) K rfl ?_
  refine ex_exit ?_
  exact ⟨rfl, K.sub ⟨rfl, rfl, trivial⟩, rfl⟩

theorem ff_loop {w : Nat} : ∀ (k : Nat) {j : Nat} {a : Fr} {st : Tr EObj} {n : Nat} {lg : List Nat}, j + k = 256 → Kn 85 [] .no ((4, .int .i64 (Int.ofNat j)) :: [(3, .pointer (some ⟨2, 0, none⟩)), (0, .int .u8 (Int.ofNat w))]) a → Inv j st n →
    Exq Tryz.prog XF (.code (.loop ffL) none a) ⟨st, n, lg⟩ (fun o => match o with
      | .code e a' s' => e = .exit 0 ∧ Kn 85 [] .no [(3, .pointer (some ⟨2, 0, none⟩)), (0, .int .u8 (Int.ofNat w))] a' ∧ ∃ st' n' lg', s' = ⟨st', n', lg'⟩ ∧ Inv 256 st' n'
      | _ => False)
  | 0, j, a, st, n, lg, hi, K, hI => by
    obtain rfl : j = 256 := by omega
    refine ex_loop ((ff_out K).mono fun o h => ?_)
    cases o with
    | code e a s => obtain ⟨rfl, K, rfl⟩ := h; exact ⟨rfl, K, _, _, _, rfl, hI⟩
    | _ => exact h.elim
  | k + 1, j, a, st, n, lg, hi, K, hI => by
    refine ex_loop ((ff_iter K (by omega) hI).mono fun o h => ?_)
    cases o with
    | code e a s =>
      obtain ⟨rfl, K, st', n', lg', rfl, hI⟩ := h
      exact ff_loop k (by omega) K hI
    | _ => exact h.elim

theorem ff_run {w : Nat} (hw : w < 256) : Exq Tryz.prog XF (.call 3 [.int .u8 (Int.ofNat w)] .no) s0 (fun o => ∃ pk s', o = .ret (.bool true) pk s') := by
  refine ex_callK Tryz.func3 rfl rfl rfl fun a K => ?_
  show Exq _ _ _ _ _
  repeat refine ex_seq ?_
  refine ex_region ?_
  refine g_assign K rfl rfl fun a K => ?_
  refine g_end ?_
  show Exq _ _ _ _ _
  repeat refine ex_seq ?_
  refine ex_region ?_
  refine g_callv K rfl rfl rfl rfl body4 ((new_nil (X := XF)).run) fun a K => ?_
  refine g_assign K rfl rfl fun a K => ?_
  refine g_end ?_
  show Exq _ _ _ _ _
  repeat refine ex_seq ?_
  refine ex_region ?_
  refine g_calls K rfl rfl rfl rfl body5 (known_f) rfl fun a K => ?_
  refine g_unOp K rfl rfl rfl fun a K => ?_
  refine g_move K rfl rfl fun a K => ?_
  refine g_if K rfl rfl rfl ?_
  refine g_move K rfl rfl fun a K => ?_
  refine g_if K rfl rfl rfl ?_
  refine g_binOp K rfl rfl rfl (eqp22 _ _ _) fun a K => ?_
  refine g_pick K rfl rfl rfl fun a K => ?_
  refine g_end ?_
  show Exq _ _ _ _ _
  repeat refine ex_seq ?_
  refine k_cond (t := false) K rfl ?_
  refine ex_skip ?_
  show Exq _ _ _ _ _
  repeat refine ex_seq ?_
  refine ex_region ?_
  refine g_assign K rfl rfl fun a K => ?_
  refine g_end ?_
  show Exq _ _ _ _ _
  repeat refine ex_seq ?_
  refine ex_block ?_
  refine (ff_loop (w := w) 256 (j := 0) rfl (K.sub ⟨rfl, rfl, rfl, trivial⟩) inv0).mono ?_
  intro o h
  cases o with
  | code e a s =>
    obtain ⟨rfl, K, st, n, lg, rfl, i0, i1, i2, c, x, e0, i3, i4, i5, i6⟩ := h256 h
    (repeat first | rw [seqK_normal] | rw [blockK_normal] | rw [loopK_normal] | rw [seqK_exit] | rw [loopK_exit] | rw [blockK_exit])
    show Exq _ _ _ _ _
    repeat refine ex_seq ?_
    refine ex_region ?_
    refine g_assign K rfl rfl fun a K => ?_
    refine g_end ?_
    show Exq _ _ _ _ _
    repeat refine ex_seq ?_
    refine ex_region ?_
    refine g_move K rfl rfl fun a K => ?_
    refine g_calls K rfl rfl rfl rfl body8 (val_n) rfl fun a K => ?_
    refine g_move K rfl rfl fun a K => ?_
    refine g_extract K rfl rfl rfl rfl fun a K => ?_
    refine g_extract K rfl rfl rfl rfl fun a K => ?_
    refine g_alloc K rfl zer29 fun a K => ?_
    refine g_store K rfl rfl siz29 rfl (by repeat (first | exact get_upd_eq _ _ _ | assumption | refine (get_upd_ne _ _ (by omega)).trans ?_)) rfl rfl ?_
    refine g_assign K rfl rfl fun a K => ?_
    refine g_end ?_
    show Exq _ _ _ _ _
    repeat refine ex_seq ?_
    refine ex_region ?_
    refine g_move K rfl rfl fun a K => ?_
    refine g_callq K rfl rfl rfl rfl body6 ((define_limit_one rfl names_f rfl eval_f rfl rfl rfl rfl rfl rfl rfl rfl rfl (fun _ _ _ => rfl) rfl (fun _ => rfl) rfl rfl rfl rfl rfl rfl rfl rfl (sh := 2) (vb := 0) (db := 1) (k := 1) (ck := 256) (es := seg 0 256) (c := c) (x := x) (e0 := e0) (by repeat (first | exact get_upd_eq _ _ _ | assumption | refine (get_upd_ne _ _ (by omega)).trans ?_)) (by omega) (by repeat (first | exact get_upd_eq _ _ _ | assumption | refine (get_upd_ne _ _ (by omega)).trans ?_)) (by repeat (first | exact get_upd_eq _ _ _ | assumption | refine (get_upd_ne _ _ (by omega)).trans ?_)) (by repeat (first | exact get_upd_eq _ _ _ | assumption | refine (get_upd_ne _ _ (by omega)).trans ?_)) (by omega) (by omega) (by omega) (by omega) (by omega) (by omega) (by omega) (good_f more_good) parse_1 find_more lim256 (i2 := 0) (bo2 := 0) (key2 := undef)).mono ?_)
    rintro _ ⟨st1, n1, lg1, rfl, hn1, hk1⟩
    intro a K
    refine g_binOp K rfl rfl rfl (rfl) fun a K => ?_
    refine g_move K rfl rfl fun a K => ?_
    refine g_if K rfl rfl rfl ?_
    refine g_move K rfl rfl fun a K => ?_
    refine g_if K rfl rfl rfl ?_
    refine g_move K rfl rfl fun a K => ?_
    refine g_if K rfl rfl rfl ?_
    refine g_convert K rfl rfl (conv53 hw) fun a K => ?_
    refine g_if K rfl rfl rfl ?_
    refine g_calls K rfl rfl rfl rfl body7 (dec_f hw) rfl fun a K => ?_
    refine g_if K rfl rfl rfl ?_
    refine g_binOp K rfl rfl rfl (add_name hw) fun a K => ?_
    refine g_if K rfl rfl rfl ?_
    refine g_callq K rfl rfl rfl rfl body6 ((define_old_one rfl names_f rfl eval_f rfl rfl rfl rfl rfl rfl rfl rfl rfl (fun _ _ _ => rfl) rfl (fun _ => rfl) rfl rfl rfl rfl rfl rfl rfl rfl (sh := 2) (vb := 0) (db := 1) (ck := 256) (es := seg 0 256) (c := c) (x := x) (e0 := e0) (by repeat (first | exact get_upd_eq _ _ _ | assumption | refine (get_upd_ne _ _ (by omega)).trans ?_ | refine (hk1 _ (by omega)).trans ?_)) (by omega) (by repeat (first | exact get_upd_eq _ _ _ | assumption | refine (get_upd_ne _ _ (by omega)).trans ?_ | refine (hk1 _ (by omega)).trans ?_)) (by repeat (first | exact get_upd_eq _ _ _ | assumption | refine (get_upd_ne _ _ (by omega)).trans ?_ | refine (hk1 _ (by omega)).trans ?_)) (by repeat (first | exact get_upd_eq _ _ _ | assumption | refine (get_upd_ne _ _ (by omega)).trans ?_ | refine (hk1 _ (by omega)).trans ?_)) (by omega) (by omega) (by omega) (by omega) (by omega) (by omega) (by omega) (good_f (names_at hw).1) parse_2 (find_w hw) (good_len (names_at hw).1) (okE_seg (by omega)) (by rw [put_w' hw]; exact okE_segW hw) (by rw [put_w' hw]; exact find_w2 hw)).mono ?_)
    rintro _ ⟨st2, n2, lg2, c2, rfl, hn2, hc2, hc3, g1, g2, g3, g4⟩
    intro a K
    refine g_if K rfl rfl rfl ?_
    refine g_binOp K rfl rfl rfl (rfl) fun a K => ?_
    refine g_pick K rfl rfl rfl fun a K => ?_
    refine g_move K rfl rfl fun a K => ?_
    refine g_if K rfl rfl rfl ?_
    refine g_move K rfl rfl fun a K => ?_
    refine g_if K rfl rfl rfl ?_
    refine g_callq K rfl rfl rfl rfl body9 ((names_w rfl (fun _ => rfl) rfl rfl (w := w) (sh := 2) (db := 1) hw (by repeat (first | exact get_upd_eq _ _ _ | assumption | refine (get_upd_ne _ _ (by omega)).trans ?_ | refine (hk1 _ (by omega)).trans ?_)) (by rw [← put_w' hw]; assumption) (by omega) (by omega)).mono ?_)
    rintro _ ⟨r3, st3, n3, lg3, rfl, hn3, hk3⟩
    intro a K
    refine g_if K rfl rfl rfl ?_
    refine g_builtin K rfl rfl (rfl) fun a K => ?_
    refine g_if K rfl rfl rfl ?_
    refine g_binOp K rfl rfl rfl (rfl) fun a K => ?_
    refine g_pick K rfl rfl rfl fun a K => ?_
    refine g_move K rfl rfl fun a K => ?_
    refine g_if K rfl rfl rfl ?_
    refine g_move K rfl rfl fun a K => ?_
    refine g_if K rfl rfl rfl ?_
    refine g_callq K rfl rfl rfl rfl body6 ((define_nil).mono ?_)
    rintro _ ⟨st4, n4, lg4, rfl, hn4, hk4⟩
    intro a K
    refine g_if K rfl rfl rfl ?_
    refine g_binOp K rfl rfl rfl (rfl) fun a K => ?_
    refine g_pick K rfl rfl rfl fun a K => ?_
    refine g_move K rfl rfl fun a K => ?_
    refine g_if K rfl rfl rfl ?_
    refine g_move K rfl rfl fun a K => ?_
    refine g_if K rfl rfl rfl ?_
    refine g_calls K rfl rfl rfl rfl body10 (rem_n) rfl fun a K => ?_
    refine g_if K rfl rfl rfl ?_
    refine g_binOp K rfl rfl rfl (rfl) fun a K => ?_
    refine g_pick K rfl rfl rfl fun a K => ?_
    refine g_move K rfl rfl fun a K => ?_
    refine g_if K rfl rfl rfl ?_
    refine g_move K rfl rfl fun a K => ?_
    refine g_if K rfl rfl rfl ?_
    refine g_binOp K rfl rfl rfl (rfl) fun a K => ?_
    refine g_pick K rfl rfl rfl fun a K => ?_
    refine g_move K rfl rfl fun a K => ?_
    refine g_if K rfl rfl rfl ?_
    refine g_move K rfl rfl fun a K => ?_
    refine g_if K rfl rfl rfl ?_
    refine g_callv K rfl rfl rfl rfl body9 ((namesNil (X := XF)).run) fun a K => ?_
    refine g_if K rfl rfl rfl ?_
    refine g_builtin K rfl rfl (rfl) fun a K => ?_
    refine g_if K rfl rfl rfl ?_
    refine g_move K rfl rfl fun a K => ?_
    refine g_if K rfl rfl rfl ?_
    refine g_calls K rfl rfl rfl rfl body11 (cyc_n) rfl fun a K => ?_
    refine g_if K rfl rfl rfl ?_
    refine g_builtin K rfl rfl (rfl) fun a K => ?_
    refine g_if K rfl rfl rfl ?_
    refine g_binOp K rfl rfl rfl (rfl) fun a K => ?_
    refine g_if K rfl rfl rfl ?_
    refine g_move K rfl rfl fun a K => ?_
    refine g_if K rfl rfl rfl ?_
    refine g_calls K rfl rfl rfl rfl body12 (ord_n) rfl fun a K => ?_
    refine g_if K rfl rfl rfl ?_
    refine g_builtin K rfl rfl (rfl) fun a K => ?_
    refine g_if K rfl rfl rfl ?_
    refine g_binOp K rfl rfl rfl (rfl) fun a K => ?_
    refine g_if K rfl rfl rfl ?_
    refine g_move K rfl rfl fun a K => ?_
    refine g_if K rfl rfl rfl ?_
    refine g_calls K rfl rfl rfl rfl body13 (chg_n) rfl fun a K => ?_
    refine g_if K rfl rfl rfl ?_
    refine g_builtin K rfl rfl (rfl) fun a K => ?_
    refine g_if K rfl rfl rfl ?_
    refine g_binOp K rfl rfl rfl (rfl) fun a K => ?_
    refine g_if K rfl rfl rfl ?_
    refine g_binOp K rfl rfl rfl (rfl) fun a K => ?_
    refine g_pick K rfl rfl rfl fun a K => ?_
    refine g_move K rfl rfl fun a K => ?_
    refine g_if K rfl rfl rfl ?_
    refine g_move K rfl rfl fun a K => ?_
    refine g_if K rfl rfl rfl ?_
    refine g_callv K rfl rfl rfl rfl body14 ((cloneNil (X := XF)).run) fun a K => ?_
    refine g_if K rfl rfl rfl ?_
    refine g_binOp K rfl rfl rfl (eqp22n _ _) fun a K => ?_
    refine g_pick K rfl rfl rfl fun a K => ?_
    refine g_assign K rfl rfl fun a K => ?_
    refine g_end ?_
    show Exq _ _ _ _ _
    repeat refine ex_seq ?_
    refine ex_ret ?_
    (repeat first | rw [seqK_ret] | rw [blockK_ret] | rw [loopK_ret])
    refine leave K rfl (res_tmp K rfl res_nil) ?_
    exact ⟨_, _, rfl⟩
  | _ => exact h.elim

end
end Go.E.FF

