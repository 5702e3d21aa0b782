import Derived.Test.YthbkkpahoolhbaaGreatDoorEv01
import Derived.Laws.Cells
set_option linter.unusedSimpArgs false
set_option linter.unusedVariables false
set_option linter.unusedSectionVars false
namespace Go.E

/-! ### the map -/
theorem Tr.get_nil {α : Type} (m : Nat) : (Tr.nil : Tr α).get m = none := rfl

theorem getP_cons {α : Type} (v : Option α) (l r : Tr α) (b : Bool) (q : List Bool) : (Tr.node v l r).getP (b :: q) = (bif b then l else r).getP q := by cases b <;> rfl
theorem getP_nil {α : Type} (q : List Bool) : (Tr.nil : Tr α).getP q = none := rfl
theorem updP_nil {α : Type} (b : Bool) (p : List Bool) (o : Option α) : Tr.updP (b :: p) .nil o = bif b then .node none (Tr.updP p .nil o) .nil else .node none .nil (Tr.updP p .nil o) := by cases b <;> rfl
theorem updP_node {α : Type} (b : Bool) (p : List Bool) (v : Option α) (l r : Tr α) (o : Option α) : Tr.updP (b :: p) (.node v l r) o = bif b then .node v (Tr.updP p l o) r else .node v l (Tr.updP p r o) := by cases b <;> rfl
theorem getP_updP {α : Type} (o : Option α) : ∀ (p : List Bool) (t : Tr α) (q : List Bool), (Tr.updP p t o).getP q = if q = p then o else t.getP q
  | [], t, q => by
    cases t <;> cases q <;> first | rfl | (rename_i b q; cases b <;> rfl)
  | b :: p, t, q => by
    have ih := getP_updP o p
    cases t with
    | nil =>
      rw [updP_nil]
      cases q with
      | nil => cases b <;> rfl
      | cons c q => cases b <;> cases c <;> simp only [cond_true, cond_false, getP_cons, getP_nil, ih, List.cons.injEq, true_and, Bool.false_eq_true, Bool.true_eq_false, false_and, if_false]
    | node v l r =>
      rw [updP_node]
      cases q with
      | nil => cases b <;> rfl
      | cons c q => cases b <;> cases c <;> simp only [cond_true, cond_false, getP_cons, ih, List.cons.injEq, true_and, Bool.false_eq_true, Bool.true_eq_false, false_and, if_false]

def pval : List Bool → Nat
  | [] => 0
  | true :: p => 2 * pval p + 1
  | false :: p => 2 * pval p + 2
theorem pval_path : ∀ (f n : Nat), n ≤ f → pval (pathF f n) = n
  | 0, n, h => by simp [pathF, pval]; omega
  | f + 1, n, h => by
    have hmod : ∀ x, Nat.mod x 2 = x % 2 := fun _ => rfl
    have hdiv : ∀ x, Nat.div x 2 = x / 2 := fun _ => rfl
    simp only [pathF, Bool.cond_eq_ite, Nat.beq_eq, hmod, hdiv, Nat.pred_eq_sub_one]
    by_cases h0 : n = 0
    · simp [h0, pval]
    · by_cases h1 : n % 2 = 1
      · simp only [h0, h1, if_false, if_true, pval]; rw [pval_path f (n / 2) (by omega)]; omega
      · simp only [h0, h1, if_false, pval]; rw [pval_path f (n / 2 - 1) (by omega)]; omega
theorem path_inj {n m : Nat} (h : path n = path m) : n = m := by
  rw [← pval_path n n (Nat.le_refl _), ← pval_path m m (Nat.le_refl _)]
  exact congrArg pval h

theorem Tr.get_upd {α : Type} (t : Tr α) (n m : Nat) (o : Option α) : (t.upd n o).get m = if m = n then o else t.get m := by
  unfold Tr.get Tr.upd
  rw [getP_updP]
  by_cases h : m = n
  · simp [h]
  · rw [if_neg h, if_neg fun hh => h (path_inj hh)]

/-! ### what an E-action does to names: 'Wf' -/

theorem wf_ret {α : Type} (a : α) : Wf (EM.ret a) := by
  intro s b s' h; simp only [EM.ret, Res.ok.injEq] at h; obtain ⟨_, rfl⟩ := h
  exact ⟨Nat.le_refl _, [], rfl, fun _ _ _ => rfl⟩
theorem wf_bad {α : Type} (w : String) : Wf (bad w : EM α) := by
  intro s b s' h; simp [bad] at h
theorem wf_eget (n : Nat) : Wf (eget n) := by
  intro s b s' h
  unfold eget at h; split at h
  · simp only [Res.ok.injEq] at h; obtain ⟨_, rfl⟩ := h; exact ⟨Nat.le_refl _, [], rfl, fun _ _ _ => rfl⟩
  · simp at h
theorem wf_eset (n : Nat) (o : EObj) : Wf (eset n o) := by
  intro s b s' h
  unfold eset at h; split at h
  · simp only [Res.ok.injEq] at h; obtain ⟨_, rfl⟩ := h
    refine ⟨Nat.le_refl _, [n], rfl, fun m _ hm => ?_⟩
    simp only [List.mem_singleton] at hm
    simp [Tr.get_upd, hm]
  · simp at h
theorem wf_edel (n : Nat) : Wf (edel n) := by
  intro s b s' h
  unfold edel at h; split at h
  · simp only [Res.ok.injEq] at h; obtain ⟨_, rfl⟩ := h
    refine ⟨Nat.le_refl _, [n], rfl, fun m _ hm => ?_⟩
    simp only [List.mem_singleton] at hm
    simp [Tr.get_upd, hm]
  · simp at h
theorem wf_enew (o : EObj) : Wf (enew o) := by
  intro s b s' h
  unfold enew at h
  simp only [Res.ok.injEq] at h; obtain ⟨_, rfl⟩ := h
  refine ⟨Nat.le_succ _, [], rfl, fun m hm _ => ?_⟩
  have hne : m ≠ s.nx := by simp only at hm; omega
  simp [Tr.get_upd, hne]
theorem wf_bnd {α β : Type} {m : EM α} {f : α → EM β} (hm : Wf m) (hf : ∀ a, Wf (f a)) : Wf (m.bnd f) := by
  intro s b s' h
  unfold EM.bnd at h
  split at h
  · rename_i a s1 h1
    obtain ⟨l1, L1, e1, k1⟩ := hm _ _ _ h1
    obtain ⟨l2, L2, e2, k2⟩ := hf a _ _ _ h
    refine ⟨Nat.le_trans l1 l2, L2 ++ L1, by rw [e2, e1, List.append_assoc], fun n hn hL => ?_⟩
    simp only [List.mem_append, not_or] at hL
    rw [k2 n (by omega) hL.1, k1 n (by omega) hL.2]
  · simp at h
theorem wf_cond {α : Type} (b : Bool) {x y : EM α} (hx : Wf x) (hy : Wf y) : Wf (bif b then x else y) := by cases b <;> assumption
theorem wf_lift {α : Type} (w : String) (o : Option α) : Wf (lift w o) := by
  cases o with
  | none => exact wf_bad _
  | some a => exact wf_ret a

/-! ### names and blocks -/
structure Pl where
  b : Nat
  base : Nat
  lim : Nat
  elem : TypeId

abbrev Ren := Nat → Option Pl

mutual
/-- the evaluator's value, and the model's -/
inductive VR (P : Program) (μ : Ren) : Value → Value → Prop
  | junk (v : Value) : VR P μ (.tuple ⟨[.tuple ⟨[]⟩]⟩) v
  | bool (b : Bool) : VR P μ (.bool b) (.bool b)
  | int (k : IntKind) (n : Int) : VR P μ (.int k n) (.int k n)
  | str (s : ByteArray) : VR P μ (.string s) (.string s)
  | nilFunc : VR P μ .nilFunc .nilFunc
  | nilIface : VR P μ .nilIface .nilIface
  | ptrN : VR P μ (.pointer none) (.pointer none)
  | ptr {a : Addr} {pl : Pl} (h : μ a.block = some pl) (hs : a.spot = none) : VR P μ (.pointer (some a)) (.pointer (some ⟨pl.b, pl.base + a.off, none⟩))
  | slN : VR P μ (.slice none 0 0) (.slice none 0 0)
  | slK {a : Addr} {pl : Pl} {len k : Nat} (h : μ a.block = some pl) (hs : a.spot = none) (h1 : len ≤ k) :
      VR P μ (.slice (some a) len (k + 1)) (.slice (some ⟨pl.b, pl.base + a.off, none⟩) len k)
  | slU {a : Addr} {pl : Pl} {len c : Nat} (h : μ a.block = some pl) (hs : a.spot = none) (h1 : len ≤ c) (h2 : a.off + c * P.cellsOf pl.elem ≤ pl.lim) :
      VR P μ (.slice (some a) len 0) (.slice (some ⟨pl.b, pl.base + a.off, none⟩) len c)
  | mapN : VR P μ (.map none) (.map none)
  | map {r : Nat} {pl : Pl} (h : μ r = some pl) : VR P μ (.map (some r)) (.map (some pl.b))
  | func (f : FuncId) {a a' b b' : List Value} (ha : VRL P μ a a') (hb : VRL P μ b b') : VR P μ (.func (.func f) ⟨a⟩ ⟨b⟩) (.func (.func f) ⟨a'⟩ ⟨b'⟩)
  | yield {l : Nat} {pl : Pl} (h : μ l = some pl) : VR P μ (.func (.yield l) ⟨[]⟩ ⟨[]⟩) (.func (.yield pl.b) ⟨[]⟩ ⟨[]⟩)
  | iface (t : TypeId) {v v' : Value} (h : VR P μ v v') : VR P μ (.iface t v) (.iface t v')
  | agg {c c' : List Value} (h : VRL P μ c c') : VR P μ (.agg ⟨c⟩) (.agg ⟨c'⟩)
  | tuple {c c' : List Value} (h : VRL P μ c c') : VR P μ (.tuple ⟨c⟩) (.tuple ⟨c'⟩)
inductive VRL (P : Program) (μ : Ren) : List Value → List Value → Prop
  | nil : VRL P μ [] []
  | cons {v v' : Value} {l l' : List Value} (h : VR P μ v v') (hl : VRL P μ l l') : VRL P μ (v :: l) (v' :: l')
end

def Sub (μ μ' : Ren) : Prop := ∀ n pl, μ n = some pl → μ' n = some pl
theorem Sub.refl (μ : Ren) : Sub μ μ := fun _ _ h => h
theorem Sub.trans {μ μ' μ'' : Ren} (h : Sub μ μ') (h' : Sub μ' μ'') : Sub μ μ'' := fun n pl hn => h' n pl (h n pl hn)

mutual
theorem VR.sub {P : Program} {μ μ' : Ren} (hs : Sub μ μ') : ∀ {v v' : Value}, VR P μ v v' → VR P μ' v v'
  | _, _, .junk v => .junk v
  | _, _, .bool b => .bool b
  | _, _, .int k n => .int k n
  | _, _, .str s => .str s
  | _, _, .nilFunc => .nilFunc
  | _, _, .nilIface => .nilIface
  | _, _, .ptrN => .ptrN
  | _, _, .ptr h hsp => .ptr (hs _ _ h) hsp
  | _, _, .slN => .slN
  | _, _, .slK h hsp h1 => .slK (hs _ _ h) hsp h1
  | _, _, .slU h hsp h1 h2 => .slU (hs _ _ h) hsp h1 h2
  | _, _, .mapN => .mapN
  | _, _, .map h => .map (hs _ _ h)
  | _, _, .func f ha hb => .func f (VRL.sub hs ha) (VRL.sub hs hb)
  | _, _, .yield h => .yield (hs _ _ h)
  | _, _, .iface t h => .iface t (VR.sub hs h)
  | _, _, .agg h => .agg (VRL.sub hs h)
  | _, _, .tuple h => .tuple (VRL.sub hs h)
theorem VRL.sub {P : Program} {μ μ' : Ren} (hs : Sub μ μ') : ∀ {l l' : List Value}, VRL P μ l l' → VRL P μ' l l'
  | _, _, .nil => .nil
  | _, _, .cons h hl => .cons (VR.sub hs h) (VRL.sub hs hl)
end

section
variable {P : Program} {μ : Ren}
theorem VRL.length {l l' : List Value} (h : VRL P μ l l') : l.length = l'.length := by
  induction l generalizing l' with
  | nil => cases h; rfl
  | cons v l ih => cases h with | cons _ hl => simp [ih hl]
theorem VRL.append {a a' b b' : List Value} (h : VRL P μ a a') (h' : VRL P μ b b') : VRL P μ (a ++ b) (a' ++ b') := by
  induction a generalizing a' with
  | nil => cases h; exact h'
  | cons v l ih => cases h with | cons hv hl => exact .cons hv (ih hl)
theorem VRL.take {l l' : List Value} (h : VRL P μ l l') (n : Nat) : VRL P μ (l.take n) (l'.take n) := by
  induction l generalizing l' n with
  | nil => cases h; simp; exact .nil
  | cons v l ih =>
    cases h with
    | cons hv hl => cases n with
      | zero => exact .nil
      | succ n => exact .cons hv (ih hl n)
theorem VRL.drop {l l' : List Value} (h : VRL P μ l l') (n : Nat) : VRL P μ (l.drop n) (l'.drop n) := by
  induction l generalizing l' n with
  | nil => cases h; simp; exact .nil
  | cons v l ih =>
    cases h with
    | cons hv hl => cases n with
      | zero => exact .cons hv hl
      | succ n => exact ih hl n
theorem nth_eq {α : Type} : ∀ (l : List α) (n : Nat), nth l n = l[n]?
  | [], _ => by simp [nth]
  | x :: _, 0 => by simp [nth]
  | _ :: l, n + 1 => by simp [nth, nth_eq l n]
theorem VRL.nth {l l' : List Value} (h : VRL P μ l l') {n : Nat} {v : Value} (hn : nth l n = some v) : ∃ v', l'[n]? = some v' ∧ VR P μ v v' := by
  induction l generalizing l' n with
  | nil => simp [E.nth] at hn
  | cons x l ih =>
    cases h with
    | cons hv hl => cases n with
      | zero => simp [E.nth] at hn; subst hn; exact ⟨_, by simp, hv⟩
      | succ n => simp only [E.nth] at hn; obtain ⟨v', h1, h2⟩ := ih hl hn; exact ⟨v', by simpa using h1, h2⟩
theorem VR.cells {v v' : Value} (h : VR P μ v v') (hj : v ≠ E.junk) : VRL P μ v.cells.toList v'.cells.toList := by
  cases h with
  | agg h => exact h
  | junk => exact absurd rfl hj
  | bool => exact .cons (.bool _) .nil
  | int => exact .cons (.int _ _) .nil
  | str => exact .cons (.str _) .nil
  | nilFunc => exact .cons .nilFunc .nil
  | nilIface => exact .cons .nilIface .nil
  | ptrN => exact .cons .ptrN .nil
  | ptr h hs => exact .cons (.ptr h hs) .nil
  | slN => exact .cons .slN .nil
  | slK h hs h1 => exact .cons (.slK h hs h1) .nil
  | slU h hs h1 h2 => exact .cons (.slU h hs h1 h2) .nil
  | mapN => exact .cons .mapN .nil
  | map h => exact .cons (.map h) .nil
  | func f ha hb => exact .cons (.func f ha hb) .nil
  | yield h => exact .cons (.yield h) .nil
  | iface t h => exact .cons (.iface t h) .nil
  | tuple h => exact .cons (.tuple h) .nil

mutual
theorem VR.plain : ∀ {v v' : Value}, VR P μ v v' → E.plain v = true → v' = v
  | _, _, .junk v, h => by simp [E.plain] at h
  | _, _, .bool b, _ => rfl
  | _, _, .int k n, _ => rfl
  | _, _, .str s, _ => rfl
  | _, _, .nilFunc, _ => rfl
  | _, _, .nilIface, _ => rfl
  | _, _, .ptrN, _ => rfl
  | _, _, .ptr h hsp, hp => by simp [E.plain] at hp
  | _, _, .slN, _ => rfl
  | _, _, .slK h hsp h1, hp => by simp [E.plain] at hp
  | _, _, .slU h hsp h1 h2, hp => by simp [E.plain] at hp
  | _, _, .mapN, _ => rfl
  | _, _, .map h, hp => by simp [E.plain] at hp
  | _, _, .func f ha hb, hp => by
    simp only [E.plain, Bool.and_eq_true] at hp
    rw [VRL.plain ha hp.1, VRL.plain hb hp.2]
  | _, _, .yield h, hp => by simp [E.plain] at hp
  | _, _, .iface t h, hp => by simp only [E.plain] at hp; rw [VR.plain h hp]
  | _, _, .agg h, hp => by simp only [E.plain] at hp; rw [VRL.plain h hp]
  | _, _, .tuple (c := []) h, hp => by cases h; rfl
  | _, _, .tuple (c := [v]) h, hp => by simp [E.plain] at hp
  | _, _, .tuple (c := v :: w :: l) (.cons h1 (.cons h2 h3)), hp => by
    simp only [E.plain, Bool.and_eq_true] at hp
    rw [VR.plain h1 hp.1.1, VR.plain h2 hp.1.2, VRL.plain h3 hp.2]
theorem VRL.plain : ∀ {l l' : List Value}, VRL P μ l l' → plainL l = true → l' = l
  | _, _, .nil, _ => rfl
  | _, _, .cons h hl, hp => by
    simp only [plainL, Bool.and_eq_true] at hp
    rw [VR.plain h hp.1, VRL.plain hl hp.2]
end
mutual
theorem VR.of_plain : ∀ (v : Value), E.plain v = true → VR P μ v v
  | .bool b, _ => .bool b
  | .int k n, _ => .int k n
  | .float .., h => by simp [E.plain] at h
  | .complex .., h => by simp [E.plain] at h
  | .string s, _ => .str s
  | .pointer none, _ => .ptrN
  | .pointer (some a), h => by simp [E.plain] at h
  | .slice none 0 0, _ => .slN
  | .slice none (n + 1) c, h => by simp [E.plain] at h
  | .slice none 0 (c + 1), h => by simp [E.plain] at h
  | .slice (some a) n c, h => by simp [E.plain] at h
  | .map none, _ => .mapN
  | .map (some r), h => by simp [E.plain] at h
  | .chan r, h => by simp [E.plain] at h
  | .func (.func f) ⟨a⟩ ⟨b⟩, h => by
    simp only [E.plain, Bool.and_eq_true] at h
    exact .func f (VRL.of_plain a h.1) (VRL.of_plain b h.2)
  | .func (.method _) a b, h => by simp [E.plain] at h
  | .func (.methodOf _ _) a b, h => by simp [E.plain] at h
  | .func (.via ..) a b, h => by simp [E.plain] at h
  | .func (.yield _) a b, h => by simp [E.plain] at h
  | .nilFunc, _ => .nilFunc
  | .iface t v, h => by simp only [E.plain] at h; exact .iface t (VR.of_plain v h)
  | .nilIface, _ => .nilIface
  | .agg ⟨c⟩, h => by simp only [E.plain] at h; exact .agg (VRL.of_plain c h)
  | .tuple ⟨[]⟩, _ => .tuple .nil
  | .tuple ⟨[v]⟩, h => by simp [E.plain] at h
  | .tuple ⟨v :: w :: l⟩, h => by
    simp only [E.plain, Bool.and_eq_true] at h
    exact .tuple (.cons (VR.of_plain v h.1.1) (.cons (VR.of_plain w h.1.2) (VRL.of_plain l h.2)))
theorem VRL.of_plain : ∀ (l : List Value), plainL l = true → VRL P μ l l
  | [], _ => .nil
  | v :: l, h => by
    simp only [plainL, Bool.and_eq_true] at h
    exact .cons (VR.of_plain v h.1) (VRL.of_plain l h.2)
end
end

end Go.E

namespace Go.E

/-! ### the state and the world -/
inductive ERel (P : Program) (μ : Ren) : MapEntry → MapEntry → Prop
  | mk {k k' v v' : Value} (b : Nat) (hk : VR P μ k k') (hv : VR P μ v v') : ERel P μ ⟨k, v, b⟩ ⟨k', v', b⟩
inductive MRel (P : Program) (μ : Ren) : List MapEntry → List MapEntry → Prop
  | nil : MRel P μ [] []
  | cons {e e' : MapEntry} {l l' : List MapEntry} (h : ERel P μ e e') (hl : MRel P μ l l') : MRel P μ (e :: l) (e' :: l')

inductive TgR (P : Program) (μ : Ren) : Target → Target → Prop
  | func (f : FuncId) {c c' : List Value} (h : VRL P μ c c') : TgR P μ (.fn (.func f) ⟨c⟩) (.fn (.func f) ⟨c'⟩)
  | yield {l : Nat} {pl : Pl} (h : μ l = some pl) (c c' : Array Value) : TgR P μ (.fn (.yield l) c) (.fn (.yield pl.b) c')
  | builtin (b : Builtin) (ts : Array TypeId) (t : TypeId) (c c' : Array Bool) : TgR P μ (.builtin b ts t c) (.builtin b ts t c')
  | collected {r : Nat} {pl : Pl} (h : μ r = some pl) : TgR P μ (.collected r) (.collected pl.b)
inductive DRel (P : Program) (μ : Ren) : Deferred → Deferred → Prop
  | mk {t t' : Target} {a a' : List Value} (ht : TgR P μ t t') (ha : VRL P μ a a') : DRel P μ ⟨t, ⟨a⟩⟩ ⟨t', ⟨a'⟩⟩
inductive DRL (P : Program) (μ : Ren) : List Deferred → List Deferred → Prop
  | nil : DRL P μ [] []
  | cons {d d' : Deferred} {l l' : List Deferred} (h : DRel P μ d d') (hl : DRL P μ l l') : DRL P μ (d :: l) (d' :: l')

/-- the frame's slots -/
def TR (P : Program) (μ : Ren) (nt : Nat) (tm : Tr Value) (tmps : Array Value) : Prop :=
  tmps.size = nt ∧ ∀ t, VR P μ (getv tm t) (tmps.getD t undef)

def OR (P : Program) (μ : Ren) (pl : Pl) : EObj → Obj → Prop
  | .cells c e, o' => e = pl.elem ∧ ∃ c' fr, o' = .cells c' e fr ∧ c.length ≤ pl.lim ∧ pl.base + pl.lim ≤ c'.size ∧
      VRL P μ c ((c'.toList.drop pl.base).take c.length) ∧ ∀ j, pl.base ≤ j → j < pl.base + pl.lim → ¬ (fr.1 ≤ j ∧ j < fr.2)
  | .map es k, o' => pl.base = 0 ∧ ∃ es', o' = .map es' k ∧ MRel P μ es es'.toList
  | .siter s p, o' => pl.base = 0 ∧ o' = .stringIter s p
  | .miter none si se la, o' => pl.base = 0 ∧ o' = .mapIter none si ⟨se⟩ la
  | .miter (some m) si se la, o' => pl.base = 0 ∧ ∃ pm, μ m = some pm ∧ o' = .mapIter (some pm.b) si ⟨se⟩ la
  | .loop st pe nt tm ps as bo dr, o' => pl.base = 0 ∧ ∃ fn tmps pd, o' = .loop { state := st, pending := pe, fn, tmps, params := ps, assign := as, body := bo, defers := pd.b } ∧
      μ dr = some pd ∧ TR P μ nt tm tmps ∧ ∃ g, P.funcs[fn]? = some g
  | .kcell m, o' => pl.base = 0 ∧ ∃ m' t fr, o' = .cells #[m'] t fr ∧ VR P μ m m'
  | .dfr none, o' => pl.base = 0 ∧ o' = .deferred none
  | .dfr (some l), o' => pl.base = 0 ∧ ∃ l', o' = .deferred (some l') ∧ DRL P μ l l'

section
variable {P : Program} {μ μ' : Ren} (hs : Sub μ μ')
include hs
theorem ERel.sub {a b : MapEntry} : ERel P μ a b → ERel P μ' a b
  | .mk k hk hv => .mk k (hk.sub hs) (hv.sub hs)
theorem MRel.sub {a b : List MapEntry} (h : MRel P μ a b) : MRel P μ' a b := by
  induction h with
  | nil => exact .nil
  | cons h _ ih => exact .cons (h.sub hs) ih
theorem TgR.sub {a b : Target} : TgR P μ a b → TgR P μ' a b
  | .func f h => .func f (h.sub hs)
  | .yield h c c' => .yield (hs _ _ h) c c'
  | .builtin b ts t c c' => .builtin b ts t c c'
  | .collected h => .collected (hs _ _ h)
theorem DRel.sub {a b : Deferred} : DRel P μ a b → DRel P μ' a b
  | .mk ht ha => .mk (ht.sub hs) (ha.sub hs)
theorem DRL.sub {a b : List Deferred} (h : DRL P μ a b) : DRL P μ' a b := by
  induction h with
  | nil => exact .nil
  | cons h _ ih => exact .cons (h.sub hs) ih
theorem TR.sub {nt : Nat} {tm : Tr Value} {a : Array Value} (h : TR P μ nt tm a) : TR P μ' nt tm a := ⟨h.1, fun t => (h.2 t).sub hs⟩
theorem OR.sub {pl : Pl} {o : EObj} {o' : Obj} (h : OR P μ pl o o') : OR P μ' pl o o' := by
  cases o with
  | cells c e => obtain ⟨h1, c', fr, h2, h3, h4, h5, h6⟩ := h; exact ⟨h1, c', fr, h2, h3, h4, h5.sub hs, h6⟩
  | map es k => obtain ⟨h1, es', h2, h3⟩ := h; exact ⟨h1, es', h2, h3.sub hs⟩
  | siter s p => exact h
  | miter m si se la => cases m with
    | none => exact h
    | some m => obtain ⟨h1, pm, h2, h3⟩ := h; exact ⟨h1, pm, hs _ _ h2, h3⟩
  | loop st pe nt tm ps as bo dr => obtain ⟨h1, fn, tmps, pd, h2, h3, h4, h5⟩ := h; exact ⟨h1, fn, tmps, pd, h2, hs _ _ h3, h4.sub hs, h5⟩
  | kcell m => obtain ⟨h1, m', t, fr, h2, h3⟩ := h; exact ⟨h1, m', t, fr, h2, h3.sub hs⟩
  | dfr l => cases l with
    | none => exact h
    | some l => obtain ⟨h1, l', h2, h3⟩ := h; exact ⟨h1, l', h2, h3.sub hs⟩
end

theorem DRL.append {P : Program} {μ : Ren} {a b c d : List Deferred} (h : DRL P μ a b) (h' : DRL P μ c d) : DRL P μ (a ++ c) (b ++ d) := by
  induction h with
  | nil => exact h'
  | cons h _ ih => exact .cons h ih

def Live (st : Tr EObj) (n : Nat) : Prop := ∃ o, st.get n = some o

structure St (P : Program) (μ : Ren) (st : Tr EObj) (w : World) : Prop where
  obj : ∀ n o, st.get n = some o → ∃ pl o', μ n = some pl ∧ w.heap[pl.b]? = some o' ∧ OR P μ pl o o'
  inj : ∀ n m pl pm, Live st n → Live st m → μ n = some pl → μ m = some pm → pl.b = pm.b → n = m

structure Frm (μ : Ren) (st : Tr EObj) (w w' : World) : Prop where
  size : w.heap.size ≤ w'.heap.size
  tape : w'.tape = w.tape
  os : w'.os = w.os
  output : w'.output = w.output
  kept : ∀ b, b < w.heap.size → (∀ n pl, Live st n → μ n = some pl → pl.b ≠ b) → w'.heap[b]? = w.heap[b]?

structure Nxt (P : Program) (μ : Ren) (s : ES) (w : World) (μ' : Ren) (s' : ES) (w' : World) : Prop where
  sub : Sub μ μ'
  same : ∀ n, ¬ (s.nx ≤ n ∧ n < s'.nx) → μ' n = μ n
  st : St P μ' s'.st w'
  frm : Frm μ s.st w w'
  cover : ∀ n pl, Live s'.st n → μ' n = some pl → w.heap.size ≤ pl.b ∨ ∃ m pm, Live s.st m ∧ μ m = some pm ∧ pm.b = pl.b

def Free (μ : Ren) (a b : Nat) : Prop := ∀ n, a ≤ n → n < b → μ n = none

theorem Nxt.refl {P : Program} {μ : Ren} {s : ES} {w : World} (h : St P μ s.st w) : Nxt P μ s w μ s w :=
  ⟨Sub.refl _, fun _ _ => rfl, h, ⟨Nat.le_refl _, rfl, rfl, rfl, fun _ _ _ => rfl⟩, fun n pl hl hn => .inr ⟨n, pl, hl, hn, rfl⟩⟩

theorem Nxt.trans {P : Program} {μ μ1 μ2 : Ren} {s s1 s2 : ES} {w w1 w2 : World} (hn : s.nx ≤ s1.nx) (hn' : s1.nx ≤ s2.nx)
    (h : Nxt P μ s w μ1 s1 w1) (h' : Nxt P μ1 s1 w1 μ2 s2 w2) : Nxt P μ s w μ2 s2 w2 := by
  refine ⟨h.sub.trans h'.sub, fun n hx => ?_, h'.st, ⟨Nat.le_trans h.frm.size h'.frm.size, h'.frm.tape.trans h.frm.tape, h'.frm.os.trans h.frm.os, h'.frm.output.trans h.frm.output, fun b hb hk => ?_⟩, fun n pl hl hm => ?_⟩
  · rw [h'.same n (fun hh => hx ⟨Nat.le_trans hn hh.1, hh.2⟩), h.same n (fun hh => hx ⟨hh.1, Nat.lt_of_lt_of_le hh.2 hn'⟩)]
  · rw [h'.frm.kept b (Nat.lt_of_lt_of_le hb h.frm.size) (fun n pl hl hm heq => ?_), h.frm.kept b hb hk]
    rcases h.cover n pl hl hm with hc | ⟨m, pm, h1, h2, h3⟩
    · omega
    · exact hk m pm h1 h2 (h3.trans heq)
  · rcases h'.cover n pl hl hm with hc | ⟨m, pm, h1, h2, h3⟩
    · exact .inl (Nat.le_trans h.frm.size hc)
    · rcases h.cover m pm h1 h2 with hc | ⟨k, pk, k1, k2, k3⟩
      · exact .inl (h3 ▸ hc)
      · exact .inr ⟨k, pk, k1, k2, k3.trans h3⟩

/-- an E-action and a model's run that go side by side -/
def Sim (P : Program) (μ : Ren) (s : ES) (w : World) {α β : Type} (R : Ren → α → β → Prop) (e : Res α) (m : Result β) : Prop :=
  ∀ a s', e = .ok a s' → Free μ s.nx s'.nx → St P μ s.st w → ∃ μ' w' b, m = .ok b w' ∧ Nxt P μ s w μ' s' w' ∧ R μ' a b

/-- the same, the action not yet applied (so that 'split' finds its matches) -/
def SimM (P : Program) (μ : Ren) (s : ES) (w : World) {α β : Type} (R : Ren → α → β → Prop) (e : EM α) (m : Result β) : Prop := Sim P μ s w R (e s) m

section
variable {P : Program} {μ : Ren} {s : ES} {w : World} {α β γ δ : Type} {R : Ren → α → β → Prop} {R' : Ren → γ → δ → Prop}
theorem Sim.bad (y : String) (m : Result β) : Sim P μ s w R (.bad y) m := by intro a s' h; cases h
theorem Sim.ret {a : α} {b : β} (h : R μ a b) : Sim P μ s w R (.ok a s) (.ok b w) := by
  intro a' s' he _ hst
  cases he
  exact ⟨μ, w, b, rfl, Nxt.refl hst, h⟩
theorem Sim.mono {R2 : Ren → α → β → Prop} {e : Res α} {m : Result β} (h : Sim P μ s w R e m) (hr : ∀ μ' a b, Sub μ μ' → R μ' a b → R2 μ' a b) : Sim P μ s w R2 e m := by
  intro a s' he hf hst
  obtain ⟨μ', w', b, h1, h2, h3⟩ := h a s' he hf hst
  exact ⟨μ', w', b, h1, h2, hr _ _ _ h2.sub h3⟩
theorem Sim.bnd {m : EM α} {f : α → EM γ} {x : Result β} {g : β → World → Result δ} (wm : Wf m) (wf : ∀ a, Wf (f a))
    (h : Sim P μ s w R (m s) x)
    (h' : ∀ a s1 b μ1 w1, m s = .ok a s1 → Nxt P μ s w μ1 s1 w1 → R μ1 a b → Sim P μ1 s1 w1 R' (f a s1) (g b w1)) :
    Sim P μ s w R' (m.bnd f s) (x.andThen g) := by
  intro c s' he hf hst
  unfold EM.bnd at he
  split at he
  · rename_i a s1 h1
    have l1 := (wm _ _ _ h1).1
    have l2 := (wf a _ _ _ he).1
    obtain ⟨μ1, w1, b, e1, n1, r1⟩ := h a s1 h1 (fun n h1 h2 => hf n h1 (Nat.lt_of_lt_of_le h2 l2)) hst
    subst e1
    obtain ⟨μ2, w2, d, e2, n2, r2⟩ := h' a s1 b μ1 w1 h1 n1 r1 c s' he (fun n k1 k2 => by rw [n1.same n (by omega)]; exact hf n (Nat.le_trans l1 k1) k2) n1.st
    exact ⟨μ2, w2, d, e2, n1.trans l1 l2 n2, r2⟩
  · simp at he
end

/-! ### the primitives -/
theorem live_upd {st : Tr EObj} {n m : Nat} {o : EObj} (h : st.get n = some o) (o' : EObj) : Live (st.upd n (some o')) m ↔ Live st m := by
  unfold Live; rw [Tr.get_upd]
  by_cases hm : m = n
  · subst hm; simp [h]
  · simp [hm]

theorem sim_eget {P : Program} {μ : Ren} {s : ES} {w : World} (n : Nat) {γ δ : Type} {R : Ren → γ → δ → Prop} {f : EObj → EM γ} {m : Result δ}
    (h : ∀ o, s.st.get n = some o → Sim P μ s w R (f o s) m) : Sim P μ s w R (((eget n).bnd f) s) m := by
  intro a s' he hf hst
  unfold EM.bnd eget at he
  cases hg : s.st.get n with
  | none => simp [hg] at he
  | some o => simp only [hg] at he; exact h o hg a s' he hf hst

/-- a name's object and its block change -/
theorem sim_set {P : Program} {μ : Ren} {s : ES} {w w' : World} {n : Nat} {o o1 : EObj} {pl : Pl} {o1' : Obj} {α β : Type} {R : Ren → α → β → Prop} {a : α} {b : β}
    (hst : St P μ s.st w) (hg : s.st.get n = some o) (hp : μ n = some pl) (hw : w'.heap = w.heap.setIfInBounds pl.b o1')
    (ht : w'.tape = w.tape) (hos : w'.os = w.os) (hou : w'.output = w.output) (hor : OR P μ pl o1 o1') (hr : R μ a b) (L : List Nat) :
    ∃ μ' w2 b2, (Result.ok b w' : Result β) = .ok b2 w2 ∧ Nxt P μ s w μ' { s with st := s.st.upd n (some o1), lg := L } w2 ∧ R μ' a b2 := by
  refine ⟨μ, w', b, rfl, ⟨Sub.refl _, fun _ _ => rfl, ⟨fun m x hm => ?_, fun m k pm pk hm hk h1 h2 h3 => ?_⟩, ⟨?_, ht, hos, hou, fun c hc hk => ?_⟩, fun m pm hm h1 => ?_⟩, hr⟩
  · obtain ⟨plx, ox, h1, h2, _⟩ := hst.obj n o hg
    rw [hp] at h1; cases h1
    simp only [Tr.get_upd] at hm
    by_cases he : m = n
    · subst he; simp only [if_true, Option.some.injEq] at hm; subst hm
      refine ⟨pl, o1', hp, ?_, hor⟩
      rw [hw, Array.getElem?_setIfInBounds]
      have : pl.b < w.heap.size := by
        by_cases hlt : pl.b < w.heap.size
        · exact hlt
        · rw [Array.getElem?_eq_none (by omega)] at h2; simp at h2
      simp [this]
    · simp only [he, if_false] at hm
      obtain ⟨pm, om, k1, k2, k3⟩ := hst.obj m x hm
      refine ⟨pm, om, k1, ?_, k3⟩
      rw [hw, Array.getElem?_setIfInBounds]
      have hne : pl.b ≠ pm.b := fun hb => he (hst.inj m n pm pl ⟨x, hm⟩ ⟨o, hg⟩ k1 hp hb.symm)
      simp [hne, k2]
  · exact hst.inj m k pm pk ((live_upd hg o1).1 hm) ((live_upd hg o1).1 hk) h1 h2 h3
  · rw [hw]; simp
  · rw [hw, Array.getElem?_setIfInBounds]
    have := hk n pl ⟨o, hg⟩ hp
    simp [this]
  · exact .inr ⟨m, pm, (live_upd hg o1).1 hm, h1, rfl⟩

theorem sim_new {P : Program} {μ : Ren} {s : ES} {w w' : World} {o : EObj} {o' : Obj} {pl : Pl} {α β : Type} {R : Ren → α → β → Prop} {a : α} {b : β}
    (hst : St P μ s.st w) (hf : μ s.nx = none) (hb : pl.b = w.heap.size) (hw : w'.heap = w.heap.push o')
    (ht : w'.tape = w.tape) (hos : w'.os = w.os) (hou : w'.output = w.output)
    (hor : ∀ μ', Sub μ μ' → OR P μ' pl o o') (hr : ∀ μ', Sub μ μ' → μ' s.nx = some pl → R μ' a b) :
    ∃ μ' w2 b2, (Result.ok b w' : Result β) = .ok b2 w2 ∧ Nxt P μ s w μ' { s with st := s.st.upd s.nx (some o), nx := s.nx + 1 } w2 ∧ R μ' a b2 := by
  let μ' : Ren := fun n => if n = s.nx then some pl else μ n
  have hsub : Sub μ μ' := by
    intro n q hq
    show (if n = s.nx then some pl else μ n) = some q
    by_cases he : n = s.nx
    · subst he; rw [hf] at hq; cases hq
    · simp [he, hq]
  have hnew : μ' s.nx = some pl := by simp [μ']
  refine ⟨μ', w', b, rfl, ⟨hsub, fun n hn => ?_, ⟨fun m x hm => ?_, fun m k pm pk hm hk h1 h2 h3 => ?_⟩, ⟨?_, ht, hos, hou, fun c hc _ => ?_⟩, fun m pm hm h1 => ?_⟩, hr μ' hsub hnew⟩
  · have : n ≠ s.nx := by intro h; subst h; exact hn ⟨Nat.le_refl _, by simp⟩
    simp [μ', this]
  · simp only [Tr.get_upd] at hm
    by_cases he : m = s.nx
    · subst he; simp only [if_true, Option.some.injEq] at hm; subst hm
      exact ⟨pl, o', hnew, by rw [hw, hb]; simp, hor μ' hsub⟩
    · simp only [he, if_false] at hm
      obtain ⟨pm, om, k1, k2, k3⟩ := hst.obj m x hm
      have hlt : pm.b < w.heap.size := by
        by_cases hlt : pm.b < w.heap.size
        · exact hlt
        · rw [Array.getElem?_eq_none (by omega)] at k2; simp at k2
      exact ⟨pm, om, hsub _ _ k1, by rw [hw, Array.getElem?_push]; simp [Nat.ne_of_lt hlt, k2], k3.sub hsub⟩
  · have key : ∀ j pj, Live (s.st.upd s.nx (some o)) j → μ' j = some pj → (j = s.nx ∧ pj = pl) ∨ (j ≠ s.nx ∧ Live s.st j ∧ μ j = some pj ∧ pj.b < w.heap.size) := by
      intro j pj hj hm
      by_cases he : j = s.nx
      · subst he; rw [hnew] at hm; cases hm; exact .inl ⟨rfl, rfl⟩
      · obtain ⟨y, hy⟩ := hj
        simp only [Tr.get_upd, he, if_false] at hy
        have hm' : μ j = some pj := by simpa [μ', he] using hm
        obtain ⟨pm, om, k1, k2, _⟩ := hst.obj j y hy
        rw [hm'] at k1; cases k1
        refine .inr ⟨he, ⟨y, hy⟩, hm', ?_⟩
        by_cases hlt : pj.b < w.heap.size
        · exact hlt
        · rw [Array.getElem?_eq_none (by omega)] at k2; simp at k2
    rcases key m pm hm h1 with ⟨e1, e2⟩ | ⟨e1, l1, q1, z1⟩ <;> rcases key k pk hk h2 with ⟨e3, e4⟩ | ⟨e3, l3, q3, z3⟩
    · rw [e1, e3]
    · subst e2; omega
    · subst e4; omega
    · exact hst.inj m k pm pk l1 l3 q1 q3 h3
  · rw [hw]; simp
  · rw [hw, Array.getElem?_push]; simp [Nat.ne_of_lt hc]
  · by_cases he : m = s.nx
    · subst he; rw [hnew] at h1; cases h1; exact .inl (by omega)
    · obtain ⟨y, hy⟩ := hm
      simp only [Tr.get_upd, he, if_false] at hy
      have hm' : μ m = some pm := by simpa [μ', he] using h1
      exact .inr ⟨m, pm, ⟨y, hy⟩, hm', rfl⟩

end Go.E

namespace Go.E

/-! ### types -/
section
variable {P : Program} {t : TypeId} (w : World)
theorem run_und {d : TypeDesc} (h : und P t = some d) : (underlying t).run P w = .ok d w := by
  unfold und at h; simp [underlying, h]
theorem run_siz {n : Nat} (h : siz P t = some n) : (sizeOf t).run P w = .ok n w := by
  unfold siz at h
  cases hi : P.info? t with
  | none => simp [hi] at h
  | some i => simp [hi] at h; simp [sizeOf, typeInfo, hi, h]
theorem zer_info {z : Value} (h : zer P t = some z) : plain z = true ∧ ∃ i, P.info? t = some i ∧ i.zero = some z := by
  unfold zer at h
  cases hi : P.info? t with
  | none => simp [hi] at h
  | some i =>
    cases hz : i.zero with
    | none => simp [hi, hz] at h
    | some z' =>
      cases hp : plain z' with
      | false => simp [hi, hz, hp] at h
      | true => simp [hi, hz, hp] at h; subst h; exact ⟨hp, i, rfl, hz⟩
theorem run_zer {z : Value} (h : zer P t = some z) : (zeroValue t).run P w = .ok z w := by
  obtain ⟨_, i, hi, hz⟩ := zer_info h
  simp [zeroValue, typeInfo, hi, hz]
theorem run_info {i : TypeInfo} (h : P.info? t = some i) : (typeInfo t).run P w = .ok i w := by simp [typeInfo, h]
theorem siz_cellsOf {n : Nat} (h : siz P t = some n) : P.cellsOf t = n := by
  unfold siz at h; simp [Program.cellsOf, h]
theorem run_agg {b : Bool} (h : aggT P t = some b) : (isAgg t).run P w = .ok b w := by
  unfold aggT at h
  cases hu : und P t with
  | none => simp [hu] at h
  | some d =>
    simp only [isAgg, Sem.run_bind, run_und w hu, Result.andThen_ok]
    cases d <;> simp [hu] at h <;> subst h <;> rfl
end

/-! ### cells of a block -/
theorem okCell_eq (v : Value) : okCell v = v.oneCell' := by cases v <;> rfl

theorem cell_of {w : World} {b i : Nat} {c : Array Value} {e : TypeId} {fr : Nat × Nat} (h : w.heap[b]? = some (.cells c e fr)) : w.cell? ⟨b, i, none⟩ = c[i]? := by
  simp [World.cell?, h]
theorem frozen_of {w : World} {b i : Nat} {c : Array Value} {e : TypeId} {fr : Nat × Nat} (h : w.heap[b]? = some (.cells c e fr)) : w.frozen? ⟨b, i, none⟩ = (decide (fr.1 ≤ i) && decide (i < fr.2)) := by
  simp [World.frozen?, h]

def spl (c : Array Value) (o : Nat) (vs : List Value) : Array Value := ⟨c.toList.take o ++ vs ++ c.toList.drop (o + vs.length)⟩

theorem spl_nil (c : Array Value) (o : Nat) : spl c o [] = c := by cases c; simp [spl]
theorem spl_size (c : Array Value) (o : Nat) (vs : List Value) (h : o + vs.length ≤ c.size) : (spl c o vs).size = c.size := by
  simp only [spl, List.size_toArray, List.length_append, List.length_take, List.length_drop, Array.length_toList]; omega
theorem spl_cons (c : Array Value) (o : Nat) (v : Value) (vs : List Value) (h : o + (v :: vs).length ≤ c.size) :
    spl (c.setIfInBounds o v) (o + 1) vs = spl c o (v :: vs) := by
  cases c with
  | mk l =>
  simp only [List.length_cons, List.size_toArray] at h
  simp only [spl, List.setIfInBounds_toArray, List.length_cons, Array.mk.injEq]
  have h1 : (l.set o v).take (o + 1) = l.take o ++ [v] := by
    rw [List.take_succ_eq_append_getElem (by simpa using by omega), List.take_set_of_le (Nat.le_refl _)]
    simp
  rw [h1, List.drop_set_of_lt (by omega)]
  simp [Nat.add_assoc, Nat.add_comm 1]

theorem addr_add (b o i : Nat) : (⟨b, o, none⟩ : Addr).add i = ⟨b, o + i, none⟩ := by unfold Addr.add; split <;> simp_all
theorem add_eq (a : Addr) (i : Nat) (hs : a.spot = none) : a.add i = ⟨a.block, a.off + i, none⟩ := by
  unfold Addr.add; split
  · cases a; simp_all
  · cases a; simp_all

theorem run_storeB {P : Program} (b o : Nat) : ∀ (vs : List Value) (i : Nat) (w : World) (c : Array Value) (e : TypeId) (fr : Nat × Nat), w.heap[b]? = some (.cells c e fr) →
    o + i + vs.length ≤ c.size → (∀ j, o + i ≤ j → j < o + i + vs.length → ¬ (fr.1 ≤ j ∧ j < fr.2)) → (∀ v ∈ vs, v.oneCell' = true) →
    (storeCells ⟨b, o, none⟩ vs i).run P w = .ok () { w with heap := w.heap.setIfInBounds b (.cells (spl c (o + i) vs) e fr) }
  | [], i, w, c, e, fr, hb, _, _, _ => by
    have hlt : b < w.heap.size := by
      by_cases hlt : b < w.heap.size
      · exact hlt
      · rw [Array.getElem?_eq_none (by omega)] at hb; simp at hb
    have he : w.heap.setIfInBounds b (.cells c e fr) = w.heap := by
      apply Array.ext_getElem?
      intro j
      rw [Array.getElem?_setIfInBounds]
      by_cases hj : b = j
      · subst hj; rw [hb]; simp [hlt]
      · simp [hj]
    simp [storeCells, spl_nil, he]
  | v :: vs, i, w, c, e, fr, hb, hl, hz, h1 => by
    simp only [List.length_cons] at hl hz
    have hcell : w.cell? ⟨b, o + i, none⟩ = some c[o + i] := by rw [cell_of hb]; simp
    have hfz : w.frozen? ⟨b, o + i, none⟩ = false := by
      rw [frozen_of hb]
      have := hz (o + i) (Nat.le_refl _) (by omega)
      simpa using this
    have hlt : b < w.heap.size := by
      by_cases hlt : b < w.heap.size
      · exact hlt
      · rw [Array.getElem?_eq_none (by omega)] at hb; simp at hb
    have hset : w.setCell ⟨b, o + i, none⟩ v = { w with heap := w.heap.setIfInBounds b (.cells (c.setIfInBounds (o + i) v) e fr) } := by
      unfold World.setCell
      congr 1
      apply Array.ext_getElem?
      intro j
      rw [Array.getElem?_modify, Array.getElem?_setIfInBounds]
      by_cases hj : b = j
      · subst hj; rw [hb]; simp [hlt]
      · simp [hj]
    have hst : (store ((⟨b, o, none⟩ : Addr).add i) v).run P w = .ok () { w with heap := w.heap.setIfInBounds b (.cells (c.setIfInBounds (o + i) v) e fr) } := by
      rw [addr_add, run_store P w _ v _ (h1 v (by simp)), hcell, hfz, hset]; rfl
    have ih := run_storeB (P := P) b o vs (i + 1) { w with heap := w.heap.setIfInBounds b (.cells (c.setIfInBounds (o + i) v) e fr) } (c.setIfInBounds (o + i) v) e fr
      (by simp [hlt]) (by simp; omega) (fun j h1 h2 => hz j (by omega) (by omega)) (fun x hx => h1 x (by simp [hx]))
    simp only [storeCells, Sem.run_bind, hst, Result.andThen_ok, ih]
    congr 2
    rw [← Nat.add_assoc, spl_cons c (o + i) v vs (by simp; omega)]
    apply Array.ext_getElem?
    intro j
    simp only [Array.getElem?_setIfInBounds, Array.size_setIfInBounds]
    by_cases hj : b = j <;> simp [hj]

/-- what a related row of cells gives to be read -/
theorem cells_read {P : Program} {μ : Ren} {pl : Pl} {c : List Value} {e : TypeId} {o' : Obj} {w : World} (h : OR P μ pl (.cells c e) o') (hw : w.heap[pl.b]? = some o') (off n : Nat) (hn : off + n ≤ c.length) :
    ∃ vs, VRL P μ ((c.drop off).take n) vs ∧ vs.length = n ∧ ∀ a : Addr, a.block = pl.b → a.off = pl.base + off → a.spot = none → ∀ j v, vs[j]? = some v → w.cell? (a.add j) = some v := by
  obtain ⟨_, c', fr, rfl, h3, h4, h5, h6⟩ := h
  have h5' := (h5.drop off).take n
  refine ⟨_, h5', by have := h5'.length; rw [← this]; simp; omega, ?_⟩
  intro a hb ho hs j v hv
  rw [add_eq a j hs, hb, ho, cell_of hw]
  simp only [List.getElem?_take, List.getElem?_drop, Array.getElem?_toList] at hv
  split at hv
  · split at hv
    · rw [← hv]; congr 1; omega
    · simp at hv
  · simp at hv

theorem wf_rd (P : Program) (t : TypeId) (a : Addr) : Wf (rd P t a) := by
  unfold rd
  split
  · exact wf_bad _
  · refine wf_bnd (wf_eget _) fun o => ?_
    split
    · split
      · cases (a.off.add _).ble _ <;> first | exact wf_ret _ | exact wf_bad _
      · exact wf_lift _ _
      · exact wf_bad _
    · exact wf_bad _

abbrev RV (P : Program) : Ren → Value → Value → Prop := fun μ a b => VR P μ a b

theorem sim_rd {P : Program} {μ : Ren} {s : ES} {w : World} {t : TypeId} {a a' : Addr} {pl : Pl} (hp : μ a.block = some pl) (ha : a' = ⟨pl.b, pl.base + a.off, none⟩) :
    Sim P μ s w (RV P) (rd P t a s) ((loadVar t a').run P w) := by
  subst ha
  unfold rd
  cases hs : a.spot with
  | some x => exact Sim.bad _ _
  | none =>
    simp only
    refine sim_eget _ fun o ho => ?_
    intro v s' he hf hst
    obtain ⟨pl', o', h1, h2, h3⟩ := hst.obj _ _ ho
    rw [hp] at h1; cases h1
    revert he
    cases o with
    | cells c e =>
      simp only
      cases hagg : aggT P t with
      | none => simp [bad]
      | some b =>
        cases hsz : siz P t with
        | none => cases b <;> simp [bad]
        | some n =>
          cases b with
          | true =>
            simp only [Nat.add_eq]
            cases hle : (a.off + n).ble c.length with
            | false => simp [bad]
            | true =>
              simp only [cond_true, EM.ret, Res.ok.injEq]
              rintro ⟨rfl, rfl⟩
              have hle' : a.off + n ≤ c.length := by simpa using hle
              obtain ⟨vs, k1, k2, k3⟩ := cells_read h3 h2 a.off n hle'
              have hl := run_loadCells_list (P := P) w ⟨pl.b, pl.base + a.off, none⟩ vs (k3 _ rfl rfl rfl)
              rw [k2] at hl
              refine ⟨μ, w, .agg ⟨vs⟩, ?_, Nxt.refl hst, .agg k1⟩
              simp [loadVar, run_agg w hagg, run_siz w hsz, hl]
          | false =>
            simp only [lift, nth_eq]
            cases hn : c[a.off]? with
            | none => simp [bad]
            | some x =>
              simp only [EM.ret, Res.ok.injEq]
              rintro ⟨rfl, rfl⟩
              have hlt : a.off < c.length := by
                by_cases hlt : a.off < c.length
                · exact hlt
                · rw [List.getElem?_eq_none (by omega)] at hn; simp at hn
              obtain ⟨vs, k1, k2, k3⟩ := cells_read h3 h2 a.off 1 (by omega)
              have hd : (c.drop a.off).take 1 = [x] := by
                rw [List.getElem?_eq_getElem hlt] at hn
                rw [List.drop_eq_getElem_cons hlt, List.take_succ_cons, Option.some.inj hn]; rfl
              rw [hd] at k1
              cases k1 with
              | cons hv hl =>
                cases hl
                rename_i v'
                have := k3 ⟨pl.b, pl.base + a.off, none⟩ rfl rfl rfl 0 v' (by simp)
                rw [addr_add] at this
                refine ⟨μ, w, v', ?_, Nxt.refl hst, hv⟩
                simp only [Nat.add_zero] at this
                simp [loadVar, run_agg w hagg, this]
    | _ => simp [bad]

theorem wf_wrL (a : Addr) (vs : List Value) : Wf (wrL a vs) := by
  unfold wrL
  split
  · exact wf_bad _
  · refine wf_bnd (wf_eget _) fun o => ?_
    split
    · cases ((a.off.add _).ble _ && _) <;> first | exact wf_eset _ _ | exact wf_bad _
    · exact wf_bad _

theorem win_spl (L : List Value) (base off n : Nat) (us vs : List Value) (hl : us.length = vs.length) (h : off + us.length ≤ n) (h2 : base + n ≤ L.length) :
    ((L.take (base + off + 0) ++ vs ++ L.drop (base + off + 0 + vs.length)).drop base).take n = ((L.drop base).take n).take off ++ vs ++ ((L.drop base).take n).drop (off + us.length) := by
  obtain ⟨A, B1, B2, B3, C, rfl, hA, hB1, hB2, hB3⟩ : ∃ A B1 B2 B3 C, L = A ++ (B1 ++ (B2 ++ (B3 ++ C))) ∧ A.length = base ∧ B1.length = off ∧ B2.length = us.length ∧ B3.length = n - off - us.length := by
    refine ⟨L.take base, (L.drop base).take off, ((L.drop base).drop off).take us.length, (((L.drop base).drop off).drop us.length).take (n - off - us.length),
      (((L.drop base).drop off).drop us.length).drop (n - off - us.length), ?_, ?_, ?_, ?_, ?_⟩
    · simp only [List.take_append_drop]
    all_goals (simp only [List.length_take, List.length_drop]; omega)
  have t1 : (A ++ (B1 ++ (B2 ++ (B3 ++ C)))).take (base + off + 0) = A ++ B1 := by
    rw [← List.append_assoc]; exact List.take_left' (by simp; omega)
  have t2 : (A ++ (B1 ++ (B2 ++ (B3 ++ C)))).drop (base + off + 0 + vs.length) = B3 ++ C := by
    rw [← List.append_assoc, ← List.append_assoc]; exact List.drop_left' (by simp; omega)
  have t3 : ((A ++ (B1 ++ (B2 ++ (B3 ++ C)))).drop base).take n = B1 ++ (B2 ++ B3) := by
    rw [List.drop_left' hA, ← List.append_assoc B2, ← List.append_assoc B1]; exact List.take_left' (by simp; omega)
  have t4 : (B1 ++ (B2 ++ B3)).drop (off + us.length) = B3 := by
    rw [← List.append_assoc]; exact List.drop_left' (by simp; omega)
  have t5 : ((A ++ B1 ++ vs ++ (B3 ++ C)).drop base).take n = B1 ++ vs ++ B3 := by
    have e : A ++ B1 ++ vs ++ (B3 ++ C) = A ++ (B1 ++ vs ++ B3 ++ C) := by simp [List.append_assoc]
    rw [e, List.drop_left' hA]; exact List.take_left' (by simp; omega)
  rw [t1, t2, t3, t4, t5, List.take_left' hB1]

theorem VRL.okCells {P : Program} {μ : Ren} {l l' : List Value} (h : VRL P μ l l') (ho : l.all okCell = true) : ∀ v ∈ l', v.oneCell' = true := by
  induction l generalizing l' with
  | nil => cases h; simp
  | cons v l ih =>
    cases h with
    | cons hv hl =>
      simp only [List.all_cons, Bool.and_eq_true] at ho
      intro x hx
      rcases List.mem_cons.1 hx with rfl | hx
      · have h1 := ho.1
        cases hv <;> first | rfl | (simp [okCell] at h1)
      · exact ih hl ho.2 x hx

theorem sim_wrL {P : Program} {μ : Ren} {s : ES} {w : World} {a a' : Addr} {pl : Pl} {vs vs' : List Value} (hp : μ a.block = some pl) (ha : a' = ⟨pl.b, pl.base + a.off, none⟩) (hv : VRL P μ vs vs') :
    Sim P μ s w (fun _ _ _ => True) (wrL a vs s) ((storeCells a' vs').run P w) := by
  subst ha
  unfold wrL
  cases hs : a.spot with
  | some x => exact Sim.bad _ _
  | none =>
    simp only
    refine sim_eget _ fun o ho => ?_
    intro u s' he hf hst
    obtain ⟨pl', o', h1, h2, h3⟩ := hst.obj _ _ ho
    rw [hp] at h1; cases h1
    revert he
    cases o with
    | cells c e =>
      simp only [Nat.add_eq]
      cases hc : (a.off + vs.length).ble c.length && vs.all okCell with
      | false => simp [bad]
      | true =>
        simp only [Bool.and_eq_true, Nat.ble_eq] at hc
        simp only [cond_true, eset, ho, Res.ok.injEq]
        rintro ⟨_, rfl⟩
        have h3' := h3
        obtain ⟨e1, c', fr, rfl, g3, g4, g5, g6⟩ := h3
        have hlen := hv.length
        have hst' := run_storeB (P := P) pl.b (pl.base + a.off) vs' 0 w c' e fr h2 (by omega) (fun j h1 h2 => g6 j (by omega) (by omega)) (hv.okCells hc.2)
        rw [hst']
        refine sim_set (R := fun _ _ _ => True) (a := ()) hst ho hp (o1' := .cells (spl c' (pl.base + a.off + 0) vs') e fr) ?_ ?_ ?_ ?_ ?_ trivial _ <;> try rfl
        refine ⟨e1, _, fr, rfl, ?_, ?_, ?_, g6⟩
        · simp only [List.length_append, List.length_take, List.length_drop]; omega
        · rw [spl_size _ _ _ (by omega)]; exact g4
        · have hlc : (c.take a.off ++ vs ++ c.drop (a.off + vs.length)).length = c.length := by
            simp only [List.length_append, List.length_take, List.length_drop]; omega
          rw [hlc]
          have e2 : ((spl c' (pl.base + a.off + 0) vs').toList.drop pl.base).take c.length =
              ((c'.toList.drop pl.base).take c.length).take a.off ++ vs' ++ ((c'.toList.drop pl.base).take c.length).drop (a.off + vs.length) := by
            exact win_spl c'.toList pl.base a.off c.length vs vs' hlen (by omega) (by simp only [Array.length_toList]; omega)
          rw [e2]
          exact ((g5.take a.off).append hv).append (g5.drop _)
    | _ => simp [bad]

end Go.E

