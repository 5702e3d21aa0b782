import Derived.Test.YthbkkpahoolhbaaGreatDoorEv12
set_option linter.unusedSimpArgs false
set_option linter.unusedVariables false
set_option linter.unusedSectionVars false
namespace Go.E

/-! ### what the parts of a drawn region don't do -/
section
variable {P : Program} {X : Ctx} {r : Rec}

def Nm {α : Type} (e : EM α) : Prop := ∀ s a s1, e s = .ok a s1 → s1.nx = s.nx
theorem nm_ret {α : Type} (a : α) : Nm (EM.ret a) := by
  intro s b s1 h; simp only [EM.ret, Res.ok.injEq] at h; rw [h.2]
theorem nm_bad {α : Type} (y : String) : Nm (bad y : EM α) := by intro s b s1 h; cases h
theorem nm_eget (n : Nat) : Nm (eget n) := by
  intro s b s1 h; unfold eget at h
  cases hg : s.st.get n with
  | none => simp [hg] at h
  | some x => simp only [hg, Res.ok.injEq] at h; rw [h.2]
theorem nm_bnd {α β : Type} {m : EM α} {f : α → EM β} (hm : Nm m) (hf : ∀ a, Nm (f a)) : Nm (m.bnd f) := by
  intro s b s2 h
  obtain ⟨x, s1, h1, h2⟩ := bnd_ok h
  rw [hf _ _ _ _ h2, hm _ _ _ h1]
theorem nm_cond {α : Type} (b : Bool) {x y : EM α} (hx : Nm x) (hy : Nm y) : Nm (bif b then x else y) := by cases b <;> assumption
theorem nm_lift {α : Type} (y : String) (o : Option α) : Nm (lift y o) := by
  cases o with
  | none => exact nm_bad _
  | some a => exact nm_ret a
theorem nm_vo (y : String) (o : Option Value) : Nm (vo y o) := by unfold vo; cases o <;> first | exact nm_ret _ | exact nm_bad _
theorem nm_vl {m : EM Value} (h : Nm m) : Nm (vl m) := nm_bnd h fun _ => nm_ret _
theorem nm_mapOf (x : Value) : Nm (mapOf x) := by
  unfold mapOf
  (repeat' first | exact nm_bad _ | exact nm_ret _ | exact nm_eget _ | refine nm_bnd ?_ fun _ => ?_ | split)
theorem nm_rd (t : TypeId) (a : Addr) : Nm (rd P t a) := by
  unfold rd
  (repeat' first | exact nm_bad _ | exact nm_ret _ | exact nm_lift _ _ | exact nm_eget _ | refine nm_cond _ ?_ ?_ | refine nm_bnd ?_ fun _ => ?_ | split)

theorem nm_eop (ρ : Operand → Value) (o : Oper) (hb : bigOp o.op = false) (hm : makesOp o.op = false) : Nm (eop P X ρ o) := by
  cases ho : o.op <;> rw [ho] at hb hm <;> simp only [eop, ho] <;> first
    | exact nm_bad _
    | exact nm_ret _
    | exact nm_vo _ _
    | (simp [makesOp] at hm; done)
    | (simp [bigOp] at hb; done)
    | skip
  case pick => (repeat' first | exact nm_bad _ | exact nm_ret _ | split)
  case load t a =>
    refine nm_bnd ?_ fun _ => nm_vl (nm_rd _ _)
    unfold sureA
    (repeat' first | exact nm_bad _ | exact nm_ret _ | split)
  case nilCheck => (repeat' first | exact nm_bad _ | exact nm_ret _ | split)
  case makeInterface => (repeat' first | exact nm_bad _ | exact nm_ret _ | split)
  case makeFunc fn first cap => cases fn <;> first | exact nm_ret _ | exact nm_bad _
  case slice t x l h m =>
    refine nm_vl ?_
    unfold eSlice eSlice1 eSlStr eSlNil eSlCap eSlU eSliceU eSliceK
    (repeat' first | exact nm_bad _ | exact nm_ret _ | exact nm_eget _ | refine nm_cond _ ?_ ?_ | refine nm_bnd ?_ fun _ => ?_ | split)
  case lookup t x i ok =>
    refine nm_vl ?_
    unfold eLookup
    (repeat' first | exact nm_bad _ | exact nm_ret _ | exact nm_mapOf _ | exact nm_lift _ _ | refine nm_cond _ ?_ ?_ | refine nm_bnd ?_ fun _ => ?_ | split)
  case extract =>
    split
    · exact nm_vo _ _
    · exact nm_bad _
  case call c =>
    obtain ⟨callee, args, ats⟩ := c
    cases callee with
    | value f => simp [bigOp] at hb
    | invoke r n => simp [bigOp] at hb
    | builtin b =>
      simp only [eResolve, eInvoke, eBuiltin]
      cases b <;> first | (simp [bigOp] at hb; done) | exact nm_vo _ _ | skip
      case len =>
        refine nm_vl ?_
        unfold eLen
        (repeat' first | exact nm_bad _ | exact nm_ret _ | exact nm_mapOf _ | refine nm_bnd ?_ fun _ => ?_ | split)
      case unsafeSliceData =>
        refine nm_vl ?_
        unfold eSliceData
        (repeat' first | exact nm_bad _ | exact nm_ret _ | refine nm_cond _ ?_ ?_ | split)

/-! what the checked operations do to the frame -/
def Nd (e : EM ENext) : Prop := ∀ s nx s1, e s = .ok nx s1 → (∀ d, nx ≠ .defer d) ∧ nx ≠ .recover
theorem nd_ret {x : ENext} (h1 : ∀ d, x ≠ .defer d) (h2 : x ≠ .recover) : Nd (EM.ret x) := by
  intro s nx s1 h; simp only [EM.ret, Res.ok.injEq] at h; rw [← h.1]; exact ⟨h1, h2⟩
theorem nd_bad (y : String) : Nd (bad y) := by intro s b s1 h; cases h
theorem nd_bnd {α : Type} {m : EM α} {f : α → EM ENext} (hf : ∀ a, Nd (f a)) : Nd (m.bnd f) := by
  intro s b s2 h
  obtain ⟨x, s1, _, h2⟩ := bnd_ok h
  exact hf _ _ _ _ h2
theorem nd_cond (b : Bool) {x y : EM ENext} (hx : Nd x) (hy : Nd y) : Nd (bif b then x else y) := by cases b <;> assumption
theorem nd_vl (m : EM Value) : Nd (vl m) := nd_bnd fun _ => nd_ret (fun d hh => by cases hh) (fun hh => by cases hh)
theorem nd_vo (y : String) (o : Option Value) : Nd (vo y o) := by unfold vo; cases o <;> first | exact nd_ret (fun d hh => by cases hh) (fun hh => by cases hh) | exact nd_bad _
theorem nd_callFunc (f : FuncId) (as : List Value) : Nd (eCallFunc P X f as) := by
  unfold eCallFunc eKeysFn eSumFn eHeapFn
  (repeat' first | exact nd_bad _ | exact nd_ret (fun d hh => by cases hh) (fun hh => by cases hh) | refine nd_cond _ ?_ ?_ | refine nd_bnd fun _ => ?_ | split)

theorem not_dr {ρ : Operand → Value} {o : Oper} (hn : noDR o = true) : Nd (eop P X ρ o) := by
  cases ho : o.op <;> simp only [eop, ho]
  all_goals first
    | exact nd_bad _
    | exact nd_vl _
    | exact nd_vo _ _
    | exact nd_ret (fun d hh => by cases hh) (fun hh => by cases hh)
    | (simp [noDR, ho] at hn; done)
    | skip
  case call c =>
    obtain ⟨callee, args, ats⟩ := c
    cases callee with
    | invoke r n => exact nd_bad _
    | builtin b =>
      simp only [eResolve, eInvoke, eBuiltin]
      cases b <;> first
        | (simp [noDR, ho] at hn; done)
        | exact nd_bad _
        | exact nd_vl _
        | exact nd_vo _ _
        | (dsimp only; (repeat' first | exact nd_bad _ | exact nd_ret (fun d hh => by cases hh) (fun hh => by cases hh) | refine nd_bnd fun _ => ?_ | split); done)
    | value f =>
      simp only [eResolve]
      split
      · rename_i t as hx
        split at hx
        · cases hx
          unfold eInvoke
          split
          · rename_i hh; cases hh
          · exact nd_callFunc _ _
          · refine nd_bnd fun _ => ?_
            split
            · exact nd_cond _ (nd_ret (fun d hh => by cases hh) (fun hh => by cases hh)) (nd_bad _)
            · exact nd_bad _
          · exact nd_bad _
        · cases hx
      · exact nd_bad _
  case makeMap t rs =>
    cases rs with
    | none => exact nd_bnd fun _ => nd_ret (fun d hh => by cases hh) (fun hh => by cases hh)
    | some x =>
      dsimp only
      split
      · exact nd_bnd fun _ => nd_ret (fun d hh => by cases hh) (fun hh => by cases hh)
      · exact nd_bad _
  case makeFunc fn first cap => cases fn <;> first | exact nd_bad _ | exact nd_ret (fun d hh => by cases hh) (fun hh => by cases hh)
  all_goals (repeat' first | exact nd_bad _ | exact nd_vl _ | exact nd_vo _ _ | exact nd_ret (fun d hh => by cases hh) (fun hh => by cases hh) | refine nd_cond _ ?_ ?_ | refine nd_bnd fun _ => ?_ | split)

theorem oCall_frame {a a1 : Fr} {out : Out} {v : Value} {s1 : ES} (h : oCall a out = .go a1 v s1) : a1 = a := by
  unfold oCall at h
  cases out <;> simp only [One.go.injEq, reduceCtorEq] at h
  exact h.1.symm
theorem one_same {rd : Option Nat} {a a1 : Fr} {o : Oper} {ρ : Operand → Value} {s s1 : ES} {v : Value} (hn : noDR o = true) (h : one P r rd a o (eop P X ρ o s) = .go a1 v s1) : a1 = a := by
  cases he : eop P X ρ o s with
  | bad y => rw [he] at h; cases h
  | ok nx s2 =>
    obtain ⟨h1, h2⟩ := not_dr hn _ _ _ he
    rw [he] at h
    unfold one at h
    cases nx with
    | defer d => exact absurd rfl (h1 d)
    | recover => exact absurd rfl h2
    | enter f args => exact oCall_frame h
    | round l nt tm as bo => exact oCall_frame h
    | keys f g m =>
      simp only at h
      unfold oKeys oVal at h
      split at h
      · split at h
        · simp only [One.go.injEq] at h; exact h.1.symm
        · cases h
      · cases h
    | heap f args m =>
      simp only at h
      unfold oVal at h
      split at h
      · simp only [One.go.injEq] at h; exact h.1.symm
      · cases h
    | panic x => cases h
    | _ => simp only [One.go.injEq] at h; exact h.1.symm
end
end Go.E

namespace Go.E

section
variable {P : Program} {X : Ctx} {r : Rec} {ops : Array Oper} {rd : Option Nat} {ts : List Stp} {S : Nat → ES} {A : Nat → Fr}

theorem Nxt.lg {μ μ' : Ren} {s s' t t' : ES} {w w' : World} (h : Nxt P μ s w μ' s' w') (h1 : t.st = s.st) (h2 : t.nx = s.nx) (h3 : t'.st = s'.st) (h4 : t'.nx = s'.nx) : Nxt P μ t w μ' t' w' :=
  ⟨h.sub, by rw [h2, h4]; exact h.same, by rw [h3]; exact h.st, by rw [h1]; exact h.frm, by rw [h1, h3]; exact h.cover⟩

theorem StepOk.go (hX : CtxOk P X) (hS : SumOk P X) (hr : GoodR P r) {st : Stp} (h : StepOk P X r ops.toList rd st) : OpGo P ops.toList st.o rd st.a st.a' st.s st.s' := by
  cases h with
  | skip hw => exact skip_go hw
  | big hw hb h =>
    rename_i o a a1 s s1 v
    have h1 := one_good hX hS hr ops.toList rd a { s with lg := [] } o hw
    rw [h] at h1
    refine ⟨h1.1, fun j js hj μ w b k cs c hst hf hfr => ?_⟩
    obtain ⟨μ', w', c', cs', n1, n2⟩ := h1.2 j js hj μ w b k cs c hst hf hfr
    exact ⟨μ', w', c', cs', n1.lg rfl rfl rfl rfl, n2⟩
  | loc hw hb h => exact val_go hX hw h

theorem Places.mono1 (hX : CtxOk P X) (hS : SumOk P X) (hr : GoodR P r) (hp : Places P X r ops.toList rd ts S A) {i : Nat} (hi : i < ts.length) : (S i).nx ≤ (S (i + 1)).nx := by
  obtain ⟨p1, _, p3, _, p5⟩ := hp.at_ i ts[i] (by simp [hi])
  have := (p5.go hX hS hr).1
  rw [p1, p3] at this
  exact this
theorem Places.mono (hX : CtxOk P X) (hS : SumOk P X) (hr : GoodR P r) (hp : Places P X r ops.toList rd ts S A) {i : Nat} : ∀ d, i + d ≤ ts.length → (S i).nx ≤ (S (i + d)).nx
  | 0, _ => Nat.le_refl _
  | d + 1, h => Nat.le_trans (hp.mono hX hS hr d (by omega)) (hp.mono1 hX hS hr (by omega))

/-- the run in the text's order has worlds -/
theorem text_worlds (hX : CtxOk P X) (hS : SumOk P X) (hr : GoodR P r) (h : Ctxt P X r ops rd ts S A) {μ : Ren} {w : World} {b : Frame} {cs : List Frame} {c : Act}
    (hst : St P μ (S 0).st w) (hf : Free μ (S 0).nx (S ts.length).nx) (hfr : FrR P μ rd b cs (A 0) c) : ∀ i, i ≤ ts.length → ∃ μi wi csi ci, St P μi (S i).st wi ∧ FrR P μi rd b csi (A i) ci ∧ Free μi (S i).nx (S ts.length).nx
  | 0, _ => ⟨μ, w, cs, c, hst, hfr, hf⟩
  | i + 1, hi => by
    obtain ⟨μi, wi, csi, ci, h1, h2, h3⟩ := text_worlds hX hS hr h hst hf hfr i (by omega)
    have hx : ts[i]? = some ts[i] := by simp [show i < ts.length by omega]
    obtain ⟨p1, p2, p3, p4, p5⟩ := h.pl.at_ i _ hx
    have hg := p5.go hX hS hr
    rw [p1, p2, p3, p4] at hg
    have hm := h.pl.mono hX hS hr (i := i + 1) (ts.length - (i + 1)) (by omega)
    rw [show i + 1 + (ts.length - (i + 1)) = ts.length by omega] at hm
    obtain ⟨μ', w', c', cs', n1, n2, n3, n4⟩ := hg.2 i [] (h.op hx) μi wi b [] csi ci h1 (fun n k1 k2 => h3 n k1 (Nat.lt_of_lt_of_le k2 hm)) h2
    refine ⟨μ', w', cs', c', n1.st, n2, fun n k1 k2 => ?_⟩
    rw [n1.same n (by omega)]
    exact h3 n (Nat.le_trans hg.1 k1) k2

/-- what is known of the places of a run -/
structure Facts (P : Program) (X : Ctx) (r : Rec) (ops : Array Oper) (rd : Option Nat) (ts : List Stp) (S : Nat → ES) (A : Nat → Fr) : Prop where
  cx : Ctxt P X r ops rd ts S A
  prs : PairsOk (Region.before ops) 0 (ts.map (·.rc))
  mono : ∀ i d, i + d ≤ ts.length → (S i).nx ≤ (S (i + d)).nx
  none : ∀ i n, i ≤ ts.length → (S i).nx ≤ n → n < (S ts.length).nx → (S i).st.get n = none
  names : ∀ i st, ts[i]? = some st → st.rc.big = false → ∀ n ∈ st.rc.ns, n < (S i).nx ∨ (S ts.length).nx ≤ n
  keep : ∀ i st, ts[i]? = some st → ∀ n, ¬ (st.rc.lo ≤ n ∧ n < st.rc.hi) → (st.rc.big = true → n ∉ st.rc.ns) → (S (i + 1)).st.get n = (S i).st.get n
  lohi : ∀ i st, ts[i]? = some st → st.rc.lo = (S i).nx ∧ st.rc.hi = (S (i + 1)).nx

theorem name_rel {μ : Ren} {v v' : Value} (h : VR P μ v v') {n : Nat} (hn : n ∈ nameOf v) : ∃ pl, μ n = some pl := by
  cases h with
  | ptr h hs => simp only [nameOf, List.mem_singleton] at hn; subst hn; exact ⟨_, h⟩
  | slK h hs h1 => simp only [nameOf, List.mem_singleton] at hn; subst hn; exact ⟨_, h⟩
  | slU h hs h1 h2 => simp only [nameOf, List.mem_singleton] at hn; subst hn; exact ⟨_, h⟩
  | map h => simp only [nameOf, List.mem_singleton] at hn; subst hn; exact ⟨_, h⟩
  | _ => simp [nameOf] at hn

theorem reads_rel {μ : Ren} {tm : Tr Value} {ρ' : Operand → Value} (h : ∀ x, VR P μ (evalO tm x) (ρ' x)) (o : Op) {n : Nat} (hn : n ∈ readsOf (evalO tm) o) : ∃ pl, μ n = some pl := by
  unfold readsOf at hn
  split at hn
  · exact name_rel (h _) hn
  · exact name_rel (h _) hn
  · exact name_rel (h _) hn
  · exact name_rel (h _) hn
  · split at hn
    · exact name_rel (h _) hn
    · cases hn
  · cases hn

theorem facts (hX : CtxOk P X) (hS : SumOk P X) (hr : GoodR P r) (hl : LogR r) (h : Ctxt P X r ops rd ts S A) (hrec : PairsOk (Region.before ops) 0 (ts.map (·.rc))) {μ : Ren} {w : World} {b : Frame} {cs : List Frame} {c : Act}
    (hst : St P μ (S 0).st w) (hf : Free μ (S 0).nx (S ts.length).nx) (hfr : FrR P μ rd b cs (A 0) c) : Facts P X r ops rd ts S A := by
  have hw := text_worlds hX hS hr h hst hf hfr
  refine ⟨h, hrec, fun i d hd => h.pl.mono hX hS hr d hd, fun i n hi h1 h2 => ?_, fun i st hi hb n hn => ?_, fun i st hi n h1 h2 => ?_, fun i st hi => ?_⟩
  · obtain ⟨μi, wi, _, _, q1, _, q3⟩ := hw i hi
    cases hg : (S i).st.get n with
    | none => rfl
    | some o =>
      obtain ⟨pl, _, g1, _⟩ := q1.obj n o hg
      rw [q3 n h1 h2] at g1
      cases g1
  · have hlt : i < ts.length := (List.getElem?_eq_some_iff.1 hi).1
    obtain ⟨μi, wi, csi, ci, _, q2, q3⟩ := hw i (by omega)
    obtain ⟨p1, p2, p3, p4, p5⟩ := h.pl.at_ i st hi
    by_cases hx : (S i).nx ≤ n ∧ n < (S ts.length).nx
    · exfalso
      have h0 := q3 n hx.1 hx.2
      cases p5 with
      | skip hw => cases hn
      | big hw hbig h => cases hb
      | loc hw hbig h =>
        simp only at p2 hn
        rw [p2] at hn
        obtain ⟨pl, hpl⟩ := reads_rel (fun x => q2.eval x) _ hn
        rw [h0] at hpl
        cases hpl
    · omega
  · obtain ⟨p1, p2, p3, p4, p5⟩ := h.pl.at_ i st hi
    have := p5.keep hl h1 h2
    rw [p1, p3] at this
    exact this
  · obtain ⟨p1, p2, p3, p4, p5⟩ := h.pl.at_ i st hi
    rw [← p1, ← p3]
    cases p5 <;> exact ⟨rfl, rfl⟩
end
end Go.E

namespace Go.E

/-! ### the memory of a drawn region -/
def Tch (N : Nat) (st : Stp) (n : Nat) : Prop := (st.rc.lo ≤ n ∧ n < st.rc.hi) ∨ (st.rc.big = true ∧ n ∈ st.rc.ns ∧ (n < st.rc.lo ∨ N ≤ n))

theorem meets_iff {l m : List Nat} : meets l m = true ↔ ∃ n, n ∈ l ∧ n ∈ m := by
  induction l with
  | nil => simp [meets]
  | cons x l ih => simp [meets, ih, hasN_iff]
theorem made_iff {l : List Nat} {lo hi : Nat} : made l lo hi = true ↔ ∃ n, n ∈ l ∧ lo ≤ n ∧ n < hi := by
  simp [made]

section
variable {P : Program} {X : Ctx} {r : Rec} {ops : Array Oper} {rd : Option Nat} {ts : List Stp} {S : Nat → ES} {A : Nat → Fr}

theorem StepOk.kind {l : List Oper} {st : Stp} (h : StepOk P X r l rd st) : (st.rc.big = true → bigOp st.o.op = true) ∧ (st.rc.lo < st.rc.hi → bigOp st.o.op = true ∨ makesOp st.o.op = true) := by
  cases h with
  | skip hw => exact ⟨fun h => (by cases h), fun h => absurd h (Nat.lt_irrefl _)⟩
  | big hw hb h => exact ⟨fun _ => hb, fun _ => .inl hb⟩
  | loc hw hb h =>
    refine ⟨fun h => (by cases h), fun hlt => ?_⟩
    rename_i o a s s1 v
    cases hm : makesOp o.op with
    | true => exact .inr rfl
    | false =>
      have := nm_eop (P := P) (X := X) (evalO a.tm) o hb hm _ _ _ h
      simp only at hlt
      omega

theorem Facts.ends (F : Facts P X r ops rd ts S A) {i : Nat} {st : Stp} (hi : ts[i]? = some st) : i < ts.length ∧ st.rc.lo ≤ st.rc.hi ∧ st.rc.hi ≤ (S ts.length).nx ∧ st.rc.lo = (S i).nx ∧ st.rc.hi = (S (i + 1)).nx := by
  have hlt : i < ts.length := (List.getElem?_eq_some_iff.1 hi).1
  obtain ⟨h1, h2⟩ := F.lohi i st hi
  have h3 := F.mono i 1 (by omega)
  have h4 := F.mono (i + 1) (ts.length - (i + 1)) (by omega)
  rw [show i + 1 + (ts.length - (i + 1)) = ts.length by omega] at h4
  exact ⟨hlt, by omega, by omega, h1, h2⟩
theorem Facts.order (F : Facts P X r ops rd ts S A) {i j : Nat} {x y : Stp} (hi : ts[i]? = some x) (hj : ts[j]? = some y) (hij : i < j) : x.rc.hi ≤ y.rc.lo := by
  obtain ⟨a1, a2, a3, a4, a5⟩ := F.ends hi
  obtain ⟨b1, b2, b3, b4, b5⟩ := F.ends hj
  have := F.mono (i + 1) (j - (i + 1)) (by omega)
  rw [show i + 1 + (j - (i + 1)) = j by omega] at this
  omega

theorem Facts.keep' (F : Facts P X r ops rd ts S A) {i : Nat} {st : Stp} (hi : ts[i]? = some st) {n : Nat} (hn : ¬ Tch (S ts.length).nx st n) : (S (i + 1)).st.get n = (S i).st.get n := by
  obtain ⟨h1, h2, h3, h4, h5⟩ := F.ends hi
  have hmade : ¬ (st.rc.lo ≤ n ∧ n < st.rc.hi) := fun h => hn (.inl h)
  by_cases hx : st.rc.hi ≤ n ∧ n < (S ts.length).nx
  · rw [F.none (i + 1) n (by omega) (by omega) hx.2, F.none i n (by omega) (by omega) hx.2]
  · exact F.keep i st hi n hmade fun hb hm => hn (.inr ⟨hb, hm, by omega⟩)

theorem Facts.stable (F : Facts P X r ops rd ts S A) {n i : Nat} : ∀ d, i + d ≤ ts.length → (∀ x st, ts[x]? = some st → i ≤ x → x < i + d → ¬ Tch (S ts.length).nx st n) → (S (i + d)).st.get n = (S i).st.get n
  | 0, _, _ => rfl
  | d + 1, hd, h => by
    have hx : ts[i + d]? = some ts[i + d] := by simp [show i + d < ts.length by omega]
    rw [show i + (d + 1) = i + d + 1 by omega, F.keep' hx (h _ _ hx (by omega) (by omega))]
    exact F.stable d (by omega) fun x st hx h1 h2 => h x st hx h1 (by omega)

theorem not_free_big {l : List Oper} {x y : Oper} (hx : bigOp x.op = true ∨ makesOp x.op = true) (hy : bigOp y.op = true) : freeOk l x y = false := by
  unfold freeOk
  rcases hx with hx | hx <;> simp [hx, hy]

theorem Facts.tch_tch (F : Facts P X r ops rd ts S A) {i j : Nat} {x y : Stp} (hi : ts[i]? = some x) (hj : ts[j]? = some y) (hij : i < j) {n : Nat} (hx : Tch (S ts.length).nx x n) (hy : Tch (S ts.length).nx y n) :
    ordB (Region.before ops) i j = true := by
  have ho := F.order hi hj hij
  obtain ⟨a1, a2, a3, a4, a5⟩ := F.ends hi
  obtain ⟨b1, b2, b3, b4, b5⟩ := F.ends hj
  obtain ⟨k1, k2⟩ := (F.cx.pl.at_ i x hi).2.2.2.2.kind
  obtain ⟨k3, k4⟩ := (F.cx.pl.at_ j y hj).2.2.2.2.kind
  rcases hy with hy | ⟨hy, _⟩
  · rcases hx with hx | ⟨_, _, hx⟩
    · omega
    · omega
  · refine F.cx.pair hi hj hij (not_free_big ?_ (k3 hy))
    rcases hx with hx | ⟨hx, _⟩
    · exact k2 (by omega)
    · exact .inl (k1 hx)

def MemInv (ts : List Stp) (S : Nat → ES) (L : List Bool) (T : Tr EObj) : Prop :=
  ∀ n m, m ≤ ts.length → (∀ i st, ts[i]? = some st → Tch (S ts.length).nx st n → (L.getD i false = true ↔ i < m)) → T.get n = (S m).st.get n

theorem mem_start (F : Facts P X r ops rd ts S A) {L : List Bool} (hL : ∀ i, L.getD i false = false) : MemInv ts S L (S 0).st := by
  intro n m hm hw
  have := F.stable (n := n) (i := 0) m (by omega) fun x st hx h1 h2 ht => by
    have := (hw x st hx ht).2 (by omega)
    rw [hL] at this
    cases this
  rw [Nat.zero_add] at this
  exact this.symm

theorem set_get {L : List Bool} {j i : Nat} (hj : j < L.length) : (L.set j true).getD i false = true ↔ (i = j ∨ L.getD i false = true) := by
  rw [List.getD_eq_getElem?_getD, List.getD_eq_getElem?_getD, List.getElem?_set]
  by_cases hij : j = i
  · subst hij; simp [hj]
  · rw [if_neg hij]; simp [Ne.symm hij]

theorem mem_step (F : Facts P X r ops rd ts S A) {L : List Bool} {T T' : Tr EObj} (hinv : MemInv ts S L T) (hc : Closed ops L) {j : Nat} {st : Stp} (hj : ts[j]? = some st) (hLj : ¬ L.getD j false = true) (hlen : L.length = ts.length)
    (ha : ∀ n, Tch (S ts.length).nx st n → T'.get n = (S (j + 1)).st.get n) (hb : ∀ n, ¬ Tch (S ts.length).nx st n → T'.get n = T.get n) : MemInv ts S (L.set j true) T' := by
  have hlt : j < ts.length := (List.getElem?_eq_some_iff.1 hj).1
  intro n m hm hw
  by_cases ht : Tch (S ts.length).nx st n
  · have hjm : j < m := (hw j st hj ht).1 ((set_get (by omega)).2 (.inl rfl))
    rw [ha n ht]
    have := F.stable (n := n) (i := j + 1) (m - (j + 1)) (by omega) fun x y hx h1 h2 htx => by
      have h3 := (hw x y hx htx).2 (by omega)
      rcases (set_get (by omega)).1 h3 with h4 | h4
      · omega
      · exact hLj (hc j x h4 (F.tch_tch hj hx (by omega) ht htx))
    rw [show j + 1 + (m - (j + 1)) = m by omega] at this
    exact this.symm
  · rw [hb n ht]
    refine hinv n m hm fun i x hi hx => ?_
    have hij : i ≠ j := by
      intro h; subst h; rw [hj] at hi; cases hi; exact ht hx
    rw [← hw i x hi hx, set_get (by omega)]
    simp [hij]

theorem Facts.pairs (F : Facts P X r ops rd ts S A) {i j : Nat} {x y : Stp} (hi : ts[i]? = some x) (hj : ts[j]? = some y) (hij : i < j) : recOk x.rc y.rc = true ∨ ordB (Region.before ops) i j = true :=
  F.prs i j x.rc y.rc (Nat.zero_le _) hij (by simp [hi]) (by simp [hj])

/-- what a local operation reads -/
theorem mem_read (F : Facts P X r ops rd ts S A) {L : List Bool} {T : Tr EObj} (hinv : MemInv ts S L T) (hc : Closed ops L) {j : Nat} {st : Stp} (hj : ts[j]? = some st) (hLj : ¬ L.getD j false = true)
    (hpred : ∀ i, ordB (Region.before ops) i j = true → L.getD i false = true) (hb : st.rc.big = false) {n : Nat} (hn : n ∈ st.rc.ns) : T.get n = (S j).st.get n := by
  obtain ⟨a1, a2, a3, a4, a5⟩ := F.ends hj
  refine hinv n j (by omega) fun i x hi hx => ⟨fun hL => ?_, fun hij => ?_⟩
  · by_cases h1 : i < j
    · exact h1
    · exfalso
      by_cases h2 : i = j
      · subst h2; exact hLj hL
      · refine hLj (hc j i hL ?_)
        have ho := F.order hj hi (by omega)
        obtain ⟨b1, b2, b3, b4, b5⟩ := F.ends hi
        rcases F.pairs hj hi (by omega) with h3 | h3
        · exfalso
          have hnm := F.names j st hj hb n hn
          rcases hx with hx | ⟨hx, hx2, hx3⟩
          · omega
          · unfold recOk at h3
            rw [hb, hx] at h3
            have : meets st.rc.ns x.rc.ns = true := meets_iff.2 ⟨n, hn, hx2⟩
            simp [this] at h3
        · exact h3
  · refine hpred i ?_
    rcases F.pairs hi hj hij with h3 | h3
    · exfalso
      unfold recOk at h3
      rw [hb] at h3
      rcases hx with hx | ⟨hx, hx2, hx3⟩
      · have : made st.rc.ns x.rc.lo x.rc.hi = true := made_iff.2 ⟨n, hn, hx⟩
        cases hbx : x.rc.big <;> simp [hbx, this] at h3
      · have : meets st.rc.ns x.rc.ns = true := meets_iff.2 ⟨n, hn, hx2⟩
        simp [hx, this] at h3
    · exact h3

/-- what a big operation finds -/
theorem mem_big (F : Facts P X r ops rd ts S A) {L : List Bool} {T : Tr EObj} (hinv : MemInv ts S L T) (hc : Closed ops L) {j : Nat} {st : Stp} (hj : ts[j]? = some st) (hLj : ¬ L.getD j false = true)
    (hpred : ∀ i, ordB (Region.before ops) i j = true → L.getD i false = true) (hb : st.rc.big = true) {n : Nat} (hn : ¬ (st.rc.hi ≤ n ∧ n < (S ts.length).nx)) : T.get n = (S j).st.get n := by
  obtain ⟨a1, a2, a3, a4, a5⟩ := F.ends hj
  have hbig := (F.cx.pl.at_ j st hj).2.2.2.2.kind.1 hb
  refine hinv n j (by omega) fun i x hi hx => ⟨fun hL => ?_, fun hij => ?_⟩
  · by_cases h1 : i < j
    · exact h1
    · exfalso
      by_cases h2 : i = j
      · subst h2; exact hLj hL
      · refine hLj (hc j i hL ?_)
        have ho := F.order hj hi (by omega)
        obtain ⟨b1, b2, b3, b4, b5⟩ := F.ends hi
        rcases hx with hx | ⟨hx, hx2, hx3⟩
        · omega
        · exact F.cx.pair hj hi (by omega) (not_free_big (.inl hbig) ((F.cx.pl.at_ i x hi).2.2.2.2.kind.1 hx))
  · refine hpred i (F.cx.pair hi hj hij (not_free_big ?_ hbig))
    obtain ⟨k1, k2⟩ := (F.cx.pl.at_ i x hi).2.2.2.2.kind
    rcases hx with hx | ⟨hx, _⟩
    · exact k2 (by omega)
    · exact .inl (k1 hx)

/-- another store, at some names -/
noncomputable def ovl (t u : Tr EObj) (lo : Nat) : Nat → Tr EObj
  | 0 => t
  | k + 1 => (ovl t u lo k).upd (lo + k) (u.get (lo + k))
theorem ovl_get (t u : Tr EObj) (lo n : Nat) : ∀ k, (ovl t u lo k).get n = if lo ≤ n ∧ n < lo + k then u.get n else t.get n
  | 0 => by rw [if_neg (by omega)]; rfl
  | k + 1 => by
    simp only [ovl, Tr.get_upd]
    by_cases h : n = lo + k
    · subst h; rw [if_pos rfl, if_pos (by omega)]
    · rw [if_neg h, ovl_get t u lo n k]
      by_cases h2 : lo ≤ n ∧ n < lo + k
      · rw [if_pos h2, if_pos (by omega)]
      · rw [if_neg h2, if_neg (by omega)]
end
end Go.E

namespace Go.E

section
variable {P : Program} {X : Ctx} {r : Rec} {ops : Array Oper} {rd : Option Nat} {ts : List Stp} {S : Nat → ES} {A : Nat → Fr}

/-- one more step, of which only some names are new -/
theorem Nxt.app {μ μ1 μ2 : Ren} {s t t1 t' : ES} {w w1 w2 : World} {b : Nat} (hn : s.nx ≤ t.nx) (hn' : t1.nx ≤ b)
    (h : Nxt P μ s w μ1 ⟨t.st, b, []⟩ w1) (h' : Nxt P μ1 t w1 μ2 t1 w2) (he : t' = ⟨t1.st, b, []⟩) : Nxt P μ s w μ2 t' w2 := by
  subst he
  refine ⟨h.sub.trans h'.sub, fun n hx => ?_, h'.st, ⟨Nat.le_trans h.frm.size h'.frm.size, h'.frm.tape.trans h.frm.tape, h'.frm.os.trans h.frm.os, h'.frm.output.trans h.frm.output, fun b hb hk => ?_⟩, fun n pl hl hm => ?_⟩
  · simp only at hx
    rw [h'.same n (fun hh => hx ⟨Nat.le_trans hn hh.1, Nat.lt_of_lt_of_le hh.2 hn'⟩), h.same n hx]
  · rw [h'.frm.kept b (Nat.lt_of_lt_of_le hb h.frm.size) (fun n pl hl hm heq => ?_), h.frm.kept b hb hk]
    rcases h.cover n pl hl hm with hc | ⟨m, pm, h1, h2, h3⟩
    · omega
    · exact hk m pm h1 h2 (h3.trans heq)
  · rcases h'.cover n pl hl hm with hc | ⟨m, pm, h1, h2, h3⟩
    · exact .inl (Nat.le_trans h.frm.size hc)
    · rcases h.cover m pm h1 h2 with hc | ⟨k, pk, k1, k2, k3⟩
      · exact .inl (h3 ▸ hc)
      · exact .inr ⟨k, pk, k1, k2, k3.trans h3⟩

/-- a big step, with other objects beside it -/
theorem Nxt.beside {μ μ' : Ren} {s s1 : ES} {w w' : World} {T : Tr EObj} {hi N : Nat} (h : Nxt P μ s w μ' s1 w') (hT : St P μ T w) (hhi : s1.nx = hi)
    (heq : ∀ n, ¬ (hi ≤ n ∧ n < N) → T.get n = s.st.get n) (hnone : ∀ n, hi ≤ n → n < N → s.st.get n = none) (d : Nat) (hd : hi + d = N) :
    Nxt P μ ⟨T, s.nx, []⟩ w μ' ⟨ovl s1.st T hi d, hi, []⟩ w' := by
  have hsame : ∀ n, hi ≤ n → μ' n = μ n := fun n hn => h.same n (by omega)
  have live : ∀ {n}, Live s.st n → Live T n ∧ ¬ (hi ≤ n ∧ n < N) := by
    intro n ⟨o, ho⟩
    have hx : ¬ (hi ≤ n ∧ n < N) := by
      intro ⟨h1, h2⟩
      rw [hnone n h1 h2] at ho; cases ho
    exact ⟨⟨o, by rw [heq n hx]; exact ho⟩, hx⟩
  have hlt : ∀ {b : Nat} {o : Obj}, w.heap[b]? = some o → b < w.heap.size := fun hb => (Array.getElem?_eq_some_iff.1 hb).1
  have kept : ∀ n pl, hi ≤ n ∧ n < N → Live T n → μ n = some pl → w'.heap[pl.b]? = w.heap[pl.b]? := by
    intro n pl hn hl hm
    obtain ⟨o, ho⟩ := hl
    obtain ⟨pl', o', g1, g2, _⟩ := hT.obj n o ho
    rw [hm] at g1; cases g1
    refine h.frm.kept _ (hlt g2) fun m pm hlm hmm hb => ?_
    obtain ⟨q1, q2⟩ := live hlm
    have := hT.inj m n pm pl q1 ⟨o, ho⟩ hmm hm hb
    subst this
    exact q2 hn
  have key : ∀ {n}, Live (ovl s1.st T hi d) n → ((hi ≤ n ∧ n < N) ∧ Live T n) ∨ (¬ (hi ≤ n ∧ n < N) ∧ Live s1.st n) := by
    intro n ⟨o, ho⟩
    rw [ovl_get, hd] at ho
    by_cases hx : hi ≤ n ∧ n < N
    · rw [if_pos hx] at ho; exact .inl ⟨hx, o, ho⟩
    · rw [if_neg hx] at ho; exact .inr ⟨hx, o, ho⟩
  have cross : ∀ n m pl pm, (hi ≤ n ∧ n < N) → Live T n → ¬ (hi ≤ m ∧ m < N) → Live s1.st m → μ' n = some pl → μ' m = some pm → pl.b = pm.b → False := by
    intro n m pl pm hn hln hm hlm h1 h2 h3
    rw [hsame n hn.1] at h1
    obtain ⟨o, ho⟩ := hln
    obtain ⟨pl', o', g1, g2, _⟩ := hT.obj n o ho
    rw [h1] at g1; cases g1
    have := hlt g2
    rcases h.cover m pm hlm h2 with hc | ⟨k, pk, k1, k2, k3⟩
    · omega
    · obtain ⟨q1, q2⟩ := live k1
      have := hT.inj k n pk pl q1 ⟨o, ho⟩ k2 h1 (by omega)
      subst this
      exact q2 hn
  refine ⟨h.sub, fun n hx => h.same n (by rw [hhi]; exact hx), ⟨fun n o ho => ?_, fun n m pl pm hln hlm h1 h2 h3 => ?_⟩, ⟨h.frm.size, h.frm.tape, h.frm.os, h.frm.output, fun b hb hk => h.frm.kept b hb fun n pl hl hm => hk n pl (live hl).1 hm⟩, fun n pl hl hm => ?_⟩
  · simp only at ho
    rw [ovl_get, hd] at ho
    by_cases hx : hi ≤ n ∧ n < N
    · rw [if_pos hx] at ho
      obtain ⟨pl, o', g1, g2, g3⟩ := hT.obj n o ho
      exact ⟨pl, o', h.sub _ _ g1, by rw [kept n pl hx ⟨o, ho⟩ g1]; exact g2, g3.sub h.sub⟩
    · rw [if_neg hx] at ho
      exact h.st.obj n o ho
  · rcases key hln with ⟨a1, a2⟩ | ⟨a1, a2⟩ <;> rcases key hlm with ⟨b1, b2⟩ | ⟨b1, b2⟩
    · rw [hsame n a1.1] at h1; rw [hsame m b1.1] at h2
      exact hT.inj n m pl pm a2 b2 h1 h2 h3
    · exact (cross n m pl pm a1 a2 b1 b2 h1 h2 h3).elim
    · exact (cross m n pm pl b1 b2 a1 a2 h2 h1 h3.symm).elim
    · exact h.st.inj n m pl pm a2 b2 h1 h2 h3
  · rcases key hl with ⟨a1, a2⟩ | ⟨a1, a2⟩
    · rw [hsame n a1.1] at hm
      exact .inr ⟨n, pl, a2, hm, rfl⟩
    · rcases h.cover n pl a2 hm with hc | ⟨k, pk, k1, k2, k3⟩
      · exact .inl hc
      · exact .inr ⟨k, pk, (live k1).1, k2, k3⟩

/-- where the machine stands -/
structure Inv (P : Program) (ops : Array Oper) (rd : Option Nat) (ts : List Stp) (S : Nat → ES) (A : Nat → Fr) (μ0 : Ren) (s0 : ES) (w0 : World) (b : Frame) (L : List Bool) (T : Tr EObj) (tm : Tr Value) (μ : Ren) (w : World) (cs : List Frame) (c : Act) : Prop where
  mem : MemInv ts S L T
  tmi : TmInv ts A L tm
  cl : Closed ops L
  len : L.length = ts.length
  fr : FrR P μ rd b cs { A 0 with tm := tm } c
  nxt : Nxt P μ0 s0 w0 μ ⟨T, (S ts.length).nx, []⟩ w
  und : ∀ i st, ts[i]? = some st → ¬ L.getD i false = true → ∀ n, st.rc.lo ≤ n → n < st.rc.hi → μ n = none

/-- the frame changes in its temporaries only -/
theorem StepOk.frame {l : List Oper} {st : Stp} (h : StepOk P X r l rd st) (hn : noDR st.o = true) : ∃ tm, st.a' = { st.a with tm := tm } := by
  have hput : ∀ (a : Fr) (d : Option Tmp) (v : Value), ∃ tm, E.put a d v = { a with tm := tm } := by
    intro a d v
    cases d with
    | none => exact ⟨a.tm, rfl⟩
    | some d => unfold E.put; simp only; cases d.blt a.nt <;> exact ⟨_, rfl⟩
  cases h with
  | skip hw => exact hput _ _ _
  | big hw hb h =>
    have := one_same hn h
    subst this
    exact hput _ _ _
  | loc hw hb h => exact hput _ _ _

theorem frames (F : Facts P X r ops rd ts S A) : ∀ i, i ≤ ts.length → A i = { A 0 with tm := (A i).tm }
  | 0, _ => rfl
  | i + 1, h => by
    have ih := frames F i (by omega)
    have hx : ts[i]? = some ts[i] := by simp [show i < ts.length by omega]
    obtain ⟨p1, p2, p3, p4, p5⟩ := F.cx.pl.at_ i _ hx
    have hn := (dOk2_get ops.toList 0 i _ F.cx.ok (F.cx.op hx)).1
    obtain ⟨tm, ht⟩ := p5.frame hn
    rw [p4, p2] at ht
    rw [ht, ih]

theorem inv_step (hX : CtxOk P X) (hS : SumOk P X) (hr : GoodR P r) (F : Facts P X r ops rd ts S A) {μ0 : Ren} {w0 : World} {b : Frame} {k : List Item} {L : List Bool} {T : Tr EObj} {tm : Tr Value} {μ : Ren} {w : World} {cs : List Frame} {c : Act}
    (h : Inv P ops rd ts S A μ0 (S 0) w0 b L T tm μ w cs c) {j : Nat} {js : List Nat} {o : Oper} (hj : L.getD j true = false) (ho : ops[j]? = some o) (hb : ∀ e ∈ o.after, Region.binds .any e = true → L.getD e.on false = true) :
    ∃ T' tm' μ' w' cs' c', Inv P ops rd ts S A μ0 (S 0) w0 b (L.set j true) T' tm' μ' w' cs' c' ∧ CsR b.kind cs cs' ∧
      Steps P (lone (b.atR c (.inRegion ops (j :: js) :: k)) cs w) (lone (b.atR c' (.inRegion ops js :: k)) cs' w') := by
  have hlen : ts.length = ops.size := by
    have := congrArg List.length F.cx.eqo
    simpa using this
  have hlt : j < ts.length := by have := (Array.getElem?_eq_some_iff.1 ho).1; omega
  have hst : ts[j]? = some ts[j] := by simp [hlt]
  generalize hstv : ts[j] = st at hst
  have hopj := F.cx.op hst
  have hoo : st.o = o := by
    have h1 : ops.toList[j]? = some o := by simpa using ho
    rw [h1] at hopj; cases hopj; rfl
  have hLj : ¬ L.getD j false = true := by
    rw [List.getD_eq_getElem?_getD] at hj ⊢
    cases hx : L[j]? with
    | none => simp
    | some y => rw [hx] at hj; simp at hj; simp [hj]
  have hpred : ∀ i, ordB (Region.before ops) i j = true → L.getD i false = true := fun i hi => closed_all h.cl ho hb hi
  obtain ⟨p1, p2, p3, p4, p5⟩ := F.cx.pl.at_ j st hst
  obtain ⟨e1, e2, e3, e4, e5⟩ := F.ends hst
  have hread := tm_read F.cx h.tmi h.cl hst hLj hpred
  have hA := frames F j (by omega)
  have hn0 := F.mono 0 j (by omega)
  rw [Nat.zero_add] at hn0
  have hfree : Free μ st.rc.lo st.rc.hi := fun n h1 h2 => h.und j st hst hLj n h1 h2
  have hcl' : Closed ops (L.set j true) := closed_set h.cl ho hb
  have hlen' : (L.set j true).length = ts.length := by simp [h.len]
  -- what is common
  have fin : ∀ (t t1 : ES) (a1 : Fr) (v : Value), t.st = T → t.nx = st.rc.lo → t1.nx = st.rc.hi → OpGo P ops.toList st.o rd { A 0 with tm := tm } (put { A 0 with tm := tm } st.o.dst v) t t1 → st.a' = put a1 st.o.dst v → a1 = st.a →
      (∀ n, Tch (S ts.length).nx st n → t1.st.get n = (S (j + 1)).st.get n) → (∀ n, ¬ Tch (S ts.length).nx st n → t1.st.get n = T.get n) →
      ∃ T' tm' μ' w' cs' c', Inv P ops rd ts S A μ0 (S 0) w0 b (L.set j true) T' tm' μ' w' cs' c' ∧ CsR b.kind cs cs' ∧
        Steps P (lone (b.atR c (.inRegion ops (j :: js) :: k)) cs w) (lone (b.atR c' (.inRegion ops js :: k)) cs' w') := by
    intro t t1 a1 v ht htn ht1 hg ha ha1 q1 q2
    subst ht
    subst ha1
    obtain ⟨μ', w', c', cs', n1, n2, n3, n4⟩ := hg.2 j js hopj μ w b k cs c h.nxt.st (by rw [htn, ht1]; exact hfree) h.fr
    have hputf : put { A 0 with tm := tm } st.o.dst v = { A 0 with tm := (put { A 0 with tm := tm } st.o.dst v).tm } := by
      cases st.o.dst with
      | none => rfl
      | some d => unfold E.put; simp only; cases d.blt (A 0).nt <;> rfl
    rw [hputf] at n2
    refine ⟨t1.st, (put { A 0 with tm := tm } st.o.dst v).tm, μ', w', cs', c', ⟨mem_step F h.mem h.cl hst hLj h.len q1 q2, ?_, hcl', hlen', n2, ?_, ?_⟩, n3, n4⟩
    · refine tm_step F.cx h.tmi h.cl hst hLj h.len hpred ha rfl rfl ?_
      rw [p2, hA]
    · exact h.nxt.app (by rw [htn]; omega) (by rw [ht1]; exact e3) n1 rfl
    · intro i x hi hL n k1 k2
      have hij : i ≠ j := by
        intro hh; subst hh
        exact hL ((set_get (by have := h.len; omega)).2 (.inl rfl))
      have hLi : ¬ L.getD i false = true := fun hh => hL ((set_get (by have := h.len; omega)).2 (.inr hh))
      have hout : ¬ (t.nx ≤ n ∧ n < t1.nx) := by
        rw [htn, ht1]
        by_cases hlt2 : i < j
        · have := F.order hi hst hlt2; omega
        · have := F.order hst hi (by omega); omega
      rw [n1.same n hout]
      exact h.und i x hi hLi n k1 k2
  have hwant := want_tm (ops := ops.toList) (o := st.o) hread
  have heop := eop_tm (P := P) (X := X) (ops := ops.toList) (o := st.o) hread
  cases p5 with
  | skip hw =>
    rename_i o1 a1 s1
    simp only at hread hwant heop hopj p1 p2 p3 p4 hoo e4 e5
    subst p1
    subst p2
    rw [← hwant] at hw
    refine fin ⟨T, (S j).nx, []⟩ ⟨T, (S j).nx, []⟩ _ undef rfl rfl rfl (skip_go (a := { A 0 with tm := tm }) hw) rfl rfl (fun n ht => ?_) (fun n _ => rfl)
    rcases ht with ht | ⟨ht, _⟩
    · simp only at ht; omega
    · cases ht
  | big hw hbig hone =>
    rename_i o1 a0 a1 s0 s1 v
    have hn := (dOk2_get ops.toList 0 j _ F.cx.ok hopj).1
    simp only at hread hwant heop hopj p1 p2 p3 p4 hoo e4 e5 hn
    subst p1
    subst p2
    have hsame := one_same hn hone
    subst hsame
    rw [← hwant] at hw
    rw [← heop] at hone
    have hone' := (one_frame hone tm).1
    have hfrm : ({ A j with tm := tm } : Fr) = { A 0 with tm := tm } := by rw [hA]
    rw [hfrm] at hone'
    have hgood := one_good hX hS hr ops.toList rd { A 0 with tm := tm } { S j with lg := [] } o1 hw
    have heq0 : eop P X (evalO ({ A 0 with tm := tm } : Fr).tm) o1 = eop P X (evalO tm) o1 := rfl
    rw [heq0, hone'] at hgood
    have hgo : OpGo P ops.toList o1 rd { A 0 with tm := tm } (put { A 0 with tm := tm } o1.dst v) { S j with lg := [] } s1 := hgood
    have hT : ∀ n, ¬ (s1.nx ≤ n ∧ n < (S ts.length).nx) → T.get n = (S j).st.get n := fun n hx => mem_big F h.mem h.cl hst hLj hpred rfl hx
    have hnone : ∀ n, s1.nx ≤ n → n < (S ts.length).nx → (S j).st.get n = none := fun n k1 k2 => F.none j n (by omega) (by have := hgo.1; simp only at this; omega) k2
    have hd : s1.nx + ((S ts.length).nx - s1.nx) = (S ts.length).nx := by simp only at e3; omega
    have hs1 : (S (j + 1)).st = s1.st := by rw [← p3]
    refine fin ⟨T, (S j).nx, []⟩ ⟨ovl s1.st T s1.nx ((S ts.length).nx - s1.nx), s1.nx, []⟩ _ v rfl rfl rfl ⟨hgo.1, fun j' js' hj' μ w b k cs c hst' hf hfr => ?_⟩ rfl rfl (fun n ht => ?_) (fun n ht => ?_)
    · have hstj : St P μ (S j).st w := by
        have hl : ∀ n o, (S j).st.get n = some o → T.get n = some o := by
          intro n o hn
          rw [hT n fun hx => by rw [hnone n hx.1 hx.2] at hn; cases hn]
          exact hn
        exact ⟨fun n o hn => hst'.obj n o (hl n o hn), fun n m pl pm ⟨x, hx⟩ ⟨y, hy⟩ => hst'.inj n m pl pm ⟨x, hl n x hx⟩ ⟨y, hl m y hy⟩⟩
      obtain ⟨μ', w', c', cs', n1, n2⟩ := hgo.2 j' js' hj' μ w b k cs c hstj hf hfr
      exact ⟨μ', w', c', cs', n1.beside hst' rfl hT hnone _ hd, n2⟩
    · rw [ovl_get, hd, hs1]
      rw [if_neg]
      intro ⟨k1, k2⟩
      rcases ht with ht | ⟨_, _, ht⟩
      · simp only at ht; omega
      · simp only at ht
        have := hgo.1
        simp only at this
        omega
    · simp only
      rw [ovl_get, hd]
      by_cases hx : s1.nx ≤ n ∧ n < (S ts.length).nx
      · rw [if_pos hx]
      · rw [if_neg hx, hT n hx, ← hs1]
        exact F.keep' hst ht
  | loc hw hbig hop =>
    rename_i o1 a0 s0 s1 v
    simp only at hread hwant heop hopj p1 p2 p3 p4 hoo e4 e5
    subst p1
    subst p2
    subst p3
    rw [← hwant] at hw
    obtain ⟨⟨l1, l2, l3⟩, t1, k1, k2, k3, k4, k5⟩ := loc_eop (P := P) (X := X) (evalO (A j).tm) o1 hbig (S j) ⟨T, (S j).nx, []⟩ _ _ (fun n hn => mem_read F h.mem h.cl hst hLj hpred rfl hn) rfl hop
    rw [← heop] at k1
    refine fin ⟨T, (S j).nx, []⟩ t1 _ v rfl rfl k2 (val_go (a := { A 0 with tm := tm }) hX hw k1) rfl rfl (fun n ht => ?_) (fun n ht => ?_)
    · rcases ht with ht | ⟨ht, _⟩
      · exact k5 n ht.1 ht.2
      · cases ht
    · exact k4 n (by
        by_cases hx : (S j).nx ≤ n ∧ n < (S (j + 1)).nx
        · exact absurd (.inl hx) ht
        · omega)
end
end Go.E

