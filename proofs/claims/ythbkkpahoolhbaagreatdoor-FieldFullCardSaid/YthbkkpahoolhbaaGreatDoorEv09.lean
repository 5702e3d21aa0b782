import Derived.Test.YthbkkpahoolhbaaGreatDoorEv08
set_option linter.unusedSimpArgs false
set_option linter.unusedVariables false
set_option linter.unusedSectionVars false
namespace Go.E

section
variable {P : Program} {X : Ctx} {r : Rec}

theorem stepR_scope {b : Frame} {a : Act} {k : List Item} {cs : List Frame} {w : World} {c : Code} :
    step P (lone (b.atR a (.code (.scope c) :: k)) cs w) = .next (lone (b.atR a (.code c :: .inScope c :: k)) cs w) :=
  step_lone_go (by simp [stepG, stepG.exec, Frame.atR])
theorem stepR_inScope {b : Frame} {a : Act} {k : List Item} {cs : List Frame} {w : World} {c : Code} :
    step P (lone (b.atR a (.inScope c :: k)) cs w) = .next (lone (b.atR a k) cs w) :=
  step_lone_go (by simp [stepG, stepG.exec, Frame.atR])

theorem evalO_rel {μ : Ren} {nt : Nat} {tm : Tr Value} {tmps : Array Value} {ds : List Deferred} (h : TR P μ nt tm tmps) (x : Operand) : VR P μ (evalO tm x) ((⟨tmps, ds⟩ : Act).eval x) := by
  cases x with
  | tmp t => exact h.2 t
  | const v =>
    simp only [evalO, Act.eval]
    cases hp : plain v with
    | true => exact VR.of_plain v hp
    | false => exact .junk v
  | global g => exact .junk _
  | func f => exact .func f .nil .nil
theorem FrR.eval {μ : Ren} {rd : Option Nat} {b : Frame} {cs : List Frame} {a : Fr} {c : Act} (h : FrR P μ rd b cs a c) (x : Operand) : VR P μ (evalO a.tm x) (c.eval x) := evalO_rel h.tr x

/-- nothing happens but steps -/
theorem good_stay {start : Frame → List Item → Act → Frame} {rd : Option Nat} {a : Fr} {s : ES} {e : Ex}
    (h : ∀ (μ : Ren) (b : Frame) (k : List Item) (cs : List Frame) (c : Act) (w : World), ArrR P μ (lone (start b k c) cs w) b k cs c w e) : GoodCode P start rd a s e a s :=
  ⟨Nat.le_refl _, fun μ w b k cs c hst _ hfr => ⟨μ, w, c, cs, Nxt.refl hst, hfr, .refl _, h _ _ _ _ _ _⟩⟩

/-- the run of one part, from a state some steps on -/
theorem good_sub {start start' : Frame → List Item → Act → Frame} {rd : Option Nat} {a a' : Fr} {s s' : ES} {e : Ex} (h : GoodCode P start' rd a s e a' s')
    (h1 : ∀ (b : Frame) (k : List Item) (c : Act), ∃ k' : List Item, ∀ (cs : List Frame) (w : World),
      Steps P (lone (start b k c) cs w) (lone (start' b k' c) cs w) ∧ ∀ μ m cs' c' w', ArrR P μ m b k' cs' c' w' e → ArrR P μ m b k cs' c' w' e) : GoodCode P start rd a s e a' s' := by
  refine ⟨h.1, fun μ w b k cs c hst hf hfr => ?_⟩
  obtain ⟨k', hk⟩ := h1 b k c
  obtain ⟨μ', w', c', cs', n1, n2, n3, n4⟩ := h.2 μ w b k' cs c hst hf hfr
  exact ⟨μ', w', c', cs', n1, n2, n3, (hk cs' w).2 _ _ _ _ _ (.of_steps (hk cs w).1 n4)⟩

/-- the state at which the model stands when the evaluator's context holds -/
theorem good_under {start start' : Frame → List Item → Act → Frame} {rd : Option Nat} {a a' : Fr} {s s' : ES} {e : Ex} (hn : s.nx ≤ s'.nx)
    (h : ∀ (μ : Ren) (w : World) (b : Frame) (k : List Item) (cs : List Frame) (c : Act), St P μ s.st w → FrR P μ rd b cs a c →
      ∃ k' : List Item, Steps P (lone (start b k c) cs w) (lone (start' b k' c) cs w) ∧ ∀ μ m cs' c' w', ArrR P μ m b k' cs' c' w' e → ArrR P μ m b k cs' c' w' e)
    (hg : GoodCode P start' rd a s e a' s') : GoodCode P start rd a s e a' s' := by
  refine ⟨hn, fun μ w b k cs c hst hf hfr => ?_⟩
  obtain ⟨k', hk1, hk2⟩ := h μ w b k cs c hst hfr
  obtain ⟨μ', w', c', cs', n1, n2, n3, n4⟩ := hg.2 μ w b k' cs c hst hf hfr
  exact ⟨μ', w', c', cs', n1, n2, n3, hk2 _ _ _ _ _ (.of_steps hk1 n4)⟩

theorem seq_good {rd : Option Nat} {a a1 a2 : Fr} {s s1 s2 : ES} {e : Ex} {x y : Code}
    (h : GoodCode P (fun b k c => b.atR c (.code x :: k)) rd a s .normal a1 s1) (h' : GoodCode P (fun b k c => b.atR c (.code y :: k)) rd a1 s1 e a2 s2) :
    GoodCode P (fun b k c => b.atR c (.code (.seq x y) :: k)) rd a s e a2 s2 := by
  refine ⟨Nat.le_trans h.1 h'.1, fun μ w b k cs c hst hf hfr => ?_⟩
  obtain ⟨μ1, w1, c1, cs1, n1, n2, n3, n4⟩ := h.2 μ w b (.code y :: k) cs c hst (fun n k1 k2 => hf n k1 (Nat.lt_of_lt_of_le k2 h'.1)) hfr
  obtain ⟨μ2, w2, c2, cs2, m1, m2, m3, m4⟩ := h'.2 μ1 w1 b k cs1 c1 n1.st (fun n k1 k2 => by rw [n1.same n (by omega)]; exact hf n (Nat.le_trans h.1 k1) k2) n2
  refine ⟨μ2, w2, c2, cs2, n1.trans h.1 h'.1 m1, m2, n3.trans m3, ?_⟩
  cases n4 with
  | normal hs => exact .of_steps ((Steps.one stepR_seq).trans hs) m4

theorem cSeq_good (hr : GoodR P r) (x y : Code) (rd : Option Nat) (a : Fr) (s : ES) : Good P (.code (.seq x y) rd a) s (cSeq r x y rd a s) := by
  unfold cSeq
  have hx := hr (.code x rd a) s
  cases ho : r (.code x rd a) s with
  | code e a' s' =>
    rw [ho] at hx
    have pass : ∀ e, e ≠ .normal → GoodCode P (fun b k c => b.atR c (.code x :: k)) rd a s e a' s' → GoodCode P (fun b k c => b.atR c (.code (.seq x y) :: k)) rd a s e a' s' := by
      intro e he hx
      refine good_sub (h := hx) fun b k c => ⟨.code y :: k, fun cs w => ⟨.one stepR_seq, fun μ m cs' c' w' h => ?_⟩⟩
      cases h with
      | normal h1 => exact absurd rfl he
      | exit i h1 h2 => exact .exit i h1 (h2.trans rfl)
      | ret h1 => exact .ret h1
      | pan hv h1 => exact .pan hv h1
    cases e with
    | normal =>
      simp only
      have hy := hr (.code y rd a') s'
      cases ho2 : r (.code y rd a') s' with
      | code e2 a2 s2 =>
        rw [ho2] at hy
        exact seq_good hx hy
      | _ => trivial
    | exit i => exact pass _ (by intro h; cases h) hx
    | ret => exact pass _ (by intro h; cases h) hx
    | pan v => exact pass _ (by intro h; cases h) hx
  | _ => trivial

theorem cCond_good (hr : GoodR P r) (o : Operand) (x y : Code) (rd : Option Nat) (a : Fr) (s : ES) : Good P (.code (.cond o x y) rd a) s (cCond r (evalO a.tm o) x y rd a s) := by
  unfold cCond
  cases hv : evalO a.tm o with
  | bool t =>
    simp only
    have hx := hr (.code (bif t then x else y) rd a) s
    cases ho : r (.code (bif t then x else y) rd a) s with
    | code e a' s' =>
      rw [ho] at hx
      refine good_under (start' := fun b k c => b.atR c (.code (bif t then x else y) :: k)) hx.1 (fun μ w b k cs c _ hfr => ⟨k, .one ?_, fun _ _ _ _ _ h => h⟩) hx
      have he := hfr.eval o
      rw [hv] at he
      have := he.bool_inv
      rw [stepR_cond this]
      cases t <;> rfl
    | _ => trivial
  | _ => trivial

theorem cBlock_good (hr : GoodR P r) (id : Nat) (x : Code) (rd : Option Nat) (a : Fr) (s : ES) : Good P (.code (.block id x) rd a) s (cBlock r id x rd a s) := by
  unfold cBlock
  have hx := hr (.code x rd a) s
  cases ho : r (.code x rd a) s with
  | code e a' s' =>
    rw [ho] at hx
    have pass : ∀ e, (∀ i, e ≠ .exit i) → GoodCode P (fun b k c => b.atR c (.code x :: k)) rd a s e a' s' → GoodCode P (fun b k c => b.atR c (.code (.block id x) :: k)) rd a s e a' s' := by
      intro e he hx
      refine good_sub (h := hx) fun b k c => ⟨.inBlock id :: k, fun cs w => ⟨.one stepR_block, fun μ m cs' c' w' h => ?_⟩⟩
      cases h with
      | normal h1 => exact .normal (h1.trans (.one stepR_inBlock))
      | exit i h1 h2 => exact absurd rfl (he i)
      | ret h1 => exact .ret h1
      | pan hv h1 => exact .pan hv h1
    cases e with
    | exit i =>
      simp only
      cases hi : i.beq id with
      | true =>
        have hi' : i = id := by simpa using hi
        subst hi'
        simp only [cond_true]
        refine ⟨hx.1, fun μ w b k cs c hst hf hfr => ?_⟩
        obtain ⟨μ', w', c', cs', n1, n2, n3, n4⟩ := hx.2 μ w b (.inBlock i :: k) cs c hst hf hfr
        refine ⟨μ', w', c', cs', n1, n2, n3, ?_⟩
        cases n4 with
        | exit _ h1 he =>
          have : exitTo i (.inBlock i :: k) = some k := by simp [exitTo]
          rw [this] at he
          exact .normal ((Steps.one stepR_block).trans (h1.trans (.one (stepR_exit he))))
      | false =>
        simp only [cond_false]
        have hne : (id == i) = false := by
          rw [← Bool.not_eq_true, beq_iff_eq]
          intro h; subst h; simp at hi
        refine good_sub (h := (hx : GoodCode P _ rd a s _ a' s')) fun b k c => ⟨.inBlock id :: k, fun cs w => ⟨.one stepR_block, fun μ m cs' c' w' h => ?_⟩⟩
        cases h with
        | exit _ h1 he => exact .exit i h1 (by rw [he]; simp [exitTo, hne])
    | normal => exact pass _ (by intro i h; cases h) hx
    | ret => exact pass _ (by intro i h; cases h) hx
    | pan v => exact pass _ (by intro i h; cases h) hx
  | _ => trivial

theorem steps_same {m1 m2 x m' : Machine} (h1 : step P m1 = .next x) (h2 : step P m2 = .next x) (h : Steps P m1 m') (hne : m1 ≠ m') : Steps P m2 m' := by
  obtain ⟨n, hn⟩ := h
  cases n with
  | zero => simp [runN] at hn; exact absurd hn hne
  | succ n =>
    simp only [runN, h1] at hn
    exact .head h2 ⟨n, hn⟩

theorem lone_ne {f f' : Frame} {cs cs' : List Frame} {w w' : World} (h : f.todo ≠ f'.todo ∨ f.mode ≠ f'.mode) : lone f cs w ≠ lone f' cs' w' := by
  intro he
  unfold lone at he
  simp only [Machine.mk.injEq, Array.mk.injEq, List.cons.injEq, Goroutine.mk.injEq, and_true] at he
  obtain ⟨_, hf, _⟩ := he
  rcases h with h | h
  · exact h (by rw [hf])
  · exact h (by rw [hf])

theorem cLoop_good (hr : GoodR P r) (x : Code) (rd : Option Nat) (a : Fr) (s : ES) : Good P (.code (.loop x) rd a) s (cLoop r x rd a s) := by
  unfold cLoop
  have hx := hr (.code x rd a) s
  cases ho : r (.code x rd a) s with
  | code e a' s' =>
    rw [ho] at hx
    have pass : ∀ e, e ≠ .normal → GoodCode P (fun b k c => b.atR c (.code x :: k)) rd a s e a' s' → GoodCode P (fun b k c => b.atR c (.code (.loop x) :: k)) rd a s e a' s' := by
      intro e he hx
      refine good_sub (h := hx) fun b k c => ⟨.inLoop x :: k, fun cs w => ⟨.one stepR_loop, fun μ m cs' c' w' h => ?_⟩⟩
      cases h with
      | normal h1 => exact absurd rfl he
      | exit i h1 h2 => exact .exit i h1 (h2.trans rfl)
      | ret h1 => exact .ret h1
      | pan hv h1 => exact .pan hv h1
    cases e with
    | normal =>
      simp only
      have hy := hr (.code (.loop x) rd a') s'
      cases ho2 : r (.code (.loop x) rd a') s' with
      | code e2 a2 s2 =>
        rw [ho2] at hy
        refine ⟨Nat.le_trans hx.1 hy.1, fun μ w b k cs c hst hf hfr => ?_⟩
        obtain ⟨μ1, w1, c1, cs1, n1, n2, n3, n4⟩ := hx.2 μ w b (.inLoop x :: k) cs c hst (fun n k1 k2 => hf n k1 (Nat.lt_of_lt_of_le k2 hy.1)) hfr
        obtain ⟨μ2, w2, c2, cs2, m1, m2, m3, m4⟩ := hy.2 μ1 w1 b k cs1 c1 n1.st (fun n k1 k2 => by rw [n1.same n (by have := hx.1; omega)]; exact hf n (Nat.le_trans hx.1 k1) k2) n2
        refine ⟨μ2, w2, c2, cs2, n1.trans hx.1 hy.1 m1, m2, n3.trans m3, ?_⟩
        cases n4 with
        | normal hs =>
          have h0 := (Steps.one (P := P) (stepR_loop (b := b) (a := c) (k := k) (cs := cs) (w := w) (c := x))).trans hs
          have hk : ∀ {todo : List Item} {f : Frame} {cs' : List Frame} {w' : World}, Steps P (lone (b.atR c1 (.code (.loop x) :: k)) cs1 w1) (lone f cs' w') → ((b.atR c1 (.code (.loop x) :: k)).todo ≠ f.todo ∨ (b.atR c1 (.code (.loop x) :: k)).mode ≠ f.mode) →
              Steps P (lone (b.atR c1 (.inLoop x :: k)) cs1 w1) (lone f cs' w') := fun h hne => steps_same stepR_loop stepR_inLoop h (lone_ne hne)
          cases m4 with
          | normal h1 => exact .normal (h0.trans (hk (todo := []) h1 (.inl (by
              intro h; have := congrArg List.length h; simp [Frame.atR] at this))))
          | exit i h1 h2 => exact .exit i (h0.trans (hk (todo := []) h1 (.inl (by intro h; simp [Frame.atR] at h)))) h2
          | ret h1 => exact .ret (h0.trans (hk (todo := []) h1 (.inl (by intro h; simp [Frame.atR] at h))))
          | pan hv h1 => exact .pan hv (h0.trans (hk (todo := []) h1 (.inr (by intro h; simp [Frame.atR] at h))))
      | _ => trivial
    | exit i => exact pass _ (by intro h; cases h) hx
    | ret => exact pass _ (by intro h; cases h) hx
    | pan v => exact pass _ (by intro h; cases h) hx
  | _ => trivial

theorem scope_good (hr : GoodR P r) (x : Code) (rd : Option Nat) (a : Fr) (s : ES) : Good P (.code (.scope x) rd a) s (r (.code x rd a) s) := by
  have hx := hr (.code x rd a) s
  cases ho : r (.code x rd a) s with
  | code e a' s' =>
    rw [ho] at hx
    refine good_sub (h := (hx : GoodCode P _ rd a s e a' s')) fun b k c => ⟨.inScope x :: k, fun cs w => ⟨.one stepR_scope, fun μ m cs' c' w' h => ?_⟩⟩
    exact h.pass (fun _ => rfl) (.one stepR_inScope)
  | _ => trivial
end
end Go.E

namespace Go.E

/-- what is said of functions from outside the evaluator -/
def Ext (w w' : World) : Prop := w.heap.size ≤ w'.heap.size ∧ w'.tape = w.tape ∧ w'.os = w.os ∧ w'.output = w.output ∧ ∀ b, b < w.heap.size → w'.heap[b]? = w.heap[b]?

structure SumOk (P : Program) (X : Ctx) : Prop where
  sum : ∀ f args v, X.x f = 8 → X.m f args = some v → plainL args = true → plain v = true → ∀ w, Calls P f ⟨args⟩ w fun
    | .returned v', w' => v' = v ∧ Ext w w'
    | _, _ => False
  keys : ∀ f g e, X.x f = 6 → X.x g = 7 → elemOf P f = some e → ∀ (μ : Ren) (s : ES) (w : World) (a : Addr) (a' v : Value) (s' : ES), eSortedKeys e a s = .ok v s' → St P μ s.st w → Free μ s.nx s'.nx →
    VR P μ (.pointer (some a)) a' → Calls P f ⟨[.func (.func g) ⟨[]⟩ ⟨[a']⟩]⟩ w fun
    | .returned v', w' => ∃ μ', Nxt P μ s w μ' s' w' ∧ VR P μ' v v'
    | _, _ => False
  heap : ∀ f args m, X.x f = 9 → X.h f args = some m → ∀ (μ : Ren) (s : ES) (w : World) (args' : List Value) (v : Value) (s' : ES), m.run s = .ok v s' → St P μ s.st w → Free μ s.nx s'.nx →
    VRL P μ args args' → Calls P f ⟨args'⟩ w fun
    | .returned v', w' => ∃ μ', Nxt P μ s w μ' s' w' ∧ VR P μ' v v'
    | _, _ => False

theorem Ext.refl (w : World) : Ext w w := ⟨Nat.le_refl _, rfl, rfl, rfl, fun _ _ => rfl⟩
theorem Ext.nxt {P : Program} {μ : Ren} {s : ES} {w w' : World} (h : Ext w w') (hst : St P μ s.st w) : Nxt P μ s w μ s w' := by
  obtain ⟨h1, h2, h3, h4, h5⟩ := h
  have hlt : ∀ {b : Nat} {o : Obj}, w.heap[b]? = some o → b < w.heap.size := by
    intro b o hb
    by_cases hlt : b < w.heap.size
    · exact hlt
    · rw [Array.getElem?_eq_none (by omega)] at hb; cases hb
  refine ⟨Sub.refl _, fun _ _ => rfl, ⟨fun n o hn => ?_, hst.inj⟩, ⟨h1, h2, h3, h4, fun b hb _ => h5 b hb⟩, fun n pl hl hn => .inr ⟨n, pl, hl, hn, rfl⟩⟩
  obtain ⟨pl, o', k1, k2, k3⟩ := hst.obj n o hn
  exact ⟨pl, o', k1, by rw [h5 _ (hlt k2)]; exact k2, k3⟩

section
variable {P : Program} {X : Ctx} {r : Rec} {μ : Ren}

theorem FrR.put {rd : Option Nat} {b : Frame} {cs : List Frame} {a : Fr} {c : Act} (h : FrR P μ rd b cs a c) (dst : Option Tmp) {v v' : Value} (hv : VR P μ v v') :
    FrR P μ rd b cs (E.put a dst v) (c.put dst v') := by
  cases dst with
  | none => exact h
  | some d =>
    have ht := h.tr.put (t := d) hv
    unfold E.put Act.put
    simp only
    cases hd : d.blt a.nt with
    | true => rw [hd] at ht; exact ⟨h.ro, h.fn, ht, h.df, h.kr⟩
    | false => rw [hd] at ht; exact ⟨h.ro, h.fn, ht, h.df, h.kr⟩

theorem dstOf_eq (ops : List Oper) (j : Nat) : dstOf ops j = ((⟨ops⟩ : Array Oper)[j]?).bind (·.dst) := by
  unfold dstOf
  rw [nth_eq]
  simp only [List.getElem?_toArray]
  cases ops[j]? <;> rfl

theorem wantE_ok {nt : Nat} {tm : Tr Value} {tmps : Array Value} {ops : List Oper} {o : Oper} {t : Bool} (h : TR P μ nt tm tmps) (hw : wantE ops tm o = some t) : Region.wanted o (yielded ⟨ops⟩ tmps) = t := by
  unfold wantE at hw
  unfold Region.wanted
  split at hw
  · rename_i hg; rw [hg]; simp only [Option.some.injEq] at hw; exact hw
  · rename_i j want hg
    rw [hg]
    simp only
    rw [dstOf_eq] at hw
    unfold yielded
    cases hd : ((⟨ops⟩ : Array Oper)[j]?).bind (·.dst) with
    | none =>
      simp only [hd, Option.some.injEq] at hw
      subst hw
      simp
    | some d =>
      simp only [hd] at hw
      have hr := h.2 d
      simp only [Option.bind_some]
      revert hw
      cases hv : getv tm d <;> intro hw <;> try (cases hw)
      · rename_i bb
        rw [hv] at hr
        have hb := hr.bool_inv
        have : tmps[d]? = some (.bool bb) := by
          rw [Array.getD_eq_getD_getElem?] at hb
          cases hx : tmps[d]? with
          | none => rw [hx] at hb; cases hb
          | some y => rw [hx] at hb; simp at hb; rw [hb]
        rw [this]
        rfl
      · rename_i vs
        obtain ⟨l⟩ := vs
        cases l with
        | cons => cases hw
        | nil =>
          simp only [Option.some.injEq] at hw
          subst hw
          rw [hv] at hr
          have hb : tmps.getD d undef = .tuple ⟨[]⟩ := by
            generalize tmps.getD d undef = y at hr ⊢
            cases hr with | tuple h => cases h; rfl
          have : ∀ bb, tmps[d]? ≠ some (.bool bb) := by
            intro bb hx
            rw [Array.getD_eq_getD_getElem?, hx] at hb
            simp at hb
          cases hx : tmps[d]? with
          | none => simp
          | some y =>
            cases y <;> first | (simp; done) | exact absurd hx (this _)

theorem eop_defer {ρ : Operand → Value} {o : Oper} {s s' : ES} {nx : ENext} {c : Call} (ho : o.op = .defer c) (h : eop P X ρ o s = .ok nx s') : ∃ d, nx = .defer d := by
  unfold eop at h
  rw [ho] at h
  simp only at h
  cases hr : eResolve ρ c o.type with
  | none => rw [hr] at h; cases h
  | some ta =>
    rw [hr] at h
    simp only [EM.ret, Res.ok.injEq] at h
    exact ⟨_, h.1.symm⟩

/-- the step of one wanted operation -/
theorem step_oper {b : Frame} {c : Act} {ops : Array Oper} {i : Nat} {rest : List Nat} {k : List Item} {cs : List Frame} {w : World} {o : Oper} (ho : ops[i]? = some o) (hw : Region.wanted o (yielded ops c.tmps) = true)
    (hs : o.semAt b.roundOf c.eval = execOp c.eval o) :
    stepG P true { frame := b.atR c (.inRegion ops (i :: rest) :: k), callers := cs, status := .running, dying := none } w =
      stepG.apply P true (b.atR c (.inRegion ops (i :: rest) :: k)) cs none (execOp c.eval o) w := by
  rw [stepGR_op ho hw, hs]

theorem fin_oper {b : Frame} {c : Act} {ops : Array Oper} {i : Nat} {rest : List Nat} {k : List Item} {o : Oper} (ho : ops[i]? = some o) (v : Value) :
    (b.atR c (.inRegion ops (i :: rest) :: k)).finish v = b.atR (c.put o.dst v) (.inRegion ops rest :: k) := by
  rw [Frame.finish_atR, ho]; rfl

theorem range_cons {ops : List Oper} {j : Nat} {o : Oper} {rest : List Oper} (h : o :: rest = ops.drop j) : ops[j]? = some o ∧ rest = ops.drop (j + 1) ∧ List.range' j (ops.length - j) = j :: List.range' (j + 1) (ops.length - (j + 1)) := by
  have hlt : j < ops.length := by
    by_cases hlt : j < ops.length
    · exact hlt
    · rw [List.drop_eq_nil_of_le (by omega)] at h; cases h
  rw [List.drop_eq_getElem_cons hlt] at h
  simp only [List.cons.injEq] at h
  refine ⟨by rw [List.getElem?_eq_getElem hlt, h.1], h.2, ?_⟩
  obtain ⟨n, hn⟩ : ∃ n, ops.length - j = n + 1 := ⟨ops.length - j - 1, by omega⟩
  rw [hn, List.range'_succ]
  congr 2
  omega

/-- one operation done: the rest -/
theorem good_rest {ops rest : List Oper} {j : Nat} {o : Oper} {rd : Option Nat} {a a1 a' : Fr} {s s1 s' : ES} {e : Ex} (hd : o :: rest = ops.drop j) (hn : s.nx ≤ s1.nx)
    (h : ∀ (μ : Ren) (w : World) (b : Frame) (k : List Item) (cs : List Frame) (c : Act), St P μ s.st w → Free μ s.nx s1.nx → FrR P μ rd b cs a c →
      ∃ μ' w' c' cs', Nxt P μ s w μ' s1 w' ∧ FrR P μ' rd b cs' a1 c' ∧ CsR b.kind cs cs' ∧ Steps P (lone (b.atR c (.inRegion ⟨ops⟩ (j :: List.range' (j + 1) (ops.length - (j + 1))) :: k)) cs w) (lone (b.atR c' (.inRegion ⟨ops⟩ (List.range' (j + 1) (ops.length - (j + 1))) :: k)) cs' w'))
    (hg : Good P (.ops ops rest rd a1) s1 (.code e a' s')) : GoodCode P (fun b k c => Frame.inOps b ⟨ops⟩ j k c) rd a s e a' s' := by
  obtain ⟨h1, h2, h3⟩ := range_cons hd
  have hg := hg (j + 1) h2
  refine ⟨Nat.le_trans hn hg.1, fun μ w b k cs c hst hf hfr => ?_⟩
  obtain ⟨μ1, w1, c1, cs1, n1, n2, n3, n4⟩ := h μ w b k cs c hst (fun n k1 k2 => hf n k1 (Nat.lt_of_lt_of_le k2 hg.1)) hfr
  obtain ⟨μ2, w2, c2, cs2, m1, m2, m3, m4⟩ := hg.2 μ1 w1 b k cs1 c1 n1.st (fun n k1 k2 => by rw [n1.same n (by omega)]; exact hf n (Nat.le_trans hn k1) k2) n2
  refine ⟨μ2, w2, c2, cs2, n1.trans hn hg.1 m1, m2, n3.trans m3, .of_steps ?_ m4⟩
  unfold Frame.inOps
  simp only [List.size_toArray]
  rw [h3]
  exact n4
end
end Go.E

namespace Go.E

section
variable {P : Program} {X : Ctx} {r : Rec}

/-- from the operation at j to the next, with a value -/
def OpGo (P : Program) (ops : List Oper) (o : Oper) (rd : Option Nat) (a a1 : Fr) (s s1 : ES) : Prop :=
  s.nx ≤ s1.nx ∧ ∀ (j : Nat) (js : List Nat), ops[j]? = some o → ∀ (μ : Ren) (w : World) (b : Frame) (k : List Item) (cs : List Frame) (c : Act), St P μ s.st w → Free μ s.nx s1.nx → FrR P μ rd b cs a c →
    ∃ μ' w' c' cs', Nxt P μ s w μ' s1 w' ∧ FrR P μ' rd b cs' a1 c' ∧ CsR b.kind cs cs' ∧ Steps P (lone (b.atR c (.inRegion ⟨ops⟩ (j :: js) :: k)) cs w) (lone (b.atR c' (.inRegion ⟨ops⟩ js :: k)) cs' w')

theorem oGo_good (hr : GoodR P r) {ops rest : List Oper} {o : Oper} {rd : Option Nat} {a a1 : Fr} {s s1 : ES} {v : Value} (h : OpGo P ops o rd a (put a1 o.dst v) s s1) :
    Good P (.ops ops (o :: rest) rd a) s (oGo r ops rest rd a1 o v s1) := by
  unfold oGo
  have hg := hr (.ops ops rest rd (put a1 o.dst v)) s1
  cases ho : r (.ops ops rest rd (put a1 o.dst v)) s1 with
  | code e a' s' =>
    rw [ho] at hg
    intro j hd
    exact good_rest hd h.1 (h.2 j _ (range_cons hd).1) hg
  | _ => trivial

/-- an operation that raises a panic -/
def OpPan (P : Program) (ops : List Oper) (o : Oper) (rd : Option Nat) (a : Fr) (s s1 : ES) (v : Value) : Prop :=
  s.nx ≤ s1.nx ∧ ∀ (j : Nat) (js : List Nat), ops[j]? = some o → ∀ (μ : Ren) (w : World) (b : Frame) (k : List Item) (cs : List Frame) (c : Act), St P μ s.st w → Free μ s.nx s1.nx → FrR P μ rd b cs a c →
      ∃ μ' w' v', Nxt P μ s w μ' s1 w' ∧ VR P μ' v v' ∧ Steps P (lone (b.atR c (.inRegion ⟨ops⟩ (j :: js) :: k)) cs w)
        (lone { b.atR c (.inRegion ⟨ops⟩ (j :: js) :: k) with mode := .panicking [⟨v', false, false⟩] } cs w')
theorem opPan_good {ops rest : List Oper} {o : Oper} {rd : Option Nat} {a : Fr} {s s1 : ES} {v : Value} (h : OpPan P ops o rd a s s1 v) :
    Good P (.ops ops (o :: rest) rd a) s (.code (.pan v) a s1) := by
  intro j hd
  obtain ⟨h1, _, h3⟩ := range_cons hd
  refine ⟨h.1, fun μ w b k cs c hst hf hfr => ?_⟩
  obtain ⟨μ', w', v', n1, n2, n3⟩ := h.2 j _ h1 μ w b k cs c hst hf hfr
  refine ⟨μ', w', c, cs, n1, hfr.sub n1.sub, .refl _, ?_⟩
  unfold Frame.inOps
  simp only [List.size_toArray]
  rw [h3]
  exact .pan n2 n3

/-- the same operation, skipped -/
theorem skip_go {ops : List Oper} {o : Oper} {rd : Option Nat} {a : Fr} {s : ES} (hw : wantE ops a.tm o = some false) : OpGo P ops o rd a (put a o.dst undef) s s := by
  refine ⟨Nat.le_refl _, fun j js h1 μ w b k cs c hst hf hfr => ?_⟩
  have ho : (⟨ops⟩ : Array Oper)[j]? = some o := by simpa using h1
  have hwt := wantE_ok hfr.tr hw
  refine ⟨μ, w, c.put o.dst undef, cs, Nxt.refl hst, hfr.put o.dst (.tuple .nil), .refl _, .one ?_⟩
  have := stepR_op_skip (P := P) (b := b) (a := c) (k := k) (cs := cs) (w := w) (ops := ⟨ops⟩) (i := j) (rest := js) (by
    rw [ho]; simpa using hwt)
  rw [ho] at this
  exact this

/-- what an operation's run gives -/
theorem op_run (hX : CtxOk P X) {ops : List Oper} {o : Oper} {rd : Option Nat} {a : Fr} {s s1 : ES} {nx : ENext} (hw : wantE ops a.tm o = some true) (he : eop P X (evalO a.tm) o s = .ok nx s1) :
    s.nx ≤ s1.nx ∧ ∀ (j : Nat) (js : List Nat), ops[j]? = some o → ∀ (μ : Ren) (w : World) (b : Frame) (k : List Item) (cs : List Frame) (c : Act), St P μ s.st w → Free μ s.nx s1.nx → FrR P μ rd b cs a c → (rd = none ∨ ∀ d, nx ≠ .defer d) →
      (stepG P true { frame := b.atR c (.inRegion ⟨ops⟩ (j :: js) :: k), callers := cs, status := .running, dying := none } w =
        stepG.apply P true (b.atR c (.inRegion ⟨ops⟩ (j :: js) :: k)) cs none (execOp c.eval o) w) ∧
      (∀ v, (b.atR c (.inRegion ⟨ops⟩ (j :: js) :: k)).finish v = b.atR (c.put o.dst v) (.inRegion ⟨ops⟩ js :: k)) ∧
      ((∃ v v', nx = .panic v ∧ s1 = s ∧ VR P μ v v' ∧ (execOp c.eval o).run P w = .halt (.panic v') w) ∨ (∃ μ' w' nx', (execOp c.eval o).run P w = .ok nx' w' ∧ Nxt P μ s w μ' s1 w' ∧ NR P X μ' nx nx')) := by
  refine ⟨((wf_eop (P := P) (X := X) (evalO a.tm) o) _ _ _ he).1, fun j js h1 μ w b k cs c hst hf hfr hdf => ?_⟩
  have ho : (⟨ops⟩ : Array Oper)[j]? = some o := by simpa using h1
  have hwt := wantE_ok hfr.tr hw
  refine ⟨step_oper ho hwt ?_, fin_oper ho, sim_eop hX (fun x => hfr.eval x) o nx s1 he hf hst⟩
  rcases hdf with rfl | hnd
  · have hro := hfr.ro
    unfold RO at hro
    cases hb : b.roundOf with
    | none => rfl
    | some n => rw [hb] at hro; exact hro.elim
  · refine Oper.semAt_eq _ _ _ fun d hod => ?_
    obtain ⟨dd, hdd⟩ := eop_defer hod he
    exact hnd dd hdd

theorem val_go (hX : CtxOk P X) {ops : List Oper} {o : Oper} {rd : Option Nat} {a : Fr} {s s1 : ES} {v : Value} (hw : wantE ops a.tm o = some true) (he : eop P X (evalO a.tm) o s = .ok (.val v) s1) :
    OpGo P ops o rd a (put a o.dst v) s s1 := by
  obtain ⟨hn, h⟩ := op_run (rd := rd) hX hw he
  refine ⟨hn, fun j js h0 μ w b k cs c hst hf hfr => ?_⟩
  obtain ⟨h1, h2, h3⟩ := h j js h0 μ w b k cs c hst hf hfr (.inr (by intro d hh; cases hh))
  rcases h3 with ⟨_, _, hh, _⟩ | ⟨μ', w', nx', r1, r2, r3⟩
  · cases hh
  · cases r3 with
    | val hv =>
      rename_i v'
      refine ⟨μ', w', c.put o.dst v', cs, r2, (hfr.sub r2.sub).put o.dst hv, .refl _, .one (step_lone_go ?_)⟩
      rw [h1, ← h2]; simp [stepG.apply, r1]

theorem unit_go (hX : CtxOk P X) {ops : List Oper} {o : Oper} {rd : Option Nat} {a : Fr} {s s1 : ES} (hw : wantE ops a.tm o = some true) (he : eop P X (evalO a.tm) o s = .ok .skip s1) :
    OpGo P ops o rd a (put a o.dst undef) s s1 := by
  obtain ⟨hn, h⟩ := op_run (rd := rd) hX hw he
  refine ⟨hn, fun j js h0 μ w b k cs c hst hf hfr => ?_⟩
  obtain ⟨h1, h2, h3⟩ := h j js h0 μ w b k cs c hst hf hfr (.inr (by intro d hh; cases hh))
  rcases h3 with ⟨_, _, hh, _⟩ | ⟨μ', w', nx', r1, r2, r3⟩
  · cases hh
  · cases r3 with
    | skip =>
      refine ⟨μ', w', c.put o.dst undef, cs, r2, (hfr.sub r2.sub).put o.dst (.tuple .nil), .refl _, .one (step_lone_go ?_)⟩
      rw [h1, ← h2]; simp [stepG.apply, r1]; rfl

theorem defer_go (hX : CtxOk P X) {ops : List Oper} {o : Oper} {a : Fr} {s s1 : ES} {d : Deferred} (hw : wantE ops a.tm o = some true) (he : eop P X (evalO a.tm) o s = .ok (.defer d) s1) :
    OpGo P ops o none a (put { a with df := d :: a.df } o.dst undef) s s1 := by
  obtain ⟨hn, h⟩ := op_run (rd := none) hX hw he
  refine ⟨hn, fun j js h0 μ w b k cs c hst hf hfr => ?_⟩
  obtain ⟨h1, h2, h3⟩ := h j js h0 μ w b k cs c hst hf hfr (.inl rfl)
  rcases h3 with ⟨_, _, hh, _⟩ | ⟨μ', w', nx', r1, r2, r3⟩
  · cases hh
  · cases r3 with
    | defer hdr =>
      rename_i d'
      have hf2 := hfr.sub r2.sub
      refine ⟨μ', w', ({ c with defers := d' :: c.defers } : Act).put o.dst undef, cs, r2, FrR.put (a := { a with df := d :: a.df }) (c := { c with defers := d' :: c.defers }) ⟨hf2.ro, hf2.fn, hf2.tr, .cons hdr hf2.df, hf2.kr⟩ o.dst (.tuple .nil), .refl _, .one (step_lone_go ?_)⟩
      have ho : (⟨ops⟩ : Array Oper)[j]? = some o := by simpa using h0
      have hfin := fin_oper (b := b) (c := { c with defers := d' :: c.defers }) (rest := js) (k := k) ho Go.undef
      rw [h1]
      simp only [stepG.apply, Sem.runT_eq, r1, GStep.bare_after]
      exact congrArg (fun fr => GStep.go { frame := fr, callers := cs, status := .running, dying := none } w') hfin

theorem recover_go (hX : CtxOk P X) {ops : List Oper} {o : Oper} {a a1 : Fr} {s s1 : ES} {v : Value} (hw : wantE ops a.tm o = some true) (he : eop P X (evalO a.tm) o s = .ok .recover s1)
    (hv : (∃ x, a.pk = .yes x ∧ v = x ∧ a1 = { a with pk := .done }) ∨ ((∀ x, a.pk ≠ .yes x) ∧ v = .nilIface ∧ a1 = a)) :
    OpGo P ops o none a (put a1 o.dst v) s s1 := by
  obtain ⟨hn, h⟩ := op_run (rd := none) hX hw he
  refine ⟨hn, fun j js h0 μ w b k cs c hst hf hfr => ?_⟩
  obtain ⟨h1, h2, h3⟩ := h j js h0 μ w b k cs c hst hf hfr (.inl rfl)
  have hro : b.roundOf = none := by
    have hro := hfr.ro
    unfold RO at hro
    cases hb : b.roundOf with
    | none => rfl
    | some n => rw [hb] at hro; exact hro.elim
  rcases h3 with ⟨_, _, hh, _⟩ | ⟨μ', w', nx', r1, r2, r3⟩
  · cases hh
  · cases r3 with
    | recover =>
      have hf2 := hfr.sub r2.sub
      have hkr := hf2.kr
      rcases hv with ⟨x, hx, rfl, rfl⟩ | ⟨hx, rfl, rfl⟩
      · rw [hx] at hkr
        generalize hkd : b.kind = kd at hkr
        cases hkr with
        | yes hvr hm =>
          rename_i v' c0 cs0
          refine ⟨μ', w', c.put o.dst v', { c0 with mode := .panicking [⟨v', true, false⟩] } :: cs0, r2,
            FrR.put (a := { a with pk := .done }) ⟨hf2.ro, hf2.fn, hf2.tr, hf2.df, by rw [hkd]; exact KR.done (c := { c0 with mode := .panicking [⟨v', true, false⟩] }) (v' := v') rfl⟩ o.dst hvr, .mark cs0 rfl hm, .one (step_lone_go ?_)⟩
          rw [h1]
          have hfin := h2 v'
          simp only [stepG.apply, Sem.runT_eq, r1, GStep.bare_after, Frame.atR, hro, tryRecover, hkd, hm]
          simp only [Frame.atR, hro, hkd] at hfin
          exact congrArg (fun fr => GStep.go { frame := fr, callers := { c0 with mode := .panicking [⟨v', true, false⟩] } :: cs0, status := .running, dying := none } w') hfin
      · have htr : tryRecover (b.atR c (.inRegion ⟨ops⟩ (j :: js) :: k)) cs = none := by
          unfold tryRecover Frame.atR
          simp only
          generalize hkd : b.kind = kd at hkr
          generalize hpk : a1.pk = pk at hkr hx
          cases hkr with
          | norm => rfl
          | defRet hm => simp [hm]
          | yes _ _ => exact absurd rfl (hx _)
          | done hm => simp [hm]
        refine ⟨μ', w', c.put o.dst .nilIface, cs, r2, hf2.put o.dst .nilIface, .refl _, .one (step_lone_go ?_)⟩
        rw [h1, ← h2]
        have hro2 : (b.atR c (.inRegion ⟨ops⟩ (j :: js) :: k)).roundOf = none := hro
        simp only [stepG.apply, Sem.runT_eq, r1, GStep.bare_after, hro2, htr]
        rfl
end
end Go.E

namespace Go.E

section
variable {P : Program} {X : Ctx} {r : Rec}

theorem step_ret {fr c : Frame} {cs : List Frame} {w : World} {v : Value} (hm : fr.mode = .returning) (hd : fr.defers = []) (hk : fr.kind = .normal) (hr : ∃ fn, P.funcs[fr.fn]? = some fn ∧ (results fn fr.tmps).run P w = .ok v w) :
    step P (lone fr (c :: cs) w) = .next (lone (c.finish v) cs w) := by
  obtain ⟨fn, hf, hr⟩ := hr
  exact step_leave_returned ⟨hm, hd, hk, fn, hf, hr⟩
theorem step_pan {fr c : Frame} {cs : List Frame} {w : World} {chain : List PanicEntry} (hm : fr.mode = .panicking chain) (hd : fr.defers = []) (hr : ∃ fn, P.funcs[fr.fn]? = some fn) :
    step P (lone fr (c :: cs) w) = .next (lone (c.raise chain) cs w) := step_leave_panicked ⟨hm, hd, hr⟩

def OneOk (P : Program) (ops : List Oper) (o : Oper) (rd : Option Nat) (a : Fr) (s : ES) : One → Prop
  | .go a1 v s1 => OpGo P ops o rd a (put a1 o.dst v) s s1
  | .pan v s1 => OpPan P ops o rd a s s1 v
  | .bad _ => True

theorem enter_good (hX : CtxOk P X) (hr : GoodR P r) {ops : List Oper} {o : Oper} {rd : Option Nat} {a : Fr} {s s1 : ES} {f : FuncId} {args : List Value} (hw : wantE ops a.tm o = some true) (he : eop P X (evalO a.tm) o s = .ok (.enter f args) s1) :
    OneOk P ops o rd a s (oCall a (r (.call f args .no) s1)) := by
  obtain ⟨hn, h⟩ := op_run (rd := rd) hX hw he
  have hc := hr (.call f args .no) s1
  have enter : ∀ {s2 : ES}, s1.nx ≤ s2.nx → ∀ (j : Nat) (js : List Nat), ops[j]? = some o → ∀ (μ : Ren) (w : World) (b : Frame) (k : List Item) (cs : List Frame) (c : Act), St P μ s.st w → Free μ s.nx s2.nx → FrR P μ rd b cs a c →
      ∃ μ' w' args', Nxt P μ s w μ' s1 w' ∧ VRL P μ' args args' ∧ Free μ' s1.nx s2.nx ∧ (∀ v, (b.atR c (.inRegion ⟨ops⟩ (j :: js) :: k)).finish v = b.atR (c.put o.dst v) (.inRegion ⟨ops⟩ js :: k)) ∧
        step P (lone (b.atR c (.inRegion ⟨ops⟩ (j :: js) :: k)) cs w) = .next (lone (Frame.enter P f ⟨args'⟩ .normal) (b.atR c (.inRegion ⟨ops⟩ (j :: js) :: k) :: cs) w') := by
    intro s2 hn2 j js hd μ w b k cs c hst hf hfr
    obtain ⟨h1, h2, h3⟩ := h j js hd μ w b k cs c hst (fun n k1 k2 => hf n k1 (Nat.lt_of_lt_of_le k2 hn2)) hfr (.inr (by intro d hh; cases hh))
    rcases h3 with ⟨_, _, hh, _⟩ | ⟨μ', w', nx', r1, r2, r3⟩
    · cases hh
    · cases r3 with
      | enter _ ha =>
        rename_i args'
        refine ⟨μ', w', args', r2, ha, fun n k1 k2 => by rw [r2.same n (by omega)]; exact hf n (Nat.le_trans hn k1) k2, h2, step_lone_go ?_⟩
        rw [h1]; simp [stepG.apply, r1, Frame.atR]
  cases ho : r (.call f args .no) s1 with
  | ret v pk' s2 =>
    rw [ho] at hc
    refine ⟨Nat.le_trans hn hc.1, fun j js hd μ w b k cs c hst hf hfr => ?_⟩
    obtain ⟨μ1, w1, args', n1, n2, n3, n4, n5⟩ := enter hc.1 j js hd μ w b k cs c hst hf hfr
    obtain ⟨μ2, w2, cs2, fr, m1, m2, m3, m4, m5, m6, m7, m8⟩ := hc.2 μ1 w1 (b.atR c (.inRegion ⟨ops⟩ (j :: js) :: k) :: cs) .normal _ n1.st n3 ⟨args', n2, rfl⟩ (.norm _)
    have hcs := m3.run rfl
    subst hcs
    cases m8 with
    | ret hv hm hres =>
      rename_i v'
      refine ⟨μ2, w2, c.put o.dst v', cs, n1.trans hn hc.1 m1, ((hfr.sub n1.sub).sub m1.sub).put o.dst hv, .refl _, .head n5 (m4.trans (.one ?_))⟩
      rw [← n4]
      exact step_ret hm m7 m6 (by rw [m5]; exact hres)
  | pan v pk' s2 =>
    rw [ho] at hc
    refine ⟨Nat.le_trans hn hc.1, fun j js hd μ w b k cs c hst hf hfr => ?_⟩
    obtain ⟨μ1, w1, args', n1, n2, n3, n4, n5⟩ := enter hc.1 j js hd μ w b k cs c hst hf hfr
    obtain ⟨μ2, w2, cs2, fr, m1, m2, m3, m4, m5, m6, m7, m8⟩ := hc.2 μ1 w1 (b.atR c (.inRegion ⟨ops⟩ (j :: js) :: k) :: cs) .normal _ n1.st n3 ⟨args', n2, rfl⟩ (.norm _)
    have hcs := m3.run rfl
    subst hcs
    cases m8 with
    | pan hv hm hres =>
      rename_i v'
      refine ⟨μ2, w2, v', n1.trans hn hc.1 m1, hv, .head n5 (m4.trans (.one ?_))⟩
      exact step_pan hm m7 (by rw [m5]; exact hres)
  | _ => trivial

/-- a call of which a contract speaks -/
theorem calls_go (hX : CtxOk P X) {ops : List Oper} {o : Oper} {rd : Option Nat} {a : Fr} {s s1 s2 : ES} {nx : ENext} {v : Value} (hw : wantE ops a.tm o = some true) (he : eop P X (evalO a.tm) o s = .ok nx s1) (hnd : ∀ d, nx ≠ .defer d) (hnp : ∀ v, nx ≠ .panic v) (hn2 : s1.nx ≤ s2.nx)
    (hc : ∀ μ w nx', St P μ s1.st w → Free μ s1.nx s2.nx → NR P X μ nx nx' → ∃ f args', nx' = .enter f args' ∧ Calls P f args' w fun
      | .returned v', w' => ∃ μ', Nxt P μ s1 w μ' s2 w' ∧ VR P μ' v v'
      | _, _ => False) : OpGo P ops o rd a (put a o.dst v) s s2 := by
  obtain ⟨hn, h⟩ := op_run (rd := rd) hX hw he
  refine ⟨Nat.le_trans hn hn2, fun j js hd μ w b k cs c hst hf hfr => ?_⟩
  obtain ⟨h1, h2, h3⟩ := h j js hd μ w b k cs c hst (fun n k1 k2 => hf n k1 (Nat.lt_of_lt_of_le k2 hn2)) hfr (.inr hnd)
  rcases h3 with ⟨_, _, hh, _⟩ | ⟨μ1, w1, nx', r1, r2, r3⟩
  · exact absurd hh (hnp _)
  · obtain ⟨f, args', rfl, hcall⟩ := hc μ1 w1 nx' r2.st (fun n k1 k2 => by rw [r2.same n (by omega)]; exact hf n (Nat.le_trans hn k1) k2) r3
    obtain ⟨e, w2, fr, q1, q2, q3, q4⟩ := hcall (b.atR c (.inRegion ⟨ops⟩ (j :: js) :: k) :: cs)
    cases e with
    | panicked => exact q1.elim
    | outgrown => exact q1.elim
    | returned v' =>
      obtain ⟨μ2, m1, m2⟩ := q1
      have hst5 : step P (lone (b.atR c (.inRegion ⟨ops⟩ (j :: js) :: k)) cs w) = .next (lone (Frame.enter P f args' .normal) (b.atR c (.inRegion ⟨ops⟩ (j :: js) :: k) :: cs) w1) :=
        step_lone_go (by rw [h1]; simp [stepG.apply, r1, Frame.atR])
      refine ⟨μ2, w2, c.put o.dst v', cs, r2.trans hn hn2 m1, ((hfr.sub r2.sub).sub m1.sub).put o.dst m2, .refl _, .head hst5 (Steps.trans q2 (.one ?_))⟩
      rw [← h2]
      exact step_leave_returned q4

theorem round_good (hX : CtxOk P X) (hr : GoodR P r) {ops : List Oper} {o : Oper} {rd : Option Nat} {a : Fr} {s s1 : ES} {l nt : Nat} {tm : Tr Value} {as bo : Code} (hw : wantE ops a.tm o = some true) (he : eop P X (evalO a.tm) o s = .ok (.round l nt tm as bo) s1) :
    OneOk P ops o rd a s (oCall a (r (.rnd l nt tm as bo) s1)) := by
  obtain ⟨hn, h⟩ := op_run (rd := rd) hX hw he
  have hc := hr (.rnd l nt tm as bo) s1
  have enter : ∀ {s2 : ES}, s1.nx ≤ s2.nx → ∀ (j : Nat) (js : List Nat), ops[j]? = some o → ∀ (μ : Ren) (w : World) (b : Frame) (k : List Item) (cs : List Frame) (c : Act), St P μ s.st w → Free μ s.nx s2.nx → FrR P μ rd b cs a c →
      ∃ μ' w' pl f tmps, Nxt P μ s w μ' s1 w' ∧ μ' l = some pl ∧ TR P μ' nt tm tmps ∧ (∃ g, P.funcs[f]? = some g) ∧ Free μ' s1.nx s2.nx ∧ (∀ v, (b.atR c (.inRegion ⟨ops⟩ (j :: js) :: k)).finish v = b.atR (c.put o.dst v) (.inRegion ⟨ops⟩ js :: k)) ∧
        step P (lone (b.atR c (.inRegion ⟨ops⟩ (j :: js) :: k)) cs w) = .next (lone (Frame.round pl.b f tmps as bo .normal) (b.atR c (.inRegion ⟨ops⟩ (j :: js) :: k) :: cs) w') := by
    intro s2 hn2 j js hd μ w b k cs c hst hf hfr
    obtain ⟨h1, h2, h3⟩ := h j js hd μ w b k cs c hst (fun n k1 k2 => hf n k1 (Nat.lt_of_lt_of_le k2 hn2)) hfr (.inr (by intro d hh; cases hh))
    rcases h3 with ⟨_, _, hh, _⟩ | ⟨μ', w', nx', r1, r2, r3⟩
    · cases hh
    · cases r3 with
      | round hl ht f hf2 =>
        refine ⟨μ', w', _, f, _, r2, hl, ht, hf2, fun n k1 k2 => by rw [r2.same n (by omega)]; exact hf n (Nat.le_trans hn k1) k2, h2, step_lone_go ?_⟩
        rw [h1]; simp [stepG.apply, r1]
  cases ho : r (.rnd l nt tm as bo) s1 with
  | ret v pk' s2 =>
    rw [ho] at hc
    refine ⟨Nat.le_trans hn hc.1, fun j js hd μ w b k cs c hst hf hfr => ?_⟩
    obtain ⟨μ1, w1, pl, f, tmps, n1, n2, n3, n4, n5, n6, n7⟩ := enter hc.1 j js hd μ w b k cs c hst hf hfr
    obtain ⟨μ2, w2, m1, m2⟩ := hc.2 μ1 w1 (b.atR c (.inRegion ⟨ops⟩ (j :: js) :: k)) cs f tmps pl n1.st n5 n2 n3 n4 rfl
    cases m2 with
    | ret hv hs =>
      rename_i v'
      rw [n6] at hs
      exact ⟨μ2, w2, c.put o.dst v', cs, n1.trans hn hc.1 m1, ((hfr.sub n1.sub).sub m1.sub).put o.dst hv, .refl _, .head n7 hs⟩
  | pan v pk' s2 =>
    rw [ho] at hc
    refine ⟨Nat.le_trans hn hc.1, fun j js hd μ w b k cs c hst hf hfr => ?_⟩
    obtain ⟨μ1, w1, pl, f, tmps, n1, n2, n3, n4, n5, n6, n7⟩ := enter hc.1 j js hd μ w b k cs c hst hf hfr
    obtain ⟨μ2, w2, m1, m2⟩ := hc.2 μ1 w1 (b.atR c (.inRegion ⟨ops⟩ (j :: js) :: k)) cs f tmps pl n1.st n5 n2 n3 n4 rfl
    cases m2 with
    | pan hv hs =>
      rename_i v'
      exact ⟨μ2, w2, v', n1.trans hn hc.1 m1, hv, .head n7 hs⟩
  | _ => trivial

theorem one_good (hX : CtxOk P X) (hS : SumOk P X) (hr : GoodR P r) (ops : List Oper) (rd : Option Nat) (a : Fr) (s : ES) (o : Oper) (hw : wantE ops a.tm o = some true) :
    OneOk P ops o rd a s (one P r rd a o (eop P X (evalO a.tm) o s)) := by
  cases he : eop P X (evalO a.tm) o s with
  | bad y => trivial
  | ok nx s1 =>
    unfold one
    cases nx with
    | val v => exact val_go hX hw he
    | skip => exact unit_go hX hw he
    | enter f args => exact enter_good hX hr hw he
    | round l nt tm as bo => exact round_good hX hr hw he
    | done f args v =>
      refine calls_go (s1 := s1) (s2 := s1) hX hw he (by intro d h; cases h) (by intro d h; cases h) (Nat.le_refl _) fun μ w nx' hst hf hnr => ?_
      cases hnr with
      | done _ hx hm ha hv =>
        refine ⟨f, ⟨args⟩, rfl, (hS.sum f args v hx hm ha hv w).mono fun e w' h => ?_⟩
        cases e with
        | returned v' => obtain ⟨rfl, h2⟩ := h; exact ⟨μ, h2.nxt hst, VR.of_plain _ hv⟩
        | panicked => exact h.elim
        | outgrown => exact h.elim
    | keys f g m =>
      simp only
      unfold oKeys
      cases hel : elemOf P f with
      | none => trivial
      | some e =>
        simp only
        cases hk : eSortedKeys e m s1 with
        | bad y => trivial
        | ok v s2 =>
          have wk : Wf (eSortedKeys e m) := by
            unfold eSortedKeys eSortedM
            (repeat' first | exact wf_bad _ | exact wf_ret _ | exact wf_rdCells _ _ | exact wf_mapOf _ | exact wf_eget _ | exact wf_enew _ | refine wf_cond _ ?_ ?_ | refine wf_bnd ?_ fun _ => ?_ | split)
          refine calls_go (s1 := s1) (s2 := s2) hX hw he (by intro d h; cases h) (by intro d h; cases h) (wk _ _ _ hk).1 fun μ w nx' hst hf hnr => ?_
          cases hnr with
          | keys _ _ h6 h7 hv =>
            exact ⟨f, _, rfl, hS.keys f g e h6 h7 hel μ s1 w m _ v s2 hk hst hf hv⟩
    | heap f args m =>
      simp only
      unfold oVal
      cases hk : m.run s1 with
      | bad y => trivial
      | ok v s2 =>
        refine calls_go (s1 := s1) (s2 := s2) hX hw he (by intro d h; cases h) (by intro d h; cases h) (m.wf _ _ _ hk).1 fun μ w nx' hst hf hnr => ?_
        cases hnr with
        | heap _ hx hm ha => exact ⟨f, _, rfl, hS.heap f args m hx hm μ s1 w _ v s2 hk hst hf ha⟩
    | defer d =>
      simp only
      unfold oDefer
      cases rd with
      | some l => trivial
      | none => exact defer_go hX hw he
    | recover =>
      simp only
      unfold oRecover
      cases rd with
      | some l => trivial
      | none =>
        simp only
        cases hpk : a.pk with
        | yes v => exact recover_go hX hw he (.inl ⟨v, hpk, rfl, rfl⟩)
        | no => exact recover_go hX hw he (.inr ⟨(by intro x hx; rw [hpk] at hx; cases hx), rfl, rfl⟩)
        | done => exact recover_go hX hw he (.inr ⟨(by intro x hx; rw [hpk] at hx; cases hx), rfl, rfl⟩)
    | panic v =>
      obtain ⟨hn, h⟩ := op_run (rd := rd) hX hw he
      refine ⟨hn, fun j js hd μ w b k cs c hst hf hfr => ?_⟩
      obtain ⟨h1, h2, h3⟩ := h j js hd μ w b k cs c hst hf hfr (.inr (by intro d hh; cases hh))
      rcases h3 with ⟨v0, v', hh, hs, hv, hrun⟩ | ⟨μ', w', nx', r1, r2, r3⟩
      · cases hh
        subst hs
        refine ⟨μ, w, v', Nxt.refl hst, hv, .one (step_lone_go ?_)⟩
        rw [h1, ← Frame.raise_atR]; simp [stepG.apply, hrun]
      · cases r3

theorem evOps_good (hX : CtxOk P X) (hS : SumOk P X) (hr : GoodR P r) (ops l : List Oper) (rd : Option Nat) (a : Fr) (s : ES) : Good P (.ops ops l rd a) s (evOps P X r ops rd a s l) := by
  cases l with
  | nil =>
    intro j hd
    have hj : ops.length ≤ j := by
      have := congrArg List.length hd
      simp at this; omega
    refine good_stay fun μ b k cs c w => ?_
    unfold Frame.inOps
    simp only [List.size_toArray]
    rw [show ops.length - j = 0 by omega]
    exact .normal (.one stepR_region_end)
  | cons o rest =>
    unfold evOps
    simp only
    cases hw : wantE ops a.tm o with
    | none => trivial
    | some t =>
      cases t with
      | false => exact oGo_good hr (skip_go hw)
      | true =>
        simp only
        have h1 := one_good hX hS hr ops rd a s o hw
        unfold oNext
        cases ho : one P r rd a o (eop P X (evalO a.tm) o s) with
        | go a1 v s1 => rw [ho] at h1; exact oGo_good hr h1
        | pan v s1 => rw [ho] at h1; exact opPan_good h1
        | bad y => trivial
end
end Go.E

