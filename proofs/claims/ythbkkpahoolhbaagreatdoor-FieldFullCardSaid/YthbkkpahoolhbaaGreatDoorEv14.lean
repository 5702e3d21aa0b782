import Derived.Test.YthbkkpahoolhbaaGreatDoorEv13
set_option linter.unusedSimpArgs false
set_option linter.unusedVariables false
set_option linter.unusedSectionVars false
namespace Go.E

section
variable {P : Program} {X : Ctx} {r : Rec} {ops : Array Oper} {rd : Option Nat} {ts : List Stp} {S : Nat → ES} {A : Nat → Fr}

theorem tm_start (F : Facts P X r ops rd ts S A) {L : List Bool} (hL : ∀ i, L.getD i false = false) : TmInv ts A L (A 0).tm := by
  intro t m hm hw
  have : ∀ m', m' ≤ m → getv (A m').tm t = getv (A 0).tm t := by
    intro m'
    induction m' with
    | zero => intro _; rfl
    | succ i ih =>
      intro hi
      have hx : ts[i]? = some ts[i] := by simp [show i < ts.length by omega]
      obtain ⟨p1, p2, p3, p4, p5⟩ := F.cx.pl.at_ i _ hx
      obtain ⟨v, a1, e1, e2, e3⟩ := p5.put
      rw [← p4, e1, getv_put]
      have hnd : ¬ (ts[i].o.dst = some t) := by
        intro hd
        have := (hw i _ hx hd).2 (by omega)
        rw [hL] at this
        cases this
      rw [if_neg (fun hh => hnd hh.1), e2, p2]
      exact ih (by omega)
  exact (this m (Nat.le_refl _)).symm

theorem inv_run (hX : CtxOk P X) (hS : SumOk P X) (hr : GoodR P r) (F : Facts P X r ops rd ts S A) {μ0 : Ren} {w0 : World} {b : Frame} {k : List Item} {L : List Bool} {js : List Nat} (hs : Sched ops L js) :
    ∀ {T : Tr EObj} {tm : Tr Value} {μ : Ren} {w : World} {cs : List Frame} {c : Act}, Inv P ops rd ts S A μ0 (S 0) w0 b L T tm μ w cs c →
    ∃ L' T' tm' μ' w' cs' c', (∀ i, i < ops.size → L'.getD i false = true) ∧ Inv P ops rd ts S A μ0 (S 0) w0 b L' T' tm' μ' w' cs' c' ∧ CsR b.kind cs cs' ∧
      Steps P (lone (b.atR c (.inRegion ops js :: k)) cs w) (lone (b.atR c' (.inRegion ops [] :: k)) cs' w') := by
  induction hs with
  | nil h =>
    intro T tm μ w cs c hi
    exact ⟨_, T, tm, μ, w, cs, c, h, hi, .refl _, .refl P _⟩
  | cons hj ho hb h ih =>
    intro T tm μ w cs c hi
    obtain ⟨T1, tm1, μ1, w1, cs1, c1, q1, q2, q3⟩ := inv_step (k := k) hX hS hr F hi hj ho hb (js := _)
    obtain ⟨L2, T2, tm2, μ2, w2, cs2, c2, r0, r1, r2, r3⟩ := ih q1
    exact ⟨L2, T2, tm2, μ2, w2, cs2, c2, r0, r1, q2.trans r2, q3.trans r3⟩

theorem draw_ok (hX : CtxOk P X) (hS : SumOk P X) : DrawOk P X := by
  intro r hr hl id ops rd a s
  unfold dReg
  cases hd : dOkAll ops with
  | false => trivial
  | true =>
    simp only [cond_true]
    cases hg : dGo P X r ops.toList (Region.before ops) rd ops.toList 0 a s [] with
    | code e aN sN =>
      obtain ⟨rfl, ts, heq, hchn, hprs⟩ := dGo_trace ops.toList 0 a s [] e aN sN rfl hg
      obtain ⟨S, A, h1, h2, h3, h4, hpl⟩ := chn_places hchn
      have hok : dOk2 ops.toList (Region.before ops) 0 ops.toList = true := by
        unfold dOkAll at hd
        simp only [Bool.and_eq_true] at hd
        exact hd.2
      have cx : Ctxt P X r ops rd ts S A := ⟨hpl, heq, hok⟩
      have hlen : ts.length = ops.size := by
        have := congrArg List.length heq
        simpa using this
      subst h1 h2 h3 h4
      have hm := hpl.mono hX hS hr (i := 0) ts.length (by omega)
      rw [Nat.zero_add] at hm
      refine ⟨hm, fun μ w b k cs c hst hf hfr => ?_⟩
      have F : Facts P X r ops rd ts S A := facts hX hS hr hl cx (by simpa using hprs) hst hf hfr
      have hL : ∀ i, (List.replicate ops.size false).getD i false = false := by
        intro i
        rw [List.getD_eq_getElem?_getD, List.getElem?_replicate]
        split <;> rfl
      have hinv : Inv P ops rd ts S A μ (S 0) { w with drawn := w.drawn + 1 } b (List.replicate ops.size false) (S 0).st (A 0).tm μ { w with drawn := w.drawn + 1 } cs c := by
        refine ⟨mem_start F hL, tm_start F hL, fun i j h _ => (by rw [hL] at h; cases h), (by simp [hlen]), hfr, ?_, fun i st hi _ n k1 k2 => ?_⟩
        · exact ⟨Sub.refl _, fun _ _ => rfl, ⟨hst.obj, hst.inj⟩, ⟨Nat.le_refl _, rfl, rfl, rfl, fun _ _ _ => rfl⟩, fun n pl hl hn => .inr ⟨n, pl, hl, hn, rfl⟩⟩
        · obtain ⟨e1, e2, e3, e4, e5⟩ := F.ends hi
          have := F.mono 0 i (by omega)
          rw [Nat.zero_add] at this
          exact hf n (by omega) (by omega)
      obtain ⟨L, T, tm, μ', w', cs', c', q0, q1, q2, q3⟩ := inv_run (k := k) hX hS hr F (schedule_sched hd (P.follows .mixedOrders) (w.tape w.drawn (.order b.fn id))) hinv
      have hall : ∀ i st, ts[i]? = some st → (L.getD i false = true ↔ i < ts.length) := by
        intro i st hi
        have hlt := (List.getElem?_eq_some_iff.1 hi).1
        exact ⟨fun _ => hlt, fun _ => q0 i (by omega)⟩
      have hT : ∀ n, T.get n = (S ts.length).st.get n := fun n => q1.mem n ts.length (Nat.le_refl _) fun i st hi _ => hall i st hi
      have htm : ∀ t, getv tm t = getv (A ts.length).tm t := fun t => q1.tmi t ts.length (Nat.le_refl _) fun i st hi _ => hall i st hi
      have hlive : ∀ n, Live (S ts.length).st n ↔ Live T n := by
        intro n; unfold Live; rw [hT]
      have hA := frames F ts.length (Nat.le_refl _)
      refine ⟨μ', w', c', cs', ⟨q1.nxt.sub, q1.nxt.same, ⟨fun n o hn => q1.nxt.st.obj n o (by rw [hT]; exact hn), fun n m pl pm h1 h2 => q1.nxt.st.inj n m pl pm ((hlive n).1 h1) ((hlive m).1 h2)⟩,
        ⟨q1.nxt.frm.size, q1.nxt.frm.tape, q1.nxt.frm.os, q1.nxt.frm.output, q1.nxt.frm.kept⟩, fun n pl h1 h2 => q1.nxt.cover n pl ((hlive n).1 h1) h2⟩, ?_, q2, .normal (.head stepR_region_draw (q3.trans (.one stepR_region_end)))⟩
      have hfr' := q1.fr
      rw [hA]
      refine ⟨hfr'.ro, hfr'.fn, ⟨hfr'.tr.1, fun t => ?_⟩, hfr'.df, hfr'.kr⟩
      have := hfr'.tr.2 t
      rw [htm] at this
      exact this
    | _ => trivial

theorem ev_run (hX : CtxOk P X) (hS : SumOk P X) {n : Nat} {f : FuncId} {args args' : List Value} {s s' : ES} {v : Value} {pk : PK} {μ : Ren} {w : World}
    (h : ev P X n (.call f args .no) s = .ret v pk s') (hst : St P μ s.st w) (hf : Free μ s.nx s'.nx) (ha : VRL P μ args args') :
    Calls P f ⟨args'⟩ w fun
      | .returned v', w' => ∃ μ', Nxt P μ s w μ' s' w' ∧ VR P μ' v v'
      | _, _ => False := ev_calls hX hS (draw_ok hX hS) h hst hf ha
end
end Go.E

namespace Go.E

/-! ### runs without counting -/
section
variable {P : Program} {X : Ctx}

def Run (P : Program) (X : Ctx) (t : Task) (s : ES) (o : Out) : Prop := ∃ n, ∀ k, ev P X (n + k) t s = o

theorem run0 {t : Task} {s : ES} {o : Out} (h : ∀ r, evS P X r t s = o) : Run P X t s o := ⟨1, fun k => by rw [Nat.add_comm]; exact h _⟩
theorem run1 {t t1 : Task} {s s1 : ES} {o o1 : Out} (h : ∀ r : Rec, r t1 s1 = o1 → evS P X r t s = o) (h1 : Run P X t1 s1 o1) : Run P X t s o := by
  obtain ⟨n, h1⟩ := h1
  exact ⟨n + 1, fun k => by rw [show n + 1 + k = (n + k) + 1 by omega]; exact h _ (h1 k)⟩
theorem run2 {t t1 t2 : Task} {s s1 s2 : ES} {o o1 o2 : Out} (h : ∀ r : Rec, r t1 s1 = o1 → r t2 s2 = o2 → evS P X r t s = o) (h1 : Run P X t1 s1 o1) (h2 : Run P X t2 s2 o2) : Run P X t s o := by
  obtain ⟨n, h1⟩ := h1
  obtain ⟨m, h2⟩ := h2
  refine ⟨n + m + 1, fun k => ?_⟩
  rw [show n + m + 1 + k = (n + m + k) + 1 by omega]
  refine h _ ?_ ?_
  · rw [show n + m + k = n + (m + k) by omega]; exact h1 _
  · rw [show n + m + k = m + (n + k) by omega]; exact h2 _
theorem Run.eval {t : Task} {s : ES} {o : Out} (h : Run P X t s o) : ∃ n, ev P X n t s = o := by
  obtain ⟨n, h⟩ := h
  exact ⟨n, by simpa using h 0⟩

/-! code -/
theorem run_skip {rd : Option Nat} {a : Fr} {s : ES} : Run P X (.code .skip rd a) s (.code .normal a s) := run0 fun _ => rfl
theorem run_ret {rd : Option Nat} {a : Fr} {s : ES} : Run P X (.code .ret rd a) s (.code .ret a s) := run0 fun _ => rfl
theorem run_exit {id : Nat} {rd : Option Nat} {a : Fr} {s : ES} : Run P X (.code (.exit id) rd a) s (.code (.exit id) a s) := run0 fun _ => rfl
theorem run_seq {x y : Code} {rd : Option Nat} {a a1 : Fr} {s s1 : ES} {o : Out} (h1 : Run P X (.code x rd a) s (.code .normal a1 s1)) (h2 : Run P X (.code y rd a1) s1 o) : Run P X (.code (.seq x y) rd a) s o :=
  run2 (fun r h1 h2 => by show cSeq r x y rd a s = o; unfold cSeq; rw [h1]; exact h2) h1 h2
theorem run_seq_out {x y : Code} {rd : Option Nat} {a a1 : Fr} {s s1 : ES} {e : Ex} (he : e ≠ .normal) (h1 : Run P X (.code x rd a) s (.code e a1 s1)) : Run P X (.code (.seq x y) rd a) s (.code e a1 s1) :=
  run1 (fun r h1 => by show cSeq r x y rd a s = _; unfold cSeq; rw [h1]; cases e <;> first | exact absurd rfl he | rfl) h1
theorem run_cond {c : Operand} {x y : Code} {rd : Option Nat} {a : Fr} {s : ES} {o : Out} (t : Bool) (hc : evalO a.tm c = .bool t) (h : Run P X (.code (bif t then x else y) rd a) s o) : Run P X (.code (.cond c x y) rd a) s o :=
  run1 (fun r h => by show cCond r (evalO a.tm c) x y rd a s = o; rw [hc]; exact h) h
theorem run_block {id : Nat} {c : Code} {rd : Option Nat} {a a1 : Fr} {s s1 : ES} {e : Ex} (h : Run P X (.code c rd a) s (.code e a1 s1)) (hne : e ≠ .exit id) : Run P X (.code (.block id c) rd a) s (.code e a1 s1) :=
  run1 (fun r h => by
    show cBlock r id c rd a s = _
    unfold cBlock
    rw [h]
    cases e with
    | exit i =>
      simp only
      have : i.beq id = false := by rw [← Bool.not_eq_true, Nat.beq_eq]; intro h; exact hne (by rw [h])
      rw [this]; rfl
    | _ => rfl) h
theorem run_block_exit {id : Nat} {c : Code} {rd : Option Nat} {a a1 : Fr} {s s1 : ES} (h : Run P X (.code c rd a) s (.code (.exit id) a1 s1)) : Run P X (.code (.block id c) rd a) s (.code .normal a1 s1) :=
  run1 (fun r h => by
    show cBlock r id c rd a s = _
    unfold cBlock
    rw [h]
    simp only
    rw [show id.beq id = true from Nat.beq_refl id]; rfl) h
theorem run_loop {c : Code} {rd : Option Nat} {a a1 : Fr} {s s1 : ES} {o : Out} (h1 : Run P X (.code c rd a) s (.code .normal a1 s1)) (h2 : Run P X (.code (.loop c) rd a1) s1 o) : Run P X (.code (.loop c) rd a) s o :=
  run2 (fun r h1 h2 => by show cLoop r c rd a s = o; unfold cLoop; rw [h1]; exact h2) h1 h2
theorem run_loop_out {c : Code} {rd : Option Nat} {a a1 : Fr} {s s1 : ES} {e : Ex} (he : e ≠ .normal) (h1 : Run P X (.code c rd a) s (.code e a1 s1)) : Run P X (.code (.loop c) rd a) s (.code e a1 s1) :=
  run1 (fun r h1 => by show cLoop r c rd a s = _; unfold cLoop; rw [h1]; cases e <;> first | exact absurd rfl he | rfl) h1
theorem run_scope {c : Code} {rd : Option Nat} {a : Fr} {s : ES} {o : Out} (h : Run P X (.code c rd a) s o) : Run P X (.code (.scope c) rd a) s o := run1 (fun r h => h) h
theorem run_region {id : Nat} {ops : Array Oper} {rd : Option Nat} {a : Fr} {s : ES} {o : Out} (h : Run P X (.ops ops.toList ops.toList rd a) s o) : Run P X (.code (.region id ops false) rd a) s o := run1 (fun r h => h) h

/-! operations -/
theorem run_nil {ops : List Oper} {rd : Option Nat} {a : Fr} {s : ES} : Run P X (.ops ops [] rd a) s (.code .normal a s) := run0 fun _ => rfl
theorem run_val {ops rest : List Oper} {o : Oper} {rd : Option Nat} {a : Fr} {s s1 : ES} {v : Value} {out : Out} (hw : wantE ops a.tm o = some true) (he : eop P X (evalO a.tm) o s = .ok (.val v) s1)
    (h : Run P X (.ops ops rest rd (put a o.dst v)) s1 out) : Run P X (.ops ops (o :: rest) rd a) s out :=
  run1 (fun r h => by show evOps P X r ops rd a s (o :: rest) = out; unfold evOps; dsimp only; rw [hw]; simp only; rw [he]; exact h) h
theorem run_unit {ops rest : List Oper} {o : Oper} {rd : Option Nat} {a : Fr} {s s1 : ES} {out : Out} (hw : wantE ops a.tm o = some true) (he : eop P X (evalO a.tm) o s = .ok .skip s1)
    (h : Run P X (.ops ops rest rd (put a o.dst undef)) s1 out) : Run P X (.ops ops (o :: rest) rd a) s out :=
  run1 (fun r h => by show evOps P X r ops rd a s (o :: rest) = out; unfold evOps; dsimp only; rw [hw]; simp only; rw [he]; exact h) h
theorem run_not {ops rest : List Oper} {o : Oper} {rd : Option Nat} {a : Fr} {s : ES} {out : Out} (hw : wantE ops a.tm o = some false)
    (h : Run P X (.ops ops rest rd (put a o.dst undef)) s out) : Run P X (.ops ops (o :: rest) rd a) s out :=
  run1 (fun r h => by show evOps P X r ops rd a s (o :: rest) = out; unfold evOps; dsimp only; rw [hw]; exact h) h
theorem run_done {ops rest : List Oper} {o : Oper} {rd : Option Nat} {a : Fr} {s s1 : ES} {f : FuncId} {args : List Value} {v : Value} {out : Out} (hw : wantE ops a.tm o = some true) (he : eop P X (evalO a.tm) o s = .ok (.done f args v) s1)
    (h : Run P X (.ops ops rest rd (put a o.dst v)) s1 out) : Run P X (.ops ops (o :: rest) rd a) s out :=
  run1 (fun r h => by show evOps P X r ops rd a s (o :: rest) = out; unfold evOps; dsimp only; rw [hw]; simp only; rw [he]; exact h) h
theorem run_call {ops rest : List Oper} {o : Oper} {rd : Option Nat} {a : Fr} {s s1 s2 : ES} {f : FuncId} {args : List Value} {v : Value} {pk : PK} {out : Out} (hw : wantE ops a.tm o = some true) (he : eop P X (evalO a.tm) o s = .ok (.enter f args) s1)
    (h1 : Run P X (.call f args .no) s1 (.ret v pk s2)) (h : Run P X (.ops ops rest rd (put a o.dst v)) s2 out) : Run P X (.ops ops (o :: rest) rd a) s out :=
  run2 (fun r h1 h => by
    show evOps P X r ops rd a s (o :: rest) = out
    unfold evOps; dsimp only; rw [hw]; simp only; rw [he]; unfold one; simp only
    rw [h1]; exact h) h1 h
theorem run_call_pan {ops rest : List Oper} {o : Oper} {rd : Option Nat} {a : Fr} {s s1 s2 : ES} {f : FuncId} {args : List Value} {v : Value} {pk : PK} (hw : wantE ops a.tm o = some true) (he : eop P X (evalO a.tm) o s = .ok (.enter f args) s1)
    (h1 : Run P X (.call f args .no) s1 (.pan v pk s2)) : Run P X (.ops ops (o :: rest) rd a) s (.code (.pan v) a s2) :=
  run1 (fun r h1 => by
    show evOps P X r ops rd a s (o :: rest) = _
    unfold evOps; dsimp only; rw [hw]; simp only; rw [he]; unfold one; simp only
    rw [h1]; rfl) h1
theorem run_panic {ops rest : List Oper} {o : Oper} {rd : Option Nat} {a : Fr} {s s1 : ES} {v : Value} (hw : wantE ops a.tm o = some true) (he : eop P X (evalO a.tm) o s = .ok (.panic v) s1) :
    Run P X (.ops ops (o :: rest) rd a) s (.code (.pan v) a s1) :=
  run0 fun r => by
    show evOps P X r ops rd a s (o :: rest) = _
    unfold evOps; dsimp only; rw [hw]; simp only; rw [he]; rfl

/-! calls -/
theorem run_fn {f : FuncId} {fn : Func} {c : Code} {args : List Value} {pk : PK} {a1 : Fr} {s s1 : ES} {e : Ex} {v : Value} (hf : P.funcs[f]? = some fn) (hb : fn.body = some c)
    (h1 : Run P X (.code c none (emptyFr fn.ntmps args pk)) s (.code e a1 s1)) (he : e = .normal ∨ e = .ret) (hd : a1.df = []) (hr : eResults P fn a1.tm s1 = .ok v s1) :
    Run P X (.call f args pk) s (.ret v a1.pk s1) := by
  have hu : Run P X (.unw fn .ret a1) s1 (.ret v a1.pk s1) := run0 fun r => by
    show evUnw P X r fn .ret a1 s1 = _
    unfold evUnw
    rw [hd]
    simp only [uEnd, uRet, hr]
  refine run2 (fun r h1 h2 => ?_) h1 hu
  show evCall P r f args pk s = _
  unfold evCall
  rw [hf]
  simp only [hb]
  rw [h1]
  rcases he with rfl | rfl <;> exact h2
theorem run_fn_pan {f : FuncId} {fn : Func} {c : Code} {args : List Value} {pk : PK} {a1 : Fr} {s s1 : ES} {v : Value} (hf : P.funcs[f]? = some fn) (hb : fn.body = some c)
    (h1 : Run P X (.code c none (emptyFr fn.ntmps args pk)) s (.code (.pan v) a1 s1)) (hd : a1.df = []) :
    Run P X (.call f args pk) s (.pan v a1.pk s1) := by
  have hu : Run P X (.unw fn (.pan v) a1) s1 (.pan v a1.pk s1) := run0 fun r => by
    show evUnw P X r fn (.pan v) a1 s1 = _
    unfold evUnw
    rw [hd]
    rfl
  refine run2 (fun r h1 h2 => ?_) h1 hu
  show evCall P r f args pk s = _
  unfold evCall
  rw [hf]
  simp only [hb]
  rw [h1]
  exact h2
end
end Go.E

namespace Go.E

/-! ### the same evaluator, for the kernel: closed alternatives -/
abbrev OT : Type := Program → Ctx → (Operand → Value) → Oper → EM ENext
noncomputable section
def badop : EM ENext := bad "op"
def a_move (x : Operand) : OT := fun _ _ ρ _ => EM.ret (.val (ρ x))
def a_pick (c a b : Operand) : OT := fun _ _ ρ _ =>
    match ρ c with
    | .bool t => EM.ret (.val (bif t then ρ a else ρ b))
    | _ => bad "pick"
def a_alloc (e : TypeId) : OT := fun P _ _ _ =>
    match zer P e with
    | some z => (enew (.cells z.cells.toList e)).bnd fun r => EM.ret (.val (mkPtr r))
    | none => bad "alloc"
def a_box (e : TypeId) (x : Operand) : OT := fun _ _ ρ _ => bif notTup (ρ x) then (enew (.cells (ρ x).cells.toList e)).bnd fun r => EM.ret (.val (mkPtr r)) else bad "box"
def a_build (t : TypeId) (ps : Array (Nat × Operand)) : OT := fun P _ ρ _ => vo "build" (eBuild P t (mapP ρ ps.toList))
def a_buildSlice (t : TypeId) (n : Nat) (ps : Array (Nat × Operand)) : OT := fun P _ ρ _ => vl (eBuildSlice P t n (mapP ρ ps.toList))
def a_insert (t : TypeId) (m k v : Operand) : OT := fun P _ ρ _ => (eMapUpdate P t (ρ m) (ρ k) (ρ v)).bnd fun _ => EM.ret .skip
def a_load (t : TypeId) (a : Operand) : OT := fun P _ ρ _ => (sureA (ρ a)).bnd fun a => vl (rd P t a)
def a_store (t : TypeId) (a x : Operand) : OT := fun P _ ρ _ => (sureA (ρ a)).bnd fun a => (wr P t a (ρ x)).bnd fun _ => EM.ret .skip
def a_bad1 (_ : Nat) : OT := fun _ _ _ _ => bad "op"
def a_nilCheck (x : Operand) : OT := fun _ _ ρ _ =>
    match ρ x with
    | .pointer (some a) => EM.ret (.val (.pointer (some a)))
    | .func (.func f) a b => EM.ret (.val (.func (.func f) a b))
    | .func (.yield f) a b => EM.ret (.val (.func (.yield f) a b))
    | _ => bad "nilCheck"
def a_binOp (op : BinOp) (t : TypeId) (x y : Operand) (_ : TypeId) : OT := fun P _ ρ _ => vo "binOp" (eBin P op t x y (ρ x) (ρ y))
def a_unOp (op : UnOp) (_ : TypeId) (x : Operand) : OT := fun _ _ ρ _ => vo "unOp" (eUn op (ρ x))
def a_convert (s d : TypeId) (x : Operand) : OT := fun P _ ρ _ => vl (eConvert P s d (ρ x))
def a_bad2 (_ : TypeId) (_ : Operand) : OT := fun _ _ _ _ => bad "op"
def a_makeInterface (t : TypeId) (x : Operand) : OT := fun P _ ρ _ =>
    match und P t with
    | some (.interface _) | none => bad "makeInterface"
    | some _ => EM.ret (.val (.iface t (ρ x)))
def a_makeFunc (fn : Fn) (first captured : Array Operand) : OT := fun _ _ ρ _ =>
    match fn with
    | .func f => EM.ret (.val (.func (.func f) ⟨mapA ρ first.toList⟩ ⟨mapA ρ captured.toList⟩))
    | _ => bad "op"
def a_makeMap (t : TypeId) (h : Option Operand) : OT := fun P _ ρ _ =>
    match h with
    | none => (enew (.map [] 0)).bnd fun r => EM.ret (.val (.map (some r)))
    | some h =>
      match und P t, ρ h with
      | some (.map _ _), .int _ _ => (enew (.map [] 0)).bnd fun r => EM.ret (.val (.map (some r)))
      | _, _ => bad "makeMap"
def a_makeSlice (t : TypeId) (l c : Operand) : OT := fun P _ ρ _ => vl (eMakeSlice P t (ρ l) (ρ c))
def a_slice (t : TypeId) (x : Operand) (l h m : Option Operand) : OT := fun P _ ρ _ => vl (eSlice P t (ρ x) (l.map ρ) (h.map ρ) (m.map ρ))
def a_fieldAddr (t : TypeId) (x : Operand) (f : Nat) : OT := fun P _ ρ _ => vo "fieldAddr" (eFieldAddr P t (ρ x) f)
def a_field (t : TypeId) (x : Operand) (f : Nat) : OT := fun P _ ρ _ => vo "field" (eField P t (ρ x) f)
def a_indexAddr (t : TypeId) (x i : Operand) : OT := fun P _ ρ _ => vo "indexAddr" (eIndexAddr P t (ρ x) (ρ i))
def a_index (t : TypeId) (x i : Operand) : OT := fun P _ ρ _ => vo "index" (eIndex P t (ρ x) (ρ i))
def a_lookup (t : TypeId) (x i : Operand) (ok : Bool) : OT := fun P _ ρ _ => vl (eLookup P t (ρ x) (ρ i) ok)
def a_mapEntry (t : TypeId) (m k : Operand) : OT := fun P _ ρ _ => vl (eMapEntry P t (ρ m) (ρ k))
def a_entryStore (_ : TypeId) (m s v : Operand) : OT := fun _ _ ρ _ => (eEntryStore (ρ m) (ρ s) (ρ v)).bnd fun _ => EM.ret .skip
def a_range (t : TypeId) (x : Operand) : OT := fun P _ ρ _ => vl (eRange P t (ρ x))
def a_next (i : Operand) (s : Bool) : OT := fun _ _ ρ _ => vl (eNext (ρ i) s)
def a_entry (i : Operand) : OT := fun _ _ ρ _ => vl (eEntry (ρ i))
def a_typeAssert (x : Operand) (_ t : TypeId) (ok : Bool) : OT := fun P _ ρ _ => vo "typeAssert" (eTypeAssert P (ρ x) t ok)
def a_extract (t : Operand) (i : Nat) : OT := fun _ _ ρ _ =>
    match ρ t with
    | .tuple vs => vo "extract" (eExtract vs.toList i)
    | _ => bad "extract"

abbrev BT : Type := Program → Array TypeId → Array Value → EM ENext
def b_append : BT := fun P ts args => vl (eAppend P ts args)
def b_copy : BT := fun P ts args => vl (eCopy P ts args)
def b_len : BT := fun P ts args => vl (eLen P ts args)
def b_clear : BT := fun P ts args => vl (eClear P ts args)
def b_max : BT := fun _ _ args => vo "max" (eMinMax true args.toList)
def b_min : BT := fun _ _ args => vo "min" (eMinMax false args.toList)
def b_delete : BT := fun P ts args =>
    match ts.toList, args.toList with
    | t :: _, m :: k :: _ => (eDelete P t m k).bnd fun _ => EM.ret (.val undef)
    | _, _ => bad "delete"
def b_recover : BT := fun _ _ _ => EM.ret .recover
def b_uString : BT := fun P ts args => vl (eUnsafeString P ts args)
def b_uData : BT := fun _ _ args => vl (eSliceData args)
def b_bad : BT := fun _ _ _ => bad "builtin"
def builtinF : Builtin → BT := @Builtin.rec (fun _ => BT) b_append b_bad b_clear b_bad b_bad b_copy b_delete b_bad b_len b_bad b_max b_min b_bad b_bad b_bad b_bad b_bad b_recover b_bad b_bad b_uData b_uString b_bad b_bad b_bad b_bad
theorem builtinF_eq (b : Builtin) (P : Program) (ts : Array TypeId) (args : Array Value) : builtinF b P ts args = eBuiltin P b ts args := by cases b <;> rfl

def invokeF (P : Program) (X : Ctx) (t : Target) (args : List Value) : EM ENext :=
  match t with
  | .builtin b ts _ _ => builtinF b P ts ⟨args⟩
  | t => eInvoke P X t args
theorem invokeF_eq (P : Program) (X : Ctx) (t : Target) (args : List Value) : invokeF P X t args = eInvoke P X t args := by
  cases t <;> first | exact builtinF_eq _ _ _ _ | rfl
def a_call (c : Call) : OT := fun P X ρ o =>
    match eResolve ρ c o.type with
    | some (t, as) => invokeF P X t as
    | none => bad "resolve"
def a_bad3 (_ : Call) : OT := fun _ _ _ _ => bad "op"
def a_defer (c : Call) : OT := fun _ _ ρ o =>
    match eResolve ρ c o.type with
    | some (t, as) => EM.ret (.defer { target := t, args := ⟨as⟩ })
    | none => bad "resolve"
def a_panic (x : Operand) : OT := fun _ _ ρ _ =>
    match ρ x with
    | .iface t v => EM.ret (.panic (.iface t v))
    | _ => bad "panic"
def a_bad4 (_ _ : Operand) : OT := fun _ _ _ _ => bad "op"
def a_bad5 (_ : TypeId) (_ : Operand) (_ : Bool) : OT := fun _ _ _ _ => bad "op"
def a_bad6 (_ : Array SelectCase) (_ : Bool) : OT := fun _ _ _ _ => bad "op"
def opF : Op → OT := @Op.rec (fun _ => OT) a_move a_move a_pick a_alloc a_box a_build a_buildSlice a_insert a_load a_store a_bad1 a_bad1 a_nilCheck a_binOp a_unOp a_convert a_bad2 a_makeInterface a_makeFunc a_makeMap a_bad2
  a_makeSlice a_slice a_fieldAddr a_field a_indexAddr a_index a_lookup a_insert a_mapEntry a_entryStore a_range a_next a_entry a_typeAssert a_extract a_call a_bad3 a_defer a_panic a_bad4 a_bad5 a_bad6
def eopF (P : Program) (X : Ctx) (ρ : Operand → Value) (o : Oper) : EM ENext := opF o.op P X ρ o
theorem eopF_eq (P : Program) (X : Ctx) (ρ : Operand → Value) (o : Oper) : eopF P X ρ o = eop P X ρ o := by
  obtain ⟨dst, op, type, pos, after, guard⟩ := o
  unfold eopF eop
  cases op <;> try rfl
  case makeFunc fn a b => cases fn <;> rfl
  case makeMap t h => cases h <;> rfl
  case call c =>
    show a_call c P X ρ _ = _
    unfold a_call
    simp only
    cases eResolve ρ c type with
    | none => rfl
    | some ta => exact invokeF_eq _ _ _ _
end
end Go.E

namespace Go.E
noncomputable section
abbrev NT : Type := Program → Rec → Option Nat → Fr → ES → One
def n_val (v : Value) : NT := fun _ _ _ a s => .go a v s
def n_skip : NT := fun _ _ _ a s => .go a undef s
def n_enter (f : FuncId) (args : List Value) : NT := fun _ r _ a s => oCall a (r (.call f args .no) s)
def n_done (_ : FuncId) (_ : List Value) (v : Value) : NT := fun _ _ _ a s => .go a v s
def n_keys (f _ : FuncId) (m : Addr) : NT := fun P _ _ a s => oKeys P a f m s
def n_heap (_ : FuncId) (_ : List Value) (m : WM) : NT := fun _ _ _ a s => oVal a (m.run s)
def n_round (l nt : Nat) (tm : Tr Value) (assign body : Code) : NT := fun _ r _ a s => oCall a (r (.rnd l nt tm assign body) s)
def n_defer (d : Deferred) : NT := fun _ _ rd a s => oDefer rd a d s
def n_recover : NT := fun _ _ rd a s => oRecover rd a s
def n_panic (v : Value) : NT := fun _ _ _ _ s => .pan v s
def nextF : ENext → NT := @ENext.rec (fun _ => NT) n_val n_skip n_enter n_done n_keys n_heap n_round n_defer n_recover n_panic
def oneF (P : Program) (r : Rec) (rd : Option Nat) (a : Fr) (o : Oper) : Res ENext → One
  | .bad w => .bad (w ++ " @ " ++ o.pos)
  | .ok nx s => nextF nx P r rd a s
theorem oneF_eq (P : Program) (r : Rec) (rd : Option Nat) (a : Fr) (o : Oper) (x : Res ENext) : oneF P r rd a o x = one P r rd a o x := by
  cases x with
  | bad w => rfl
  | ok nx s => cases nx <;> rfl

def putF (a : Fr) (dst : Option Tmp) (v : Value) : Fr :=
  match dst with
  | some d => @Fr.rec (fun _ => Fr) (fun nt tm df pk => bif d.blt nt then ⟨nt, tm.upd d (some v), df, pk⟩ else ⟨nt, tm, df, pk⟩) a
  | none => a
theorem putF_eq (a : Fr) (dst : Option Tmp) (v : Value) : putF a dst v = put a dst v := by
  cases dst with
  | none => rfl
  | some d => unfold putF put; cases a; simp only
def oGoF (r : Rec) (ops rest : List Oper) (rd : Option Nat) (a : Fr) (o : Oper) (v : Value) (s : ES) : Out := r (.ops ops rest rd (putF a o.dst v)) s
def oNextF (r : Rec) (ops rest : List Oper) (rd : Option Nat) (a : Fr) (o : Oper) : One → Out
  | .go a1 v s => oGoF r ops rest rd a1 o v s
  | .pan v s => .code (.pan v) a s
  | .bad w => .bad w
theorem oGoF_eq (r : Rec) (ops rest : List Oper) (rd : Option Nat) (a : Fr) (o : Oper) (v : Value) (s : ES) : oGoF r ops rest rd a o v s = oGo r ops rest rd a o v s := by
  unfold oGoF oGo; rw [putF_eq]
theorem oNextF_eq (r : Rec) (ops rest : List Oper) (rd : Option Nat) (a : Fr) (o : Oper) (x : One) : oNextF r ops rest rd a o x = oNext r ops rest rd a o x := by
  cases x <;> first | exact oGoF_eq _ _ _ _ _ _ _ _ | rfl
def evOpsF (P : Program) (X : Ctx) (r : Rec) (ops : List Oper) (rd : Option Nat) (a : Fr) (s : ES) : List Oper → Out
  | [] => .code .normal a s
  | o :: rest =>
    match wantE ops a.tm o with
    | some true => oNextF r ops rest rd a o (oneF P r rd a o (eopF P X (evalO a.tm) o s))
    | some false => oGoF r ops rest rd a o undef s
    | none => .bad "guard"
theorem evOpsF_eq (P : Program) (X : Ctx) (r : Rec) (ops : List Oper) (rd : Option Nat) (a : Fr) (s : ES) (l : List Oper) : evOpsF P X r ops rd a s l = evOps P X r ops rd a s l := by
  cases l with
  | nil => rfl
  | cons o rest => unfold evOpsF evOps; simp only [eopF_eq, oneF_eq, oNextF_eq, oGoF_eq]; cases wantE ops a.tm o with
    | none => rfl
    | some t => cases t <;> rfl

def dBigF (b : Array Nat) (j : Nat) (hist : List DRec) (o : Oper) (lg : List Nat) (lo : Nat) (k : Fr → ES → List DRec → Out) : One → Out
  | .go a1 v s1 => dNext b j hist ⟨true, s1.lg, lo, s1.nx⟩ (k (putF a1 o.dst v) { s1 with lg := s1.lg ++ lg })
  | .pan _ _ => .bad "a panic in a drawn order"
  | .bad w => .bad w
def dLocF (b : Array Nat) (j : Nat) (hist : List DRec) (o : Oper) (a : Fr) (ns : List Nat) (lo : Nat) (k : Fr → ES → List DRec → Out) : Res ENext → Out
  | .ok (.val v) s1 => dNext b j hist ⟨false, ns, lo, s1.nx⟩ (k (putF a o.dst v) s1)
  | .ok _ _ => .bad "drawn"
  | .bad w => .bad (w ++ " @ " ++ o.pos)
theorem dBigF_eq (b : Array Nat) (j : Nat) (hist : List DRec) (o : Oper) (lg : List Nat) (lo : Nat) (k : Fr → ES → List DRec → Out) (x : One) : dBigF b j hist o lg lo k x = dBig b j hist o lg lo k x := by
  cases x <;> simp only [dBigF, dBig, putF_eq]
theorem dLocF_eq (b : Array Nat) (j : Nat) (hist : List DRec) (o : Oper) (a : Fr) (ns : List Nat) (lo : Nat) (k : Fr → ES → List DRec → Out) (x : Res ENext) : dLocF b j hist o a ns lo k x = dLoc b j hist o a ns lo k x := by
  cases x with
  | bad w => rfl
  | ok nx s => cases nx <;> simp only [dLocF, dLoc, putF_eq]
def dGoF (P : Program) (X : Ctx) (r : Rec) (ops : List Oper) (b : Array Nat) (rd : Option Nat) : List Oper → Nat → Fr → ES → List DRec → Out
  | [], _, a, s, _ => .code .normal a s
  | o :: rest, j, a, s, hist =>
    match wantE ops a.tm o with
    | none => .bad "guard"
    | some false => dNext b j hist ⟨false, [], s.nx, s.nx⟩ (dGoF P X r ops b rd rest (Nat.succ j) (putF a o.dst undef) s)
    | some true =>
      bif bigOp o.op then dBigF b j hist o s.lg s.nx (dGoF P X r ops b rd rest (Nat.succ j)) (oneF P r rd a o (eopF P X (evalO a.tm) o { s with lg := [] }))
      else dLocF b j hist o a (readsOf (evalO a.tm) o.op) s.nx (dGoF P X r ops b rd rest (Nat.succ j)) (eopF P X (evalO a.tm) o s)
theorem dGoF_eq (P : Program) (X : Ctx) (r : Rec) (ops : List Oper) (b : Array Nat) (rd : Option Nat) : ∀ (l : List Oper) (j : Nat) (a : Fr) (s : ES) (h : List DRec), dGoF P X r ops b rd l j a s h = dGo P X r ops b rd l j a s h
  | [], _, _, _, _ => rfl
  | o :: rest, j, a, s, hist => by
    have ih : ∀ j, dGoF P X r ops b rd rest j = dGo P X r ops b rd rest j := by
      intro j; funext a s h; exact dGoF_eq P X r ops b rd rest j a s h
    simp only [dGoF, dGo, eopF_eq, oneF_eq, ih, putF_eq, dBigF_eq, dLocF_eq]
    cases wantE ops a.tm o with
    | none => rfl
    | some t => cases t <;> rfl
def dRegF (P : Program) (X : Ctx) (r : Rec) (ops : Array Oper) (rd : Option Nat) (a : Fr) (s : ES) : Out :=
  bif dOkAll ops then dGoF P X r ops.toList (Region.before ops) rd ops.toList 0 a s [] else .bad "a drawn region"

abbrev CT : Type := Program → Ctx → Rec → Option Nat → Fr → ES → Out
def c_skip : CT := fun _ _ _ _ a s => .code .normal a s
def c_region (_ : Nat) (ops : Array Oper) (d : Bool) : CT := fun P X r rd a s => bif d then dRegF P X r ops rd a s else r (.ops ops.toList ops.toList rd a) s
def c_seq (x y : Code) (_ _ : CT) : CT := fun _ _ r rd a s => cSeq r x y rd a s
def c_cond (c : Operand) (x y : Code) (_ _ : CT) : CT := fun _ _ r rd a s => cCond r (evalO a.tm c) x y rd a s
def c_block (id : Nat) (c : Code) (_ : CT) : CT := fun _ _ r rd a s => cBlock r id c rd a s
def c_loop (c : Code) (_ : CT) : CT := fun _ _ r rd a s => cLoop r c rd a s
def c_rangeFunc (g : Operand) (ps : Array Tmp) (assign body : Code) (_ _ : CT) : CT := fun P X r rd a s => cRange P X r g ps assign body rd a (rfMark rd s)
def c_exit (id : Nat) : CT := fun _ _ _ _ a s => .code (.exit id) a s
def c_scope (c : Code) (_ : CT) : CT := fun _ _ r rd a s => r (.code c rd a) s
def c_label (_ : Nat) : CT := fun _ _ _ _ a s => .code .normal a s
def c_goto (_ : Nat) : CT := fun _ _ _ _ _ _ => .bad "code"
def c_ret : CT := fun _ _ _ _ a s => .code .ret a s
def c_refuse (_ : String) : CT := fun _ _ _ _ _ _ => .bad "code"
def codeF : Code → CT := @Code.rec (fun _ => CT) c_skip c_region c_seq c_cond c_block c_loop c_rangeFunc c_exit c_scope c_label c_goto c_ret c_refuse
theorem codeF_eq (P : Program) (X : Ctx) (r : Rec) (c : Code) (rd : Option Nat) (a : Fr) (s : ES) : codeF c P X r rd a s = evCode P X r c rd a s := by
  cases c <;> try rfl
  case region id ops d =>
    cases d with
    | false => rfl
    | true =>
      show dRegF P X r ops rd a s = dReg P X r ops rd a s
      unfold dRegF dReg
      rw [dGoF_eq]

abbrev TT : Type := Program → Ctx → Rec → ES → Out
def t_code (c : Code) (rd : Option Nat) (a : Fr) : TT := fun P X r s => codeF c P X r rd a s
def t_ops (ops l : List Oper) (rd : Option Nat) (a : Fr) : TT := fun P X r s => evOpsF P X r ops rd a s l
def t_call (f : FuncId) (args : List Value) (pk : PK) : TT := fun P _ r s => evCall P r f args pk s
def t_unw (fn : Func) (m : Md) (a : Fr) : TT := fun P X r s => evUnw P X r fn m a s
def t_rnd (l nt : Nat) (tm : Tr Value) (assign body : Code) : TT := fun _ _ r s => evRnd r l nt tm assign body s
def taskF : Task → TT := @Task.rec (fun _ => TT) t_code t_ops t_call t_unw t_rnd
theorem taskF_eq (P : Program) (X : Ctx) (r : Rec) (t : Task) (s : ES) : taskF t P X r s = evS P X r t s := by
  cases t <;> try rfl
  case code c rd a => exact codeF_eq P X r c rd a s
  case ops ops l rd a => exact evOpsF_eq P X r ops rd a s l

def evF (P : Program) (X : Ctx) (n : Nat) : Rec := @Nat.rec (fun _ => Rec) (fun _ _ => .bad "fuel") (fun _ r t s => taskF t P X r s) n
theorem evF_eq (P : Program) (X : Ctx) : ∀ n, evF P X n = ev P X n
  | 0 => rfl
  | n + 1 => by
    funext t s
    show taskF t P X (evF P X n) s = evS P X (ev P X n) t s
    rw [evF_eq P X n, taskF_eq]
end
end Go.E

namespace Go.E

/-! ### summaries out of closed runs -/
mutual
def pEq : Value → Value → Bool
  | .bool a, .bool b => a == b
  | .int j a, .int k b => decide (j = k) && ieq a b
  | .string a, .string b => seq a b
  | .nilFunc, .nilFunc => true
  | .nilIface, .nilIface => true
  | .pointer none, .pointer none => true
  | .slice none 0 0, .slice none 0 0 => true
  | .map none, .map none => true
  | .func (.func f) ⟨a⟩ ⟨b⟩, .func (.func g) ⟨c⟩ ⟨d⟩ => f.beq g && pEqL a c && pEqL b d
  | .iface t v, .iface u w => t.beq u && pEq v w
  | .agg ⟨a⟩, .agg ⟨b⟩ => pEqL a b
  | .tuple ⟨a⟩, .tuple ⟨b⟩ => pEqL a b
  | _, _ => false
def pEqL : List Value → List Value → Bool
  | [], [] => true
  | v :: l, w :: m => pEq v w && pEqL l m
  | _, _ => false
end

theorem eqB_sound : ∀ {a b : List UInt8}, eqB a b = true → a = b
  | [], [], _ => rfl
  | [], _ :: _, h => by cases h
  | _ :: _, [], h => by cases h
  | a :: x, b :: y, h => by
    simp only [eqB, Bool.and_eq_true] at h
    have h1 : a = b := by
      have := h.1
      unfold beq8 at this
      rw [Nat.beq_eq] at this
      exact UInt8.toNat_inj.1 this
    rw [h1, eqB_sound h.2]
theorem seq_sound {a b : ByteArray} (h : seq a b = true) : a = b := by
  have h := eqB_sound h
  obtain ⟨⟨a⟩⟩ := a
  obtain ⟨⟨b⟩⟩ := b
  simp only [bytes] at h
  rw [h]
theorem ieq_sound {a b : Int} (h : ieq a b = true) : a = b := by
  unfold ieq at h
  split at h
  · rw [Nat.beq_eq] at h; rw [h]
  · rw [Nat.beq_eq] at h; rw [h]
  · cases h
mutual
theorem pEq_eq : ∀ (v w : Value), pEq v w = true → v = w
  | .bool a, w, h => by
    cases w <;> simp only [pEq, Bool.false_eq_true, beq_iff_eq] at h
    rw [h]
  | .int j a, w, h => by
    cases w <;> simp only [pEq, Bool.false_eq_true, Bool.and_eq_true, decide_eq_true_eq] at h
    rw [h.1, ieq_sound h.2]
  | .string a, w, h => by
    cases w <;> simp only [pEq, Bool.false_eq_true] at h
    rw [seq_sound h]
  | .nilFunc, w, h => by cases w <;> simp only [pEq, Bool.false_eq_true] at h; rfl
  | .nilIface, w, h => by cases w <;> simp only [pEq, Bool.false_eq_true] at h; rfl
  | .pointer none, w, h => by
    unfold pEq at h; split at h <;> simp_all
  | .pointer (some a), w, h => by unfold pEq at h; cases h
  | .slice none 0 0, w, h => by
    unfold pEq at h; split at h <;> simp_all
  | .slice none (n + 1) c, w, h => by unfold pEq at h; split at h <;> simp_all
  | .slice none 0 (c + 1), w, h => by unfold pEq at h; split at h <;> simp_all
  | .slice (some a) n c, w, h => by unfold pEq at h; cases h
  | .map none, w, h => by
    unfold pEq at h; split at h <;> simp_all
  | .map (some a), w, h => by unfold pEq at h; cases h
  | .func (.func f) ⟨a⟩ ⟨b⟩, w, h => by
    cases w <;> try (simp [pEq] at h; done)
    rename_i fn c d
    obtain ⟨c⟩ := c
    obtain ⟨d⟩ := d
    cases fn <;> try (simp [pEq] at h; done)
    simp only [pEq, Bool.and_eq_true, Nat.beq_eq] at h
    rw [h.1.1, pEqL_eq a c h.1.2, pEqL_eq b d h.2]
  | .func (.method _) a b, w, h => by cases w <;> simp [pEq] at h
  | .func (.methodOf _ _) a b, w, h => by cases w <;> simp [pEq] at h
  | .func (.via ..) a b, w, h => by cases w <;> simp [pEq] at h
  | .func (.yield _) a b, w, h => by cases w <;> simp [pEq] at h
  | .iface t v, w, h => by
    cases w <;> try (simp [pEq] at h; done)
    simp only [pEq, Bool.and_eq_true, Nat.beq_eq] at h
    rw [h.1, pEq_eq v _ h.2]
  | .agg ⟨a⟩, w, h => by
    cases w <;> try (simp [pEq] at h; done)
    rename_i b
    obtain ⟨b⟩ := b
    simp only [pEq] at h
    rw [pEqL_eq a b h]
  | .tuple ⟨a⟩, w, h => by
    cases w <;> try (simp [pEq] at h; done)
    rename_i b
    obtain ⟨b⟩ := b
    simp only [pEq] at h
    rw [pEqL_eq a b h]
  | .float .., w, h => by cases w <;> simp [pEq] at h
  | .complex .., w, h => by cases w <;> simp [pEq] at h
  | .chan _, w, h => by cases w <;> simp [pEq] at h
theorem pEqL_eq : ∀ (l m : List Value), pEqL l m = true → l = m
  | [], [], _ => rfl
  | [], _ :: _, h => by simp [pEqL] at h
  | _ :: _, [], h => by simp [pEqL] at h
  | v :: l, w :: m, h => by
    simp only [pEqL, Bool.and_eq_true] at h
    rw [pEq_eq v w h.1, pEqL_eq l m h.2]
end

def Sum (P : Program) (f : FuncId) (args : List Value) (v : Value) : Prop := ∀ w, Calls P f ⟨args⟩ w fun
    | .returned v', w' => v' = v ∧ Ext w w'
    | _, _ => False

def s0 : ES := ⟨.nil, 0, []⟩
def isRet (v : Value) : Out → Bool
  | .ret v' _ _ => pEq v' v
  | _ => false
noncomputable def evIs (P : Program) (X : Ctx) (n : Nat) (f : FuncId) (args : List Value) (v : Value) : Bool := plainL args && plain v && isRet v (evF P X n (.call f args .no) s0)

theorem nil_get {α : Type} (n : Nat) : (Tr.nil : Tr α).get n = none := Tr.get_nil n

theorem sum_of_ret {P : Program} {X : Ctx} (hX : CtxOk P X) (hS : SumOk P X) {n : Nat} {f : FuncId} {args : List Value} {v : Value} {pk : PK} {s' : ES} (ha : plainL args = true) (hv : plain v = true)
    (h : ev P X n (.call f args .no) s0 = .ret v pk s') : Sum P f args v := by
  intro w
  have hst : St P (fun _ => none) s0.st w := ⟨fun n o h => (by rw [show s0.st = Tr.nil from rfl, nil_get] at h; cases h), fun n m pl pm _ _ h => (by cases h)⟩
  refine (ev_run hX hS h hst (fun _ _ _ => rfl) (VRL.of_plain args ha)).mono fun e w' h => ?_
  cases e with
  | returned v' =>
    obtain ⟨μ', n1, hr⟩ := h
    refine ⟨hr.plain hv, n1.frm.size, n1.frm.tape, n1.frm.os, n1.frm.output, fun b hb => n1.frm.kept b hb fun n pl hl _ => ?_⟩
    obtain ⟨o, ho⟩ := hl
    rw [show s0.st = Tr.nil from rfl, nil_get] at ho
    cases ho
  | panicked => exact h.elim
  | outgrown => exact h.elim

theorem sum_of_ev {P : Program} {X : Ctx} (hX : CtxOk P X) (hS : SumOk P X) {n : Nat} {f : FuncId} {args : List Value} {v : Value} (h : evIs P X n f args v = true) : Sum P f args v := by
  unfold evIs at h
  simp only [Bool.and_eq_true] at h
  obtain ⟨⟨h1, h2⟩, h3⟩ := h
  rw [evF_eq] at h3
  unfold isRet at h3
  split at h3
  · rename_i v' pk s' he
    have := pEq_eq _ _ h3
    subst this
    exact sum_of_ret hX hS h1 h2 he
  · cases h3

/-! tables -/
abbrev Tab := List (FuncId × List Value × Value)
def look (f : FuncId) (args : List Value) : Tab → Option Value
  | [] => none
  | (g, as, v) :: l => bif g.beq f && pEqL as args then some v else look f args l
def TabOk (P : Program) (t : Tab) : Prop := ∀ e ∈ t, Sum P e.1 e.2.1 e.2.2
theorem look_ok {P : Program} {t : Tab} (ht : TabOk P t) {f : FuncId} {args : List Value} {v : Value} (h : look f args t = some v) : Sum P f args v := by
  induction t with
  | nil => cases h
  | cons e l ih =>
    obtain ⟨g, as, u⟩ := e
    simp only [look] at h
    cases hb : g.beq f && pEqL as args with
    | true =>
      rw [hb] at h
      simp only [cond_true, Option.some.injEq] at h
      simp only [Bool.and_eq_true, Nat.beq_eq] at hb
      rw [← h, ← hb.1, ← pEqL_eq _ _ hb.2]
      exact ht _ (List.mem_cons_self ..)
    | false =>
      rw [hb] at h
      exact ih (fun e he => ht e (List.mem_cons_of_mem _ he)) h

/-- many closed runs at once -/
noncomputable def evAll (P : Program) (X : Ctx) (n : Nat) : Tab → Bool
  | [] => true
  | (f, as, v) :: l => evIs P X n f as v && evAll P X n l
theorem tab_of_ev {P : Program} {X : Ctx} (hX : CtxOk P X) (hS : SumOk P X) {n : Nat} : ∀ {t : Tab}, evAll P X n t = true → TabOk P t
  | [], _, e, he => by cases he
  | (f, as, v) :: l, h, e, he => by
    simp only [evAll, Bool.and_eq_true] at h
    rcases List.mem_cons.1 he with rfl | he
    · exact sum_of_ev hX hS h.1
    · exact tab_of_ev hX hS h.2 e he
theorem TabOk.append {P : Program} {t u : Tab} (h : TabOk P t) (h' : TabOk P u) : TabOk P (t ++ u) := by
  intro e he
  rcases List.mem_append.1 he with h1 | h1
  · exact h e h1
  · exact h' e h1
theorem TabOk.nil {P : Program} : TabOk P [] := by intro e he; cases he
end Go.E

