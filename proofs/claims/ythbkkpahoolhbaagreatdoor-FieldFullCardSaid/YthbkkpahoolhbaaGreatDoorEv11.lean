import Derived.Test.YthbkkpahoolhbaaGreatDoorEv10
set_option linter.unusedSimpArgs false
set_option linter.unusedVariables false
set_option linter.unusedSectionVars false
namespace Go.E

section
variable {P : Program} {X : Ctx} {r : Rec} {μ : Ren} {s : ES} {w : World}

/-! ### range over a function -/
def MkR (P : Program) (μ : Ren) (m : Nat × List Deferred) (m' : Nat × List Deferred) : Prop := ∃ pd, μ m.1 = some pd ∧ pd.b = m'.1 ∧ DRL P μ m.2 m'.2

abbrev markSem (around : Option Nat) : Sem (Nat × List Deferred) :=
  match around with
  | some l => do pure ((← Instr.getLoop l).defers, [])
  | none => do
    let r ← newObj (.deferred (some []))
    pure (r, [{ target := .collected r, args := #[] }])

theorem wf_rfMark (rd : Option Nat) : Wf (rfMark rd) := by
  unfold rfMark
  (repeat' first | exact wf_bad _ | exact wf_ret _ | exact wf_eget _ | exact wf_enew _ | refine wf_bnd ?_ fun _ => ?_ | split)
theorem sim_rfMark {rd : Option Nat} {b : Frame} (hro : RO μ rd b) : Sim P μ s w (MkR P) (rfMark rd s) ((markSem b.roundOf).run P w) := by
  unfold RO at hro
  unfold rfMark
  cases rd with
  | none =>
    cases hb : b.roundOf with
    | some n => rw [hb] at hro; exact hro.elim
    | none =>
      simp only
      refine sim_obj (w' := { w with heap := w.heap.push (.deferred (some [])) }) (o' := .deferred (some [])) (b := (w.heap.size, [{ target := .collected w.heap.size, args := #[] }])) rfl rfl rfl rfl (fun μ' hs => ⟨rfl, [], rfl, .nil⟩) (fun r => rfl) rfl (fun μ' hs hn => ?_)
      exact ⟨_, hn, rfl, .cons (.mk (.collected hn) .nil) .nil⟩
  | some l =>
    cases hb : b.roundOf with
    | none => rw [hb] at hro; exact hro.elim
    | some n =>
      rw [hb] at hro
      obtain ⟨_, pl, hl, rfl⟩ := hro
      simp only
      refine sim_getLoop hl (fun o ho s a s' => ?_) fun st pe nt tm ps as bo dr fn tmps pd hg hbb hw hd ht hfn => ?_
      · cases o <;> first | exact absurd rfl (ho _ _ _ _ _ _ _ _) | (intro h; cases h)
      · have : (markSem (some pl.b)).run P w = .ok (pd.b, []) w := by
          simp only [markSem, Instr.getLoop, Sem.run_bind, run_getObj hw (by intros; simp), Result.andThen_ok, Sem.run_pure]
        rw [this]
        exact Sim.ret ⟨pd, hd, rfl, .nil⟩

theorem run_enterLoop {f : FuncId} {tmps : Array Value} {ps : Array Tmp} {as bo : Code} {around : Option Nat} {n : Nat} {mk : List Deferred} {w1 : World} (h : (markSem around).run P w = .ok (n, mk) w1) :
    (Instr.enterLoop f tmps ps as bo around).run P w = .ok (w1.heap.size, mk) { w1 with heap := w1.heap.push (.loop { state := .ready, pending := none, fn := f, tmps, params := ps, assign := as, body := bo, defers := n }) } := by
  cases around with
  | none =>
    simp only [markSem, Sem.run_bind, run_newObj, Sem.run_pure, Result.andThen_ok, Result.ok.injEq, Prod.mk.injEq] at h
    obtain ⟨⟨rfl, rfl⟩, rfl⟩ := h
    simp only [Instr.enterLoop, Sem.run_bind, run_newObj, Sem.run_pure, Result.andThen_ok]
  | some l =>
    simp only [markSem, Sem.run_bind] at h
    cases hg : (Instr.getLoop l).run P w with
    | halt y w' => rw [hg] at h; cases h
    | ok x w' =>
      rw [hg] at h
      simp only [Sem.run_pure, Result.andThen_ok, Result.ok.injEq, Prod.mk.injEq] at h
      obtain ⟨⟨rfl, rfl⟩, rfl⟩ := h
      simp only [Instr.enterLoop, Sem.run_bind, hg, run_newObj, Sem.run_pure, Result.andThen_ok]

theorem cRange_good (hX : CtxOk P X) (hr : GoodR P r) (g : Operand) (ps : Array Tmp) (assign body : Code) (rd : Option Nat) (a : Fr) (s : ES) :
    Good P (.code (.rangeFunc g ps assign body) rd a) s (cRange P X r g ps assign body rd a (rfMark rd s)) := by
  cases hm : rfMark rd s with
  | bad y => trivial
  | ok m s1 =>
    have hn1 := (wf_rfMark rd _ _ _ hm).1
    unfold cRange rfNew
    have hnew : enew (.loop .ready none a.nt a.tm ps assign body m.1) s1 = .ok s1.nx { s1 with st := s1.st.upd s1.nx (some (.loop .ready none a.nt a.tm ps assign body m.1)), nx := s1.nx + 1 } := rfl
    dsimp only
    rw [hnew]
    dsimp only
    generalize hs2 : ({ s1 with st := s1.st.upd s1.nx (some (.loop .ready none a.nt a.tm ps assign body m.1)), nx := s1.nx + 1 } : ES) = s2 at hnew ⊢
    have hn2 : s1.nx ≤ s2.nx := by rw [← hs2]; exact Nat.le_succ _
    unfold rfInv
    cases hv : evalO (addDf m.2 a).tm g with
    | func fn first cap =>
      simp only
      cases he : eInvoke P X (.fn fn cap) (first.toList ++ [.func (.yield s1.nx) #[] #[]]) s2 with
      | bad y => trivial
      | ok nx s3 =>
        have hn3 := (wf_eInvoke (P := P) (X := X) _ _ _ _ _ he).1
        unfold rfCall
        cases nx with
        | enter f args =>
          simp only
          have hc := hr (.call f args .no) s3
          -- entering
          have enter : ∀ {s4 : ES}, s3.nx ≤ s4.nx → ∀ (μ : Ren) (w : World) (b : Frame) (k : List Item) (cs : List Frame) (c : Act), St P μ s.st w → Free μ s.nx s4.nx → FrR P μ rd b cs a c →
              ∃ μ' w' mark' pl args', Nxt P μ s w μ' s3 w' ∧ Free μ' s3.nx s4.nx ∧ μ' s1.nx = some pl ∧ VRL P μ' args args' ∧ FrR P μ' rd b cs (addDf m.2 a) { c with defers := mark' ++ c.defers } ∧
                step P (lone (b.atR c (.code (.rangeFunc g ps assign body) :: k)) cs w) = .next (lone (Frame.enter P f ⟨args'⟩ .normal) (b.atR { c with defers := mark' ++ c.defers } (.inRangeFunc pl.b :: k) :: cs) w') := by
            intro s4 hn4 μ w b k cs c hst hfree hfr
            obtain ⟨μ1, w1, m', q1, q2, q3⟩ := sim_rfMark (P := P) (w := w) hfr.ro m s1 hm (fun n k1 k2 => hfree n k1 (by omega)) hst
            obtain ⟨pd, e1, e2, e3⟩ := q3
            obtain ⟨n', mark'⟩ := m'
            simp only at e2 e3
            subst e2
            have hent := run_enterLoop (P := P) (f := b.fn) (tmps := c.tmps) (ps := ps) (as := assign) (bo := body) q1
            have hsim : Sim P μ1 s1 w1 (fun μ' x _ => ∃ pl, μ' x = some pl ∧ pl.b = w1.heap.size) (((enew (.loop .ready none a.nt a.tm ps assign body m.1)).bnd fun r => EM.ret r) s1) (Result.ok () { w1 with heap := w1.heap.push (.loop { state := .ready, pending := none, fn := b.fn, tmps := c.tmps, params := ps, assign := assign, body := body, defers := pd.b }) }) :=
              sim_obj (b := ()) (w' := { w1 with heap := w1.heap.push (.loop { state := .ready, pending := none, fn := b.fn, tmps := c.tmps, params := ps, assign := assign, body := body, defers := pd.b }) }) (o' := .loop { state := .ready, pending := none, fn := b.fn, tmps := c.tmps, params := ps, assign := assign, body := body, defers := pd.b }) rfl rfl rfl rfl
                (fun μ' hs => ⟨rfl, b.fn, c.tmps, pd, rfl, hs _ _ e1, (hfr.tr.sub q2.sub).sub hs, hfr.fn⟩) (fun r => rfl) rfl (fun μ' hs hn => ⟨_, hn, rfl⟩)
            obtain ⟨μ2, w2, _, t1, t2, pl, t3, t4⟩ := hsim s1.nx s2 (by unfold EM.bnd; rw [hnew]; rfl) (fun n k1 k2 => by rw [q2.same n (by omega)]; exact hfree n (by omega) (by omega)) q2.st
            simp only [Result.ok.injEq, true_and] at t1
            have hfr2 : FrR P μ2 rd b cs (addDf m.2 a) { c with defers := mark' ++ c.defers } := by
              have h1 := (hfr.sub q2.sub).sub t2.sub
              exact ⟨h1.ro, h1.fn, h1.tr, (e3.sub t2.sub).append h1.df, h1.kr⟩
            have hgv := hfr2.eval g
            rw [hv] at hgv
            have hres : ∃ fn' first' cap', c.eval g = .func fn' first' cap' ∧ TgR P μ2 (.fn fn cap) (.fn fn' cap') ∧ VRL P μ2 first.toList first'.toList := by
              have hev : ({ c with defers := mark' ++ c.defers } : Act).eval g = c.eval g := by cases g <;> rfl
              rw [hev] at hgv
              generalize c.eval g = y at hgv
              cases hgv with
              | func f0 h1 h2 => exact ⟨_, _, _, rfl, .func f0 h2, h1⟩
              | yield h1 => exact ⟨_, _, _, rfl, .yield h1 _ _, .nil⟩
            obtain ⟨fn', first', cap', r1, r2, r3⟩ := hres
            have hargs : VRL P μ2 (first.toList ++ [.func (.yield s1.nx) #[] #[]]) (first'.toList ++ [.func (.yield pl.b) #[] #[]]) := r3.append (.cons (.yield t3) .nil)
            obtain ⟨μ3, w3, nx', u1, u2, u3⟩ := sim_eInvoke (s := s2) (w := w2) hX r2 hargs (.enter f args) s3 he (fun n k1 k2 => by rw [t2.same n (by omega), q2.same n (by omega)]; exact hfree n (by omega) (by omega)) t2.st
            cases u3 with
            | enter _ ha =>
              rename_i args'
              refine ⟨μ3, w3, mark', pl, args', (q2.trans hn1 hn2 t2).trans (by omega) hn3 u2, fun n k1 k2 => ?_, u2.sub _ _ t3, ha, hfr2.sub u2.sub, ?_⟩
              · rw [u2.same n (by omega), t2.same n (by omega), q2.same n (by omega)]; exact hfree n (by omega) k2
              · rw [t4]
                rw [← t1] at u1
                refine stepR_rangeFunc (w₁' := { w1 with heap := w1.heap.push (.loop { state := .ready, pending := none, fn := b.fn, tmps := c.tmps, params := ps, assign := assign, body := body, defers := pd.b }) }) (d := { target := .fn fn' cap', args := ⟨first'.toList ++ [.func (.yield pl.b) #[] #[]]⟩ }) hent ?_ u1
                simp only [resolve, rangeCall, r1, Deferred.ofValue, Sem.run_pure]
                congr 2
                apply Array.ext'
                simp [Act.eval, t4]
          unfold rfRan
          cases ho : r (.call f args .no) s3 with
          | ret v pk' s4 =>
            rw [ho] at hc
            simp only
            have hcn := hc.1
            unfold rfBack
            cases hend : rfEnd s1.nx s4 with
            | bad y => trivial
            | ok jump s5 =>
              have hn5 := (wf_rfEnd _ _ _ _ hend).1
              have back : ∀ {s6 : ES}, s5.nx ≤ s6.nx → ∀ (μ : Ren) (w : World) (b : Frame) (k : List Item) (cs : List Frame) (c : Act), St P μ s.st w → Free μ s.nx s6.nx → FrR P μ rd b cs a c →
                  ∃ μ' w' c', Nxt P μ s w μ' s5 w' ∧ Free μ' s5.nx s6.nx ∧ FrR P μ' rd b cs (addDf m.2 a) c' ∧ Steps P (lone (b.atR c (.code (.rangeFunc g ps assign body) :: k)) cs w) (lone (b.atR c' ((jump.map Item.code).toList ++ k)) cs w') := by
                intro s6 hn6 μ w b k cs c hst hfree hfr
                obtain ⟨μ1, w1, mark', pl, args', n1, n2, n3, n4, n5, n6⟩ := enter (s4 := s6) (by omega) μ w b k cs c hst hfree hfr
                obtain ⟨μ2, w2, cs2, fr, m1, m2, m3, m4, m5, m6, m7, m8⟩ := hc.2 μ1 w1 (b.atR { c with defers := mark' ++ c.defers } (.inRangeFunc pl.b :: k) :: cs) .normal _ n1.st (fun n k1 k2 => n2 n k1 (by omega)) ⟨args', n4, rfl⟩ (.norm _)
                have hcs := m3.run rfl
                subst hcs
                cases m8 with
                | ret hv hmm hres =>
                  rename_i v'
                  obtain ⟨μ3, w3, j', q1, q2, q3⟩ := sim_rfEnd (P := P) (w := w2) (m1.sub _ _ n3) jump s5 hend (fun n k1 k2 => by rw [m1.same n (by omega)]; exact n2 n (by omega) (by omega)) m1.st
                  subst q3
                  refine ⟨μ3, w3, { c with defers := mark' ++ c.defers }, (n1.trans (by omega) hcn m1).trans (by omega) hn5 q2, fun n k1 k2 => ?_, (n5.sub m1.sub).sub q2.sub, .head n6 (m4.trans (.head ?_ (.one (stepR_endRangeFunc q1))))⟩
                  · rw [q2.same n (by omega), m1.same n (by omega)]; exact n2 n (by omega) k2
                  · rw [← finish_atR_inRangeFunc pl.b v']
                    exact step_ret hmm m7 m6 (by rw [m5]; exact hres)
              cases jump with
              | none =>
                refine ⟨by omega, fun μ w b k cs c hst hfree hfr => ?_⟩
                obtain ⟨μ1, w1, c1, n1, n2, n3, n4⟩ := back (Nat.le_refl _) μ w b k cs c hst hfree hfr
                exact ⟨μ1, w1, c1, cs, n1, n3, .refl _, .normal n4⟩
              | some c0 =>
                simp only
                have hj := hr (.code c0 rd (addDf m.2 a)) s5
                cases hoj : r (.code c0 rd (addDf m.2 a)) s5 with
                | code e a' s6 =>
                  rw [hoj] at hj
                  refine ⟨by have := hj.1; omega, fun μ w b k cs c hst hfree hfr => ?_⟩
                  obtain ⟨μ1, w1, c1, n1, n2, n3, n4⟩ := back hj.1 μ w b k cs c hst hfree hfr
                  obtain ⟨μ2, w2, c2, cs2, m1, m2, m3, m4⟩ := hj.2 μ1 w1 b k cs c1 n1.st n2 n3
                  exact ⟨μ2, w2, c2, cs2, n1.trans (by omega) hj.1 m1, m2, m3, .of_steps n4 m4⟩
                | _ => trivial
          | pan v pk' s4 =>
            rw [ho] at hc
            have hcn := hc.1
            refine ⟨by omega, fun μ w b k cs c hst hfree hfr => ?_⟩
            obtain ⟨μ1, w1, mark', pl, args', n1, n2, n3, n4, n5, n6⟩ := enter hcn μ w b k cs c hst hfree hfr
            obtain ⟨μ2, w2, cs2, fr, m1, m2, m3, m4, m5, m6, m7, m8⟩ := hc.2 μ1 w1 (b.atR { c with defers := mark' ++ c.defers } (.inRangeFunc pl.b :: k) :: cs) .normal _ n1.st n2 ⟨args', n4, rfl⟩ (.norm _)
            have hcs := m3.run rfl
            subst hcs
            cases m8 with
            | pan hv hmm hres =>
              rename_i v'
              refine ⟨μ2, w2, { c with defers := mark' ++ c.defers }, cs, n1.trans (by omega) hcn m1, n5.sub m1.sub, .refl _, .pan hv (todo := .inRangeFunc pl.b :: k) (.head n6 (m4.trans (.one ?_)))⟩
              rw [← Frame.raise_atR]
              exact step_pan hmm m7 (by rw [m5]; exact hres)
          | _ => trivial
        | _ => trivial
    | _ => trivial
end
end Go.E

namespace Go.E

/-! ### the log covers what has changed -/
def LogW (s s' : ES) : Prop := s.nx ≤ s'.nx ∧ ∃ L, s'.lg = L ++ s.lg ∧ ∀ n, (n < s.nx ∨ s'.nx ≤ n) → n ∉ L → s'.st.get n = s.st.get n
theorem LogW.refl (s : ES) : LogW s s := ⟨Nat.le_refl _, [], rfl, fun _ _ _ => rfl⟩
theorem LogW.trans {s s1 s2 : ES} (h : LogW s s1) (h' : LogW s1 s2) : LogW s s2 := by
  obtain ⟨a1, L1, b1, c1⟩ := h
  obtain ⟨a2, L2, b2, c2⟩ := h'
  refine ⟨Nat.le_trans a1 a2, L2 ++ L1, by rw [b2, b1, List.append_assoc], fun n hn hL => ?_⟩
  simp only [List.mem_append, not_or] at hL
  rw [c2 n (by omega) hL.1, c1 n (by omega) hL.2]
theorem Wf.log {α : Type} {e : EM α} (h : Wf e) {s s' : ES} {a : α} (he : e s = .ok a s') : LogW s s' := h s a s' he

def OutW (s : ES) : Out → Prop
  | .code _ _ s' => LogW s s'
  | .ret _ _ s' => LogW s s'
  | .pan _ _ s' => LogW s s'
  | .bad _ => True
theorem OutW.from {s s1 : ES} {o : Out} (h : LogW s s1) (h' : OutW s1 o) : OutW s o := by
  cases o with
  | bad => trivial
  | _ => exact h.trans h'
def LogR (r : Rec) : Prop := ∀ t s, OutW s (r t s)
def OneW (s : ES) : One → Prop
  | .go _ _ s' => LogW s s'
  | .pan _ s' => LogW s s'
  | .bad _ => True

section
variable {P : Program} {X : Ctx} {r : Rec} (hr : LogR r)
include hr
theorem one_log (rd : Option Nat) (a : Fr) (o : Oper) (ρ : Operand → Value) (s : ES) : OneW s (one P r rd a o (eop P X ρ o s)) := by
  cases he : eop P X ρ o s with
  | bad y => trivial
  | ok nx s1 =>
    have h1 : LogW s s1 := (wf_eop ρ o).log he
    have call : ∀ t, OneW s (oCall a (r t s1)) := by
      intro t
      have := hr t s1
      cases ho : r t s1 <;> rw [ho] at this <;> first | trivial | exact h1.trans this
    unfold one
    cases nx with
    | enter f args => exact call _
    | round l nt tm as bo => exact call _
    | keys f g m =>
      simp only
      unfold oKeys
      split
      · rename_i e _
        have wk : Wf (eSortedKeys e m) := by
          unfold eSortedKeys eSortedM
          (repeat' first | exact wf_bad _ | exact wf_ret _ | exact wf_rdCells _ _ | exact wf_mapOf _ | exact wf_eget _ | exact wf_enew _ | refine wf_cond _ ?_ ?_ | refine wf_bnd ?_ fun _ => ?_ | split)
        cases hk : eSortedKeys e m s1 with
        | bad y => trivial
        | ok v s2 => exact h1.trans (wk.log hk)
      · trivial
    | heap f args m =>
      simp only
      unfold oVal
      cases hk : m.run s1 with
      | bad y => trivial
      | ok v s2 => exact h1.trans (m.wf.log hk)
    | defer d => simp only; unfold oDefer; cases rd <;> first | trivial | exact h1
    | recover =>
      simp only
      unfold oRecover
      cases rd with
      | some l => trivial
      | none => simp only; cases a.pk <;> exact h1
    | _ => exact h1

theorem ops_log (ops l : List Oper) (rd : Option Nat) (a : Fr) (s : ES) : OutW s (evOps P X r ops rd a s l) := by
  cases l with
  | nil => exact .refl s
  | cons o rest =>
    unfold evOps
    simp only
    cases wantE ops a.tm o with
    | none => trivial
    | some t =>
      cases t with
      | false => exact hr _ _
      | true =>
        simp only
        have h1 := one_log (P := P) (X := X) hr rd a o (evalO a.tm) s
        unfold oNext
        cases ho : one P r rd a o (eop P X (evalO a.tm) o s) with
        | go a1 v s1 => rw [ho] at h1; exact OutW.from h1 (hr _ _)
        | pan v s1 => rw [ho] at h1; exact h1
        | bad y => trivial

theorem dGo_log (ops : List Oper) (b : Array Nat) (rd : Option Nat) : ∀ (l : List Oper) (j : Nat) (a : Fr) (s : ES) (hist : List DRec), OutW s (dGo P X r ops b rd l j a s hist)
  | [], j, a, s, hist => .refl s
  | o :: l, j, a, s, hist => by
    have nxt : ∀ {y : DRec} {k : List DRec → Out}, (∀ h, OutW s (k h)) → OutW s (dNext b j hist y k) := by
      intro y k h
      unfold dNext
      cases histOk b j y j hist with
      | true => exact h _
      | false => trivial
    simp only [dGo]
    cases wantE ops a.tm o with
    | none => trivial
    | some t =>
      cases t with
      | false => exact nxt fun h => dGo_log ops b rd l _ _ s h
      | true =>
        simp only
        cases bigOp o.op with
        | true =>
          simp only [cond_true]
          have h1 := one_log (P := P) (X := X) hr rd a o (evalO a.tm) { s with lg := [] }
          unfold dBig
          cases ho : one P r rd a o (eop P X (evalO a.tm) o { s with lg := [] }) with
          | go a1 v s1 =>
            rw [ho] at h1
            obtain ⟨q1, L, q2, q3⟩ := h1
            have hl : LogW s { s1 with lg := s1.lg ++ s.lg } := ⟨q1, s1.lg, rfl, fun n hn hL => q3 n hn (by rw [q2] at hL; simpa using hL)⟩
            exact nxt fun h => OutW.from hl (dGo_log ops b rd l _ _ _ h)
          | pan v s1 => trivial
          | bad y => trivial
        | false =>
          simp only [cond_false]
          unfold dLoc
          cases ho : eop P X (evalO a.tm) o s with
          | bad y => trivial
          | ok nx s1 =>
            cases nx with
            | val v => exact nxt fun h => OutW.from ((wf_eop _ o).log ho) (dGo_log ops b rd l _ _ _ h)
            | _ => trivial

theorem code_log (c : Code) (rd : Option Nat) (a : Fr) (s : ES) : OutW s (evCode P X r c rd a s) := by
  cases c with
  | skip => exact .refl s
  | label l => exact .refl s
  | seq x y =>
    show OutW s (cSeq r x y rd a s)
    unfold cSeq
    have h := hr (.code x rd a) s
    cases ho : r (.code x rd a) s with
    | code e a' s' => rw [ho] at h; cases e <;> first | exact OutW.from h (hr _ _) | exact h
    | _ => rw [ho] at h; exact h
  | cond o x y =>
    show OutW s (cCond r (evalO a.tm o) x y rd a s)
    unfold cCond
    cases evalO a.tm o <;> first | trivial | exact hr _ _
  | block id x =>
    show OutW s (cBlock r id x rd a s)
    unfold cBlock
    have h := hr (.code x rd a) s
    cases ho : r (.code x rd a) s with
    | code e a' s' =>
      rw [ho] at h
      cases e with
      | exit i => simp only; cases i.beq id <;> exact h
      | _ => exact h
    | _ => rw [ho] at h; exact h
  | loop x =>
    show OutW s (cLoop r x rd a s)
    unfold cLoop
    have h := hr (.code x rd a) s
    cases ho : r (.code x rd a) s with
    | code e a' s' => rw [ho] at h; cases e <;> first | exact OutW.from h (hr _ _) | exact h
    | _ => rw [ho] at h; exact h
  | exit id => exact .refl s
  | ret => exact .refl s
  | scope x => exact hr _ _
  | region id ops d =>
    cases d with
    | true =>
      show OutW s (dReg P X r ops rd a s)
      unfold dReg
      cases dOkAll ops with
      | true => exact dGo_log hr _ _ _ _ _ _ _ _
      | false => trivial
    | false => exact hr _ _
  | rangeFunc g ps assign body =>
    show OutW s (cRange P X r g ps assign body rd a (rfMark rd s))
    cases hm : rfMark rd s with
    | bad y => trivial
    | ok m s1 =>
      have h1 := (wf_rfMark rd).log hm
      unfold cRange rfNew
      dsimp only
      cases hn : enew (.loop .ready none a.nt a.tm ps assign body m.1) s1 with
      | bad y => trivial
      | ok l s2 =>
        have h2 := h1.trans ((wf_enew _).log hn)
        dsimp only
        unfold rfInv
        cases evalO (addDf m.2 a).tm g with
        | func fn first cap =>
          simp only
          cases he : eInvoke P X (.fn fn cap) (first.toList ++ [.func (.yield l) #[] #[]]) s2 with
          | bad y => trivial
          | ok nx s3 =>
            have h3 := h2.trans ((wf_eInvoke (P := P) (X := X) _ _).log he)
            unfold rfCall
            cases nx with
            | enter f args =>
              simp only
              have h4 := hr (.call f args .no) s3
              unfold rfRan
              cases ho : r (.call f args .no) s3 with
              | ret v p s4 =>
                rw [ho] at h4
                simp only
                unfold rfBack
                cases hend : rfEnd l s4 with
                | bad y => trivial
                | ok j s5 =>
                  have h5 := (h3.trans h4).trans ((wf_rfEnd l).log hend)
                  cases j with
                  | none => exact h5
                  | some c => exact OutW.from h5 (hr _ _)
              | pan v p s4 => rw [ho] at h4; exact h3.trans h4
              | _ => trivial
            | _ => trivial
        | _ => trivial
  | _ => trivial

theorem call_log (f : FuncId) (args : List Value) (pk : PK) (s : ES) : OutW s (evCall P r f args pk s) := by
  unfold evCall
  split
  · split
    · rename_i fn _ _ c _
      have h := hr (.code c none (emptyFr fn.ntmps args pk)) s
      unfold evBody
      cases ho : r (.code c none (emptyFr fn.ntmps args pk)) s with
      | code e a s1 => rw [ho] at h; cases e <;> first | exact OutW.from h (hr _ _) | trivial
      | _ => trivial
    · trivial
  · trivial

theorem unw_log (fn : Func) (m : Md) (a : Fr) (s : ES) : OutW s (evUnw P X r fn m a s) := by
  unfold evUnw
  cases a.df with
  | nil =>
    simp only
    unfold uEnd
    cases m with
    | pan v => exact .refl s
    | ret =>
      simp only
      unfold uRet
      cases he : eResults P fn a.tm s with
      | bad y => trivial
      | ok v s' => rw [eResults_state he]; exact .refl s
  | cons d ds =>
    simp only
    split
    · rename_i n _
      unfold uColl
      cases he : takeD n s with
      | bad y => trivial
      | ok l s1 => exact OutW.from ((wf_takeD n).log he) (hr _ _)
    · rename_i t _
      unfold uInv
      cases he : eInvoke P X d.target d.args.toList s with
      | bad y => trivial
      | ok nx s1 =>
        have h1 := (wf_eInvoke (P := P) (X := X) _ _).log he
        cases nx with
        | val v => exact OutW.from h1 (hr _ _)
        | enter f args =>
          simp only
          have h2 := hr (.call f args (pkOf m)) s1
          unfold uCalled
          cases ho : r (.call f args (pkOf m)) s1 with
          | ret v pk s2 => rw [ho] at h2; exact OutW.from (h1.trans h2) (hr _ _)
          | _ => trivial
        | _ => trivial

theorem rnd_log (l nt : Nat) (tm : Tr Value) (assign body : Code) (s : ES) : OutW s (evRnd r l nt tm assign body s) := by
  unfold evRnd rAssigned
  have h1 := hr (.code assign (some l) { nt, tm, df := [], pk := .no }) s
  cases ho : r (.code assign (some l) { nt, tm, df := [], pk := .no }) s with
  | code e a s1 =>
    rw [ho] at h1
    cases e with
    | normal =>
      simp only
      unfold rBody
      cases hb : rBegin l s1 with
      | bad y => trivial
      | ok u s2 =>
        simp only
        have h2 := LogW.trans h1 ((wf_rBegin l).log hb)
        have h3 := hr (.code body (some l) a) s2
        cases ho2 : r (.code body (some l) a) s2 with
        | code e2 a2 s3 =>
          rw [ho2] at h3
          have h4 := h2.trans h3
          have fin : ∀ b j, OutW s (uRet .no (rFin l b j s3)) := by
            intro b j
            unfold uRet
            cases hf : rFin l b j s3 with
            | bad y => trivial
            | ok v s4 => exact h4.trans ((wf_rFin l b j).log hf)
          unfold rDone
          cases e2 with
          | normal => exact fin _ _
          | ret => exact fin _ _
          | exit id => exact fin _ _
          | pan v =>
            simp only
            unfold rPan
            cases a2.df with
            | nil => exact h4
            | cons => trivial
        | _ => trivial
    | _ => trivial
  | _ => trivial
omit hr in
theorem ev_log : ∀ n, LogR (ev P X n)
  | 0 => by intro t s; trivial
  | n + 1 => by
    have hr := ev_log n
    intro t s
    cases t with
    | code c rd a => exact code_log hr c rd a s
    | ops ops l rd a => exact ops_log hr ops l rd a s
    | call f args pk => exact call_log hr f args pk s
    | unw fn m a => exact unw_log hr fn m a s
    | rnd l nt tm assign body => exact rnd_log hr l nt tm assign body s
end
end Go.E

namespace Go.E

section
variable {P : Program} {X : Ctx}

/-- what is left to show: regions whose order is drawn -/
def DrawOk (P : Program) (X : Ctx) : Prop := ∀ (r : Rec), GoodR P r → LogR r → ∀ (id : Nat) (ops : Array Oper) (rd : Option Nat) (a : Fr) (s : ES), Good P (.code (.region id ops true) rd a) s (dReg P X r ops rd a s)

theorem evCode_good (hX : CtxOk P X) (hD : DrawOk P X) {r : Rec} (hr : GoodR P r) (hl : LogR r) (c : Code) (rd : Option Nat) (a : Fr) (s : ES) : Good P (.code c rd a) s (evCode P X r c rd a s) := by
  cases c with
  | skip => exact good_stay fun μ b k cs c w => .normal (.one stepR_skip)
  | label l => exact good_stay fun μ b k cs c w => .normal (.one stepR_label)
  | seq x y => exact cSeq_good hr x y rd a s
  | cond o x y => exact cCond_good hr o x y rd a s
  | block id x => exact cBlock_good hr id x rd a s
  | loop x => exact cLoop_good hr x rd a s
  | exit id => exact good_stay fun μ b k cs c w => .exit id (.refl P _) rfl
  | ret => exact good_stay fun μ b k cs c w => .ret (.refl P _)
  | scope x => exact scope_good hr x rd a s
  | region id ops d =>
    cases d with
    | true => exact hD r hr hl id ops rd a s
    | false =>
      show Good P _ s (r (.ops ops.toList ops.toList rd a) s)
      have h := hr (.ops ops.toList ops.toList rd a) s
      cases ho : r (.ops ops.toList ops.toList rd a) s with
      | code e a' s' =>
        rw [ho] at h
        have h0 : GoodCode P (fun b k c => Frame.inOps b ⟨ops.toList⟩ 0 k c) rd a s e a' s' := h 0 rfl
        refine good_sub (h := h0) fun b k c => ⟨k, fun cs w => ⟨.one ?_, fun μ m cs' c' w' h => h⟩⟩
        have := stepR_region (P := P) (b := b) (a := c) (k := k) (cs := cs) (w := w) (ops := ops) (id := id)
        rw [this]
        unfold Frame.inOps
        simp [List.range_eq_range']
      | _ => trivial
  | rangeFunc g ps assign body => exact cRange_good hX hr g ps assign body rd a s
  | _ => trivial

theorem ev_good (hX : CtxOk P X) (hS : SumOk P X) (hD : DrawOk P X) : ∀ n, GoodR P (ev P X n)
  | 0 => by intro t s; cases t <;> trivial
  | n + 1 => by
    have hr := ev_good hX hS hD n
    intro t s
    cases t with
    | code c rd a => exact evCode_good hX hD hr (ev_log n) c rd a s
    | ops ops l rd a => exact evOps_good hX hS hr ops l rd a s
    | call f args pk => exact evCall_good hr f args pk s
    | unw fn m a => exact evUnw_good hX hr fn m a s
    | rnd l nt tm assign body => exact evRnd_good hr l nt tm assign body s

/-- **A run of the evaluator is a run of the model.** -/
theorem ev_calls (hX : CtxOk P X) (hS : SumOk P X) (hD : DrawOk P X) {n : Nat} {f : FuncId} {args args' : List Value} {s s' : ES} {v : Value} {pk : PK} {μ : Ren} {w : World}
    (h : ev P X n (.call f args .no) s = .ret v pk s') (hst : St P μ s.st w) (hf : Free μ s.nx s'.nx) (ha : VRL P μ args args') :
    Calls P f ⟨args'⟩ w fun
      | .returned v', w' => ∃ μ', Nxt P μ s w μ' s' w' ∧ VR P μ' v v'
      | _, _ => False := by
  intro cs
  have hg := ev_good hX hS hD n (.call f args .no) s
  rw [h] at hg
  obtain ⟨μ', w', cs', fr, n1, n2, n3, n4, n5, n6, n7, n8⟩ := hg.2 μ w cs .normal _ hst hf ⟨args', ha, rfl⟩ (.norm _)
  cases n8 with
  | ret hv hm hr =>
    rename_i v'
    have hcs := n3.normal
    subst hcs
    exact ⟨.returned v', w', fr, ⟨μ', n1, hv⟩, n4, n5, hm, n7, n6, by rw [n5]; exact hr⟩
end
end Go.E

namespace Go.E

/-! ### actions that only read some names and make new ones -/
def Loc {α : Type} (ns : List Nat) (e : EM α) : Prop := ∀ s t a s1, (∀ n ∈ ns, t.st.get n = s.st.get n) → t.nx = s.nx → e s = .ok a s1 →
  (s1.lg = s.lg ∧ s.nx ≤ s1.nx ∧ ∀ n, n < s.nx ∨ s1.nx ≤ n → s1.st.get n = s.st.get n) ∧
  ∃ t1, e t = .ok a t1 ∧ t1.nx = s1.nx ∧ t1.lg = t.lg ∧ (∀ n, n < s.nx ∨ s1.nx ≤ n → t1.st.get n = t.st.get n) ∧ ∀ n, s.nx ≤ n → n < s1.nx → t1.st.get n = s1.st.get n

section
variable {P : Program} {X : Ctx} {ns : List Nat}
theorem loc_ret {α : Type} (a : α) : Loc ns (EM.ret a) := by
  intro s t b s1 _ hn h
  simp only [EM.ret, Res.ok.injEq] at h
  obtain ⟨rfl, rfl⟩ := h
  exact ⟨⟨rfl, Nat.le_refl _, fun _ _ => rfl⟩, t, rfl, hn, rfl, fun _ _ => rfl, fun n h1 h2 => absurd h2 (by omega)⟩
theorem loc_bad {α : Type} (y : String) : Loc ns (bad y : EM α) := by
  intro s t b s1 _ _ h; cases h
theorem loc_eget {n : Nat} (hm : n ∈ ns) : Loc ns (eget n) := by
  intro s t o s1 ha hn h
  unfold eget at h
  cases hg : s.st.get n with
  | none => simp [hg] at h
  | some x =>
    simp only [hg, Res.ok.injEq] at h
    obtain ⟨rfl, rfl⟩ := h
    refine ⟨⟨rfl, Nat.le_refl _, fun _ _ => rfl⟩, t, ?_, hn, rfl, fun _ _ => rfl, fun n h1 h2 => absurd h2 (by omega)⟩
    unfold eget
    rw [ha n hm, hg]
theorem loc_enew (o : EObj) : Loc ns (enew o) := by
  intro s t r s1 _ hn h
  unfold enew at h
  simp only [Res.ok.injEq] at h
  obtain ⟨rfl, rfl⟩ := h
  refine ⟨⟨rfl, Nat.le_succ _, fun n hh => ?_⟩, { t with st := t.st.upd s.nx (some o), nx := s.nx + 1 }, by unfold enew; rw [hn], rfl, rfl, fun n hh => ?_, fun n h1 h2 => ?_⟩
  · simp only [Tr.get_upd] at hh ⊢
    rw [if_neg (by omega)]
  · simp only [Tr.get_upd] at hh ⊢
    rw [if_neg (by omega)]
  · simp only [Tr.get_upd] at h1 h2 ⊢
    rw [if_pos (by omega), if_pos (by omega)]
theorem loc_bnd {α β : Type} {m : EM α} {f : α → EM β} (hm : Loc ns m) (hf : ∀ a, Loc ns (f a)) : Loc ns (m.bnd f) := by
  intro s t b s2 ha hn h
  obtain ⟨x, s1, h1, h2⟩ := bnd_ok h
  obtain ⟨⟨e1, e2, e3⟩, t1, k1, k2, k3, k4, k5⟩ := hm s t x s1 ha hn h1
  have ha1 : ∀ n ∈ ns, t1.st.get n = s1.st.get n := by
    intro n hmem
    by_cases h3 : s.nx ≤ n ∧ n < s1.nx
    · exact k5 n h3.1 h3.2
    · rw [k4 n (by omega), e3 n (by omega)]; exact ha n hmem
  obtain ⟨⟨g1, g2, g3⟩, t2, l1, l2, l3, l4, l5⟩ := hf x s1 t1 b s2 ha1 k2 h2
  refine ⟨⟨g1.trans e1, Nat.le_trans e2 g2, fun n hh => ?_⟩, t2, ?_, l2, l3.trans k3, fun n hh => ?_, fun n h3 h4 => ?_⟩
  · rw [g3 n (by omega), e3 n (by omega)]
  · unfold EM.bnd; rw [k1]; exact l1
  · rw [l4 n (by omega), k4 n (by omega)]
  · by_cases h5 : n < s1.nx
    · rw [l4 n (.inl h5), g3 n (.inl h5)]; exact k5 n h3 h5
    · exact l5 n (by omega) h4
theorem loc_cond {α : Type} (b : Bool) {x y : EM α} (hx : Loc ns x) (hy : Loc ns y) : Loc ns (bif b then x else y) := by cases b <;> assumption
theorem loc_lift {α : Type} (y : String) (o : Option α) : Loc ns (lift y o) := by
  cases o with
  | none => exact loc_bad _
  | some a => exact loc_ret a
theorem loc_vl {m : EM Value} (h : Loc ns m) : Loc ns (vl m) := loc_bnd h fun _ => loc_ret _
theorem loc_vo (y : String) (o : Option Value) : Loc ns (vo y o) := by unfold vo; cases o <;> first | exact loc_ret _ | exact loc_bad _

theorem loc_rd {t : TypeId} {a : Addr} (h : a.block ∈ ns) : Loc ns (rd P t a) := by
  unfold rd
  (repeat' first | exact loc_bad _ | exact loc_ret _ | exact loc_lift _ _ | exact loc_eget h | refine loc_cond _ ?_ ?_ | refine loc_bnd ?_ fun _ => ?_ | split)
theorem loc_rdCells {a : Addr} {n : Nat} (h : a.block ∈ ns) : Loc ns (rdCells a n) := by
  unfold rdCells
  (repeat' first | exact loc_bad _ | exact loc_ret _ | exact loc_eget h | refine loc_cond _ ?_ ?_ | refine loc_bnd ?_ fun _ => ?_ | split)
theorem loc_mapOf {x : Value} (h : ∀ n ∈ nameOf x, n ∈ ns) : Loc ns (mapOf x) := by
  unfold mapOf
  split
  · exact loc_ret _
  · rename_i r
    refine loc_bnd (loc_eget (h r (by simp [nameOf]))) fun o => ?_
    split
    · exact loc_ret _
    · exact loc_bad _
  · exact loc_bad _
theorem loc_eLookup {t : TypeId} {x ix : Value} {ok : Bool} (h : ∀ n ∈ nameOf x, n ∈ ns) : Loc ns (eLookup P t x ix ok) := by
  unfold eLookup
  (repeat' first | exact loc_bad _ | exact loc_ret _ | exact loc_mapOf h | exact loc_lift _ _ | refine loc_bnd ?_ fun _ => ?_ | refine loc_cond _ ?_ ?_ | split)
theorem loc_eSlice {t : TypeId} {x : Value} {l h m : Option Value} (hx : ∀ n ∈ nameOf x, n ∈ ns) : Loc ns (eSlice P t x l h m) := by
  have hK : ∀ n a len k, Loc ns (eSliceK n a len k l h m) := by
    intro n a len k
    unfold eSliceK
    (repeat' first | exact loc_bad _ | exact loc_ret _ | refine loc_cond _ ?_ ?_ | split)
  unfold eSlice
  refine loc_cond _ ?_ (loc_bad _)
  unfold eSlice1
  split
  · unfold eSlStr
    (repeat' first | exact loc_bad _ | exact loc_ret _ | split)
  · split
    · unfold eSlNil
      (repeat' first | exact loc_bad _ | exact loc_ret _ | split)
    · exact loc_bad _
  · rename_i e a len cap hu
    split
    · unfold eSlCap
      split
      · unfold eSlU
        refine loc_bnd (loc_eget (hx a.block (by simp [nameOf]))) fun o => ?_
        split
        · refine loc_cond _ ?_ (loc_bad _)
          unfold eSliceU
          (repeat' first | exact loc_bad _ | exact loc_ret _ | refine loc_cond _ ?_ ?_ | split)
        · exact loc_bad _
      · exact hK _ _ _ _
    · exact loc_bad _
  · split
    · exact hK _ _ _ _
    · exact loc_bad _
  · exact loc_bad _
theorem loc_eConvert {a b : TypeId} {x : Value} (hx : ∀ n ∈ nameOf x, n ∈ ns) : Loc ns (eConvert P a b x) := by
  unfold eConvert
  split
  · exact loc_ret _
  · exact loc_ret _
  · unfold eBytesOf
    (repeat' first | exact loc_bad _ | exact loc_ret _ | exact loc_enew _ | refine loc_bnd ?_ fun _ => ?_ | split)
  · rename_i e ad n c hs hd
    unfold eStringOf
    split
    · split
      · exact loc_ret _
      · rename_i ad
        refine loc_bnd (loc_rdCells (hx ad.block (by simp [nameOf]))) fun c => ?_
        split
        · exact loc_ret _
        · exact loc_bad _
    · exact loc_bad _
  · exact loc_bad _
theorem loc_eLen {ts : Array TypeId} {x : Value} {l : List Value} (hx : ∀ n ∈ nameOf x, n ∈ ns) : Loc ns (eLen P ts ⟨x :: l⟩) := by
  unfold eLen
  split
  · rename_i has
    cases has
    (repeat' first | exact loc_bad _ | exact loc_ret _ | exact loc_mapOf hx | refine loc_bnd ?_ fun _ => ?_ | split)
  · exact loc_bad _
theorem loc_eSliceData (args : Array Value) : Loc ns (eSliceData args) := by
  unfold eSliceData
  (repeat' first | exact loc_bad _ | exact loc_ret _ | refine loc_cond _ ?_ ?_ | split)
theorem loc_eBuildSlice (t : TypeId) (n : Nat) (ps : List (Nat × Value)) : Loc ns (eBuildSlice P t n ps) := by
  unfold eBuildSlice
  (repeat' first | exact loc_bad _ | exact loc_ret _ | exact loc_enew _ | refine loc_cond _ ?_ ?_ | refine loc_bnd ?_ fun _ => ?_ | split)
theorem loc_eMakeSlice (t : TypeId) (l c : Value) : Loc ns (eMakeSlice P t l c) := by
  unfold eMakeSlice
  (repeat' first | exact loc_bad _ | exact loc_ret _ | exact loc_enew _ | refine loc_cond _ ?_ ?_ | refine loc_bnd ?_ fun _ => ?_ | split)

theorem loc_eop (ρ : Operand → Value) (o : Oper) (hb : bigOp o.op = false) : Loc (readsOf ρ o.op) (eop P X ρ o) := by
  cases ho : o.op <;> rw [ho] at hb <;> simp only [eop, ho] <;> try exact loc_bad _
  case move => exact loc_ret _
  case assign => exact loc_ret _
  case pick =>
    split
    · exact loc_ret _
    · exact loc_bad _
  case alloc =>
    split
    · exact loc_bnd (loc_enew _) fun _ => loc_ret _
    · exact loc_bad _
  case box => exact loc_cond _ (loc_bnd (loc_enew _) fun _ => loc_ret _) (loc_bad _)
  case build => exact loc_vo _ _
  case buildSlice => exact loc_vl (loc_eBuildSlice _ _ _)
  case load t a =>
    have hbad : ∀ y, Loc (readsOf ρ (Op.load t a)) ((bad y : EM Addr).bnd fun a => vl (rd P t a)) := by
      intro y s t b s1 _ _ h; cases h
    unfold sureA
    cases hv : ρ a with
    | pointer p =>
      cases p with
      | none => exact hbad _
      | some ad =>
        have h1 : Loc (readsOf ρ (Op.load t a)) (vl (rd P t ad)) := loc_vl (loc_rd (by simp [readsOf, hv, nameOf]))
        exact h1
    | _ => exact hbad _
  case nilCheck =>
    split <;> first | exact loc_ret _ | exact loc_bad _
  case binOp => exact loc_vo _ _
  case unOp => exact loc_vo _ _
  case convert a b x => exact loc_vl (loc_eConvert fun n hn => hn)
  case makeInterface =>
    split <;> first | exact loc_ret _ | exact loc_bad _
  case makeFunc fn first cap =>
    cases fn <;> first | exact loc_ret _ | exact loc_bad _
  case makeMap t r =>
    cases r with
    | none => exact loc_bnd (loc_enew _) fun _ => loc_ret _
    | some h =>
      simp only
      split
      · exact loc_bnd (loc_enew _) fun _ => loc_ret _
      · exact loc_bad _
  case makeSlice => exact loc_vl (loc_eMakeSlice _ _ _)
  case slice t x l h m => exact loc_vl (loc_eSlice fun n hn => hn)
  case fieldAddr => exact loc_vo _ _
  case field => exact loc_vo _ _
  case indexAddr => exact loc_vo _ _
  case index => exact loc_vo _ _
  case lookup t x i ok => exact loc_vl (loc_eLookup fun n hn => hn)
  case typeAssert => exact loc_vo _ _
  case extract =>
    split
    · exact loc_vo _ _
    · exact loc_bad _
  case call c =>
    obtain ⟨callee, args, ats⟩ := c
    cases callee with
    | value f => simp [bigOp] at hb
    | invoke r n => simp [bigOp] at hb
    | builtin b =>
      simp only [eResolve, eInvoke, eBuiltin]
      cases b <;> first | (simp [bigOp] at hb; done) | skip
      case len =>
        refine loc_vl ?_
        cases hl : args.toList with
        | nil =>
          simp only [mapA]
          unfold eLen
          split
          · rename_i h; cases h
          · exact loc_bad _
        | cons x l =>
          refine loc_eLen fun n hn => ?_
          simpa [readsOf, hl] using hn
      case max => exact loc_vo _ _
      case min => exact loc_vo _ _
      case unsafeSliceData => exact loc_vl (loc_eSliceData _)
  all_goals simp [bigOp] at hb
end
end Go.E

