import Derived.Test.YthbkkpahoolhbaaGreatDoorEv16
import Derived.Test.YthbkkpahoolhbaaGreatDoorEv14
import Derived.Test.YthbkkpahoolhbaaGreatDoorProg
import Derived.KernelRfl
set_option linter.unusedSimpArgs false
set_option linter.unusedVariables false
set_option linter.unusedSectionVars false
namespace Go.E

section
variable {P : Program} {X : Ctx} {μ : Ren} {s : ES} {w : World}

/-! ### the next entry of a map, in whatever order -/
theorem run_nextAny {it : Value} {t : TypeId} {r m since last : Nat} {seen : List Nat} {es : Array MapEntry} {c : Nat} (hr : w.heap[r]? = some (.mapIter (some m) since ⟨seen⟩ last)) (hm : w.heap[m]? = some (.map es c))
    (h1 : (!seen.isEmpty && !es.isEmpty && es.all (fun e => decide (e.born ≥ last))) = false) (hit : it = .pointer (some ⟨r, 0, none⟩))
    (hne : (es.toList.filter fun e => !seen.contains e.born) ≠ []) (hold : ∀ e ∈ es.toList.filter fun e => !seen.contains e.born, e.born < since) :
    ∃ e dr, e ∈ (es.toList.filter fun e => !seen.contains e.born) ∧ (Instr.next it false t).run P w = .ok (.tuple #[.bool true, e.key, e.val]) { w with heap := w.heap.setIfInBounds r (.mapIter (some m) since (⟨seen ++ [e.born]⟩) c), drawn := dr } := by
  subst hit
  have hf : (es.filter fun e => !(⟨seen⟩ : Array Nat).contains e.born).toList = es.toList.filter fun e => !seen.contains e.born := by
    rw [Array.toList_filter]
    congr 1
    funext e
    simp
  have h1' : ¬ ((!(⟨seen⟩ : Array Nat).isEmpty && !es.isEmpty && es.all (fun e => decide (e.born ≥ last))) = true) := by
    rw [Bool.not_eq_true]
    simpa using h1
  generalize hL : (es.filter fun e => !(⟨seen⟩ : Array Nat).contains e.born) = L at hf
  rw [← hf] at hne hold ⊢
  have hsz : 0 < L.size := by
    rcases Nat.eq_zero_or_pos L.size with h0 | h0
    · exact absurd (by rw [Array.eq_empty_of_size_eq_zero h0]) hne
    · exact h0
  have ho : (L.filter fun e => decide (e.born < since)) = L := by
    rw [Array.filter_eq_self]
    intro e he
    simpa using hold e (by simpa using he)
  have hn : (L.filter fun e => decide (e.born ≥ since)) = #[] := by
    rw [Array.filter_eq_empty_iff]
    intro e he
    have := hold e (by simpa using he)
    simp; omega
  have hcand : ((if L.isEmpty = true then #[none] else #[]) ++ Array.map some (L ++ #[])) = L.map some := by
    have : ¬ (L.isEmpty = true) := by rw [Array.isEmpty_iff]; intro h; subst h; simp at hsz
    rw [if_neg this]; simp
  have fin : ∀ (i : Nat) (w1 : World), i < L.size → w1.heap = w.heap → w1.tape = w.tape → w1.os = w.os → w1.output = w.output → w1 = { w with drawn := w1.drawn } →
      ∃ e dr, e ∈ L.toList ∧ (match (L.map some)[i]? with
        | some (some e) => (do setObj r (.mapIter (some m) since ((⟨seen⟩ : Array Nat).push e.born) c); pure (.tuple #[.bool true, e.key, e.val]) : Sem Value)
        | some none => (pure (.tuple #[.bool false]) : Sem Value)
        | none => stuck "Next: no such candidate").run P w1 = .ok (.tuple #[.bool true, e.key, e.val]) { w with heap := w.heap.setIfInBounds r (.mapIter (some m) since (⟨seen ++ [e.born]⟩) c), drawn := dr } := by
    intro i w1 hi hh ht hos hou hw1
    refine ⟨L[i], w1.drawn, by simp, ?_⟩
    have hget : (L.map some)[i]? = some (some L[i]) := by simp [hi]
    rw [hget]
    simp only
    have hr1 : w1.heap[r]? = some (.mapIter (some m) since ⟨seen⟩ last) := by rw [hh]; exact hr
    have hb := Sem.run_bind (P := P) (w := w1) (setObj r (.mapIter (some m) since ((⟨seen⟩ : Array Nat).push L[i].born) c)) (fun _ => (pure (.tuple #[.bool true, L[i].key, L[i].val]) : Sem Value))
    refine hb.trans ?_
    rw [run_setObj hr1 (by intros; simp)]
    rw [hw1]
    simp
  simp only [Instr.next, Sem.run_bind, run_getObj hr (by intros; simp), Result.andThen_ok, run_getObj hm (by intros; simp), Sem.run_ite, if_neg h1', hL, ho, hn, hcand, run_choose]
  by_cases hfo : Question.forced (.mapNext (L.map some).size) = true
  · simp only [hfo, if_true, Result.andThen_ok]
    exact fin 0 w hsz rfl rfl rfl rfl rfl
  · simp only [hfo, Bool.false_eq_true, if_false, Result.andThen_ok]
    refine fin _ { w with drawn := w.drawn + 1 } ?_ rfl rfl rfl rfl rfl
    show w.tape w.drawn (.mapNext (L.map some).size) % (L.map some).size < L.size
    rw [Array.size_map]
    exact Nat.mod_lt _ hsz
end
end Go.E

namespace Go.E

section
variable {P : Program} {X : Ctx} {μ : Ren} {s : ES} {w : World}

theorem mrel_mem : ∀ {es es' : List MapEntry}, MRel P μ es es' → ∀ e' ∈ es', ∃ e ∈ es, ERel P μ e e'
  | [], _, h, e', he => by cases h; cases he
  | e :: es, _, h, e', he => by
    cases h with
    | cons h hl =>
      rcases List.mem_cons.1 he with rfl | he
      · exact ⟨e, List.mem_cons_self .., h⟩
      · obtain ⟨x, hx, hr⟩ := mrel_mem hl e' he
        exact ⟨x, List.mem_cons_of_mem _ hx, hr⟩

theorem next_any {it m si la c : Nat} {se : List Nat} {es : List MapEntry} {it' : Value} {t : TypeId} (hst : St P μ s.st w) (hg : s.st.get it = some (.miter (some m) si se la)) (hm : s.st.get m = some (.map es c))
    (hall : (!se.isEmpty && !es.isEmpty && es.all (fun e => la.ble e.born)) = false) (hne : leftOf se es ≠ []) (hold : ∀ e ∈ leftOf se es, e.born < si) (hi : VR P μ (mkPtr it) it') :
    ∃ e ∈ leftOf se es, ∃ w' v', (Instr.next it' false t).run P w = .ok v' w' ∧ Nxt P μ s w μ { s with st := s.st.upd it (some (.miter (some m) si (se ++ [e.born]) c)), lg := it :: s.lg } w' ∧ VR P μ (.tuple ⟨[.bool true, e.key, e.val]⟩) v' := by
  obtain ⟨pl, hp, hsp, rfl⟩ := hi.ptr_inv
  simp only at hp
  obtain ⟨pl1, o1, p1, p2, p3⟩ := hst.obj _ _ hg
  rw [hp] at p1; cases p1
  obtain ⟨hb0, pm, hpm, rfl⟩ := p3
  obtain ⟨pl2, o2, q1, q2, q3⟩ := hst.obj _ _ hm
  rw [hpm] at q1; cases q1
  obtain ⟨_, es', rfl, hmr⟩ := q3
  have hlen : es.length = es'.size := by have := hmr.length; simpa using this
  have hall' : (!se.isEmpty && !es'.isEmpty && es'.all (fun e => decide (e.born ≥ la))) = false := by
    have e1 : es.isEmpty = es'.isEmpty := by
      rw [Bool.eq_iff_iff, List.isEmpty_iff, Array.isEmpty_iff]
      constructor
      · intro h; subst h; exact Array.eq_empty_of_size_eq_zero hlen.symm
      · intro h; subst h; exact List.eq_nil_of_length_eq_zero (by simpa using hlen)
    have e2 : (es.all fun e => la.ble e.born) = es'.all (fun e => decide (e.born ≥ la)) := by
      rw [hmr.allb (fun b => la.ble b), Array.all_toList]
      congr 1
      funext e
      rw [Bool.eq_iff_iff]; simp
    rw [← e1, ← e2]; exact hall
  have hmf := hmr.filter (fun b => !se.contains b)
  have hleft : leftOf se es = es.filter fun e => !se.contains e.born := by
    unfold leftOf
    congr 1
    funext e
    congr 1
    rw [List.contains_eq_any_beq]
    congr 1
    funext b
    rw [Bool.eq_iff_iff, Nat.beq_eq, beq_iff_eq]; exact eq_comm
  rw [hleft] at hne hold ⊢
  have hne' : (es'.toList.filter fun e => !se.contains e.born) ≠ [] := by
    intro h
    rw [h] at hmf
    have := hmf.length
    exact hne (List.eq_nil_of_length_eq_zero (by simpa using this))
  have hold' : ∀ e ∈ es'.toList.filter fun e => !se.contains e.born, e.born < si := by
    intro e' he'
    obtain ⟨e, he, hr⟩ := mrel_mem hmf e' he'
    cases hr with
    | mk b hk hv =>
      have h9 := hold _ he
      exact h9
  obtain ⟨e', dr, he', hrun⟩ := run_nextAny (P := P) (t := t) p2 q2 hall' (rfl : (.pointer (some ⟨pl.b, 0, none⟩) : Value) = _) hne' hold'
  obtain ⟨e, he, hr⟩ := mrel_mem hmf e' he'
  cases hr with
  | mk b hk hv =>
    rename_i k k' v v'
    obtain ⟨μ2, w2, b2, r1, r2, r3⟩ := sim_set (P := P) (w' := { w with heap := w.heap.setIfInBounds pl.b (.mapIter (some pm.b) si ⟨se ++ [b]⟩ c), drawn := dr }) (o1 := .miter (some m) si (se ++ [b]) c) (o1' := .mapIter (some pm.b) si ⟨se ++ [b]⟩ c) (R := fun μ2 _ _ => μ2 = μ) (a := ()) (b := ()) hst hg hp rfl rfl rfl rfl ⟨hb0, pm, hpm, rfl⟩ rfl (it :: s.lg)
    simp only [Result.ok.injEq] at r1
    obtain ⟨_, rfl⟩ := r1
    subst r3
    have hpl : (⟨pl.b, pl.base + 0, none⟩ : Addr) = ⟨pl.b, 0, none⟩ := by rw [hb0]
    refine ⟨_, he, _, _, ?_, r2, .tuple (.cons (.bool _) (.cons hk (.cons hv .nil)))⟩
    show (Instr.next (.pointer (some ⟨pl.b, pl.base + 0, none⟩)) false t).run P w = _
    rw [hpl]
    exact hrun

/-! ### what code comes to, for every order -/
def HC (P : Program) (c : Code) (rd : Option Nat) (a : Fr) (s : ES) (B : Nat) (Q : Ex → Fr → ES → Prop) : Prop :=
  ∀ (μ : Ren) (w : World) (b : Frame) (k : List Item) (cs : List Frame) (x : Act), St P μ s.st w → Free μ s.nx B → FrR P μ rd b cs a x →
    ∃ e a' s' μ' w' x' cs', Q e a' s' ∧ s.nx ≤ s'.nx ∧ s'.nx ≤ B ∧ Nxt P μ s w μ' s' w' ∧ FrR P μ' rd b cs' a' x' ∧ CsR b.kind cs cs' ∧ ArrR P μ' (lone (b.atR x (.code c :: k)) cs w) b k cs' x' w' e

theorem hc_mono {c : Code} {rd : Option Nat} {a : Fr} {B : Nat} {Q Q' : Ex → Fr → ES → Prop} (h : HC P c rd a s B Q) (hq : ∀ e a s, Q e a s → Q' e a s) : HC P c rd a s B Q' := by
  intro μ w b k cs x h1 h2 h3
  obtain ⟨e, a', s', μ', w', x', cs', q, r⟩ := h μ w b k cs x h1 h2 h3
  exact ⟨e, a', s', μ', w', x', cs', hq _ _ _ q, r⟩

theorem hc_run (hX : CtxOk P X) (hS : SumOk P X) {c : Code} {rd : Option Nat} {a a' : Fr} {s' : ES} {e : Ex} {B : Nat} {Q : Ex → Fr → ES → Prop} (h : Run P X (.code c rd a) s (.code e a' s')) (hB : s'.nx ≤ B) (hq : Q e a' s') : HC P c rd a s B Q := by
  obtain ⟨n, h⟩ := h.eval
  have hg := ev_good hX hS (draw_ok hX hS) n (.code c rd a) s
  rw [h] at hg
  intro μ w b k cs x h1 h2 h3
  obtain ⟨μ', w', x', cs', n1, n2, n3, n4⟩ := hg.2 μ w b k cs x h1 (fun m k1 k2 => h2 m k1 (Nat.lt_of_lt_of_le k2 hB)) h3
  exact ⟨e, a', s', μ', w', x', cs', hq, hg.1, hB, n1, n2, n3, n4⟩
theorem hc_exq (hX : CtxOk P X) (hS : SumOk P X) {c : Code} {rd : Option Nat} {a : Fr} {B : Nat} {Q : Ex → Fr → ES → Prop} (h : Exq P X (.code c rd a) s fun
    | .code e a' s' => s'.nx ≤ B ∧ Q e a' s'
    | _ => False) : HC P c rd a s B Q := by
  obtain ⟨o, h1, h2⟩ := h
  cases o with
  | code e a' s' => exact hc_run hX hS h1 h2.1 h2.2
  | _ => exact h2.elim

theorem hc_seq {x y : Code} {rd : Option Nat} {a : Fr} {B : Nat} {Q : Ex → Fr → ES → Prop} (h : HC P x rd a s B fun e a1 s1 => e = .normal ∧ HC P y rd a1 s1 B Q) : HC P (.seq x y) rd a s B Q := by
  intro μ w b k cs c h1 h2 h3
  obtain ⟨e, a1, s1, μ1, w1, c1, cs1, ⟨rfl, hy⟩, l1, l2, n1, n2, n3, n4⟩ := h μ w b (.code y :: k) cs c h1 h2 h3
  obtain ⟨e, a2, s2, μ2, w2, c2, cs2, q, k1, k2, m1, m2, m3, m4⟩ := hy μ1 w1 b k cs1 c1 n1.st (fun n g1 g2 => by rw [n1.same n (by omega)]; exact h2 n (Nat.le_trans l1 g1) g2) n2
  refine ⟨e, a2, s2, μ2, w2, c2, cs2, q, Nat.le_trans l1 k1, k2, n1.trans l1 k1 m1, m2, n3.trans m3, ?_⟩
  cases n4 with
  | normal hs => exact .of_steps ((Steps.one stepR_seq).trans hs) m4

theorem hc_block {id : Nat} {x : Code} {rd : Option Nat} {a : Fr} {B : Nat} {Q : Ex → Fr → ES → Prop} (h : HC P x rd a s B fun e a1 s1 => e = .exit id ∧ Q .normal a1 s1) : HC P (.block id x) rd a s B Q := by
  intro μ w b k cs c h1 h2 h3
  obtain ⟨e, a1, s1, μ1, w1, c1, cs1, ⟨rfl, hq⟩, l1, l2, n1, n2, n3, n4⟩ := h μ w b (.inBlock id :: k) cs c h1 h2 h3
  refine ⟨.normal, a1, s1, μ1, w1, c1, cs1, hq, l1, l2, n1, n2, n3, ?_⟩
  cases n4 with
  | exit _ hs he =>
    have : exitTo id (.inBlock id :: k) = some k := by simp [exitTo]
    rw [this] at he
    exact .normal ((Steps.one stepR_block).trans (hs.trans (.one (stepR_exit he))))

theorem hc_loop {x : Code} {rd : Option Nat} {a : Fr} {B : Nat} {Q : Ex → Fr → ES → Prop} (hQ : ∀ a s, ¬ Q .normal a s) (hQ2 : ∀ v a s, ¬ Q (.pan v) a s) (h : HC P x rd a s B fun e a1 s1 => e = .normal ∧ HC P (.loop x) rd a1 s1 B Q) : HC P (.loop x) rd a s B Q := by
  intro μ w b k cs c h1 h2 h3
  obtain ⟨e, a1, s1, μ1, w1, c1, cs1, ⟨rfl, hy⟩, l1, l2, n1, n2, n3, n4⟩ := h μ w b (.inLoop x :: k) cs c h1 h2 h3
  obtain ⟨e, a2, s2, μ2, w2, c2, cs2, q, k1, k2, m1, m2, m3, m4⟩ := hy μ1 w1 b k cs1 c1 n1.st (fun n g1 g2 => by rw [n1.same n (by omega)]; exact h2 n (Nat.le_trans l1 g1) g2) n2
  refine ⟨e, a2, s2, μ2, w2, c2, cs2, q, Nat.le_trans l1 k1, k2, n1.trans l1 k1 m1, m2, n3.trans m3, ?_⟩
  cases n4 with
  | normal hs =>
    have h0 := (Steps.one (P := P) (stepR_loop (b := b) (a := c) (k := k) (cs := cs) (w := w) (c := x))).trans hs
    have hk : ∀ {todo : List Item} {f : Frame} {cs' : List Frame} {w' : World}, Steps P (lone (b.atR c1 (.code (.loop x) :: k)) cs1 w1) (lone f cs' w') → ((b.atR c1 (.code (.loop x) :: k)).todo ≠ f.todo ∨ (b.atR c1 (.code (.loop x) :: k)).mode ≠ f.mode) →
        Steps P (lone (b.atR c1 (.inLoop x :: k)) cs1 w1) (lone f cs' w') := fun h hne => steps_same stepR_loop stepR_inLoop h (lone_ne hne)
    cases m4 with
    | normal h1 => exact absurd q (hQ _ _)
    | pan hv h1 => exact absurd q (hQ2 _ _ _)
    | exit i h1 h2 => exact .exit i (h0.trans (hk (todo := []) h1 (.inl (by intro h; simp [Frame.atR] at h)))) h2
    | ret h1 => exact .ret (h0.trans (hk (todo := []) h1 (.inl (by intro h; simp [Frame.atR] at h))))

/-- a region that begins with the next entry of a map -/
theorem hc_next (hX : CtxOk P X) (hS : SumOk P X) {id d t21 : Nat} {rest : List Oper} {ty : TypeId} {pos : String} {af : Array Edge} {rd : Option Nat} {a : Fr} {B : Nat} {Q : Ex → Fr → ES → Prop} {it m si la c : Nat} {se : List Nat} {es : List MapEntry}
    (hg : s.st.get it = some (.miter (some m) si se la)) (hm : s.st.get m = some (.map es c)) (hall : (!se.isEmpty && !es.isEmpty && es.all (fun e => la.ble e.born)) = false) (hne : leftOf se es ≠ []) (hold : ∀ e ∈ leftOf se es, e.born < si)
    (ha : getv a.tm t21 = mkPtr it) (hB : s.nx ≤ B)
    (h : ∀ e ∈ leftOf se es, Exq P X (.ops (⟨some d, .next (.tmp t21) false, ty, pos, af, none⟩ :: rest) rest rd (put a (some d) (.tuple ⟨[.bool true, e.key, e.val]⟩))) { s with st := s.st.upd it (some (.miter (some m) si (se ++ [e.born]) c)), lg := it :: s.lg } fun
      | .code e a' s' => s'.nx ≤ B ∧ Q e a' s'
      | _ => False) :
    HC P (.region id ⟨⟨some d, .next (.tmp t21) false, ty, pos, af, none⟩ :: rest⟩ false) rd a s B Q := by
  intro μ w b k cs x h1 h2 h3
  have hi := h3.eval (.tmp t21)
  have hev : evalO a.tm (.tmp t21) = mkPtr it := ha
  rw [hev] at hi
  obtain ⟨e, he, w1, v', hrun, hn, hv⟩ := next_any (t := ty) h1 hg hm hall hne hold hi
  obtain ⟨o, hr, hq⟩ := h e he
  cases o with
  | code e2 a' s' =>
    obtain ⟨n, hr⟩ := hr.eval
    have hgd := ev_good hX hS (draw_ok hX hS) n (.ops (⟨some d, .next (.tmp t21) false, ty, pos, af, none⟩ :: rest) rest rd (put a (some d) (.tuple ⟨[.bool true, e.key, e.val]⟩))) { s with st := s.st.upd it (some (.miter (some m) si (se ++ [e.born]) c)), lg := it :: s.lg }
    rw [hr] at hgd
    have hgd := hgd 1 rfl
    obtain ⟨μ2, w2, x2, cs2, m1, m2, m3, m4⟩ := hgd.2 μ w1 b k cs (x.put (some d) v') hn.st (fun n g1 g2 => h2 n g1 (Nat.lt_of_lt_of_le g2 hq.1)) (h3.put (some d) hv)
    refine ⟨e2, a', s', μ2, w2, x2, cs2, hq.2, hgd.1, hq.1, Nxt.trans (by exact Nat.le_refl _) hgd.1 hn m1, m2, m3, .of_steps ?_ m4⟩
    refine .head stepR_region ?_
    have hsz : List.range (⟨⟨some d, .next (.tmp t21) false, ty, pos, af, none⟩ :: rest⟩ : Array Oper).size = 0 :: List.range' 1 rest.length := by
      simp [List.range_eq_range', List.range'_succ]
    rw [hsz]
    have ho : (⟨⟨some d, .next (.tmp t21) false, ty, pos, af, none⟩ :: rest⟩ : Array Oper)[0]? = some ⟨some d, .next (.tmp t21) false, ty, pos, af, none⟩ := by simp
    have hw : Region.wanted ⟨some d, .next (.tmp t21) false, ty, pos, af, none⟩ (yielded ⟨⟨some d, .next (.tmp t21) false, ty, pos, af, none⟩ :: rest⟩ x.tmps) = true := rfl
    have hstep := step_oper (P := P) (b := b) (c := x) (rest := List.range' 1 rest.length) (k := k) (cs := cs) (w := w) ho hw (Oper.semAt_eq _ _ _ fun d hod => by cases hod)
    have hfin := fin_oper (b := b) (c := x) (rest := List.range' 1 rest.length) (k := k) ho v'
    have hexec : (execOp x.eval ⟨some d, .next (.tmp t21) false, ty, pos, af, none⟩).run P w = .ok (.value v') w1 := by
      simp only [execOp, Sem.run_bind]
      rw [hrun]
      rfl
    refine .one (step_lone_go ?_)
    have hgoal : Frame.inOps b ⟨⟨some d, .next (.tmp t21) false, ty, pos, af, none⟩ :: rest⟩ 1 k (x.put (some d) v') = (b.atR x (.inRegion ⟨⟨some d, .next (.tmp t21) false, ty, pos, af, none⟩ :: rest⟩ (0 :: List.range' 1 rest.length) :: k)).finish v' := by
      rw [hfin]
      unfold Frame.inOps
      simp
    rw [hstep]
    show _ = GStep.go { frame := Frame.inOps b ⟨⟨some d, .next (.tmp t21) false, ty, pos, af, none⟩ :: rest⟩ 1 k (x.put (some d) v'), callers := cs, status := .running, dying := none } w1
    rw [hgoal]
    simp [stepG.apply, hexec]
  | _ => exact hq.elim
end
end Go.E

namespace Go.E

section
variable {P : Program} {X : Ctx}

theorem run_unw {fn : Func} {a : Fr} {s : ES} {v : Value} (hd : a.df = []) (hr : eResults P fn a.tm s = .ok v s) : Run P X (.unw fn .ret a) s (.ret v a.pk s) := run0 fun r => by
  show evUnw P X r fn .ret a s = _
  unfold evUnw
  rw [hd]
  simp only [uEnd, uRet, hr]

theorem hc_calls (hX : CtxOk P X) (hS : SumOk P X) {f : FuncId} {fn : Func} {body : Code} {args : List Value} {s : ES} {B : Nat} {QR : Value → ES → Prop} (hf : P.funcs[f]? = some fn) (hb : fn.body = some body)
    (h : HC P body none (emptyFr fn.ntmps args .no) s B fun e a s1 => e = .normal ∧ ∃ v, a.df = [] ∧ eResults P fn a.tm s1 = .ok v s1 ∧ QR v s1)
    {μ : Ren} {w : World} {args' : List Value} (hst : St P μ s.st w) (hfree : Free μ s.nx B) (ha : VRL P μ args args') :
    Calls P f ⟨args'⟩ w fun
      | .returned v', w' => ∃ v s1 μ', QR v s1 ∧ s.nx ≤ s1.nx ∧ s1.nx ≤ B ∧ Nxt P μ s w μ' s1 w' ∧ VR P μ' v v'
      | _, _ => False := by
  intro cs
  let b : Frame := { (default : Frame) with fn := f, kind := .normal, roundOf := none }
  have henter : Frame.enter P f ⟨args'⟩ .normal = b.atR ⟨(⟨args'⟩ : Array Value) ++ Array.replicate (fn.ntmps - (⟨args'⟩ : Array Value).size) Go.undef, []⟩ [.code body] := by
    simp [Frame.enter, Frame.atR, hf, hb, b]
  have hfr : FrR P μ none b cs (emptyFr fn.ntmps args .no) ⟨(⟨args'⟩ : Array Value) ++ Array.replicate (fn.ntmps - (⟨args'⟩ : Array Value).size) Go.undef, []⟩ :=
    ⟨trivial, ⟨fn, hf⟩, TR.enter ha, .nil, .norm cs⟩
  obtain ⟨e, a, s1, μ1, w1, c1, cs1, ⟨rfl, v, hd, hres, hq⟩, l1, l2, n1, n2, n3, n4⟩ := h μ w b [] cs _ hst hfree hfr
  obtain ⟨n, hu⟩ := (run_unw (P := P) (X := X) hd hres).eval
  have hg := ev_good hX hS (draw_ok hX hS) n (.unw fn .ret a) s1
  rw [hu] at hg
  have hg := hg f hf
  cases n4 with
  | normal hs =>
    have hs2 := hs.trans (.one (stepR_end (b := b) rfl))
    obtain ⟨μ2, w2, cs2, fr, m1, m2, m3, m4, m5, m6, m7, m8⟩ := hg.2 μ1 w1 cs1 .normal { b.atR c1 [] with mode := .returning } n1.st (fun n k1 k2 => absurd k1 (by omega)) ⟨n2.tr, n2.df, rfl, rfl, rfl, rfl⟩ n2.kr
    have hcs := (n3.trans m3).normal
    subst hcs
    cases m8 with
    | ret hv hm hr =>
      rename_i v'
      exact ⟨.returned v', w2, fr, ⟨v, s1, μ2, hq, l1, l2, n1.trans l1 (Nat.le_refl _) m1, hv⟩, by rw [henter]; exact hs2.trans m4, m5, hm, m7, m6, by rw [m5]; exact hr⟩
end
end Go.E

namespace Go.E

section
variable {P : Program} {X : Ctx} {nt : Nat} {df : List Deferred} {pk : PK} {l : List (Nat × Value)} {a : Fr}
variable {st : Tr EObj} {n : Nat} {lg : List Nat} {ops rest : List Oper} {rd : Option Nat} {Q : Out → Prop} {s s1 : ES} {d : Tmp} {ty : TypeId} {pos : String} {af : Array Edge}

theorem g_insert {t : TypeId} {x y z : Operand} {vx vy vz : Value} (K : Kn nt df pk l a) (hx : lookO l x = some vx) (hy : lookO l y = some vy) (hz : lookO l z = some vz) (he : eMapUpdate P t vx vy vz s = .ok () s1)
    (h : AfterOps P X ops rd Q (goOps P X ops rest a s1)) : AfterOps P X ops rd Q (goOps P X ops (⟨none, .insert t x y z, ty, pos, af, none⟩ :: rest) a s) :=
  g_skip (by rw [eop_insert, K.op hx, K.op hy, K.op hz, bnd_ok' he]; rfl) h
theorem g_range {t : TypeId} {x : Operand} {vx v : Value} (K : Kn nt df pk l a) (hd : d.blt nt = true) (hx : lookO l x = some vx) (he : eRange P t vx s = .ok v s1)
    (h : ∀ a', Kn nt df pk ((d, v) :: l) a' → AfterOps P X ops rd Q (goOps P X ops rest a' s1)) : AfterOps P X ops rd Q (goOps P X ops (⟨some d, .range t x, ty, pos, af, none⟩ :: rest) a s) :=
  g_val K hd (by
    have : eop P X (evalO a.tm) ⟨some d, .range t x, ty, pos, af, none⟩ = vl (eRange P t (evalO a.tm x)) := rfl
    rw [this, K.op hx]; unfold vl; rw [bnd_ok' he]; rfl) h
theorem g_next {x : Operand} {b : Bool} {vx v : Value} (K : Kn nt df pk l a) (hd : d.blt nt = true) (hx : lookO l x = some vx) (he : eNext vx b s = .ok v s1)
    (h : ∀ a', Kn nt df pk ((d, v) :: l) a' → AfterOps P X ops rd Q (goOps P X ops rest a' s1)) : AfterOps P X ops rd Q (goOps P X ops (⟨some d, .next x b, ty, pos, af, none⟩ :: rest) a s) :=
  g_val K hd (by
    have : eop P X (evalO a.tm) ⟨some d, .next x b, ty, pos, af, none⟩ = vl (eNext (evalO a.tm x) b) := rfl
    rw [this, K.op hx]; unfold vl; rw [bnd_ok' he]; rfl) h
theorem g_entry {x : Operand} {vx v : Value} (K : Kn nt df pk l a) (hd : d.blt nt = true) (hx : lookO l x = some vx) (he : eEntry vx s = .ok v s1)
    (h : ∀ a', Kn nt df pk ((d, v) :: l) a' → AfterOps P X ops rd Q (goOps P X ops rest a' s1)) : AfterOps P X ops rd Q (goOps P X ops (⟨some d, .entry x, ty, pos, af, none⟩ :: rest) a s) :=
  g_val K hd (by
    have : eop P X (evalO a.tm) ⟨some d, .entry x, ty, pos, af, none⟩ = vl (eEntry (evalO a.tm x)) := rfl
    rw [this, K.op hx]; unfold vl; rw [bnd_ok' he]; rfl) h

theorem range_map {t kt et : TypeId} {m c : Nat} {es : List MapEntry} (hu : und P t = some (.map kt et)) (hm : st.get m = some (.map es c)) :
    eRange P t (.map (some m)) ⟨st, n, lg⟩ = .ok (.pointer (some ⟨n, 0, none⟩)) ⟨st.upd n (some (.miter (some m) c [] c)), n + 1, lg⟩ := by
  unfold eRange
  rw [hu]
  simp only
  rw [bnd_ok' (eget_ok hm)]
  rfl
theorem next_end {it m si la c : Nat} {se : List Nat} {es : List MapEntry} (hg : st.get it = some (.miter (some m) si se la)) (hm : st.get m = some (.map es c)) (hall : (!se.isEmpty && !es.isEmpty && es.all (fun e => la.ble e.born)) = false) (hl : leftOf se es = []) :
    eNext (.pointer (some ⟨it, 0, none⟩)) false ⟨st, n, lg⟩ = .ok (.tuple ⟨[.bool false]⟩) ⟨st, n, lg⟩ := by
  unfold eNext
  simp only
  rw [bnd_ok' (eget_ok hg)]
  simp only
  unfold eNextM
  rw [bnd_ok' (eget_ok hm)]
  simp only [hall, cond_false, hl]
  rfl
theorem born_some {e : MapEntry} : ∀ {es : List MapEntry}, e ∈ es → ∃ e2 ∈ es, bornAt e.born es = some e2
  | x :: es, h => by
    simp only [bornAt]
    cases hb : x.born.beq e.born with
    | true => exact ⟨x, List.mem_cons_self .., rfl⟩
    | false =>
      rcases List.mem_cons.1 h with rfl | h
      · rw [Nat.beq_refl] at hb; cases hb
      · obtain ⟨e2, h1, h2⟩ := born_some h
        exact ⟨e2, List.mem_cons_of_mem _ h1, h2⟩
theorem entry_ok {it m si c b : Nat} {se : List Nat} {es : List MapEntry} {e2 : MapEntry} (hg : st.get it = some (.miter (some m) si (se ++ [b]) c)) (hm : st.get m = some (.map es c)) (hb : bornAt b es = some e2) :
    eEntry (.pointer (some ⟨it, 0, none⟩)) ⟨st, n, lg⟩ = .ok (.tuple ⟨[e2.key, e2.val]⟩) ⟨st, n, lg⟩ := by
  unfold eEntry
  simp only
  rw [bnd_ok' (eget_ok hg)]
  simp only [List.getLast?_append, List.getLast?_singleton, Option.some_or]
  unfold eEntryM
  rw [bnd_ok' (eget_ok hm)]
  simp only [Nat.beq_refl, cond_true, hb]
  rfl
end
end Go.E

namespace Go.E

/-! ### numbers, for the walks -/
section
variable {P : Program} {t : TypeId} {x y : Operand} {k : IntKind}
theorem bin_int {op : BinOp} {a b : Int} (h : op ≠ .shl) (h2 : op ≠ .shr) : eBin P op t x y (.int k a) (.int k b) = eInt op k a b := by
  cases op <;> first | exact absurd rfl h | exact absurd rfl h2 | simp [eBin]
theorem lss_t {a b : Nat} (h : a < b) : eBin P .lss t x y (.int k (Int.ofNat a)) (.int k (Int.ofNat b)) = some (.bool true) := by
  rw [bin_int (by decide) (by decide)]
  have : ile (Int.ofNat b) (Int.ofNat a) = false := by rw [ile_false]; exact Int.ofNat_lt.2 h
  simp only [eInt]; rw [this]; rfl
theorem lss_f {a b : Nat} (h : b ≤ a) : eBin P .lss t x y (.int k (Int.ofNat a)) (.int k (Int.ofNat b)) = some (.bool false) := by
  rw [bin_int (by decide) (by decide)]
  have : ile (Int.ofNat b) (Int.ofNat a) = true := by rw [ile_iff]; exact Int.ofNat_le.2 h
  simp only [eInt]; rw [this]; rfl
theorem gtr_t {a b : Nat} (h : b < a) : eBin P .gtr t x y (.int k (Int.ofNat a)) (.int k (Int.ofNat b)) = some (.bool true) := by
  rw [bin_int (by decide) (by decide)]
  have : ile (Int.ofNat a) (Int.ofNat b) = false := by rw [ile_false]; exact Int.ofNat_lt.2 h
  simp only [eInt]; rw [this]; rfl
theorem gtr_f {a b : Nat} (h : a ≤ b) : eBin P .gtr t x y (.int k (Int.ofNat a)) (.int k (Int.ofNat b)) = some (.bool false) := by
  rw [bin_int (by decide) (by decide)]
  have : ile (Int.ofNat a) (Int.ofNat b) = true := by rw [ile_iff]; exact Int.ofNat_le.2 h
  simp only [eInt]; rw [this]; rfl
theorem eql_f {a b : Nat} (h : a ≠ b) : eBin P .eql t x y (.int k (Int.ofNat a)) (.int k (Int.ofNat b)) = some (.bool false) := by
  rw [bin_int (by decide) (by decide)]
  have : ieq (Int.ofNat a) (Int.ofNat b) = false := by rw [← Bool.not_eq_true, ieq_iff]; exact fun e => h (Int.ofNat.inj e)
  simp only [eInt]; rw [this]
theorem eql_t {a : Nat} : eBin P .eql t x y (.int k (Int.ofNat a)) (.int k (Int.ofNat a)) = some (.bool true) := by
  rw [bin_int (by decide) (by decide)]
  have : ieq (Int.ofNat a) (Int.ofNat a) = true := by rw [ieq_iff]
  simp only [eInt]; rw [this]
theorem neq_t {a b : Nat} (h : a ≠ b) : eBin P .neq t x y (.int k (Int.ofNat a)) (.int k (Int.ofNat b)) = some (.bool true) := by
  rw [bin_int (by decide) (by decide)]
  have : ieq (Int.ofNat a) (Int.ofNat b) = false := by rw [← Bool.not_eq_true, ieq_iff]; exact fun e => h (Int.ofNat.inj e)
  simp only [eInt]; rw [this]; rfl
theorem add_n {a b : Nat} (h : a + b < 9223372036854775808) : eBin P .add t x y (.int .i64 (Int.ofNat a)) (.int .i64 (Int.ofNat b)) = some (.int .i64 (Int.ofNat (a + b))) := by
  rw [bin_int (by decide) (by decide)]
  have h1 : ile (lo .i64) (Int.ofNat (a + b)) = true := rfl
  have h2 : ile (Int.ofNat (a + b)) (hi .i64) = true := by
    show Nat.ble (a + b) _ = true
    rw [Nat.ble_eq]
    exact Nat.le_of_lt_succ h
  show some (Value.int .i64 (ewrap .i64 (Int.add (Int.ofNat a) (Int.ofNat b)))) = _
  have h3 : Int.add (Int.ofNat a) (Int.ofNat b) = Int.ofNat (a + b) := rfl
  rw [h3]
  unfold ewrap
  rw [h1, h2]
  rfl
theorem or_u8 {a b : Nat} (ha : a < 256) (hb : b < 256) : eBin P .or t x y (.int .u8 (Int.ofNat a)) (.int .u8 (Int.ofNat b)) = some (.int .u8 (Int.ofNat (Nat.lor a b))) := by
  rw [bin_int (by decide) (by decide)]
  unfold eInt
  simp only
  unfold eBits
  have h1 : ile (Int.ofNat a) (hi .u8) = true := by show Nat.ble a 255 = true; rw [Nat.ble_eq]; omega
  have h2 : ile (Int.ofNat b) (hi .u8) = true := by show Nat.ble b 255 = true; rw [Nat.ble_eq]; omega
  have h3 : ile 0 (Int.ofNat a) = true := by show Nat.ble 0 a = true; rw [Nat.ble_eq]; omega
  have h4 : ile 0 (Int.ofNat b) = true := by show Nat.ble 0 b = true; rw [Nat.ble_eq]; omega
  rw [h1, h2, h3, h4]
  rfl
theorem index_n {s : ByteArray} {i : Nat} {b : UInt8} (hu : und P t = some .string) (h : (bytes s)[i]? = some b) : eIndex P t (.string s) (.int .i64 (Int.ofNat i)) = some (.int .u8 (Int.ofNat b.toNat)) := by
  unfold eIndex
  rw [hu]
  simp only [asI]
  have h1 : ile 0 (Int.ofNat i) = true := by show Nat.ble 0 i = true; rw [Nat.ble_eq]; omega
  have h2 : nth (bytes s) i = some b := by rw [nth_eq]; exact h
  rw [h1]
  simp only [cond_true]
  show (match nth (bytes s) i with | some b => some (Value.int .u8 (Int.ofNat b.toNat)) | none => none) = _
  rw [h2]
end
end Go.E

namespace Go.E
section
variable {P : Program} {X : Ctx} {nt : Nat} {df : List Deferred} {pk : PK} {l : List (Nat × Value)} {a : Fr}
variable {st : Tr EObj} {n : Nat} {lg : List Nat} {ops rest : List Oper} {rd : Option Nat} {Q : Out → Prop} {s s1 : ES} {d : Tmp} {ty : TypeId} {pos : String} {af : Array Edge} {b : Array Nat} {j : Nat} {hist : List DRec}
/-- a guarded operation of a drawn region that is wanted -/
theorem d_if {op : Op} {i : Nat} {w c : Bool} {di : Tmp} {dst : Option Tmp} (K : Kn nt df pk l a) (hj : dstOf ops i = some di) (hl : lk di l = some (.bool c)) (hb : (c == w) = true)
    (h : Dq P X ops b rd (⟨dst, op, ty, pos, af, none⟩ :: rest) j a s hist Q) : Dq P X ops b rd (⟨dst, op, ty, pos, af, some (i, w)⟩ :: rest) j a s hist Q := by
  obtain ⟨o, ⟨N, h1⟩, h2⟩ := h
  refine ⟨o, ⟨N, fun k => ?_⟩, h2⟩
  have h1 := h1 k
  unfold dGo at h1 ⊢
  rw [want_none] at h1
  rw [want_true K hj hl hb]
  exact h1
theorem d_not {op : Op} {i : Nat} {w c : Bool} {di : Tmp} (K : Kn nt df pk l a) (hd : d.blt nt = true) (hj : dstOf ops i = some di) (hl : lk di l = some (.bool c)) (hb : (c == w) = false)
    (hh : histOk b j ⟨false, [], n, n⟩ j hist = true)
    (h : ∀ a', Kn nt df pk ((d, undef) :: l) a' → Dq P X ops b rd rest (Nat.succ j) a' ⟨st, n, lg⟩ (⟨false, [], n, n⟩ :: hist) Q) : Dq P X ops b rd (⟨some d, op, ty, pos, af, some (i, w)⟩ :: rest) j a ⟨st, n, lg⟩ hist Q := by
  obtain ⟨o, ⟨N, h1⟩, h2⟩ := h _ (K.put hd undef)
  refine ⟨o, ⟨N, fun k => ?_⟩, h2⟩
  unfold dGo
  rw [want_false K hj hl hb]
  unfold dNext
  simp only
  rw [hh]
  exact h1 k
theorem d_notu {op : Op} {i : Nat} {w : Bool} {di : Tmp} (K : Kn nt df pk l a) (hd : d.blt nt = true) (hj : dstOf ops i = some di) (hl : lk di l = some undef)
    (hh : histOk b j ⟨false, [], n, n⟩ j hist = true)
    (h : ∀ a', Kn nt df pk ((d, undef) :: l) a' → Dq P X ops b rd rest (Nat.succ j) a' ⟨st, n, lg⟩ (⟨false, [], n, n⟩ :: hist) Q) : Dq P X ops b rd (⟨some d, op, ty, pos, af, some (i, w)⟩ :: rest) j a ⟨st, n, lg⟩ hist Q := by
  obtain ⟨o, ⟨N, h1⟩, h2⟩ := h _ (K.put hd undef)
  refine ⟨o, ⟨N, fun k => ?_⟩, h2⟩
  unfold dGo
  rw [want_undef K hj hl]
  unfold dNext
  simp only
  rw [hh]
  exact h1 k
theorem n_len {x : Operand} {ts : Array TypeId} {vx : Value} (K : Kn nt df pk l a) (hx : lookO l x = some vx) : readsOf (evalO a.tm) (.call ⟨.builtin .len, #[x], ts⟩) = nameOf vx := by
  rw [← K.op hx]; rfl
end
end Go.E

namespace Go.E.FF
open Go.Proofs


def lookN (f : Nat) : List (Nat × Nat) → Nat
  | [] => 0
  | (g, k) :: l => bif g.beq f then k else lookN f l

def base : List (Nat × Nat) := [(252, 1), (317, 2), (377, 3), (71, 4), (372, 5), (25, 6), (69, 7), (108, 7)]

theorem num_ok : (Tryz.prog.funcs.toList.all fun fn => fn.name != "runtime.NumGoroutine") = true := by kernel_rfl

theorem callFunc_ext {P : Program} {f : FuncId} {fn : Func} {e : Array Value → Sem Value} (hf : P.funcs[f]? = some fn) (hn : (fn.name == "runtime.NumGoroutine") = false) (hb : fn.body.isNone = true)
    (h1 : (Extern.findNext fn).isNone = true) (h2 : Extern.find fn = some e) (args : Array Value) (w : World) :
    (callFunc f args).run P w = ((e args).run P w).andThen fun v w' => .ok (.value v) w' := by
  have h1' : Extern.findNext fn = none := by
    cases h : Extern.findNext fn with
    | none => rfl
    | some x => rw [h] at h1; cases h1
  simp only [callFunc, Sem.run_bind, run_program, Result.andThen_ok, hf, hn, hb, h1', h2, Sem.run_pure]
  simp


theorem ext_all {P : Program} {f : FuncId} {fn : Func} {k : Nat} (hf : P.funcs[f]? = some fn) (hn : (fn.name == "runtime.NumGoroutine") = false) (hb : fn.body.isNone = true)
    (h1 : (Extern.findNext fn).isNone = true) (h2 : Extern.find fn = some (extSem k)) (args : Array Value) (w : World) :
    (callFunc f args).run P w = ((extSem k args).run P w).andThen fun v w' => .ok (.value v) w' := callFunc_ext hf hn hb h1 h2 args w

/-- what is not a summary -/
def xk (more : List (Nat × Nat)) (f : Nat) : Nat := lookN f (base ++ more)

theorem ctx_ok {more : List (Nat × Nat)} {m : FuncId → List Value → Option Value} {h : FuncId → List Value → Option WM} (hm : (more.all fun p => p.2.beq 8 || p.2.beq 9) = true) : CtxOk Tryz.prog ⟨xk more, m, h⟩ := by
  refine ⟨fun f fn hf hb => ?_, fun f h0 h6 h7 h8 h9 args w => ?_⟩
  · have h := num_ok
    rw [List.all_eq_true] at h
    have := h fn (by
      have := Array.mem_of_getElem? hf
      simpa using this)
    simpa using this
  · have key : ∀ (l : List (Nat × Nat)), (l.all fun p => p.2.beq 8 || p.2.beq 9) = true → lookN f l = 0 ∨ lookN f l = 8 ∨ lookN f l = 9 := by
      intro l
      induction l with
      | nil => intro _; exact .inl rfl
      | cons p l ih =>
        intro hl
        obtain ⟨g, k⟩ := p
        simp only [List.all_cons, Bool.and_eq_true, Bool.or_eq_true, Nat.beq_eq] at hl
        simp only [lookN]
        cases g.beq f with
        | true => rcases hl.1 with h | h <;> simp [h]
        | false => exact ih hl.2
    have hk := key more hm
    simp only at h0 h6 h7 h8 h9 ⊢
    have hx : ∀ {g : Nat}, g.beq f = true → f = g := fun h => (Nat.eq_of_beq_eq_true h).symm
    unfold xk base at *
    simp only [List.cons_append, List.nil_append, lookN] at h0 h6 h7 h8 h9 ⊢
    cases e1 : Nat.beq 252 f with
    | true => rw [hx e1]; exact callFunc_ext Tryz.func252 (by kernel_rfl) (by kernel_rfl) (by kernel_rfl) (by kernel_rfl) args w
    | false =>
      simp only [e1, cond_false] at h0 h6 h7 h8 h9 ⊢
      cases e2 : Nat.beq 317 f with
      | true => rw [hx e2]; exact callFunc_ext Tryz.func317 (by kernel_rfl) (by kernel_rfl) (by kernel_rfl) (by kernel_rfl) args w
      | false =>
        simp only [e2, cond_false] at h0 h6 h7 h8 h9 ⊢
        cases e3 : Nat.beq 377 f with
        | true => rw [hx e3]; exact callFunc_ext Tryz.func377 (by kernel_rfl) (by kernel_rfl) (by kernel_rfl) (by kernel_rfl) args w
        | false =>
          simp only [e3, cond_false] at h0 h6 h7 h8 h9 ⊢
          cases e4 : Nat.beq 71 f with
          | true => rw [hx e4]; exact callFunc_ext Tryz.func71 (by kernel_rfl) (by kernel_rfl) (by kernel_rfl) (by kernel_rfl) args w
          | false =>
            simp only [e4, cond_false] at h0 h6 h7 h8 h9 ⊢
            cases e5 : Nat.beq 372 f with
            | true => rw [hx e5]; exact callFunc_ext Tryz.func372 (by kernel_rfl) (by kernel_rfl) (by kernel_rfl) (by kernel_rfl) args w
            | false =>
              simp only [e5, cond_false] at h0 h6 h7 h8 h9 ⊢
              exfalso
              cases e6 : Nat.beq 25 f <;> simp only [e6, cond_false, cond_true] at h0 h6 h7 h8 h9
              · cases e7 : Nat.beq 69 f <;> simp only [e7, cond_false, cond_true] at h0 h6 h7 h8 h9
                · cases e8 : Nat.beq 108 f <;> simp only [e8, cond_false, cond_true] at h0 h6 h7 h8 h9
                  · rcases hk with h | h | h
                    · exact h0 h
                    · exact h8 h
                    · exact h9 h
                  · exact h7 rfl
                · exact h7 rfl
              · exact h6 rfl
end Go.E.FF

