import Derived.Test.YthbkkpahoolhbaaGreatDoorEv11
import Derived.Orders
set_option linter.unusedSimpArgs false
set_option linter.unusedVariables false
set_option linter.unusedSectionVars false
namespace Go.E

/-! ### the orders that are drawn -/
/-- 'js' lists what is left, each one behind what binds it -/
inductive Sched (ops : Array Oper) : List Bool → List Nat → Prop
  | nil {L : List Bool} (h : ∀ i, i < ops.size → L.getD i false = true) : Sched ops L []
  | cons {L : List Bool} {j : Nat} {js : List Nat} {o : Oper} (hj : L.getD j true = false) (ho : ops[j]? = some o) (hb : ∀ e ∈ o.after, Region.binds .any e = true → L.getD e.on false = true)
      (h : Sched ops (L.set j true) js) : Sched ops L (j :: js)

section
variable {ops : Array Oper} {md : Region.Mode}

theorem binds_any {e : Edge} (h : Region.binds .any e = true) : Region.binds md e = true := by
  unfold Region.binds at *
  split at h
  · cases h
  · cases h
  · rfl

def Full (md : Region.Mode) (ops : Array Oper) : Prop := ∀ listed : Array Bool, listed.size = ops.size → Region.ready md ops listed = [] → ∀ i, i < ops.size → listed.getD i false = true

def unl (l : Array Bool) : Nat := l.toList.count false

theorem unl_set {l : Array Bool} {j : Nat} (hj : l.getD j true = false) : unl l = unl (l.setIfInBounds j true) + 1 := by
  have hlt : j < l.size := by
    by_cases h : j < l.size
    · exact h
    · simp [Array.getD, h] at hj
  have hv : l.toList[j]? = some false := by
    have : l[j]? = some false := by
      rw [Array.getD_eq_getD_getElem?, Array.getElem?_eq_getElem hlt] at hj
      simp at hj
      rw [Array.getElem?_eq_getElem hlt, hj]
    rw [Array.getElem?_toList]; exact this
  unfold unl
  rw [Array.toList_setIfInBounds]
  have key : ∀ (m : List Bool) (k : Nat), m[k]? = some false → m.count false = (m.set k true).count false + 1 := by
    intro m
    induction m with
    | nil => intro k h; simp at h
    | cons x m ih =>
      intro k h
      cases k with
      | zero => simp at h; subst h; simp
      | succ k =>
        simp at h
        rw [List.set_cons_succ, List.count_cons, List.count_cons, ih k h]
        omega
  exact key _ _ hv

theorem go_sched (hF : Full md ops) : ∀ (fuel t : Nat) (listed : Array Bool), listed.size = ops.size → unl listed ≤ fuel → Sched ops listed.toList (Region.linearise.go md ops fuel t listed []) := by
  intro fuel
  induction fuel with
  | zero =>
    intro t listed hs hu
    refine .nil fun i hi => ?_
    have h0 : false ∉ listed.toList := List.count_eq_zero.1 (by unfold unl at hu; omega)
    have hlt : i < listed.toList.length := by simpa [hs] using hi
    rw [List.getD_eq_getElem?_getD, List.getElem?_eq_getElem hlt]
    cases hv : listed.toList[i] with
    | true => rfl
    | false => exact absurd (hv ▸ List.getElem_mem hlt) h0
  | succ fuel ih =>
    intro t listed hs hu
    simp only [Region.linearise.go]
    change Sched ops listed.toList (match (Region.ready md ops listed)[t % (Region.ready md ops listed).length]? with
      | some i => Region.linearise.go md ops fuel (t / (Region.ready md ops listed).length) (listed.setIfInBounds i true) [i]
      | none => [].reverse)
    cases hi : (Region.ready md ops listed)[t % (Region.ready md ops listed).length]? with
    | none =>
      have hnil : Region.ready md ops listed = [] := by
        cases hr : Region.ready md ops listed with
        | nil => rfl
        | cons x xs =>
          rw [hr] at hi
          have hlt : t % (x :: xs).length < (x :: xs).length := Nat.mod_lt _ (by simp)
          simp at hi
          simp at hlt
          omega
      refine .nil fun i hi => ?_
      have := hF listed hs hnil i hi
      simpa using this
    | some i =>
      simp only []
      rw [linearise_go_acc, List.reverse_singleton, List.singleton_append]
      have hm := mem_ready.1 (List.mem_of_getElem? hi)
      obtain ⟨h0, o, ho, hall⟩ := hm
      have hu1 := unl_set h0
      have hrec := ih (t / (Region.ready md ops listed).length) (listed.setIfInBounds i true) (by simpa using hs) (by omega)
      rw [Array.toList_setIfInBounds] at hrec
      refine .cons (by simpa using h0) ho (fun e he hb => ?_) hrec
      have := hall e he (binds_any hb)
      simpa using this

theorem backOk_get : ∀ (l : List Oper) (k i : Nat) (o : Oper), backOk k l = true → l[i]? = some o → (o.after.toList.all fun e => match e.ground with | .gcOnly _ => true | _ => e.on.blt (k + i)) = true
  | [], k, i, o, _, h => by simp at h
  | x :: l, k, i, o, hb, h => by
    simp only [backOk, Bool.and_eq_true] at hb
    cases i with
    | zero => simp at h; subst h; exact hb.1
    | succ i =>
      have := backOk_get l (k + 1) i o hb.2 (by simpa using h)
      rw [show k + (i + 1) = k + 1 + i by omega]
      exact this

theorem full_text (hb : backOk 0 ops.toList = true) (hmd : ∀ e, Region.binds md e = true → ∀ d, e.ground ≠ .gcOnly d) : Full md ops := by
  intro listed hs hr i
  induction i using Nat.strongRecOn with
  | ind i ih =>
    intro hi
    by_cases hl : listed.getD i false = true
    · exact hl
    · exfalso
      have ho : ops[i]? = some ops[i] := by simp [hi]
      have hmem : i ∈ Region.ready md ops listed := by
        rw [mem_ready]
        refine ⟨?_, ops[i], ho, fun e he hbi => ?_⟩
        · have hlt : i < listed.size := by omega
          simp only [Array.getD, hlt, dif_pos] at hl ⊢
          simpa using hl
        · have h1 := backOk_get ops.toList 0 i ops[i] hb (by simp [hi])
          rw [List.all_eq_true] at h1
          have h2 := h1 e (by simpa using he)
          have hng := hmd e hbi
          have h3 : e.on < i := by
            cases hg : e.ground <;> rw [hg] at h2 <;> first | exact absurd hg (hng _) | simpa using h2
          exact ih e.on h3 (by omega)
      rw [hr] at hmem
      cases hmem

theorem unl_zero {l : Array Bool} (h : unl l = 0) {i : Nat} (hi : i < l.size) : l.getD i false = true := by
  have h0 : false ∉ l.toList := List.count_eq_zero.1 h
  have hlt : i < l.toList.length := by simpa using hi
  have : l.toList.getD i false = true := by
    rw [List.getD_eq_getElem?_getD, List.getElem?_eq_getElem hlt]
    cases hv : l.toList[i] with
    | true => rfl
    | false => exact absurd (hv ▸ List.getElem_mem hlt) h0
  simpa using this

theorem go_inside {L : Array Bool} (hs : L.size = ops.size) (hr : Region.ready md ops L = []) : ∀ (fuel t : Nat) (l0 : Array Bool), l0.size = ops.size → (∀ i, l0.getD i false = true → L.getD i false = true) →
    ∃ lF : Array Bool, lF.size = ops.size ∧ (∀ i, lF.getD i false = true → L.getD i false = true) ∧ unl lF + (Region.linearise.go md ops fuel t l0 []).length = unl l0 := by
  intro fuel
  induction fuel with
  | zero => intro t l0 h1 h2; exact ⟨l0, h1, h2, by simp [Region.linearise.go]⟩
  | succ fuel ih =>
    intro t l0 h1 h2
    simp only [Region.linearise.go]
    change ∃ lF : Array Bool, lF.size = ops.size ∧ (∀ i, lF.getD i false = true → L.getD i false = true) ∧ unl lF + (match (Region.ready md ops l0)[t % (Region.ready md ops l0).length]? with
      | some i => Region.linearise.go md ops fuel (t / (Region.ready md ops l0).length) (l0.setIfInBounds i true) [i]
      | none => [].reverse).length = unl l0
    cases hi : (Region.ready md ops l0)[t % (Region.ready md ops l0).length]? with
    | none => exact ⟨l0, h1, h2, by simp⟩
    | some i =>
      simp only []
      rw [linearise_go_acc, List.reverse_singleton, List.singleton_append]
      obtain ⟨g0, o, ho, hall⟩ := mem_ready.1 (List.mem_of_getElem? hi)
      have hlt : i < ops.size := (Array.getElem?_eq_some_iff.1 ho).1
      have hL : L.getD i false = true := by
        by_cases hl : L.getD i false = true
        · exact hl
        · exfalso
          have : i ∈ Region.ready md ops L := by
            rw [mem_ready]
            refine ⟨?_, o, ho, fun e he hb => h2 _ (hall e he hb)⟩
            have hlt' : i < L.size := by omega
            simp only [Array.getD, hlt', dif_pos] at hl ⊢
            simpa using hl
          rw [hr] at this; cases this
      obtain ⟨lF, k1, k2, k3⟩ := ih (t / (Region.ready md ops l0).length) (l0.setIfInBounds i true) (by simpa using h1) (fun j hj => by
        by_cases hji : i = j
        · subst hji; exact hL
        · rw [getD_set_ne false hji] at hj; exact h2 j hj)
      refine ⟨lF, k1, k2, ?_⟩
      rw [List.length_cons, unl_set g0]
      omega

theorem full_gc (hl : (Region.linearise md ops 0).length = ops.size) : Full md ops := by
  intro L hs hr i hi
  obtain ⟨lF, k1, k2, k3⟩ := go_inside hs hr ops.size 0 (Array.replicate ops.size false) (by simp) (fun i hi => by
    simp [Array.getD] at hi)
  have hu : unl (Array.replicate ops.size false) = ops.size := by simp [unl]
  have hlen : (Region.linearise.go md ops ops.size 0 (Array.replicate ops.size false) []).length = ops.size := hl
  exact k2 i (unl_zero (by omega) (by omega))

/-- every order that the machine may draw -/
theorem schedule_sched (h : dOkAll ops = true) (mixed : Bool) (t : Nat) : Sched ops (List.replicate ops.size false) (Region.schedule mixed ops t) := by
  unfold dOkAll at h
  simp only [Bool.and_eq_true] at h
  obtain ⟨⟨h1, h2⟩, _⟩ := h
  have hany : Full .any ops := full_text h1 (fun e hb d hg => by unfold Region.binds at hb; rw [hg] at hb; simp at hb)
  have htext : Full .text ops := full_text h1 (fun e hb d hg => by unfold Region.binds at hb; rw [hg] at hb; simp at hb)
  have go : ∀ md, Full md ops → ∀ t, Sched ops (List.replicate ops.size false) (Region.linearise md ops t) := by
    intro md hF t
    have := go_sched hF ops.size t (Array.replicate ops.size false) (by simp) (by simp [unl])
    rw [Array.toList_replicate] at this
    exact this
  unfold Region.schedule
  split
  · exact go _ hany _
  · rename_i hne
    have hd : Region.departs ops = true := by
      cases hd : Region.departs ops with
      | true => rfl
      | false => simp [hd] at hne
    have hgc : Full .gc ops := full_gc (by simpa [hd] using h2)
    split
    · exact go _ htext _
    · exact go _ hgc _
end
end Go.E

namespace Go.E

section
variable {P : Program} {X : Ctx} {r : Rec}

/-! ### an operation reads its operands only -/
theorem mapA_congr {ρ ρ' : Operand → Value} : ∀ {l : List Operand}, (∀ x ∈ l, ρ x = ρ' x) → mapA ρ l = mapA ρ' l
  | [], _ => rfl
  | x :: l, h => by
    simp only [mapA]
    rw [h x (by simp), mapA_congr fun y hy => h y (by simp [hy])]
theorem mapP_congr {ρ ρ' : Operand → Value} : ∀ {l : List (Nat × Operand)}, (∀ p ∈ l, ρ p.2 = ρ' p.2) → mapP ρ l = mapP ρ' l
  | [], _ => rfl
  | (i, x) :: l, h => by
    simp only [mapP]
    rw [h (i, x) (by simp), mapP_congr fun y hy => h y (by simp [hy])]
theorem optmap_congr {ρ ρ' : Operand → Value} {o : Option Operand} (h : ∀ x ∈ o.toList, ρ x = ρ' x) : o.map ρ = o.map ρ' := by
  cases o with
  | none => rfl
  | some x => simp only [Option.map_some]; rw [h x (by simp)]
theorem eResolve_congr {ρ ρ' : Operand → Value} (c : Call) (t : TypeId) (h : ∀ x ∈ c.operands, ρ x = ρ' x) : eResolve ρ c t = eResolve ρ' c t := by
  have ha : mapA ρ c.args.toList = mapA ρ' c.args.toList := mapA_congr fun x hx => h x (by simp only [Array.mem_toList_iff] at hx; simp [Call.operands, hx])
  unfold eResolve
  rw [ha]
  cases hc : c.callee with
  | builtin b => rfl
  | invoke x n => rfl
  | value f => simp only; rw [h f (by simp [Call.operands, hc])]

theorem eop_congr {ρ ρ' : Operand → Value} (o : Oper) (h : ∀ x ∈ o.op.operands, ρ x = ρ' x) : eop P X ρ o = eop P X ρ' o := by
  obtain ⟨dst, op, type, pos, after, guard⟩ := o
  simp only at h
  unfold eop
  simp only
  cases op <;> simp only [Op.operands] at h ⊢ <;> first
    | rfl
    | (simp only [Array.mem_append, List.mem_toArray, List.mem_cons, List.not_mem_nil, or_false, forall_eq_or_imp, forall_eq] at h; simp only [h]; done)
    | skip
  case build t ps =>
    rw [mapP_congr (ρ := ρ) (ρ' := ρ') fun p hp => h p.2 (by simp only [List.mem_toArray, List.mem_map]; exact ⟨p, hp, rfl⟩)]
  case buildSlice t n ps =>
    rw [mapP_congr (ρ := ρ) (ρ' := ρ') fun p hp => h p.2 (by simp only [List.mem_toArray, List.mem_map]; exact ⟨p, hp, rfl⟩)]
  case makeFunc fn first cap =>
    cases fn <;> try rfl
    simp only
    rw [mapA_congr (ρ := ρ) (ρ' := ρ') (l := first.toList) fun x hx => h x (by simp only [Array.mem_append]; exact .inl (by simpa using hx)),
      mapA_congr (ρ := ρ) (ρ' := ρ') (l := cap.toList) fun x hx => h x (by simp only [Array.mem_append]; exact .inr (by simpa using hx))]
  case makeMap t r =>
    cases r with
    | none => rfl
    | some x => simp only; rw [h x (by simp)]
  case slice t x l hi m =>
    rw [h x (by simp), optmap_congr (ρ := ρ) (ρ' := ρ') (o := l) fun y hy => h y (by simp at hy ⊢; simp [hy]),
      optmap_congr (ρ := ρ) (ρ' := ρ') (o := hi) fun y hy => h y (by simp at hy ⊢; simp [hy]),
      optmap_congr (ρ := ρ) (ρ' := ρ') (o := m) fun y hy => h y (by simp at hy ⊢; simp [hy])]
  case call c => rw [eResolve_congr c type h]
  case defer c => rw [eResolve_congr c type h]

/-- what one operation comes to does not read the frame's temporaries, nor changes them -/
theorem one_frame {rd : Option Nat} {a a1 : Fr} {o : Oper} {res : Res ENext} {v : Value} {s1 : ES} (h : one P r rd a o res = .go a1 v s1) (tm' : Tr Value) :
    one P r rd { a with tm := tm' } o res = .go { a1 with tm := tm' } v s1 ∧ a1.tm = a.tm ∧ a1.nt = a.nt := by
  unfold one at h ⊢
  cases res with
  | bad y => cases h
  | ok nx s =>
    have call : ∀ {out : Out}, oCall a out = .go a1 v s1 → oCall { a with tm := tm' } out = .go { a1 with tm := tm' } v s1 ∧ a1.tm = a.tm ∧ a1.nt = a.nt := by
      intro out h
      unfold oCall at h ⊢
      cases out <;> simp only [One.go.injEq, reduceCtorEq] at h ⊢
      obtain ⟨rfl, rfl, rfl⟩ := h
      exact ⟨⟨rfl, rfl, rfl⟩, rfl, rfl⟩
    cases nx with
    | val x => simp only [One.go.injEq] at h ⊢; obtain ⟨rfl, rfl, rfl⟩ := h; exact ⟨⟨rfl, rfl, rfl⟩, rfl, rfl⟩
    | skip => simp only [One.go.injEq] at h ⊢; obtain ⟨rfl, rfl, rfl⟩ := h; exact ⟨⟨rfl, rfl, rfl⟩, rfl, rfl⟩
    | enter f args => exact call h
    | done f args x => simp only [One.go.injEq] at h ⊢; obtain ⟨rfl, rfl, rfl⟩ := h; exact ⟨⟨rfl, rfl, rfl⟩, rfl, rfl⟩
    | keys f g m =>
      simp only at h ⊢
      unfold oKeys at h ⊢
      cases he : elemOf P f with
      | none => simp only [he] at h; cases h
      | some e =>
        simp only [he] at h ⊢
        unfold oVal at h ⊢
        cases hk : eSortedKeys e m s with
        | bad y => simp only [hk] at h; cases h
        | ok x s2 => simp only [hk, One.go.injEq] at h ⊢; obtain ⟨rfl, rfl, rfl⟩ := h; exact ⟨⟨rfl, rfl, rfl⟩, rfl, rfl⟩
    | heap f args m =>
      simp only at h ⊢
      unfold oVal at h ⊢
      cases hk : m.run s with
      | bad y => simp only [hk] at h; cases h
      | ok x s2 => simp only [hk, One.go.injEq] at h ⊢; obtain ⟨rfl, rfl, rfl⟩ := h; exact ⟨⟨rfl, rfl, rfl⟩, rfl, rfl⟩
    | round l nt tm as bo => exact call h
    | defer d =>
      simp only at h ⊢
      unfold oDefer at h ⊢
      cases rd with
      | some l => cases h
      | none => simp only [One.go.injEq] at h ⊢; obtain ⟨rfl, rfl, rfl⟩ := h; exact ⟨⟨rfl, rfl, rfl⟩, rfl, rfl⟩
    | recover =>
      simp only at h ⊢
      unfold oRecover at h ⊢
      cases rd with
      | some l => cases h
      | none =>
        simp only at h ⊢
        obtain ⟨nt, tm, df, pk⟩ := a
        cases pk <;> simp only [One.go.injEq] at h ⊢ <;> (obtain ⟨rfl, rfl, rfl⟩ := h; exact ⟨⟨rfl, rfl, rfl⟩, rfl, rfl⟩)
    | panic x => cases h

theorem mem_tmpsOf : ∀ {l : List Operand} {t : Nat}, .tmp t ∈ l → t ∈ tmpsOf l
  | [], _, h => by cases h
  | x :: l, t, h => by
    rcases List.mem_cons.1 h with h1 | h1
    · subst h1; simp [tmpsOf]
    · have ih := mem_tmpsOf h1
      cases x <;> simp only [tmpsOf] <;> first | exact List.mem_cons_of_mem _ ih | exact ih
theorem hasN_iff {n : Nat} : ∀ {l : List Nat}, hasN n l = true ↔ n ∈ l
  | [] => by simp [hasN]
  | m :: l => by
    simp only [hasN, Bool.or_eq_true, List.mem_cons]
    rw [hasN_iff (l := l), Nat.beq_eq]

theorem evalO_congr {tm tm' : Tr Value} {x : Operand} (h : ∀ t, x = .tmp t → getv tm t = getv tm' t) : evalO tm x = evalO tm' x := by
  cases x with
  | tmp t => exact h t rfl
  | _ => rfl

/-- an operation at other temporaries -/
theorem eop_tm {ops : List Oper} {o : Oper} {tm tm' : Tr Value} (h : ∀ t ∈ useOf ops o, getv tm t = getv tm' t) : eop P X (evalO tm) o = eop P X (evalO tm') o := by
  refine eop_congr o fun x hx => evalO_congr fun t ht => h t ?_
  subst ht
  have hm : t ∈ tmpsOf o.op.operands.toList := mem_tmpsOf (by simpa using hx)
  unfold useOf
  split
  · exact hm
  · split
    · exact List.mem_cons_of_mem _ hm
    · exact hm
theorem want_tm {ops : List Oper} {o : Oper} {tm tm' : Tr Value} (h : ∀ t ∈ useOf ops o, getv tm t = getv tm' t) : wantE ops tm o = wantE ops tm' o := by
  unfold wantE
  cases hg : o.guard with
  | none => rfl
  | some g =>
    obtain ⟨j, want⟩ := g
    simp only
    cases hd : dstOf ops j with
    | none => rfl
    | some d =>
      simp only
      rw [h d (by unfold useOf; rw [hg]; simp only [hd]; exact List.mem_cons_self ..)]
theorem reads_tm {ops : List Oper} {o : Oper} {tm tm' : Tr Value} (h : ∀ t ∈ useOf ops o, getv tm t = getv tm' t) : readsOf (evalO tm) o.op = readsOf (evalO tm') o.op := by
  have hx : ∀ x ∈ o.op.operands, evalO tm x = evalO tm' x := by
    intro x hx
    refine evalO_congr fun t ht => h t ?_
    subst ht
    have hm : t ∈ tmpsOf o.op.operands.toList := mem_tmpsOf (by simpa using hx)
    unfold useOf
    split
    · exact hm
    · split
      · exact List.mem_cons_of_mem _ hm
      · exact hm
  cases ho : o.op <;> rw [ho] at hx <;> simp only [readsOf] <;> try rfl
  case load t a => rw [hx a (by simp [Op.operands])]
  case lookup t m k ok => rw [hx m (by simp [Op.operands])]
  case slice t x l hi m => rw [hx x (by simp [Op.operands])]
  case convert s d x => rw [hx x (by simp [Op.operands])]
  case call c =>
    obtain ⟨callee, args, ats⟩ := c
    cases callee with
    | builtin b =>
      cases b <;> simp only [readsOf] <;> try rfl
      cases hl : args.toList with
      | nil => rfl
      | cons x l =>
        simp only
        rw [hx x (by
          have : x ∈ args.toList := by rw [hl]; exact List.mem_cons_self ..
          simp only [Array.mem_toList_iff] at this
          simp [Op.operands, Call.operands, this])]
    | _ => rfl
end
end Go.E

namespace Go.E

/-! ### what a run of a drawn region has done -/
structure Stp where
  o : Oper
  a : Fr
  s : ES
  a' : Fr
  s' : ES
  rc : DRec

inductive StepOk (P : Program) (X : Ctx) (r : Rec) (ops : List Oper) (rd : Option Nat) : Stp → Prop
  | skip {o : Oper} {a : Fr} {s : ES} (hw : wantE ops a.tm o = some false) : StepOk P X r ops rd ⟨o, a, s, put a o.dst undef, s, ⟨false, [], s.nx, s.nx⟩⟩
  | big {o : Oper} {a a1 : Fr} {s s1 : ES} {v : Value} (hw : wantE ops a.tm o = some true) (hb : bigOp o.op = true) (h : one P r rd a o (eop P X (evalO a.tm) o { s with lg := [] }) = .go a1 v s1) :
      StepOk P X r ops rd ⟨o, a, s, put a1 o.dst v, { s1 with lg := s1.lg ++ s.lg }, ⟨true, s1.lg, s.nx, s1.nx⟩⟩
  | loc {o : Oper} {a : Fr} {s s1 : ES} {v : Value} (hw : wantE ops a.tm o = some true) (hb : bigOp o.op = false) (h : eop P X (evalO a.tm) o s = .ok (.val v) s1) :
      StepOk P X r ops rd ⟨o, a, s, put a o.dst v, s1, ⟨false, readsOf (evalO a.tm) o.op, s.nx, s1.nx⟩⟩

inductive Chn (P : Program) (X : Ctx) (r : Rec) (ops : List Oper) (rd : Option Nat) : Fr → ES → List Stp → Fr → ES → Prop
  | nil (a : Fr) (s : ES) : Chn P X r ops rd a s [] a s
  | cons {st : Stp} {ts : List Stp} {aN : Fr} {sN : ES} (h : StepOk P X r ops rd st) (hc : Chn P X r ops rd st.a' st.s' ts aN sN) : Chn P X r ops rd st.a st.s (st :: ts) aN sN

section
variable {P : Program} {X : Ctx} {r : Rec} {ops : List Oper} {b : Array Nat} {rd : Option Nat}

theorem histOk_get {j : Nat} {y : DRec} : ∀ (i : Nat) (hist : List DRec), hist.length = i → histOk b j y i hist = true → ∀ k x, hist.reverse[k]? = some x → recOk x y = true ∨ ordB b k j = true
  | 0, [], _, _, k, x, h => by simp at h
  | i + 1, z :: l, hl, h, k, x, hk => by
    simp only [List.length_cons, Nat.add_right_cancel_iff] at hl
    simp only [histOk, Bool.and_eq_true, Bool.or_eq_true] at h
    rw [List.reverse_cons, List.getElem?_append] at hk
    by_cases hlt : k < l.reverse.length
    · rw [if_pos hlt] at hk
      exact histOk_get i l hl h.2 k x hk
    · rw [if_neg hlt] at hk
      simp only [List.length_reverse] at hk hlt
      have h0 : k - l.length = 0 := by
        by_cases h0 : k - l.length = 0
        · exact h0
        · rw [List.getElem?_eq_none (by simp; omega)] at hk; cases hk
      rw [h0] at hk
      simp only [List.getElem?_cons_zero, Option.some.injEq] at hk
      subst hk
      have : k = i := by omega
      subst this
      exact h.1
  | 0, _ :: _, hl, _, _, _, _ => by simp at hl
  | i + 1, [], hl, _, _, _, _ => by simp at hl

/-- pairs: the later one against each earlier one -/
def PairsOk (b : Array Nat) (j : Nat) (H : List DRec) : Prop := ∀ x y rx ry, j ≤ y → x < y → H[x]? = some rx → H[y]? = some ry → recOk rx ry = true ∨ ordB b x y = true

theorem dGo_trace : ∀ (l : List Oper) (j : Nat) (a : Fr) (s : ES) (hist : List DRec) (e : Ex) (aN : Fr) (sN : ES), hist.length = j → dGo P X r ops b rd l j a s hist = .code e aN sN →
    e = .normal ∧ ∃ ts, ts.map (·.o) = l ∧ Chn P X r ops rd a s ts aN sN ∧ PairsOk b j (hist.reverse ++ ts.map (·.rc))
  | [], j, a, s, hist, e, aN, sN, hl, h => by
    simp only [dGo, Out.code.injEq] at h
    obtain ⟨rfl, rfl, rfl⟩ := h
    refine ⟨rfl, [], rfl, .nil _ _, fun x y rx ry h1 h2 h3 h4 => ?_⟩
    simp only [List.map_nil, List.append_nil] at h4
    rw [List.getElem?_eq_none (by simp; omega)] at h4
    cases h4
  | o :: l, j, a, s, hist, e, aN, sN, hl, h => by
    -- one more record
    have more : ∀ (st : Stp), st.o = o → st.a = a → st.s = s → StepOk P X r ops rd st → histOk b j st.rc j hist = true → dGo P X r ops b rd l (Nat.succ j) st.a' st.s' (st.rc :: hist) = .code e aN sN →
        e = .normal ∧ ∃ ts, ts.map (·.o) = o :: l ∧ Chn P X r ops rd a s ts aN sN ∧ PairsOk b j (hist.reverse ++ ts.map (·.rc)) := by
      intro st ho ha hs hok hh hrec
      obtain ⟨he, ts, h1, h2, h3⟩ := dGo_trace l (j + 1) st.a' st.s' (st.rc :: hist) e aN sN (by simp [hl]) hrec
      refine ⟨he, st :: ts, by simp [ho, h1], by rw [← ha, ← hs]; exact .cons hok h2, ?_⟩
      have hlist : hist.reverse ++ (st :: ts).map (·.rc) = (st.rc :: hist).reverse ++ ts.map (·.rc) := by simp
      rw [hlist]
      intro x y rx ry g1 g2 g3 g4
      by_cases hy : y = j
      · subst hy
        have hyl : ((st.rc :: hist).reverse ++ ts.map (·.rc))[y]? = some st.rc := by
          rw [← hlist, List.getElem?_append_right (by simp [hl])]
          simp [hl]
        rw [hyl] at g4
        simp only [Option.some.injEq] at g4
        subst g4
        have hx : hist.reverse[x]? = some rx := by
          rw [← hlist, List.getElem?_append_left (by simp; omega)] at g3
          exact g3
        exact histOk_get y hist hl hh x rx hx
      · exact h3 x y rx ry (by omega) g2 g3 g4
    simp only [dGo] at h
    cases hw : wantE ops a.tm o with
    | none => simp only [hw] at h; cases h
    | some t =>
      have nxt : ∀ {y : DRec} {k : List DRec → Out}, dNext b j hist y k = .code e aN sN → histOk b j y j hist = true ∧ k (y :: hist) = .code e aN sN := by
        intro y k h
        unfold dNext at h
        cases hh : histOk b j y j hist with
        | false => rw [hh] at h; cases h
        | true => rw [hh] at h; exact ⟨rfl, h⟩
      cases t with
      | false =>
        simp only [hw] at h
        obtain ⟨h1, h2⟩ := nxt h
        exact more ⟨o, a, s, put a o.dst undef, s, ⟨false, [], s.nx, s.nx⟩⟩ rfl rfl rfl (.skip hw) h1 h2
      | true =>
        simp only [hw] at h
        cases hb : bigOp o.op with
        | true =>
          simp only [hb, cond_true] at h
          unfold dBig at h
          cases ho : one P r rd a o (eop P X (evalO a.tm) o { s with lg := [] }) with
          | go a1 v s1 =>
            simp only [ho] at h
            obtain ⟨h1, h2⟩ := nxt h
            exact more ⟨o, a, s, put a1 o.dst v, { s1 with lg := s1.lg ++ s.lg }, ⟨true, s1.lg, s.nx, s1.nx⟩⟩ rfl rfl rfl (.big hw hb ho) h1 h2
          | pan v s1 => simp only [ho] at h; cases h
          | bad y => simp only [ho] at h; cases h
        | false =>
          simp only [hb, cond_false] at h
          unfold dLoc at h
          cases ho : eop P X (evalO a.tm) o s with
          | bad y => simp only [ho] at h; cases h
          | ok nx s1 =>
            simp only [ho] at h
            cases nx with
            | val v =>
              simp only at h
              obtain ⟨h1, h2⟩ := nxt h
              exact more ⟨o, a, s, put a o.dst v, s1, ⟨false, readsOf (evalO a.tm) o.op, s.nx, s1.nx⟩⟩ rfl rfl rfl (.loc hw hb ho) h1 h2
            | _ => cases h
end
end Go.E

namespace Go.E

section
variable {P : Program} {X : Ctx} {r : Rec} {ops : List Oper} {b : Array Nat} {rd : Option Nat}

/-- the states and frames of the run, by place -/
structure Places (P : Program) (X : Ctx) (r : Rec) (ops : List Oper) (rd : Option Nat) (ts : List Stp) (S : Nat → ES) (A : Nat → Fr) : Prop where
  at_ : ∀ i st, ts[i]? = some st → st.s = S i ∧ st.a = A i ∧ st.s' = S (i + 1) ∧ st.a' = A (i + 1) ∧ StepOk P X r ops rd st

theorem chn_places : ∀ {ts : List Stp} {a : Fr} {s : ES} {aN : Fr} {sN : ES}, Chn P X r ops rd a s ts aN sN → ∃ S A, S 0 = s ∧ A 0 = a ∧ S ts.length = sN ∧ A ts.length = aN ∧ Places P X r ops rd ts S A
  | [], a, s, aN, sN, h => by
    cases h
    exact ⟨fun _ => s, fun _ => a, rfl, rfl, rfl, rfl, ⟨fun i st h => by simp at h⟩⟩
  | st :: ts, _, _, aN, sN, h => by
    cases h with
    | cons hok hc =>
      obtain ⟨S, A, h1, h2, h3, h4, h5⟩ := chn_places hc
      refine ⟨fun i => match i with | 0 => st.s | i + 1 => S i, fun i => match i with | 0 => st.a | i + 1 => A i, rfl, rfl, h3, h4, ⟨fun i x hx => ?_⟩⟩
      cases i with
      | zero =>
        simp only [List.getElem?_cons_zero, Option.some.injEq] at hx
        subst hx
        exact ⟨rfl, rfl, h1.symm, h2.symm, hok⟩
      | succ i =>
        simp only [List.getElem?_cons_succ] at hx
        exact h5.at_ i x hx

/-- what the static check says of a pair -/
theorem dOk1_get {y : Oper} {j : Nat} : ∀ (l : List Oper) (i k : Nat) (x : Oper), dOk1 ops b j y i l = true → l[k]? = some x → i + k < j → (ordB b (i + k) j || freeOk ops x y) = true
  | [], _, k, x, _, h, _ => by simp at h
  | z :: l, i, k, x, hd, h, hlt => by
    simp only [dOk1] at hd
    have hij : i.beq j = false := by rw [← Bool.not_eq_true, Nat.beq_eq]; omega
    simp only [hij, cond_false, Bool.and_eq_true] at hd
    cases k with
    | zero =>
      simp only [List.getElem?_cons_zero, Option.some.injEq] at h
      subst h
      exact hd.1
    | succ k =>
      rw [show i + (k + 1) = i + 1 + k by omega]
      exact dOk1_get l (i + 1) k x hd.2 (by simpa using h) (by omega)
theorem dOk2_get : ∀ (l : List Oper) (j k : Nat) (y : Oper), dOk2 ops b j l = true → l[k]? = some y → noDR y = true ∧ dOk1 ops b (j + k) y 0 ops = true
  | [], _, k, y, _, h => by simp at h
  | z :: l, j, k, y, hd, h => by
    simp only [dOk2, Bool.and_eq_true] at hd
    cases k with
    | zero =>
      simp only [List.getElem?_cons_zero, Option.some.injEq] at h
      subst h
      exact hd.1
    | succ k =>
      rw [show j + (k + 1) = j + 1 + k by omega]
      exact dOk2_get l (j + 1) k y hd.2 (by simpa using h)
theorem dOk_pair (h : dOk2 ops b 0 ops = true) {i j : Nat} {x y : Oper} (hi : ops[i]? = some x) (hj : ops[j]? = some y) (hlt : i < j) : ordB b i j = true ∨ freeOk ops x y = true := by
  have h1 := (dOk2_get ops 0 j y h hj).2
  have h2 := dOk1_get ops 0 i x h1 hi (by omega)
  simpa using h2
end
end Go.E

namespace Go.E

/-! ### what lies before what -/
def befStep (acc : Array Nat) (o : Oper) : Array Nat :=
  acc.push (o.after.foldl (fun s e => if Region.binds .any e then s ||| 2 ^ e.on ||| acc.getD e.on 0 else s) 0)
theorem before_eq (ops : Array Oper) : Region.before ops = ops.toList.foldl befStep #[] := by
  unfold Region.before
  rw [← Array.foldl_toList]
  rfl

theorem fold_bit (acc : Array Nat) (i : Nat) : ∀ (l : List Edge) (z : Nat), (l.foldl (fun s e => if Region.binds .any e then s ||| 2 ^ e.on ||| acc.getD e.on 0 else s) z).testBit i = true →
    z.testBit i = true ∨ ∃ e ∈ l, Region.binds .any e = true ∧ (i = e.on ∨ (acc.getD e.on 0).testBit i = true)
  | [], z, h => .inl h
  | e :: l, z, h => by
    rw [List.foldl_cons] at h
    rcases fold_bit acc i l _ h with h1 | ⟨e', h1, h2, h3⟩
    · by_cases hb : Region.binds .any e = true
      · rw [if_pos hb, Nat.testBit_or, Nat.testBit_or, Bool.or_eq_true, Bool.or_eq_true] at h1
        rcases h1 with (h1 | h1) | h1
        · exact .inl h1
        · exact .inr ⟨e, by simp, hb, .inl (by rw [Nat.testBit_two_pow] at h1; have h1 := of_decide_eq_true h1; omega)⟩
        · exact .inr ⟨e, by simp, hb, .inr h1⟩
      · rw [if_neg hb] at h1; exact .inl h1
    · exact .inr ⟨e', by simp [h1], h2, h3⟩

theorem bef_size : ∀ (l : List Oper) (acc : Array Nat), (l.foldl befStep acc).size = acc.size + l.length
  | [], acc => by simp
  | o :: l, acc => by rw [List.foldl_cons, bef_size l]; simp [befStep]; omega
theorem bef_keep : ∀ (l : List Oper) (acc : Array Nat) (j : Nat), j < acc.size → (l.foldl befStep acc).getD j 0 = acc.getD j 0
  | [], acc, j, _ => rfl
  | o :: l, acc, j, h => by
    rw [List.foldl_cons, bef_keep l _ j (by simp [befStep]; omega)]
    simp only [befStep, Array.getD_eq_getD_getElem?]
    rw [Array.getElem?_push_lt h]
    simp [h]

theorem bef_bit : ∀ (l : List Oper) (acc : Array Nat) (k i : Nat) (o : Oper), l[k]? = some o → ((l.foldl befStep acc).getD (acc.size + k) 0).testBit i = true →
    ∃ e ∈ o.after, Region.binds .any e = true ∧ (i = e.on ∨ (e.on < acc.size + k ∧ ((l.foldl befStep acc).getD e.on 0).testBit i = true))
  | [], _, _, _, _, h, _ => by simp at h
  | x :: l, acc, 0, i, o, h, hb => by
    simp only [List.getElem?_cons_zero, Option.some.injEq] at h
    subst h
    rw [List.foldl_cons] at hb
    have hk := bef_keep l (befStep acc x) acc.size (by simp [befStep])
    rw [Nat.add_zero, hk] at hb
    have hv : (befStep acc x).getD acc.size 0 = x.after.foldl (fun s e => if Region.binds .any e then s ||| 2 ^ e.on ||| acc.getD e.on 0 else s) 0 := by
      simp [befStep, Array.getD_eq_getD_getElem?]
    rw [hv, ← Array.foldl_toList] at hb
    rcases fold_bit acc i _ _ hb with h1 | ⟨e, h1, h2, h3⟩
    · simp at h1
    · refine ⟨e, by simpa using h1, h2, ?_⟩
      rcases h3 with h3 | h3
      · exact .inl h3
      · by_cases hlt : e.on < acc.size
        · refine .inr ⟨by omega, ?_⟩
          rw [bef_keep (x :: l) acc e.on hlt]; exact h3
        · simp [Array.getD, hlt] at h3
  | x :: l, acc, k + 1, i, o, h, hb => by
    rw [List.foldl_cons] at hb
    have hs : (befStep acc x).size = acc.size + 1 := by simp [befStep]
    have := bef_bit l (befStep acc x) k i o (by simpa using h) (by rw [hs, show acc.size + 1 + k = acc.size + (k + 1) by omega]; exact hb)
    rw [hs] at this
    obtain ⟨e, h1, h2, h3⟩ := this
    refine ⟨e, h1, h2, ?_⟩
    rcases h3 with h3 | ⟨h3, h4⟩
    · exact .inl h3
    · exact .inr ⟨by omega, by rw [List.foldl_cons]; exact h4⟩

/-- what is done is closed -/
def Closed (ops : Array Oper) (L : List Bool) : Prop := ∀ i j, L.getD j false = true → ordB (Region.before ops) i j = true → L.getD i false = true

theorem closed_all {ops : Array Oper} {L : List Bool} {j : Nat} {o : Oper} (hc : Closed ops L) (ho : ops[j]? = some o) (hb : ∀ e ∈ o.after, Region.binds .any e = true → L.getD e.on false = true) {i : Nat}
    (h : ordB (Region.before ops) i j = true) : L.getD i false = true := by
  have h' : ((ops.toList.foldl befStep #[]).getD (0 + j) 0).testBit i = true := by
    unfold ordB at h
    rw [before_eq] at h
    rw [Nat.zero_add]; exact h
  obtain ⟨e, h1, h2, h3⟩ := bef_bit ops.toList #[] j i o (by simpa using ho) (by simpa using h')
  have he := hb e h1 h2
  rcases h3 with rfl | ⟨_, h4⟩
  · exact he
  · refine hc i e.on he ?_
    unfold ordB
    rw [before_eq]
    exact h4
theorem closed_set {ops : Array Oper} {L : List Bool} {j : Nat} {o : Oper} (hc : Closed ops L) (ho : ops[j]? = some o) (hb : ∀ e ∈ o.after, Region.binds .any e = true → L.getD e.on false = true) : Closed ops (L.set j true) := by
  have up : ∀ i, L.getD i false = true → (L.set j true).getD i false = true := by
    intro i hi
    rw [List.getD_eq_getElem?_getD] at hi ⊢
    rw [List.getElem?_set]
    split
    · split
      · rfl
      · rename_i h1 h2; subst h1; rw [List.getElem?_eq_none (by omega)] at hi; simp at hi
    · exact hi
  intro i k hk hik
  by_cases hkj : k = j
  · subst hkj; exact up i (closed_all hc ho hb hik)
  · have : L.getD k false = true := by
      rw [List.getD_eq_getElem?_getD] at hk ⊢
      rw [List.getElem?_set_ne (Ne.symm hkj)] at hk
      exact hk
    exact up i (hc i k this hik)
end Go.E

namespace Go.E

section
variable {P : Program} {X : Ctx} {r : Rec} {ops : Array Oper} {rd : Option Nat} {ts : List Stp} {S : Nat → ES} {A : Nat → Fr}

theorem StepOk.put {st : Stp} (h : StepOk P X r ops.toList rd st) : ∃ v a1, st.a' = put a1 st.o.dst v ∧ a1.tm = st.a.tm ∧ a1.nt = st.a.nt := by
  cases h with
  | skip hw => exact ⟨_, _, rfl, rfl, rfl⟩
  | big hw hb h => obtain ⟨_, h1, h2⟩ := one_frame h .nil; exact ⟨_, _, rfl, h1, h2⟩
  | loc hw hb h => exact ⟨_, _, rfl, rfl, rfl⟩

theorem getv_put (a : Fr) (dst : Option Tmp) (v : Value) (t : Nat) : getv (put a dst v).tm t = if dst = some t ∧ t < a.nt then v else getv a.tm t := by
  cases dst with
  | none => simp [E.put]
  | some d =>
    unfold E.put
    simp only
    cases hd : d.blt a.nt with
    | true =>
      have hd' : d < a.nt := by simpa using hd
      simp only [cond_true]
      rw [getv_upd]
      by_cases h : t = d
      · subst h; simp [hd']
      · have : ¬ (some d = some t ∧ t < a.nt) := fun hh => h (Option.some.inj hh.1).symm
        rw [if_neg h, if_neg this]
    | false =>
      have hd' : ¬ d < a.nt := by intro h; have : d.blt a.nt = true := by simpa using h
                                  rw [hd] at this; cases this
      simp only [cond_false]
      have : ¬ (some d = some t ∧ t < a.nt) := by intro ⟨h1, h2⟩; cases h1; exact hd' h2
      rw [if_neg this]
theorem put_nt (a : Fr) (dst : Option Tmp) (v : Value) : (put a dst v).nt = a.nt := by
  cases dst with
  | none => rfl
  | some d => unfold E.put; simp only; cases d.blt a.nt <;> rfl

/-- the temporaries, where the places in 'L' are done -/
def TmInv (ts : List Stp) (A : Nat → Fr) (L : List Bool) (tm : Tr Value) : Prop :=
  ∀ t m, m ≤ ts.length → (∀ i st, ts[i]? = some st → st.o.dst = some t → (L.getD i false = true ↔ i < m)) → getv tm t = getv (A m).tm t

/-- writers of the same, or a writer and a reader, are ordered -/
theorem not_apart_w {x y : Oper} {l : List Oper} {t : Nat} (hx : x.dst = some t) (hy : y.dst = some t) : freeOk l x y = false := by
  unfold freeOk apartO
  rw [hx, hy]
  simp
theorem not_apart_r {x y : Oper} {l : List Oper} {t : Nat} (hx : x.dst = some t) (hy : t ∈ useOf l y) : freeOk l x y = false := by
  unfold freeOk apartO
  rw [hx]
  simp [hasN_iff.2 hy]
theorem not_apart_r' {x y : Oper} {l : List Oper} {t : Nat} (hy : y.dst = some t) (hx : t ∈ useOf l x) : freeOk l x y = false := by
  unfold freeOk apartO
  rw [hy]
  simp [hasN_iff.2 hx]

structure Ctxt (P : Program) (X : Ctx) (r : Rec) (ops : Array Oper) (rd : Option Nat) (ts : List Stp) (S : Nat → ES) (A : Nat → Fr) : Prop where
  pl : Places P X r ops.toList rd ts S A
  eqo : ts.map (·.o) = ops.toList
  ok : dOk2 ops.toList (Region.before ops) 0 ops.toList = true

theorem Ctxt.op (h : Ctxt P X r ops rd ts S A) {i : Nat} {st : Stp} (hi : ts[i]? = some st) : ops.toList[i]? = some st.o := by
  rw [← h.eqo]; simp [hi]
theorem Ctxt.pair (h : Ctxt P X r ops rd ts S A) {i j : Nat} {x y : Stp} (hi : ts[i]? = some x) (hj : ts[j]? = some y) (hlt : i < j) (hf : freeOk ops.toList x.o y.o = false) : ordB (Region.before ops) i j = true := by
  rcases dOk_pair h.ok (h.op hi) (h.op hj) hlt with h1 | h1
  · exact h1
  · rw [hf] at h1; cases h1

/-- what the operation at a ready place reads is what the run in the text's order has read -/
theorem tm_read (h : Ctxt P X r ops rd ts S A) {L : List Bool} {tm : Tr Value} (hinv : TmInv ts A L tm) (hc : Closed ops L) {j : Nat} {st : Stp} (hj : ts[j]? = some st) (hLj : ¬ L.getD j false = true)
    (hpred : ∀ i, ordB (Region.before ops) i j = true → L.getD i false = true) : ∀ t ∈ useOf ops.toList st.o, getv tm t = getv (A j).tm t := by
  intro t ht
  have hlt : j < ts.length := (List.getElem?_eq_some_iff.1 hj).1
  refine hinv t j (by omega) fun i x hi hd => ⟨fun hL => ?_, fun hij => ?_⟩
  · by_cases h1 : i < j
    · exact h1
    · exfalso
      by_cases h2 : i = j
      · subst h2; exact hLj hL
      · exact hLj (hc j i hL (h.pair hj hi (by omega) (not_apart_r' hd ht)))
  · exact hpred i (h.pair hi hj hij (not_apart_r hd ht))

theorem tm_step (h : Ctxt P X r ops rd ts S A) {L : List Bool} {tm : Tr Value} (hinv : TmInv ts A L tm) (hc : Closed ops L) {j : Nat} {st : Stp} (hj : ts[j]? = some st) (hLj : ¬ L.getD j false = true) (hlen : L.length = ts.length)
    (hpred : ∀ i, ordB (Region.before ops) i j = true → L.getD i false = true) {v : Value} {a1 : Fr} (ha : st.a' = put a1 st.o.dst v) (ht1 : a1.tm = st.a.tm) {aD : Fr} (hD : aD.tm = tm) (hnt : aD.nt = a1.nt) :
    TmInv ts A (L.set j true) (put aD st.o.dst v).tm := by
  have hlt : j < ts.length := (List.getElem?_eq_some_iff.1 hj).1
  obtain ⟨p1, p2, p3, p4, _⟩ := h.pl.at_ j st hj
  have hset : ∀ i, (L.set j true).getD i false = true ↔ (i = j ∨ L.getD i false = true) := by
    intro i
    rw [List.getD_eq_getElem?_getD, List.getD_eq_getElem?_getD, List.getElem?_set]
    by_cases hij : j = i
    · subst hij; simp [hlen, hlt]
    · rw [if_neg hij]; simp [Ne.symm hij]
  intro t m hm hw
  by_cases hd : st.o.dst = some t
  · have hjm : j < m := (hw j st hj hd).1 ((hset j).2 (.inl rfl))
    -- nobody else writes it between
    have hno : ∀ k, k ≤ m - (j + 1) → getv (A (j + 1 + k)).tm t = getv (A (j + 1)).tm t := by
      intro k
      induction k with
      | zero => intro _; rfl
      | succ k ih =>
        intro hk
        have hk1 : j + 1 + k < ts.length := by omega
        have hx : ts[j + 1 + k]? = some ts[j + 1 + k] := by simp [hk1]
        obtain ⟨q1, q2, q3, q4, q5⟩ := h.pl.at_ _ _ hx
        obtain ⟨v', a2, e1, e2, e3⟩ := q5.put
        rw [show j + 1 + (k + 1) = j + 1 + k + 1 by omega, ← q4, e1, getv_put]
        have hnd : ¬ (ts[j + 1 + k].o.dst = some t) := by
          intro hdd
          have := (hw _ _ hx hdd).2 (by omega)
          rcases (hset _).1 this with h1 | h1
          · omega
          · exact hLj (hc j _ h1 (h.pair hj hx (by omega) (not_apart_w hd hdd)))
        rw [if_neg (fun hh => hnd hh.1), e2, q2]
        exact ih (by omega)
    have h2 := hno (m - (j + 1)) (Nat.le_refl _)
    rw [show j + 1 + (m - (j + 1)) = m by omega] at h2
    rw [h2, ← p4, ha, getv_put, getv_put, hnt, hD, ht1, p2]
    have hold : getv tm t = getv (A j).tm t := by
      refine hinv t j (by omega) fun i x hi hdi => ⟨fun hL => ?_, fun hij => hpred i (h.pair hi hj hij (not_apart_w hdi hd))⟩
      by_cases h1 : i < j
      · exact h1
      · exfalso
        by_cases h3 : i = j
        · subst h3; exact hLj hL
        · exact hLj (hc j i hL (h.pair hj hi (by omega) (not_apart_w hd hdi)))
    rw [hold]
  · rw [getv_put, if_neg (fun hh => hd hh.1), hD]
    refine hinv t m hm fun i x hi hdi => ?_
    have hij : i ≠ j := by intro hh; subst hh; rw [hj] at hi; cases hi; exact hd hdi
    rw [← hw i x hi hdi, hset]
    simp [hij]
end
end Go.E

namespace Go.E

section
variable {P : Program} {X : Ctx} {r : Rec} {ops : List Oper} {rd : Option Nat} {ts : List Stp} {S : Nat → ES} {A : Nat → Fr}

/-- what one place leaves as it was -/
theorem StepOk.keep (hl : LogR r) {st : Stp} (h : StepOk P X r ops rd st) {n : Nat} (hm : ¬ (st.rc.lo ≤ n ∧ n < st.rc.hi)) (hb : st.rc.big = true → n ∉ st.rc.ns) : st.s'.st.get n = st.s.st.get n := by
  cases h with
  | skip hw => rfl
  | big hw hbig h =>
    rename_i o a a1 s s1 v
    have h1 := one_log (P := P) (X := X) hl rd a o (evalO a.tm) { s with lg := [] }
    rw [h] at h1
    obtain ⟨q1, L, q2, q3⟩ := h1
    simp only at hm hb q1 q2 q3 ⊢
    refine q3 n (by omega) ?_
    have := hb trivial
    rw [q2] at this
    simpa using this
  | loc hw hbig h =>
    rename_i o a s s1 v
    obtain ⟨⟨e1, e2, e3⟩, _⟩ := loc_eop (P := P) (X := X) (evalO a.tm) o hbig s s _ s1 (fun _ _ => rfl) rfl h
    simp only at hm ⊢
    exact e3 n (by omega)

theorem stable (hp : Places P X r ops rd ts S A) (hl : LogR r) {n i : Nat} : ∀ d, i + d ≤ ts.length →
    (∀ x st, ts[x]? = some st → i ≤ x → x < i + d → ¬ (st.rc.lo ≤ n ∧ n < st.rc.hi) ∧ (st.rc.big = true → n ∉ st.rc.ns)) → (S (i + d)).st.get n = (S i).st.get n
  | 0, _, _ => rfl
  | d + 1, hd, h => by
    have hx : ts[i + d]? = some ts[i + d] := by simp [show i + d < ts.length by omega]
    obtain ⟨p1, p2, p3, p4, p5⟩ := hp.at_ _ _ hx
    obtain ⟨h1, h2⟩ := h _ _ hx (by omega) (by omega)
    have hk := p5.keep hl h1 h2
    rw [p3, p1] at hk
    rw [show i + (d + 1) = i + d + 1 by omega, hk]
    exact stable hp hl d (by omega) fun x st hx h1 h2 => h x st hx h1 (by omega)
end
end Go.E

