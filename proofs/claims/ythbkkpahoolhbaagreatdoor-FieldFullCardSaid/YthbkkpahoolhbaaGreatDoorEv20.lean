import Derived.Test.YthbkkpahoolhbaaGreatDoorEv19
set_option linter.unusedSimpArgs false
set_option linter.unusedVariables false
set_option linter.unusedSectionVars false
namespace Go.E.FF
open Go.Proofs Go.Maps Go.RowKit Go.Sort Go.Shelf

noncomputable def aKeys (g : FuncId) (m : Value) : EM Value :=
  match m with
  | .map _ => (enew (.kcell m)).bnd fun r => EM.ret (.func (.func g) ⟨[]⟩ ⟨[mkPtr r]⟩)
  | _ => bad "keys"
theorem wf_aKeys (g : FuncId) (m : Value) : Wf (aKeys g m) := by
  unfold aKeys
  split
  · exact wf_bnd (wf_enew _) fun _ => wf_ret _
  · exact wf_bad _
noncomputable def wmKeys (g : FuncId) : List Value → Option WM
  | [m] => some ⟨aKeys g m, wf_aKeys g m⟩
  | _ => none

/-- the functions with a summary of what they do to the heap -/
def kf : List (Nat × Nat) := [(26, 9), (64, 9)]
noncomputable def kh : FuncId → List Value → Option WM := fun f args => bif Nat.beq f 26 then wmKeys 69 args else bif Nat.beq f 64 then wmKeys 108 args else none

theorem keys_call {P : Program} {f g : FuncId} {t : TypeId} (hc : ∀ (mb : Option Nat) (W : World), Calls P f #[.map mb] W fun e w' => e = .returned (.func (.func g) #[] #[.pointer (some ⟨W.heap.size, 0, none⟩)]) ∧ w' = W.alloc (.cells #[.map mb] t))
    {μ : Ren} {s s' : ES} {w : World} {args args' : List Value} {m : WM} {v : Value} (hm : wmKeys g args = some m) (he : m.run s = .ok v s') (hst : St P μ s.st w) (hf : Free μ s.nx s'.nx) (ha : VRL P μ args args') :
    Calls P f ⟨args'⟩ w fun
    | .returned v', w' => ∃ μ', Nxt P μ s w μ' s' w' ∧ VR P μ' v v'
    | _, _ => False := by
  unfold wmKeys at hm
  split at hm
  · rename_i x
    simp only [Option.some.injEq] at hm
    subst hm
    cases ha with
    | cons h1 h2 =>
      cases h2
      rename_i x'
      simp only [aKeys] at he
      split at he
      · rename_i mb
        obtain ⟨r, s1, e1, e2⟩ := bnd_ok he
        unfold enew at e1
        simp only [Res.ok.injEq] at e1
        obtain ⟨rfl, rfl⟩ := e1
        simp only [EM.ret, Res.ok.injEq] at e2
        obtain ⟨rfl, rfl⟩ := e2
        have hx : ∃ mb', x' = .map mb' := by cases h1 <;> exact ⟨_, rfl⟩
        obtain ⟨mb', rfl⟩ := hx
        refine (hc mb' w).mono fun e w' h => ?_
        obtain ⟨rfl, rfl⟩ := h
        obtain ⟨μ', w2, b2, q1, q2, q3⟩ := sim_new (P := P) (μ := μ) (s := s) (w := w) (w' := w.alloc (.cells #[.map mb'] t)) (o := .kcell (.map mb)) (o' := .cells #[.map mb'] t) (pl := ⟨w.heap.size, 0, 1, 0⟩) (R := fun μ a b => VR P μ a b)
          (a := .func (.func g) ⟨[]⟩ ⟨[mkPtr s.nx]⟩) (b := .func (.func g) ⟨[]⟩ ⟨[.pointer (some ⟨w.heap.size, 0, none⟩)]⟩) hst (hf _ (Nat.le_refl _) (Nat.lt_succ_self _)) rfl rfl rfl rfl rfl
          (fun μ' hs => ⟨rfl, .map mb', t, _, rfl, h1.sub hs⟩) (fun μ' hs hn => .func g .nil (.cons (by
            have : (⟨w.heap.size, 0, none⟩ : Addr) = ⟨(⟨w.heap.size, 0, 1, 0⟩ : Pl).b, (⟨w.heap.size, 0, 1, 0⟩ : Pl).base + (⟨s.nx, 0, none⟩ : Addr).off, none⟩ := rfl
            rw [this]
            exact .ptr hn rfl) .nil))
        simp only [Result.ok.injEq] at q1
        obtain ⟨rfl, rfl⟩ := q1
        exact ⟨μ', q2, q3⟩
      · cases he
  · cases hm

theorem maps_Keys_26 (mb : Option Nat) (W : World) : Calls Tryz.prog 26 #[.map mb] W fun e w' => e = .returned (.func (.func 69) #[] #[.pointer (some ⟨W.heap.size, 0, none⟩)]) ∧ w' = W.alloc (.cells #[.map mb] 39) :=
  callsIn_wide.1 (AnyZ.keys_in Tryz.keys26 Fence.wide 5 trivial rfl mb W)
theorem maps_Keys_64 (mb : Option Nat) (W : World) : Calls Tryz.prog 64 #[.map mb] W fun e w' => e = .returned (.func (.func 108) #[] #[.pointer (some ⟨W.heap.size, 0, none⟩)]) ∧ w' = W.alloc (.cells #[.map mb] 92) :=
  callsIn_wide.1 (AnyZ.keys_in Tryz.keys64 Fence.wide 5 trivial rfl mb W)

theorem sorted_call {g : FuncId} (eg : ∀ args w, (callFunc g args).run Tryz.prog w = .ok (.enter g args) w) (S : List (List UInt8) → Prop) (N : Nat) (hN : N ≤ maxLen) (hNb : N * 16 ≤ 140737488355328) (lb : Array Value) (w : World) (hseq : SeqGives Fence.wide 2 Tryz.prog g lb encStr S N w) :
    Calls Tryz.prog 25 #[.func (.func g) #[] lb] w fun e w' => ∃ (v : Value) (ss : List (List UInt8)), e = .returned v ∧ S ss ∧
        w'.ownsRow w.heap.size 9 1 v ss.length ((ss.mergeSort (fun x y => decide (x ≤ y))).map encStr) ∧ (v = .slice none 0 0 ↔ ss = []) ∧ Below w.heap.size w w' :=
  callsIn_wide.1 (AnyZ.sorted_in Tryz.sorted25 Fence.wide 5 trivial trivial trivial trivial rfl (by omega) (Tryz.sorts25 _) (enters_of Tryz.func68 (by kernel_rfl) rfl) g lb trivial eg S N hN hNb w hseq)

theorem elem25 {e : TypeId} (h : elemOf Tryz.prog 25 = some e) : e = 9 := by
  have : elemOf Tryz.prog 25 = some 9 := by kernel_rfl
  rw [this] at h
  simpa using h.symm
theorem und9 : Tryz.prog.underlying 9 = some .string := by kernel_rfl
theorem cells9 : Tryz.prog.cellsOf 9 = 1 := by kernel_rfl

theorem look7 {f : Nat} {more : List (Nat × Nat)} (hm : (more.all fun p => p.2.beq 8 || p.2.beq 9) = true) (h : xk more f = 7) : f = 69 ∨ f = 108 := by
  have key : ∀ (l : List (Nat × Nat)), (l.all fun p => p.2.beq 8 || p.2.beq 9) = true → lookN f l ≠ 7 := by
    intro l
    induction l with
    | nil => intro _ h; cases h
    | cons p l ih =>
      intro hl
      obtain ⟨g, k⟩ := p
      simp only [List.all_cons, Bool.and_eq_true, Bool.or_eq_true, Nat.beq_eq] at hl
      simp only [lookN]
      cases g.beq f with
      | true => rcases hl.1 with h | h <;> simp [h]
      | false => exact ih hl.2
  have hx : ∀ {g : Nat}, g.beq f = true → f = g := fun h => (Nat.eq_of_beq_eq_true h).symm
  unfold xk base at h
  simp only [List.cons_append, List.nil_append, lookN] at h
  cases e1 : Nat.beq 252 f <;> simp only [e1, cond_false, cond_true] at h
  · cases e2 : Nat.beq 317 f <;> simp only [e2, cond_false, cond_true] at h
    · cases e3 : Nat.beq 377 f <;> simp only [e3, cond_false, cond_true] at h
      · cases e4 : Nat.beq 71 f <;> simp only [e4, cond_false, cond_true] at h
        · cases e5 : Nat.beq 372 f <;> simp only [e5, cond_false, cond_true] at h
          · cases e6 : Nat.beq 25 f <;> simp only [e6, cond_false, cond_true] at h
            · cases e7 : Nat.beq 69 f <;> simp only [e7, cond_false, cond_true] at h
              · cases e8 : Nat.beq 108 f <;> simp only [e8, cond_false, cond_true] at h
                · exact absurd h (key more hm)
                · exact .inr (hx e8)
              · exact .inl (hx e7)
            · cases h
          · cases h
        · cases h
      · cases h
    · cases h
  · cases h
theorem look6 {f : Nat} {more : List (Nat × Nat)} (hm : (more.all fun p => p.2.beq 8 || p.2.beq 9) = true) (h : xk more f = 6) : f = 25 := by
  have key : ∀ (l : List (Nat × Nat)), (l.all fun p => p.2.beq 8 || p.2.beq 9) = true → lookN f l ≠ 6 := by
    intro l
    induction l with
    | nil => intro _ h; cases h
    | cons p l ih =>
      intro hl
      obtain ⟨g, k⟩ := p
      simp only [List.all_cons, Bool.and_eq_true, Bool.or_eq_true, Nat.beq_eq] at hl
      simp only [lookN]
      cases g.beq f with
      | true => rcases hl.1 with h | h <;> simp [h]
      | false => exact ih hl.2
  have hx : ∀ {g : Nat}, g.beq f = true → f = g := fun h => (Nat.eq_of_beq_eq_true h).symm
  unfold xk base at h
  simp only [List.cons_append, List.nil_append, lookN] at h
  cases e1 : Nat.beq 252 f <;> simp only [e1, cond_false, cond_true] at h
  · cases e2 : Nat.beq 317 f <;> simp only [e2, cond_false, cond_true] at h
    · cases e3 : Nat.beq 377 f <;> simp only [e3, cond_false, cond_true] at h
      · cases e4 : Nat.beq 71 f <;> simp only [e4, cond_false, cond_true] at h
        · cases e5 : Nat.beq 372 f <;> simp only [e5, cond_false, cond_true] at h
          · cases e6 : Nat.beq 25 f <;> simp only [e6, cond_false, cond_true] at h
            · cases e7 : Nat.beq 69 f <;> simp only [e7, cond_false, cond_true] at h
              · cases e8 : Nat.beq 108 f <;> simp only [e8, cond_false, cond_true] at h
                · exact absurd h (key more hm)
                · cases h
              · cases h
            · exact hx e6
          · cases h
        · cases h
      · cases h
    · cases h
  · cases h

/-- what E leans on: the keys, and the summaries at hand -/
theorem sum_ok {more : List (Nat × Nat)} {m : FuncId → List Value → Option Value} {h : FuncId → List Value → Option WM} (hm : (more.all fun p => p.2.beq 8 || p.2.beq 9) = true)
    (hsum : ∀ f args v, m f args = some v → plainL args = true → plain v = true → Sum Tryz.prog f args v)
    (hheap : ∀ f args wm, h f args = some wm → ∀ (μ : Ren) (s : ES) (w : World) (args' : List Value) (v : Value) (s' : ES), wm.run s = .ok v s' → St Tryz.prog μ s.st w → Free μ s.nx s'.nx →
      VRL Tryz.prog μ args args' → Calls Tryz.prog f ⟨args'⟩ w fun
      | .returned v', w' => ∃ μ', Nxt Tryz.prog μ s w μ' s' w' ∧ VR Tryz.prog μ' v v'
      | _, _ => False) : SumOk Tryz.prog ⟨xk more, m, h⟩ := by
  refine ⟨fun f args v _ h1 h2 h3 => hsum f args v h1 h2 h3, fun f g e h6 h7 he μ s w a a' v s' hk hst hf ha => ?_, fun f args wm _ h1 => hheap f args wm h1⟩
  obtain rfl := look6 hm h6
  obtain rfl := elem25 he
  rcases look7 hm h7 with rfl | rfl
  · exact keys_contract und9 cells9 (fun Bm b nn D0 w hB hc hown => AnyZ.keys_gives (ρ := Tryz.keys26_ren) { Tryz.keys26 with } Fence.wide _ trivial rfl (by omega) Bm b nn D0 _ hB hc hown)
      (fun Bm w hB hc => AnyZ.keys_gives_nil (ρ := Tryz.keys26_ren) { Tryz.keys26 with } Fence.wide _ trivial rfl Bm _ hB hc) (sorted_call (enters_of Tryz.func69 (by kernel_rfl) rfl)) he hk hst hf ha
  · exact keys_contract und9 cells9 (fun Bm b nn D0 w hB hc hown => AnyZ.keys_gives (ρ := Tryz.keys64_ren) { Tryz.keys64 with } Fence.wide _ trivial rfl (by omega) Bm b nn D0 _ hB hc hown)
      (fun Bm w hB hc => AnyZ.keys_gives_nil (ρ := Tryz.keys64_ren) { Tryz.keys64 with } Fence.wide _ trivial rfl Bm _ hB hc) (sorted_call (enters_of Tryz.func108 (by kernel_rfl) rfl)) he hk hst hf ha

theorem kh_ok : ∀ f args wm, kh f args = some wm → ∀ (μ : Ren) (s : ES) (w : World) (args' : List Value) (v : Value) (s' : ES), wm.run s = .ok v s' → St Tryz.prog μ s.st w → Free μ s.nx s'.nx →
      VRL Tryz.prog μ args args' → Calls Tryz.prog f ⟨args'⟩ w fun
      | .returned v', w' => ∃ μ', Nxt Tryz.prog μ s w μ' s' w' ∧ VR Tryz.prog μ' v v'
      | _, _ => False := by
  intro f args wm h μ s w args' v s' he hst hf ha
  unfold kh at h
  cases e1 : Nat.beq f 26 with
  | true =>
    rw [e1] at h
    obtain rfl := Nat.eq_of_beq_eq_true e1
    exact keys_call maps_Keys_26 h he hst hf ha
  | false =>
    rw [e1] at h
    simp only [cond_false] at h
    cases e2 : Nat.beq f 64 with
    | true =>
      rw [e2] at h
      obtain rfl := Nat.eq_of_beq_eq_true e2
      exact keys_call maps_Keys_64 h he hst hf ha
    | false => rw [e2] at h; cases h

/-- no summary yet -/
noncomputable def X0 : Ctx := ⟨xk kf, fun _ _ => none, kh⟩
theorem x0 : CtxOk Tryz.prog X0 := ctx_ok (by kernel_rfl)
theorem s0_ok : SumOk Tryz.prog X0 := sum_ok (by kernel_rfl) (fun _ _ _ h => by cases h) kh_ok
end Go.E.FF

