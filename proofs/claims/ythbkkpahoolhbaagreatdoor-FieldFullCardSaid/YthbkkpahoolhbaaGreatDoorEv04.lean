import Derived.Test.YthbkkpahoolhbaaGreatDoorEv03
import Derived.Laws.Tables
set_option linter.unusedSimpArgs false
set_option linter.unusedVariables false
set_option linter.unusedSectionVars false
namespace Go.E

/-! ### operations, side by side -/
inductive NR (P : Program) (X : Ctx) (μ : Ren) : ENext → Next → Prop
  | val {v v' : Value} (h : VR P μ v v') : NR P X μ (.val v) (.value v')
  | skip : NR P X μ .skip .skip
  | enter (f : FuncId) {a a' : List Value} (h : VRL P μ a a') : NR P X μ (.enter f a) (.enter f ⟨a'⟩)
  | done (f : FuncId) {a : List Value} {v : Value} (hx : X.x f = 8) (hm : X.m f a = some v) (ha : plainL a = true) (hv : plain v = true) : NR P X μ (.done f a v) (.enter f ⟨a⟩)
  | keys (f g : FuncId) {a : Addr} {a' : Value} (h6 : X.x f = 6) (h7 : X.x g = 7) (h : VR P μ (.pointer (some a)) a') : NR P X μ (.keys f g a) (.enter f ⟨[.func (.func g) ⟨[]⟩ ⟨[a']⟩]⟩)
  | heap (f : FuncId) {a a' : List Value} {m : WM} (hx : X.x f = 9) (hm : X.h f a = some m) (h : VRL P μ a a') : NR P X μ (.heap f a m) (.enter f ⟨a'⟩)
  | round {l : Nat} {pl : Pl} (hl : μ l = some pl) {nt : Nat} {tm : Tr Value} {tmps : Array Value} (ht : TR P μ nt tm tmps) (fn : FuncId) (hf : ∃ g, P.funcs[fn]? = some g) (assign body : Code) :
      NR P X μ (.round l nt tm assign body) (.round pl.b fn tmps assign body)
  | defer {d d' : Deferred} (h : DRel P μ d d') : NR P X μ (.defer d) (.defer d')
  | recover : NR P X μ .recover .recover

def OpSim (P : Program) (X : Ctx) (μ : Ren) (s : ES) (w : World) (e : Res ENext) (m : Result Next) : Prop :=
  ∀ nx s', e = .ok nx s' → Free μ s.nx s'.nx → St P μ s.st w →
    (∃ v v', nx = .panic v ∧ s' = s ∧ VR P μ v v' ∧ m = .halt (.panic v') w) ∨ (∃ μ' w' nx', m = .ok nx' w' ∧ Nxt P μ s w μ' s' w' ∧ NR P X μ' nx nx')

section
variable {P : Program} {X : Ctx} {μ : Ren} {s : ES} {w : World}
theorem OpSim.of_sim {e : Res ENext} {m : Result Next} (h : Sim P μ s w (NR P X) e m) : OpSim P X μ s w e m := by
  intro nx s' he hf hst
  obtain ⟨μ', w', b, h1, h2, h3⟩ := h nx s' he hf hst
  exact .inr ⟨μ', w', b, h1, h2, h3⟩
theorem OpSim.bad (y : String) (m : Result Next) : OpSim P X μ s w (.bad y) m := by intro a s' h; cases h

theorem wf_vl {m : EM Value} (h : Wf m) : Wf (vl m) := wf_bnd h fun _ => wf_ret _
theorem wf_vo (y : String) (o : Option Value) : Wf (vo y o) := by unfold vo; cases o <;> first | exact wf_ret _ | exact wf_bad _

/-- 'v': a value handed on -/
theorem sim_vl {e : EM Value} {m : Sem Value} (he : Wf e) (h : Sim P μ s w (RV P) (e s) (m.run P w)) :
    Sim P μ s w (NR P X) (vl e s) ((do let a ← m; pure (Next.value a) : Sem Next).run P w) := by
  unfold vl
  rw [Sem.run_bind]
  exact h.bnd he (fun _ => wf_ret _) fun a s1 b μ1 w1 _ _ hr => Sim.ret (.val hr)
theorem sim_vo {o : Option Value} {m : Sem Value} (y : String) (h : ∀ v, o = some v → ∃ v', m.run P w = .ok v' w ∧ VR P μ v v') :
    Sim P μ s w (NR P X) (vo y o s) ((do let a ← m; pure (Next.value a) : Sem Next).run P w) := by
  unfold vo
  cases o with
  | none => exact Sim.bad _ _
  | some v =>
    obtain ⟨v', h1, h2⟩ := h v rfl
    simp only [Sem.run_bind, h1, Result.andThen_ok, Sem.run_pure]
    exact Sim.ret (.val h2)

/-! ### slices -/
theorem wf_eSliceU (n : Nat) (a : Addr) (len : Nat) (low high max : Option Value) : Wf (eSliceU n a len low high max) := by
  unfold eSliceU
  (repeat' first | exact wf_bad _ | exact wf_ret _ | exact wf_eget _ | exact wf_eset _ _ | exact wf_edel _ | exact wf_enew _ | exact wf_lift _ _ | refine wf_cond _ ?_ ?_ | refine wf_bnd ?_ fun _ => ?_ | split)
theorem wf_eSliceK (n : Nat) (a : Addr) (len k : Nat) (low high max : Option Value) : Wf (eSliceK n a len k low high max) := by
  unfold eSliceK
  (repeat' first | exact wf_bad _ | exact wf_ret _ | exact wf_eget _ | exact wf_eset _ _ | exact wf_edel _ | exact wf_enew _ | exact wf_lift _ _ | refine wf_cond _ ?_ ?_ | refine wf_bnd ?_ fun _ => ?_ | split)
theorem wf_eSlStr (x : ByteArray) (low high max : Option Value) : Wf (eSlStr x low high max) := by
  unfold eSlStr
  (repeat' first | exact wf_bad _ | exact wf_ret _ | exact wf_eget _ | exact wf_eset _ _ | exact wf_edel _ | exact wf_enew _ | exact wf_lift _ _ | refine wf_cond _ ?_ ?_ | refine wf_bnd ?_ fun _ => ?_ | split)
theorem wf_eSlNil (low high max : Option Value) : Wf (eSlNil low high max) := by
  unfold eSlNil
  (repeat' first | exact wf_bad _ | exact wf_ret _ | exact wf_eget _ | exact wf_eset _ _ | exact wf_edel _ | exact wf_enew _ | exact wf_lift _ _ | refine wf_cond _ ?_ ?_ | refine wf_bnd ?_ fun _ => ?_ | split)
theorem wf_eSlCap (e : TypeId) (n : Nat) (a : Addr) (len cap : Nat) (low high max : Option Value) : Wf (eSlCap e n a len cap low high max) := by
  unfold eSlCap eSlU
  (repeat' first | exact wf_bad _ | exact wf_eSliceU _ _ _ _ _ _ | exact wf_eSliceK _ _ _ _ _ _ _ | exact wf_ret _ | exact wf_eget _ | exact wf_eset _ _ | exact wf_edel _ | exact wf_enew _ | exact wf_lift _ _ | refine wf_cond _ ?_ ?_ | refine wf_bnd ?_ fun _ => ?_ | split)
theorem wf_eSlice (P : Program) (t : TypeId) (x : Value) (low high max : Option Value) : Wf (eSlice P t x low high max) := by
  unfold eSlice eSlice1
  (repeat' first | exact wf_bad _ | exact wf_eSlStr _ _ _ _ | exact wf_eSlNil _ _ _ | exact wf_eSlCap _ _ _ _ _ _ _ _ | exact wf_eSliceK _ _ _ _ _ _ _ | exact wf_ret _ | exact wf_eget _ | exact wf_eset _ _ | exact wf_edel _ | exact wf_enew _ | exact wf_lift _ _ | refine wf_cond _ ?_ ?_ | refine wf_bnd ?_ fun _ => ?_ | split)

theorem run_sliceAt_noArr {t : TypeId} {d : TypeDesc} (x : Value) (l h m : Option Value) (hu : und P t = some d) (hd : ∀ n e, d ≠ .array n e) :
    (Instr.sliceAt t x l h m).run P w = (Instr.slice t x l h m).run P w := by
  simp only [Instr.sliceAt, Sem.run_bind, run_und w hu, Result.andThen_ok]
  try (cases d <;> first | rfl | exact absurd rfl (hd _ _))

theorem sim_eSliceK {n len k : Nat} {a : Addr} {pl : Pl} {low high max low' high' max' : Option Value} (hp : μ a.block = some pl) (hs : a.spot = none)
    (hl : OV P μ low low') (hh : OV P μ high high') (hm : OV P μ max max') (hg : noGap high max = true) (hlen : len ≤ k) (isS : Bool) {m : Result Value}
    (hmr : ∀ l h m', (Instr.sliceBounds isS len k low' high' max').run P w = .ok (l, h, m') w → l ≤ h →
      m = .ok (.slice (some (if m' = l then ⟨pl.b, pl.base + a.off, none⟩ else ⟨pl.b, pl.base + a.off + l * n, none⟩)) (h - l) (m' - l)) w) :
    Sim P μ s w (RV P) (eSliceK n a len k low high max s) m := by
  unfold eSliceK
  cases e1 : bnd max k k with
  | none => exact Sim.bad _ _
  | some m1 =>
    cases e2 : bnd high len m1 with
    | none => simp only [e2]; exact Sim.bad _ _
    | some h1 =>
      cases e3 : bnd low 0 h1 with
      | none => simp only [e2, e3]; exact Sim.bad _ _
      | some l1 =>
        simp only [e2, e3]
        cases hb : !(h1.ble m1) with
        | true => exact Sim.bad _ _
        | false =>
          obtain ⟨m', r1, r2, r3, r4⟩ := run_bounds (P := P) (μ := μ) (w := w) (isS := isS) (cap := k) hl hh hm hg e1 e2 e3 (Nat.le_refl _) hlen
          have hm1 : m' = m1 := by
            by_cases hx : max = none
            · obtain ⟨h1, h2⟩ := r2 hx; omega
            · exact r3 hx
          subst hm1
          rw [hmr l1 h1 m' r1 r4]
          simp only [cond_false]
          have hle : h1 ≤ m' := by simpa using hb
          refine Sim.ret ?_
          by_cases he : m' = l1
          · subst he
            have := VR.slK (P := P) (μ := μ) (a := a) (len := h1 - m') (k := m' - m') hp hs (by omega)
            simpa using this
          · have hb2 : m'.beq l1 = false := by rw [← Bool.not_eq_true, Nat.beq_eq]; exact he
            simp only [he, if_false, hb2, cond_false]
            have := VR.slK (P := P) (μ := μ) (a := adda a (Nat.mul l1 n)) (len := h1 - l1) (k := m' - l1) hp rfl (by omega)
            simpa [adda, Nat.add_assoc] using this

theorem sim_eSlStr {t : TypeId} {x : ByteArray} {low high max low' high' max' : Option Value} (hu : und P t = some .string) (hl : OV P μ low low') (hh : OV P μ high high') (hm : OV P μ max max') :
    Sim P μ s w (RV P) (eSlStr x low high max s) ((Instr.slice t (.string x) low' high' max').run P w) := by
  unfold eSlStr
  show SimM P μ s w _ _ _
  split
  · rename_i h he
    split
    · rename_i l hle
      cases hm
      rw [bytes_length x] at he
      obtain ⟨m', r1, _, _, _⟩ := run_bounds (P := P) (μ := μ) (w := w) (isS := false) (cap := x.size) (y := x.size) (m := x.size) hl hh .none (by cases high <;> rfl) rfl he hle (Nat.le_refl _) (Nat.le_refl _)
      have : (Instr.slice t (.string x) low' high' none).run P w = .ok (.string (x.extract l h)) w := by
        simp [Instr.slice, run_und w hu, r1]
      rw [this, ← sub_eq]
      exact Sim.ret (.str _)
    · exact Sim.bad _ _
  · exact Sim.bad _ _

theorem sim_eSlNil {t e : TypeId} {n : Nat} {low high max low' high' max' : Option Value} (hu : und P t = some (.slice e)) (hn : siz P e = some n) (hg : noGap high max = true) (hl : OV P μ low low') (hh : OV P μ high high') (hm : OV P μ max max') :
    Sim P μ s w (RV P) (eSlNil low high max s) ((Instr.slice t (.slice none 0 0) low' high' max').run P w) := by
  unfold eSlNil
  show SimM P μ s w _ _ _
  split
  · rename_i m h l e1 e2 e3
    have q1 : m = 0 := by
      cases hm with
      | none => simpa [bnd] using e1.symm
      | some hv => have := (run_bnd (P := P) (w := w) e1 hv .sliceB).2; omega
    subst q1
    have q2 : h = 0 := by
      cases hh with
      | none => simpa [bnd] using e2.symm
      | some hv => have := (run_bnd (P := P) (w := w) e2 hv .sliceB).2; omega
    subst q2
    obtain ⟨m', r1, r2, r3, _⟩ := run_bounds (P := P) (μ := μ) (w := w) (isS := true) (cap := 0) (len := 0) (y := 0) hl hh hm hg e1 e2 e3 (Nat.le_refl _) (Nat.le_refl _)
    have hm' : m' = 0 := by
      by_cases hz : max = none
      · exact (r2 hz).1
      · exact r3 hz
    have hl0 : l = 0 := by
      cases hl with
      | none => simpa [bnd] using e3.symm
      | some hv => have := (run_bnd (P := P) (w := w) e3 hv .sliceB).2; omega
    have : (Instr.slice t (.slice none 0 0) low' high' max').run P w = .ok (.slice none 0 0) w := by
      simp [Instr.slice, run_und w hu, r1, run_siz w hn, hm', hl0]
    rw [this]; exact Sim.ret .slN
  · exact Sim.bad _ _

theorem sim_eSlU {t e : TypeId} {n len c : Nat} {a : Addr} {pl : Pl} {low high max low' high' max' : Option Value} (hu : und P t = some (.slice e)) (hn : siz P e = some n) (hp : μ a.block = some pl) (hs : a.spot = none)
    (hc1 : len ≤ c) (hc2 : a.off + c * P.cellsOf pl.elem ≤ pl.lim) (hg : noGap high max = true) (hl : OV P μ low low') (hh : OV P μ high high') (hm : OV P μ max max') :
    Sim P μ s w (RV P) (eSlU e n a len low high max s) ((Instr.slice t (.slice (some ⟨pl.b, pl.base + a.off, none⟩) len c) low' high' max').run P w) := by
  unfold eSlU
  refine sim_eget _ fun o ho => ?_
  intro v s' he hf hst
  obtain ⟨pl', o', p1, p2, p3⟩ := hst.obj _ _ ho
  rw [hp] at p1; cases p1
  revert he
  cases o with
  | cells cs e' =>
    simp only
    cases hee : e.beq e' with
    | false => simp [E.bad]
    | true =>
      have : e = e' := by simpa using hee
      subst this
      have hel : e = pl.elem := p3.1
      have hno : P.cellsOf pl.elem = n := by rw [← hel]; exact siz_cellsOf hn
      have hadd : ∀ l, (⟨pl.b, pl.base + a.off, none⟩ : Addr).add (l * n) = ⟨pl.b, pl.base + a.off + l * n, none⟩ := fun l => addr_add _ _ _
      simp only [cond_true]
      have key : Sim P μ s w (RV P) (eSliceU n a len low high max s) ((Instr.slice t (.slice (some ⟨pl.b, pl.base + a.off, none⟩) len c) low' high' max').run P w) := by
        unfold eSliceU
        cases e1 : bnd max len len with
        | none => exact Sim.bad _ _
        | some m1 =>
          cases e2 : bnd high len m1 with
          | none => simp only [e2]; exact Sim.bad _ _
          | some h1 =>
            cases e3 : bnd low 0 h1 with
            | none => simp only [e2, e3]; exact Sim.bad _ _
            | some l1 =>
              simp only [e2, e3]
              cases hb : !(h1.ble m1) with
              | true => exact Sim.bad _ _
              | false =>
                have hle : h1 ≤ m1 := by simpa using hb
                obtain ⟨m', r1, r2, r3, r4⟩ := run_bounds (P := P) (μ := μ) (w := w) (isS := true) (cap := c) hl hh hm hg e1 e2 e3 hc1 hc1
                have hrun : (Instr.slice t (.slice (some ⟨pl.b, pl.base + a.off, none⟩) len c) low' high' max').run P w =
                    .ok (.slice (some (if m' = l1 then ⟨pl.b, pl.base + a.off, none⟩ else ⟨pl.b, pl.base + a.off + l1 * n, none⟩)) (h1 - l1) (m' - l1)) w := by
                  simp only [Instr.slice, Sem.run_bind, run_und w hu, Result.andThen_ok, r1, run_siz w hn, Sem.run_pure]
                  congr 2
                  split
                  · rfl
                  · simp [hadd]
                rw [hrun]
                cases max with
                | none =>
                  obtain ⟨g1, g2⟩ := r2 rfl
                  subst g1
                  simp only [cond_false]
                  cases hlt : l1.blt len with
                  | false => exact Sim.bad _ _
                  | true =>
                    simp only [cond_true]
                    refine Sim.ret ?_
                    have hlt' : l1 < len := by simpa using hlt
                    rw [if_neg (by omega)]
                    have := VR.slU (P := P) (μ := μ) (a := adda a (Nat.mul l1 n)) (len := h1 - l1) (c := m' - l1) hp rfl (by omega) (by
                      simp only [adda, Nat.add_eq, Nat.mul_eq, hno] at hc2 ⊢
                      have : l1 * n + (m' - l1) * n = m' * n := by rw [← Nat.add_mul]; congr 1; omega
                      omega)
                    simpa [adda, Nat.add_assoc] using this
                | some mv =>
                  have g1 := r3 (by simp)
                  subst g1
                  simp only [cond_false]
                  refine Sim.ret ?_
                  by_cases hme : m' = l1
                  · subst hme
                    have := VR.slK (P := P) (μ := μ) (a := a) (len := h1 - m') (k := m' - m') hp hs (by omega)
                    simpa using this
                  · have hb2 : m'.beq l1 = false := by rw [← Bool.not_eq_true, Nat.beq_eq]; exact hme
                    simp only [hme, if_false, hb2, cond_false]
                    have := VR.slK (P := P) (μ := μ) (a := adda a (Nat.mul l1 n)) (len := h1 - l1) (k := m' - l1) hp rfl (by omega)
                    simpa [adda, Nat.add_assoc] using this
      intro he
      exact key v s' he hf hst
  | _ => simp [E.bad]

theorem sim_eSlice {t : TypeId} {x x' : Value} {low high max low' high' max' : Option Value} (hx : VR P μ x x') (hl : OV P μ low low') (hh : OV P μ high high') (hm : OV P μ max max') :
    Sim P μ s w (RV P) (eSlice P t x low high max s) ((Instr.sliceAt t x' low' high' max').run P w) := by
  unfold eSlice
  cases hg : noGap high max with
  | false => exact Sim.bad _ _
  | true =>
    simp only [cond_true]
    unfold eSlice1
    show SimM P μ s w _ _ _
    split
    · rename_i str hu
      rw [hx.str_inv, run_sliceAt_noArr _ _ _ _ hu (by intro n e; simp)]
      exact sim_eSlStr hu hl hh hm
    · rename_i e n c hu
      cases hx
      rw [run_sliceAt_noArr _ _ _ _ hu (by intro n e; simp)]
      split
      · rename_i k hk
        exact sim_eSlNil hu hk hg hl hh hm
      · exact Sim.bad _ _
    · rename_i e a len cap hu
      obtain ⟨pl, c, hp, hs, rfl, hcap⟩ := hx.slice_inv
      rw [run_sliceAt_noArr _ _ _ _ hu (by intro n e; simp)]
      split
      · rename_i n hn
        unfold eSlCap
        show SimM P μ s w _ _ _
        split
        · rcases hcap with ⟨hk, _⟩ | ⟨_, hc1, hc2⟩
          · omega
          · exact sim_eSlU hu hn hp hs hc1 hc2 hg hl hh hm
        · rename_i k
          rcases hcap with ⟨hk, hlk⟩ | ⟨hk, _⟩
          · have : c = k := by omega
            subst this
            refine sim_eSliceK hp hs hl hh hm hg hlk true fun l h m' r1 r4 => ?_
            simp only [Instr.slice, Sem.run_bind, run_und w hu, Result.andThen_ok, r1, run_siz w hn, Sem.run_pure]
            congr 2
            split
            · rfl
            · simp [addr_add]
          · omega
      · exact Sim.bad _ _
    · rename_i k e a hu
      obtain ⟨pl, hp, hs, rfl⟩ := hx.ptr_inv
      split
      · rename_i n hn
        refine sim_eSliceK hp hs hl hh hm hg (Nat.le_refl _) false fun l h m' r1 r4 => ?_
        simp only [Instr.sliceAt, Sem.run_bind, run_und w hu, Result.andThen_ok, Instr.sureAddr, Sem.run_pure, r1, run_siz w hn]
        congr 2
        split
        · rfl
        · simp [addr_add]
      · exact Sim.bad _ _
    · exact Sim.bad _ _
end
end Go.E

namespace Go.E

section
variable {P : Program} {μ : Ren} {s : ES} {w : World}

/-! ### operators -/
theorem guard_body {op : BinOp} {t : TypeId} {x y : Operand} {a b a' b' : Value} (hg : guardOk P x y t a b = true) (ha : VR P μ a a') (hb : VR P μ b b') (ja : a ≠ E.junk) (jb : b ≠ E.junk) :
    (eqGuard op t x y a' b').run P w = .ok () w := by
  have e1 : a' = .nilIface → a = .nilIface := by
    intro h; subst h; cases ha with
    | junk => exact absurd rfl ja
    | nilIface => rfl
  have e2 : b' = .nilIface → b = .nilIface := by
    intro h; subst h; cases hb with
    | junk => exact absurd rfl jb
    | nilIface => rfl
  have e3 : ∀ c, a' = .agg c → ∃ c, a = .agg c := by
    intro c h; subst h; cases ha with
    | junk => exact absurd rfl ja
    | agg => exact ⟨_, rfl⟩
  have e4 : ∀ c, b' = .agg c → ∃ c, b = .agg c := by
    intro c h; subst h; cases hb with
    | junk => exact absurd rfl jb
    | agg => exact ⟨_, rfl⟩
  have hop : op = .eql ∨ op = .neq ∨ (eqGuard op t x y a' b').run P w = .ok () w := by
    cases op <;> first | exact .inl rfl | exact .inr (.inl rfl) | exact .inr (.inr rfl)
  have key : ∀ op, (op = .eql ∨ op = .neq) → (eqGuard op t x y a' b').run P w = .ok () w := by
    intro op ho
    have : eqGuard op t x y a' b' = eqGuard .eql t x y a' b' := by rcases ho with rfl | rfl <;> rfl
    rw [this]
    unfold eqGuard
    simp only [Bool.not_true, Bool.false_eq_true, if_false]
    split
    · rw [e1 rfl, e2 rfl] at hg
      cases x <;> cases y <;> first | rfl | (simp [guardOk] at hg)
    · obtain ⟨c, rfl⟩ := e3 _ rfl
      obtain ⟨d, rfl⟩ := e4 _ rfl
      have hg' : (!(P.eqGuardType P.depth t)) = true := hg
      simp only [Sem.run_bind, run_program, Result.andThen_ok, Sem.run_ite]
      rw [if_pos hg']
      rfl
    · rfl
  rcases hop with h | h | h
  · exact key op (.inl h)
  · exact key op (.inr h)
  · exact h

theorem eeq_junk {d : Nat} {t : TypeId} {x y : Value} {r : Bool} (h : eeq P d t x y = some r) : x ≠ E.junk ∧ y ≠ E.junk := by
  cases d with
  | zero => simp [eeq] at h
  | succ d =>
    unfold eeq at h
    constructor <;> (intro hj; subst hj; revert h; unfold E.junk; (split <;> simp_all))

theorem eInt_res {op : BinOp} {k : IntKind} {a b : Int} {v : Value} (h : eInt op k a b = some v) : VR P μ v v := by
  unfold eInt eBits at h
  cases op <;> simp only [reduceCtorEq] at h <;>
    first
    | (cases h; first | exact .int _ _ | exact .bool _)
    | (revert h; cases ieq b 0 <;> intro h <;> cases h <;> exact .int _ _)
    | (revert h; cases (ile 0 a && ile 0 b && ile a (hi k) && ile b (hi k)) <;> intro h <;> cases h <;> exact .int _ _)
theorem eShift_res {op : BinOp} {k : IntKind} {a b : Int} {v : Value} (h : eShift op k a b = some v) : VR P μ v v := by
  unfold eShift at h
  revert h
  cases ile 0 b <;> intro h
  · cases h
  · revert h; cases op <;> intro h <;> cases h <;> exact .int _ _
theorem eStr_res {op : BinOp} {a b : ByteArray} {v : Value} (h : eStr op a b = some v) : VR P μ v v := by
  unfold eStr at h
  cases op <;> simp only [reduceCtorEq] at h <;>
    first
    | (cases h; first | exact .str _ | exact .bool _)
    | (revert h; cases ((bytes a).length.add (bytes b).length).ble 4611686018427387904 <;> intro h <;> cases h <;> exact .str _)

theorem binOp_string {op : BinOp} {t : TypeId} {a b : ByteArray} : binOp op t (.string a) (.string b) = Op.stringOp op a b := by
  cases op <;> rfl

theorem binOp_eql {t : TypeId} {a b : Value} (h : ∀ k x k' y, ¬ (a = .int k x ∧ b = .int k' y)) (h2 : ∀ x y, ¬ (a = .string x ∧ b = .string y))
    (h3 : ∀ k x k' y, ¬ (a = .float k x ∧ b = .float k' y)) (h4 : ∀ k x x2 k' y y2, ¬ (a = .complex k x x2 ∧ b = .complex k' y y2)) :
    binOp .eql t a b = (do pure (.bool (← Op.equal t a b)) : Sem Value) := by
  unfold binOp
  split <;> first | (simp_all; done) | exact (h _ _ _ _ ⟨rfl, rfl⟩).elim | exact (h2 _ _ ⟨rfl, rfl⟩).elim | exact (h3 _ _ _ _ ⟨rfl, rfl⟩).elim | exact (h4 _ _ _ _ _ _ ⟨rfl, rfl⟩).elim
theorem binOp_neq {t : TypeId} {a b : Value} (h : ∀ k x k' y, ¬ (a = .int k x ∧ b = .int k' y)) (h2 : ∀ x y, ¬ (a = .string x ∧ b = .string y))
    (h3 : ∀ k x k' y, ¬ (a = .float k x ∧ b = .float k' y)) (h4 : ∀ k x x2 k' y y2, ¬ (a = .complex k x x2 ∧ b = .complex k' y y2)) :
    binOp .neq t a b = (do pure (.bool (!(← Op.equal t a b))) : Sem Value) := by
  unfold binOp
  split <;> first | (simp_all; done) | exact (h _ _ _ _ ⟨rfl, rfl⟩).elim | exact (h2 _ _ ⟨rfl, rfl⟩).elim | exact (h3 _ _ _ _ ⟨rfl, rfl⟩).elim | exact (h4 _ _ _ _ _ _ ⟨rfl, rfl⟩).elim

theorem VR.int_back {a : Value} {k : IntKind} {n : Int} (h : VR P μ a (.int k n)) (j : a ≠ E.junk) : a = .int k n := by
  cases h with
  | junk => exact absurd rfl j
  | int => rfl
theorem VR.str_back {a : Value} {x : ByteArray} (h : VR P μ a (.string x)) (j : a ≠ E.junk) : a = .string x := by
  cases h with
  | junk => exact absurd rfl j
  | str => rfl
theorem VR.not_float {a : Value} {k : FloatKind} {n : Nat} (h : VR P μ a (.float k n)) (j : a ≠ E.junk) : False := by
  cases h with
  | junk => exact absurd rfl j
theorem VR.not_complex {a : Value} {k : FloatKind} {n m : Nat} (h : VR P μ a (.complex k n m)) (j : a ≠ E.junk) : False := by
  cases h with
  | junk => exact absurd rfl j

theorem run_eBin {op : BinOp} {t : TypeId} {x y : Operand} {a b a' b' v : Value} (h : eBin P op t x y a b = some v) (ha : VR P μ a a') (hb : VR P μ b b') :
    ∃ v', (do eqGuard op t x y a' b'; binOp op t a' b' : Sem Value).run P w = .ok v' w ∧ VR P μ v v' := by
  have gi : ∀ op k n k' n', (eqGuard op t x y (.int k n) (.int k' n')).run P w = .ok () w := fun op k n k' n' =>
    guard_body (μ := μ) rfl (.int _ _) (.int _ _) (by intro h; cases h) (by intro h; cases h)
  have gs : ∀ op n n', (eqGuard op t x y (.string n) (.string n')).run P w = .ok () w := fun op n n' =>
    guard_body (μ := μ) rfl (.str _) (.str _) (by intro h; cases h) (by intro h; cases h)
  unfold eBin at h
  split at h
  · cases ha; cases hb
    exact ⟨v, by simp only [Sem.run_bind, gi, Result.andThen_ok]; simpa [binOp] using run_eShift h, eShift_res h⟩
  · cases ha; cases hb
    exact ⟨v, by simp only [Sem.run_bind, gi, Result.andThen_ok]; simpa [binOp] using run_eShift h, eShift_res h⟩
  · rename_i n1 n2
    cases ha; cases hb
    rename_i k a k' b
    by_cases hk : k = k'
    · subst hk
      simp only [decide_true, cond_true] at h
      have h1 : op ≠ .shl := n1
      have h2 : op ≠ .shr := n2
      exact ⟨v, by simp only [Sem.run_bind, gi, Result.andThen_ok]; exact run_eInt h h1 h2, eInt_res h⟩
    · simp [hk] at h
  · cases ha; cases hb
    exact ⟨v, by simp only [Sem.run_bind, gs, Result.andThen_ok, binOp_string]; exact run_eStr h, eStr_res h⟩
  · rename_i n1 n2
    cases hg : guardOk P x y t a b with
    | false => simp [hg] at h
    | true =>
      simp only [hg, cond_true] at h
      cases he : eeq P 100 t a b with
      | none => simp [he] at h
      | some r =>
        simp only [he, Option.map_some, Option.some.injEq] at h
        subst h
        obtain ⟨ja, jb⟩ := eeq_junk he
        have hq := eeq_ok (P := P) (μ := μ) 100 Op.maxDepth t a b r a' b' w (by decide) he ha hb
        refine ⟨.bool r, ?_, .bool _⟩
        simp only [Sem.run_bind, guard_body hg ha hb ja jb, Result.andThen_ok]
        rw [binOp_eql (fun k x k' y hh => ?_) (fun x y hh => ?_) (fun k x k' y hh => ?_) (fun k x x2 k' y y2 hh => ?_)]
        · simp only [Op.equal, Sem.run_bind, hq, Result.andThen_ok, Sem.run_pure]
        · rw [hh.1] at ha; rw [hh.2] at hb; exact n1 _ _ _ _ (ha.int_back ja) (hb.int_back jb)
        · rw [hh.1] at ha; rw [hh.2] at hb; exact n2 _ _ (ha.str_back ja) (hb.str_back jb)
        · rw [hh.1] at ha; exact ha.not_float ja
        · rw [hh.1] at ha; exact ha.not_complex ja
  · rename_i n1 n2
    cases hg : guardOk P x y t a b with
    | false => simp [hg] at h
    | true =>
      simp only [hg, cond_true] at h
      cases he : eeq P 100 t a b with
      | none => simp [he] at h
      | some r =>
        simp only [he, Option.map_some, Option.some.injEq] at h
        subst h
        obtain ⟨ja, jb⟩ := eeq_junk he
        have hq := eeq_ok (P := P) (μ := μ) 100 Op.maxDepth t a b r a' b' w (by decide) he ha hb
        refine ⟨.bool !r, ?_, .bool _⟩
        simp only [Sem.run_bind, guard_body hg ha hb ja jb, Result.andThen_ok]
        rw [binOp_neq (fun k x k' y hh => ?_) (fun x y hh => ?_) (fun k x k' y hh => ?_) (fun k x x2 k' y y2 hh => ?_)]
        · simp only [Op.equal, Sem.run_bind, hq, Result.andThen_ok, Sem.run_pure]
        · rw [hh.1] at ha; rw [hh.2] at hb; exact n1 _ _ _ _ (ha.int_back ja) (hb.int_back jb)
        · rw [hh.1] at ha; rw [hh.2] at hb; exact n2 _ _ (ha.str_back ja) (hb.str_back jb)
        · rw [hh.1] at ha; exact ha.not_float ja
        · rw [hh.1] at ha; exact ha.not_complex ja
  · simp at h

theorem run_eUn {op : UnOp} {x x' v : Value} (h : eUn op x = some v) (hx : VR P μ x x') :
    ∃ v', (Op.unary op x').run P w = .ok v' w ∧ VR P μ v v' := by
  unfold eUn at h
  split at h
  · cases hx
    refine ⟨v, ?_, eInt_res h⟩
    simpa [Op.unary, binOp] using run_eInt (P := P) (w := w) (t := 0) h (by decide) (by decide)
  · cases hx
    refine ⟨v, ?_, eInt_res h⟩
    simpa [Op.unary, binOp] using run_eInt (P := P) (w := w) (t := 0) h (by decide) (by decide)
  · cases hx
    cases h
    exact ⟨_, rfl, .bool _⟩
  · simp at h
end
end Go.E

namespace Go.E

section
variable {P : Program} {μ : Ren} {s : ES} {w : World}

/-! ### composite values -/
theorem foldl_spl (vs : List Value) : ∀ (off i : Nat) (c : Array Value), off + i + vs.length ≤ c.size →
    (vs.toArray.zipIdx i).foldl (fun cs (p : Value × Nat) => cs.setIfInBounds (off + p.2) p.1) c = spl c (off + i) vs := by
  induction vs with
  | nil => intro off i c _; rw [spl_nil]; rfl
  | cons v vs ih =>
    intro off i c h
    simp only [List.length_cons] at h
    have hz : ((v :: vs).toArray.zipIdx i) = #[(v, i)] ++ (vs.toArray.zipIdx (i + 1)) := by
      apply Array.ext'
      simp [List.zipIdx_cons]
    rw [hz, Array.foldl_append]
    simp only [List.foldl_toArray, List.foldl_cons, List.foldl_nil]
    rw [ih off (i + 1) (c.setIfInBounds (off + i) v) (by simp; omega), ← Nat.add_assoc, spl_cons c (off + i) v vs (by simp; omega)]

theorem run_fill {pl pl' : Nat → Option (Nat × Nat)} (hpl : ∀ i, pl i = pl' i) : ∀ (parts parts' : List (Nat × Value)) (cs cs' c : List Value),
    fillL pl cs parts = some c → VRL P μ cs cs' → parts.length = parts'.length →
    (∀ (i : Nat) (p p' : Nat × Value), parts[i]? = some p → parts'[i]? = some p' → p.1 = p'.1 ∧ VR P μ p.2 p'.2) →
    ∃ c', Instr.fill pl' ⟨cs'⟩ parts' = some ⟨c'⟩ ∧ VRL P μ c c'
  | [], [], cs, cs', c, h, hr, _, _ => by
    simp only [fillL, Option.some.injEq] at h; subst h
    exact ⟨cs', rfl, hr⟩
  | (i, v) :: rest, (i', v') :: rest', cs, cs', c, h, hr, hl, hp => by
    obtain ⟨rfl, hv⟩ := hp 0 (i, v) (i', v') rfl rfl
    simp only at hv
    simp only [fillL] at h
    rw [hpl] at h
    simp only [Instr.fill]
    cases hpi : pl' i with
    | none => simp [hpi] at h
    | some os =>
      obtain ⟨off, size⟩ := os
      simp only [hpi, Nat.add_eq] at h ⊢
      cases hc : notTup v && v.cells.size.beq size && (off + size).ble cs.length with
      | false => simp [hc] at h
      | true =>
        simp only [hc, cond_true] at h
        simp only [Bool.and_eq_true, Nat.beq_eq, Nat.ble_eq] at hc
        have hvc := hv.cells (by intro e; subst e; exact absurd hc.1.1 (by decide))
        have hlv : v.cells.size = v'.cells.size := by simpa using hvc.length
        have hlc := hr.length
        have hcond : ¬ ((v'.cells.size ≠ size || decide (off + v'.cells.size > cs'.length)) = true) := by
          simp only [Bool.or_eq_true, decide_eq_true_eq, not_or]
          constructor <;> omega
        have hsp : (v'.cells.zipIdx.foldl (fun cs (c, j) => cs.setIfInBounds (off + j) c) (⟨cs'⟩ : Array Value)) = spl ⟨cs'⟩ off v'.cells.toList := by
          have := foldl_spl v'.cells.toList off 0 ⟨cs'⟩ (by simp; omega)
          simpa using this
        have hcond' : ¬ ((v'.cells.size ≠ size || decide (off + v'.cells.size > (⟨cs'⟩ : Array Value).size)) = true) := by simpa using hcond
        rw [if_neg hcond', hsp]
        refine run_fill hpl rest rest' _ _ c h ?_ (by simpa using hl) (fun j p p' h1 h2 => hp (j + 1) p p' (by simpa using h1) (by simpa using h2))
        have e1 : off + size = off + v'.cells.toList.length := by simp; omega
        rw [e1]
        exact ((hr.take off).append hvc).append (hr.drop _)

theorem info_of_siz {t : TypeId} {n : Nat} (h : siz P t = some n) : ∃ i, P.info? t = some i ∧ i.size = n := by
  unfold siz at h
  cases hi : P.info? t with
  | none => simp [hi] at h
  | some i => exact ⟨i, rfl, by simpa [hi] using h⟩
theorem placesL_mapM : ∀ (fs : List Field) (l : List (Nat × Nat)), placesL P fs = some l → fs.mapM (fun f => (P.info? f.type).map fun i => (f.offset, i.size)) = some l
  | [], l, h => by simp only [placesL, Option.some.injEq] at h; subst h; rfl
  | f :: fs, l, h => by
    simp only [placesL] at h
    cases hs : siz P f.type with
    | none => simp [hs] at h
    | some n =>
      cases hr : placesL P fs with
      | none => simp [hs, hr] at h
      | some l' =>
        simp only [hs, hr, Option.some.injEq] at h; subst h
        obtain ⟨i, hi, rfl⟩ := info_of_siz hs
        simp [List.mapM_cons, hi, placesL_mapM fs l' hr]

/-- the parts of a composite value -/
def PartsR (P : Program) (μ : Ren) (ps ps' : List (Nat × Value)) : Prop :=
  ps.length = ps'.length ∧ (∀ (i : Nat) (p p' : Nat × Value), ps[i]? = some p → ps'[i]? = some p' → p.1 = p'.1 ∧ VR P μ p.2 p'.2)


theorem zer_vr {t : TypeId} {z : Value} (h : zer P t = some z) : VRL P μ z.cells.toList z.cells.toList := by
  refine (VR.of_plain z (zer_info h).1).cells (fun e => ?_)
  have := (zer_info h).1
  subst e
  exact absurd this (by decide)

theorem run_eBuild {t : TypeId} {ps ps' : List (Nat × Value)} {v : Value} (h : eBuild P t ps = some v) (hp : PartsR P μ ps ps') :
    ∃ v', (Instr.build t ps'.toArray).run P w = .ok v' w ∧ VR P μ v v' := by
  unfold eBuild at h
  split at h
  · rename_i fs z hu hz
    obtain ⟨_, it, hi, hiz⟩ := zer_info hz
    split at h
    · rename_i pl hpl
      cases hc : fillL (nth pl) z.cells.toList ps with
      | none => simp [hc] at h
      | some c =>
        simp only [hc, Option.map_some, Option.some.injEq] at h; subst h
        have hm := placesL_mapM _ _ hpl
        obtain ⟨c', h1, h2⟩ := run_fill (P := P) (μ := μ) (pl' := (pl.toArray[·]?)) (fun i => by rw [nth_eq]; simp) ps ps' _ _ c hc (zer_vr hz) hp.1 hp.2
        refine ⟨.agg ⟨c'⟩, run_build w t ps'.toArray ⟨c'⟩ ?_, .agg h2⟩
        unfold Program.built
        unfold und at hu
        simp only [hi, hu, hiz, hm]
        simpa using h1
    · simp at h
  · rename_i n e z hu hz
    obtain ⟨_, it, hi, hiz⟩ := zer_info hz
    split at h
    · rename_i n hn
      obtain ⟨ie, hie, rfl⟩ := info_of_siz hn
      cases hc : fillL (fun i => some (Nat.mul i ie.size, ie.size)) z.cells.toList ps with
      | none => simp only [hc, Option.map_none, reduceCtorEq] at h
      | some c =>
        simp only [hc, Option.map_some, Option.some.injEq] at h; subst h
        obtain ⟨c', h1, h2⟩ := run_fill (P := P) (μ := μ) (pl' := fun i => some (i * ie.size, ie.size)) (fun i => rfl) ps ps' _ _ c hc (zer_vr hz) hp.1 hp.2
        refine ⟨.agg ⟨c'⟩, run_build w t ps'.toArray ⟨c'⟩ ?_, .agg h2⟩
        unfold Program.built
        unfold und at hu
        simp only [hi, hu, hiz, hie]
        simpa using h1
    · simp at h
  · simp at h

/-! ### rows of equal elements -/
theorem repL_length (z : List Value) (n : Nat) : (repL z n).length = n * z.length := by
  induction n with
  | zero => simp [repL]
  | succ n ih => simp [repL, ih, Nat.succ_mul]; omega
theorem repL_get (z : List Value) (n i : Nat) (hi : i < n * z.length) : (repL z n)[i]? = z[i % z.length]? := by
  induction n generalizing i with
  | zero => simp at hi
  | succ n ih =>
    simp only [repL]
    rw [List.getElem?_append]
    split
    · rename_i hlt; rw [Nat.mod_eq_of_lt hlt]
    · rename_i hge
      rw [ih (i - z.length) (by rw [Nat.succ_mul] at hi; omega), ← Nat.mod_eq_sub_mod (by omega)]
theorem rep_eq (z : Array Value) (n k : Nat) (hk : k = n * z.size) (hz : 0 < z.size ∨ k = 0) : ((Array.range k).map (z[· % z.size]!)) = ⟨repL z.toList n⟩ := by
  subst hk
  apply Array.ext'
  apply List.ext_getElem?
  intro i
  by_cases hi : i < n * z.size
  · have hzs : 0 < z.size := by rcases hz with h | h <;> omega
    simp only [Array.toList_map, Array.toList_range, List.getElem?_map]
    rw [List.getElem?_range hi, repL_get _ _ _ (by simpa using hi)]
    have := Nat.mod_lt i hzs
    simp [getElem!_pos, this]
  · rw [List.getElem?_eq_none (by simp; omega), List.getElem?_eq_none (by rw [repL_length]; simp; omega)]
theorem VRL.rep {z : List Value} (h : VRL P μ z z) (n : Nat) : VRL P μ (repL z n) (repL z n) := by
  induction n with
  | zero => exact .nil
  | succ n ih => exact h.append ih

/-- a new row of cells -/
theorem sim_row {e : TypeId} {cs cs' : List Value} {e' : TypeId} (he : e' = e) (hc : VRL P μ cs cs') {rest : List Value} {α β : Type} {R : Ren → α → β → Prop} {f : Nat → EM α} {m : Result β} {w' : World}
    (hw : w'.heap = w.heap.push (.cells ⟨cs' ++ rest⟩ e' (0, 0))) (ht : w'.tape = w.tape) (hos : w'.os = w.os) (hou : w'.output = w.output)
    {a : Nat → α} (hf : ∀ r, f r = EM.ret (a r)) {b : β} (hm : m = .ok b w')
    (hr : ∀ μ' pl, Sub μ μ' → μ' s.nx = some pl → pl = ⟨w.heap.size, 0, cs.length + rest.length, e⟩ → R μ' (a s.nx) b) :
    Sim P μ s w R (((enew (.cells cs e)).bnd f) s) m := by
  subst he
  intro x s' hx hfr hst
  unfold EM.bnd enew at hx
  simp only [hf, EM.ret, Res.ok.injEq] at hx
  obtain ⟨rfl, rfl⟩ := hx
  rw [hm]
  refine sim_new (pl := ⟨w.heap.size, 0, cs.length + rest.length, e'⟩) hst (hfr _ (Nat.le_refl _) (Nat.lt_succ_self _)) rfl hw ht hos hou (fun μ' hs => ?_) (fun μ' hs hn => hr μ' _ hs hn rfl)
  refine ⟨rfl, _, _, rfl, ?_, ?_, ?_, ?_⟩
  · simp
  · have := hc.length; simp; omega
  · have hl := hc.length
    simp only [List.drop_zero]
    rw [hl, List.take_left' rfl]
    exact hc.sub hs
  · intro j _ _; simp

theorem wf_row (e : TypeId) (cs : List Value) {α : Type} {f : Nat → EM α} (hf : ∀ r, Wf (f r)) : Wf ((enew (.cells cs e)).bnd f) := wf_bnd (wf_enew _) hf
end
end Go.E

