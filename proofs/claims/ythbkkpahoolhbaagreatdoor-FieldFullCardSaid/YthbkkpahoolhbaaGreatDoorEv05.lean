import Derived.Test.YthbkkpahoolhbaaGreatDoorEv04
set_option linter.unusedSimpArgs false
set_option linter.unusedVariables false
set_option linter.unusedSectionVars false
namespace Go.E

section
variable {P : Program} {μ : Ren} {s : ES} {w : World}

theorem VR.newSl {μ' : Ren} {r b lim len : Nat} {e : TypeId} (h : μ' r = some ⟨b, 0, lim, e⟩) : VR P μ' (.slice (some ⟨r, 0, none⟩) len (Nat.succ len)) (.slice (some ⟨b, 0, none⟩) len len) := by
  have := VR.slK (P := P) (μ := μ') (a := ⟨r, 0, none⟩) (len := len) (k := len) h rfl (Nat.le_refl _)
  simpa using this
theorem VR.newSlK {μ' : Ren} {r b lim len k : Nat} {e : TypeId} (h : μ' r = some ⟨b, 0, lim, e⟩) (hk : len ≤ k) : VR P μ' (.slice (some ⟨r, 0, none⟩) len (Nat.succ k)) (.slice (some ⟨b, 0, none⟩) len k) := by
  have := VR.slK (P := P) (μ := μ') (a := ⟨r, 0, none⟩) (len := len) (k := k) h rfl hk
  simpa using this
theorem VR.newSlU {μ' : Ren} {r b len c n : Nat} {e : TypeId} (hn : siz P e = some n) (h : μ' r = some ⟨b, 0, c * n, e⟩) (hc : len ≤ c) : VR P μ' (.slice (some ⟨r, 0, none⟩) len 0) (.slice (some ⟨b, 0, none⟩) len c) := by
  have := VR.slU (P := P) (μ := μ') (a := ⟨r, 0, none⟩) (len := len) (c := c) h rfl hc (by simp [siz_cellsOf hn])
  simpa using this
theorem VR.newPtr {μ' : Ren} {r b lim : Nat} {e : TypeId} (h : μ' r = some ⟨b, 0, lim, e⟩) : VR P μ' (mkPtr r) (.pointer (some ⟨b, 0, none⟩)) := by
  have := VR.ptr (P := P) (μ := μ') (a := ⟨r, 0, none⟩) h rfl
  simpa [mkPtr] using this

theorem sim_eBuildSlice {t : TypeId} {n : Nat} {ps ps' : List (Nat × Value)} (hp : PartsR P μ ps ps') :
    Sim P μ s w (RV P) (eBuildSlice P t n ps s) ((Instr.buildSlice t n ps'.toArray).run P w) := by
  unfold eBuildSlice
  show SimM P μ s w _ _ _
  split
  · rename_i e hu
    split
    · rename_i k z hn hz
      obtain ⟨_, it, hi, hiz⟩ := zer_info hz
      show Sim P μ s w _ _ _
      cases hb : (k.beq 0 || !(z.cells.size.beq k) || !((Nat.mul n k).ble 1048576)) with
      | true => exact Sim.bad _ _
      | false =>
        simp only [Bool.or_eq_false_iff, Bool.not_eq_false', Nat.beq_eq, Nat.ble_eq, Nat.mul_eq] at hb
        obtain ⟨⟨h0, h1⟩, h2⟩ := hb
        have h0 : k ≠ 0 := by intro hh; subst hh; exact absurd h0 (by decide)
        simp only [cond_false]
        show SimM P μ s w _ _ _
        split
        · rename_i c hc
          have hzl : VRL P μ (repL z.cells.toList n) (repL z.cells.toList n) := (zer_vr hz).rep n
          obtain ⟨c', f1, f2⟩ := run_fill (P := P) (μ := μ) (pl' := fun i => some (i * k, k)) (fun i => rfl) ps ps' _ _ c hc hzl hp.1 hp.2
          refine sim_row (cs' := c') (rest := []) (e' := e) rfl f2 (w' := { w with heap := w.heap.push (.cells ⟨c'⟩ e (0, 0)) }) (b := .slice (some ⟨w.heap.size, 0, none⟩) n n) (by simp) rfl rfl rfl (fun r => rfl) ?_ (fun μ' pl hs hn hpl => ?_)
          · have hbig : ¬ (n * k > 2 ^ 24) := by omega
            simp only [Instr.buildSlice, Sem.run_bind, run_und w hu, Result.andThen_ok, run_siz w hn, Sem.run_ite, if_neg hbig]
            by_cases h : n * k = 0
            · have h' : n = 0 := by rcases Nat.mul_eq_zero.1 h with h | h <;> omega
              have hrow : (Array.map (fun x => (#[] : Array Value)[x % (#[] : Array Value).size]!) (Array.range (n * k))) = ⟨repL z.cells.toList n⟩ := by
                rw [h]; subst h'; simp [repL]
              simp only [if_pos h, Sem.run_bind, Sem.run_pure, Result.andThen_ok, hrow, f1]
              simp [newRow]
            · have hrow := rep_eq z.cells n (n * k) (by rw [h1]) (by omega)
              simp only [if_neg h, Sem.run_bind, run_zer w hz, Sem.run_pure, Result.andThen_ok, hrow, f1]
              simp [newRow]
          · subst hpl; exact VR.newSl hn
        · exact Sim.bad _ _
    · exact Sim.bad _ _
  · exact Sim.bad _ _

theorem sim_eMakeSlice {t : TypeId} {l l' c c' : Value} (hl : VR P μ l l') (hc : VR P μ c c') :
    Sim P μ s w (RV P) (eMakeSlice P t l c s) ((Instr.makeSlice t l' c').run P w) := by
  unfold eMakeSlice
  show SimM P μ s w _ _ _
  split
  · rename_i e lk ln ck cn hu e1 e2
    rw [asI_some e1] at hl; rw [asI_some e2] at hc
    cases hl; cases hc
    split
    · rename_i n z b hn hz hb
      obtain ⟨_, it, hi, hiz⟩ := zer_info hz
      obtain ⟨it', hi', rfl⟩ := info_of_siz hn
      rw [hi] at hi'; cases hi'
      have hbb : it.bytes = b := by
        unfold byt at hb; simpa [hi] using hb
      subst hbb
      show Sim P μ s w _ _ _
      cases hbd : (it.size.beq 0 || !(z.cells.size.beq it.size) || !(ile 0 ln) || !(ile ln cn) || !((Nat.mul cn.toNat it.bytes).ble 1099511627776) || !(cn.toNat.ble 1099511627776)) with
      | true => exact Sim.bad _ _
      | false =>
        simp only [Bool.or_eq_false_iff, Bool.not_eq_false', Nat.beq_eq, Nat.ble_eq, Nat.mul_eq, ile_iff] at hbd
        obtain ⟨⟨⟨⟨⟨h0, h1⟩, h2⟩, h3⟩, h4⟩, h5⟩ := hbd
        have h0 : it.size ≠ 0 := by intro hh; rw [hh] at h0; exact absurd h0 (by decide)
        simp only [cond_false]
        obtain ⟨lm, rfl⟩ := Int.eq_ofNat_of_zero_le h2
        obtain ⟨cm, rfl⟩ := Int.eq_ofNat_of_zero_le (Int.le_trans h2 h3)
        simp only [Int.toNat_natCast] at h4 h5 ⊢
        have w1 : IntKind.i64.wrap (lm : Int) = lm := wrap_in _ _ (by show (-9223372036854775808 : Int) ≤ _; omega) (by show _ ≤ (9223372036854775807 : Int); omega)
        have w2 : IntKind.i64.wrap (cm : Int) = cm := wrap_in _ _ (by show (-9223372036854775808 : Int) ≤ _; omega) (by show _ ≤ (9223372036854775807 : Int); omega)
        have hzl : VRL P μ (repL z.cells.toList cm) (repL z.cells.toList cm) := (zer_vr hz).rep cm
        refine sim_row (cs' := repL z.cells.toList cm) (rest := []) (e' := e) rfl hzl (w' := { w with heap := w.heap.push (.cells ⟨repL z.cells.toList cm⟩ e (0, 0)) }) (b := .slice (some ⟨w.heap.size, 0, none⟩) lm cm) (by simp) rfl rfl rfl (fun r => rfl) ?_ (fun μ' pl hs hn hpl => ?_)
        · have hc1 : (it.bytes : Int) * (cm : Int) ≤ 2 ^ 48 := by
            have : (it.bytes * cm : Nat) ≤ 2 ^ 48 := by rw [Nat.mul_comm]; omega
            exact_mod_cast this
          have hcond : ¬ (((decide ((cm : Int) < 0) || decide ((it.bytes : Int) * cm > 2 ^ 48)) || decide ((lm : Int) < 0) || decide ((lm : Int) > cm)) = true) := by
            simp only [Bool.or_eq_true, decide_eq_true_eq, not_or]
            omega
          simp only [Instr.makeSlice, asInt, asIntOf, Sem.run_bind, run_und w hu, run_info w hi, Result.andThen_ok, Sem.run_pure, w1, w2, Sem.run_ite, if_neg hcond, run_askRoom, run_siz w hn, Int.toNat_natCast]
          by_cases h : cm * it.size = 0
          · have h' : cm = 0 := by rcases Nat.mul_eq_zero.1 h with h | h <;> omega
            have hrow : (Array.map (fun x => (#[] : Array Value)[x % (#[] : Array Value).size]!) (Array.range (cm * it.size))) = ⟨repL z.cells.toList cm⟩ := by
              rw [h]; subst h'; simp [repL]
            simp only [if_pos h, Sem.run_bind, Sem.run_pure, Result.andThen_ok, hrow]
            simp [newRow]
          · have hrow := rep_eq z.cells cm (cm * it.size) (by rw [h1]) (by omega)
            simp only [if_neg h, Sem.run_bind, run_zer w hz, Sem.run_pure, Result.andThen_ok, hrow]
            simp [newRow]
        · subst hpl
          exact VR.newSlK hn (by omega)
    · exact Sim.bad _ _
  · exact Sim.bad _ _

theorem sim_alloc {e : TypeId} {z : Value} (hz : zer P e = some z) :
    Sim P μ s w (RV P) (((enew (.cells z.cells.toList e)).bnd fun r => EM.ret (mkPtr r)) s) ((Instr.alloc e true (.tuple #[])).run P w) := by
  refine sim_row (cs' := z.cells.toList) (rest := []) (e' := e) rfl (zer_vr hz) (w' := { w with heap := w.heap.push (.cells z.cells e (0, 0)) }) (b := .pointer (some ⟨w.heap.size, 0, none⟩)) (by simp) rfl rfl rfl (fun r => rfl) ?_ (fun μ' pl hs hn hpl => ?_)
  · simp [Instr.alloc, run_zer w hz, newVar, newRow]
  · subst hpl; exact VR.newPtr hn

theorem sim_box {e : TypeId} {x x' : Value} (hx : VR P μ x x') (hn : notTup x = true) :
    Sim P μ s w (RV P) (((enew (.cells x.cells.toList e)).bnd fun r => EM.ret (mkPtr r)) s) ((Instr.box e x').run P w) := by
  refine sim_row (cs' := x'.cells.toList) (rest := []) (e' := e) rfl (hx.cells (by intro h; subst h; exact absurd hn (by decide))) (w' := { w with heap := w.heap.push (.cells x'.cells e (0, 0)) }) (b := .pointer (some ⟨w.heap.size, 0, none⟩)) (by simp) rfl rfl rfl (fun r => rfl) ?_ (fun μ' pl hs hn hpl => ?_)
  · simp [Instr.box, newVar, newRow]
  · subst hpl; exact VR.newPtr hn

theorem wf_wr (t : TypeId) (a : Addr) (v : Value) : Wf (wr P t a v) := by
  unfold wr
  (repeat' first | exact wf_bad _ | exact wf_wrL _ _ | refine wf_cond _ ?_ ?_ | split)
theorem sim_wr {t : TypeId} {a a' : Addr} {pl : Pl} {v v' : Value} (hp : μ a.block = some pl) (ha : a' = ⟨pl.b, pl.base + a.off, none⟩) (hv : VR P μ v v') :
    Sim P μ s w (fun _ _ _ => True) (wr P t a v s) ((storeVar t a' v').run P w) := by
  unfold wr
  show SimM P μ s w _ _ _
  split
  · rename_i n hn
    show Sim P μ s w _ _ _
    cases hb : n.beq v.cells.size with
    | false => exact Sim.bad _ _
    | true =>
      simp only [cond_true]
      simp only [Nat.beq_eq] at hb
      by_cases hj : v = E.junk
      · subst hj
        unfold wrL
        show SimM P μ s w _ _ _
        split
        · exact Sim.bad _ _
        · show Sim P μ s w _ _ _
          refine sim_eget _ fun o ho => ?_
          show SimM P μ s w _ _ _
          split
          · have : (E.junk.cells.toList.all okCell) = false := by decide
            rw [this, Bool.and_false]
            exact Sim.bad _ _
          · exact Sim.bad _ _
      · have hvc := hv.cells hj
        have hne : ¬ (v'.cells.size ≠ n) := by
          have := hvc.length
          simp only [Array.length_toList] at this
          omega
        have hrun : (storeVar t a' v').run P w = (storeCells a' v'.cells.toList).run P w := by
          simp only [storeVar, Sem.run_bind, run_siz w hn, Result.andThen_ok, Sem.run_ite, if_neg hne]
        rw [hrun]
        exact sim_wrL hp ha hvc
  · exact Sim.bad _ _
end
end Go.E

namespace Go.E

section
variable {P : Program} {μ : Ren} {s : ES} {w : World}

/-! ### maps -/
theorem bytes_beq (a b : ByteArray) : (a == b) = true ↔ a = b := by
  show ByteArray.beq a b = true ↔ _
  unfold ByteArray.beq
  cases a; cases b
  simp
theorem run_getObj {r : Nat} {o : Obj} (h : w.heap[r]? = some o) (hn : ∀ c e f, o ≠ .cells c e f) : (getObj r).run P w = .ok o w := by
  simp only [getObj, Sem.run, h]
theorem run_setObj {r : Nat} {o o' : Obj} (h : w.heap[r]? = some o) (hn : ∀ c e f, o ≠ .cells c e f) : (setObj r o').run P w = .ok () { w with heap := w.heap.setIfInBounds r o' } := by
  simp only [setObj, Sem.run, h]

theorem MRel.length {l l' : List MapEntry} (h : MRel P μ l l') : l.length = l'.length := by
  induction h with
  | nil => rfl
  | cons _ _ ih => simp [ih]
theorem MRel.get {l l' : List MapEntry} (h : MRel P μ l l') {i : Nat} {e : MapEntry} (he : l[i]? = some e) : ∃ e', l'[i]? = some e' ∧ ERel P μ e e' := by
  induction h generalizing i with
  | nil => simp at he
  | cons hx _ ih =>
    cases i with
    | zero => simp at he; subst he; exact ⟨_, by simp, hx⟩
    | succ i => obtain ⟨e', h1, h2⟩ := ih (by simpa using he); exact ⟨e', by simpa using h1, h2⟩
theorem MRel.append {a a' b b' : List MapEntry} (h : MRel P μ a a') (h' : MRel P μ b b') : MRel P μ (a ++ b) (a' ++ b') := by
  induction h with
  | nil => exact h'
  | cons h _ ih => exact .cons h ih
theorem MRel.take {l l' : List MapEntry} (h : MRel P μ l l') (n : Nat) : MRel P μ (l.take n) (l'.take n) := by
  induction h generalizing n with
  | nil => simp; exact .nil
  | cons h _ ih => cases n with
    | zero => exact .nil
    | succ n => exact .cons h (ih n)
theorem MRel.drop {l l' : List MapEntry} (h : MRel P μ l l') (n : Nat) : MRel P μ (l.drop n) (l'.drop n) := by
  induction h generalizing n with
  | nil => simp; exact .nil
  | cons h hl ih => cases n with
    | zero => exact .cons h hl
    | succ n => exact ih n

theorem modify_eq {l : List MapEntry} {i : Nat} {e : MapEntry} (h : l[i]? = some e) (f : MapEntry → MapEntry) : l.modify i f = l.take i ++ f e :: l.drop (i + 1) := by
  induction l generalizing i with
  | nil => simp at h
  | cons x l ih =>
    cases i with
    | zero => simp at h; subst h; simp
    | succ i => simp at h; simp [ih h]
theorem MRel.put {l l' : List MapEntry} (h : MRel P μ l l') {i : Nat} {e e1 e' : MapEntry} {f : MapEntry → MapEntry} (he : l[i]? = some e) (he' : l'[i]? = some e') (hr : ERel P μ e1 (f e')) :
    MRel P μ (putAt l i e1) (l'.modify i f) := by
  rw [modify_eq he']
  exact (h.take i).append (.cons hr (h.drop _))

theorem run_part_keyV {d : Nat} {t : TypeId} {k k' : Value} (h : keyV P d t k = true) (hk : VR P μ k k') (w : World) (empty : Bool) : ∀ D, d ≤ D → (Instr.checkKey empty D t k').run P w = .ok () w := by
  induction d generalizing t k k' with
  | zero => simp [keyV] at h
  | succ d ih =>
    intro D hD
    obtain ⟨D, rfl⟩ : ∃ D', D = D' + 1 := ⟨D - 1, by omega⟩
    unfold keyV at h
    unfold Instr.checkKey
    split at h
    · rename_i hu; simp only [Sem.run_bind, run_und w hu, Result.andThen_ok]; rfl
    · rename_i hu; simp only [Sem.run_bind, run_und w hu, Result.andThen_ok]; rfl
    · rename_i hu; simp only [Sem.run_bind, run_und w hu, Result.andThen_ok]; rfl
    · rename_i hu; simp only [Sem.run_bind, run_und w hu, Result.andThen_ok]; rfl
    · rename_i fs cs hu
      obtain ⟨cs', rfl, hcs⟩ := hk.agg_inv
      simp only [Sem.run_bind, run_und w hu, Result.andThen_ok]
      have key : ∀ l : List Field, (l.all fun f => match partL P f.type cs.toList f.offset with
          | some x => keyV P d f.type x
          | none => false) = true →
          (forIn l PUnit.unit (fun f _ => do
            if f.name ≠ "_" then
              do Instr.checkKey empty D f.type (← part f.type ⟨cs'⟩ f.offset)
                 pure (ForInStep.yield PUnit.unit)
            else pure (ForInStep.yield PUnit.unit)) : Sem PUnit).run P w = .ok PUnit.unit w := by
        intro l
        induction l with
        | nil => intro _; rfl
        | cons f l ihl =>
          intro hall
          simp only [List.all_cons, Bool.and_eq_true] at hall
          have h2 := ihl hall.2
          rw [List.forIn_cons]
          have h1 : ∃ v', (part f.type ⟨cs'⟩ f.offset).run P w = .ok v' w ∧ (Instr.checkKey empty D f.type v').run P w = .ok () w := by
            have h1 := hall.1
            cases hp : partL P f.type cs.toList f.offset with
            | none => simp [hp] at h1
            | some x =>
              simp only [hp] at h1
              obtain ⟨v', e1, e2⟩ := run_partL (w := w) hp hcs
              exact ⟨v', e1, ih h1 e2 D (by omega)⟩
          obtain ⟨v', e1, e2⟩ := h1
          split
          · simp only [Sem.run_bind, e1, e2, Result.andThen_ok, Sem.run_pure, h2]
          · simp only [Sem.run_bind, Result.andThen_ok, Sem.run_pure, h2]
      rw [← Array.forIn_toList]
      rw [key _ h]
      rfl
    · simp at h

theorem findE_at {t : TypeId} {k : Value} : ∀ (es : List MapEntry) (i j : Nat) (e : MapEntry), findE P t k es i = some (some (j, e)) → ∃ n, j = i + n ∧ es[n]? = some e
  | [], i, j, e, h => by simp [findE] at h
  | x :: es, i, j, e, h => by
    simp only [findE] at h
    split at h
    · simp only [Option.some.injEq, Prod.mk.injEq] at h
      obtain ⟨rfl, rfl⟩ := h
      exact ⟨0, by simp⟩
    · obtain ⟨n, h1, h2⟩ := findE_at es (i + 1) j e h
      exact ⟨n + 1, by omega, by simpa using h2⟩
    · cases h

/-- what 'findKey' finds: the same place, and the related entry -/
def FoundR (P : Program) (μ : Ren) (i : Nat) (es' : List MapEntry) : Option (Nat × MapEntry) → Option (Nat × Value) → Prop
  | none, none => True
  | some (j, e), some (j', v') => j = j' ∧ ∃ n e', j = i + n ∧ es'[n]? = some e' ∧ v' = e'.val ∧ ERel P μ e e'
  | _, _ => False

theorem FoundR.step {i : Nat} {x : MapEntry} {es' : List MapEntry} {r : Option (Nat × MapEntry)} {r' : Option (Nat × Value)} (h : FoundR P μ (i + 1) es' r r') : FoundR P μ i (x :: es') r r' := by
  cases r with
  | none => cases r' <;> exact h
  | some p => cases r' with
    | none => exact h
    | some q =>
      obtain ⟨h1, n, e', h2, h3, h4⟩ := h
      exact ⟨h1, n + 1, e', by omega, by simpa using h3, h4⟩

theorem run_findAsking {t : TypeId} {k k' : Value} (hk : VR P μ k k') : ∀ (es es' : List MapEntry) (i : Nat) (r : Option (Nat × MapEntry)), findE P t k es i = some r → MRel P μ es es' →
    ∃ r', (Instr.findAsking t k' es' i).run P w = .ok r' w ∧ FoundR P μ i es' r r'
  | [], es', i, r, h, hr => by
    cases hr
    simp only [findE, Option.some.injEq] at h; subst h
    exact ⟨none, rfl, trivial⟩
  | x :: es, es', i, r, h, hr => by
    cases hr with
    | cons hx hl =>
      rename_i x' l'
      cases hx
      rename_i kx kx' vx vx' b hkx hvx
      simp only [findE] at h
      simp only [Instr.findAsking, Sem.run_bind]
      cases he : eeq P 100 t k kx with
      | none => simp [he] at h
      | some b =>
        have hq := eeq_ok (P := P) (μ := μ) 100 Op.maxDepth t k kx b k' kx' w (by decide) he hk hkx
        simp only [Op.equal, hq, Result.andThen_ok]
        cases b with
        | true =>
          simp only [he, Option.some.injEq] at h; subst h
          exact ⟨some (i, vx'), rfl, rfl, 0, ⟨kx', vx', _⟩, rfl, by simp, rfl, .mk _ hkx hvx⟩
        | false =>
          simp only [he] at h
          obtain ⟨r', h1, h2⟩ := run_findAsking hk es l' (i + 1) r h hl
          exact ⟨r', by simpa using h1, h2.step⟩

theorem sameNow_ok {t : TypeId} {d : TypeDesc} {k k' x x' : Value} {b b' : Bool} (hu : und P t = some d) (he : eeq P 100 t k x = some b) (hk : VR P μ k k') (hx : VR P μ x x') (hn : Instr.sameNow d k' x' = some b') : b' = b := by
  obtain ⟨jk, jx⟩ := eeq_junk he
  unfold Instr.sameNow at hn
  split at hn
  · rw [hk.int_back jk, hx.int_back jx] at he
    rename_i k a k' b
    unfold eeq at he
    simp only [hu] at he
    by_cases hk : k = k'
    · simp only [hk, decide_true, cond_true, Option.some.injEq] at he
      simp only [hk, if_true, Option.some.injEq] at hn
      rw [← he, ← hn, ieq_eq]
    · simp [hk] at he
  · rw [hk.str_back jk, hx.str_back jx] at he
    unfold eeq at he
    simp only [hu, Option.some.injEq] at he
    simp only [Option.some.injEq] at hn
    rw [← he, ← hn]
    rename_i a b
    rw [Bool.eq_iff_iff, bytes_beq]
    unfold seq
    rw [eqB_iff]
    constructor
    · intro h; rw [h]
    · intro h; exact ByteArray.ext (Array.ext' h)
  · cases hk with
    | junk => exact absurd rfl jk
    | bool =>
      cases hx with
      | junk => exact absurd rfl jx
      | bool =>
        unfold eeq at he
        simp only [hu, Option.some.injEq] at he
        simp only [Option.some.injEq] at hn
        rw [← he, ← hn]
  · cases hn

theorem run_findNow {t : TypeId} {d : TypeDesc} {k k' : Value} (hu : und P t = some d) (hk : VR P μ k k') : ∀ (es es' : List MapEntry) (i : Nat) (r : Option (Nat × MapEntry)) (q : Option (Nat × Value)),
    findE P t k es i = some r → MRel P μ es es' → Instr.findNow d k' es' i = some q → FoundR P μ i es' r q
  | [], es', i, r, q, h, hr, hq => by
    cases hr
    simp only [findE, Option.some.injEq] at h; subst h
    simp only [Instr.findNow, Option.some.injEq] at hq; subst hq
    trivial
  | x :: es, es', i, r, q, h, hr, hq => by
    cases hr with
    | cons hx hl =>
      rename_i x' l'
      cases hx
      rename_i kx kx' vx vx' b hkx hvx
      simp only [findE] at h
      simp only [Instr.findNow] at hq
      cases he : eeq P 100 t k kx with
      | none => simp [he] at h
      | some b =>
        cases hn : Instr.sameNow d k' kx' with
        | none => simp [hn] at hq
        | some b' =>
          have := sameNow_ok hu he hk hkx hn
          subst this
          cases b' with
          | true =>
            simp only [he, Option.some.injEq] at h; subst h
            simp only [hn, Option.some.injEq] at hq; subst hq
            exact ⟨rfl, 0, ⟨kx', vx', _⟩, rfl, by simp, rfl, .mk _ hkx hvx⟩
          | false =>
            simp only [he] at h
            simp only [hn] at hq
            exact (run_findNow hu hk es l' (i + 1) r q h hl hq).step

theorem run_findKey {t : TypeId} {k k' : Value} (hk : VR P μ k k') {es es' : List MapEntry} {r : Option (Nat × MapEntry)} {d : TypeDesc} (hu : und P t = some d) (h : findE P t k es 0 = some r) (hr : MRel P μ es es') :
    ∃ r', (Instr.findKey t k' es').run P w = .ok r' w ∧ FoundR P μ 0 es' r r' := by
  simp only [Instr.findKey, Sem.run_bind, run_und w hu, Result.andThen_ok]
  cases hn : Instr.findNow d k' es' 0 with
  | some q => exact ⟨q, rfl, run_findNow hu hk es es' 0 r q h hr hn⟩
  | none => exact run_findAsking hk es es' 0 r h hr

theorem und_of_keyV {d : Nat} {t : TypeId} {k : Value} (h : keyV P d t k = true) : ∃ u, und P t = some u := by
  cases d with
  | zero => simp [keyV] at h
  | succ d =>
    unfold keyV at h
    cases hu : und P t with
    | none => simp [hu] at h
    | some u => exact ⟨u, rfl⟩

theorem run_eFound {kt et : TypeId} {ix ix' : Value} {ok : Bool} {es es' : List MapEntry} {v : Value} (hkv : keyV P 10 kt ix = true) (h : eFound P kt et ix ok es = some v) (hi : VR P μ ix ix') (hr : MRel P μ es es') :
    ∃ r' v', (Instr.findKey kt ix' es').run P w = .ok r' w ∧ ((∃ q, r' = some q ∧ v' = if ok then .tuple #[q.2, .bool true] else q.2) ∨ (r' = none ∧ ∃ z, (zeroValue et).run P w = .ok z w ∧ v' = if ok then .tuple #[z, .bool false] else z)) ∧ VR P μ v v' := by
  obtain ⟨u, hu⟩ := und_of_keyV hkv
  unfold eFound at h
  split at h
  · rename_i e hf
    obtain ⟨r', h1, h2⟩ := run_findKey (w := w) hi hu hf hr
    cases r' with
    | none => exact absurd h2 (by simp [FoundR])
    | some q =>
      obtain ⟨_, n, e', _, _, h3, h4⟩ := h2
      simp only [Option.some.injEq] at h
      subst h
      cases h4
      refine ⟨some q, if ok then .tuple #[q.2, .bool true] else q.2, h1, .inl ⟨q, rfl, rfl⟩, ?_⟩
      · rw [h3]
        cases ok with
        | true => exact .tuple (.cons (by assumption) (.cons (.bool _) .nil))
        | false => assumption
  · rename_i hf
    obtain ⟨r', h1, h2⟩ := run_findKey (w := w) hi hu hf hr
    cases r' with
    | some q => exact absurd h2 (by simp [FoundR])
    | none =>
      cases hz : zer P et with
      | none => simp [hz] at h
      | some z =>
        simp only [hz, Option.map_some, Option.some.injEq] at h
        subst h
        refine ⟨none, if ok then .tuple #[z, .bool false] else z, h1, .inr ⟨rfl, z, run_zer w hz, rfl⟩, ?_⟩
        · have hzz : VR P μ z z := VR.of_plain z (zer_info hz).1
          cases ok with
          | true => exact .tuple (.cons hzz (.cons (.bool _) .nil))
          | false => exact hzz
  · cases h

theorem run_keyStays {k0 k k0' k' : Value} (h : sameE k0 k = true) (h0 : VR P μ k0 k0') (hk : VR P μ k k') : (Instr.keyThatStays k0' k').run P w = .ok k' w := by
  have hc : ∀ (x y x' y' : Value) (n : Nat), sameC x y = true → VR P μ x x' → VR P μ y y' → Instr.sameBits n x' y' = true := by
    intro x y x' y' n h hx hy
    unfold sameC at h
    split at h
    · cases hx; cases hy; cases n <;> simpa [Instr.sameBits] using h
    · cases hx; cases hy
      simp only [Bool.and_eq_true, decide_eq_true_eq, ieq_iff] at h
      cases n <;> simp [Instr.sameBits, h.1, h.2]
    · cases hx; cases hy
      rename_i a b
      have : a = b := by
        unfold seq at h
        rw [eqB_iff] at h
        exact ByteArray.ext (Array.ext' h)
      cases n <;> simp only [Instr.sameBits] <;> exact (bytes_beq _ _).2 this
    · cases h
  have hl : ∀ (a b a' b' : List Value) (n : Nat), sameL a b = true → VRL P μ a a' → VRL P μ b b' → a'.length = b'.length ∧ (a'.zip b').all (fun (x, y) => Instr.sameBits n x y) = true := by
    intro a
    induction a with
    | nil => intro b a' b' n h ha hb; cases ha; cases b with
      | nil => cases hb; exact ⟨rfl, rfl⟩
      | cons => simp [sameL] at h
    | cons x a ih => intro b a' b' n h ha hb; cases ha with
      | cons hx ha => cases b with
        | nil => simp [sameL] at h
        | cons y b => cases hb with
          | cons hy hb =>
            simp only [sameL, Bool.and_eq_true] at h
            obtain ⟨h1, h2⟩ := ih b _ _ n h.2 ha hb
            refine ⟨by simp [h1], ?_⟩
            simp only [List.zip_cons_cons, List.all_cons, Bool.and_eq_true]
            exact ⟨hc _ _ _ _ n h.1 hx hy, h2⟩
  have hb : Instr.sameBits 10000 k0' k' = true := by
    unfold sameE at h
    split at h
    · obtain ⟨c', rfl, h1⟩ := h0.agg_inv
      obtain ⟨d', rfl, h2⟩ := hk.agg_inv
      obtain ⟨g1, g2⟩ := hl _ _ c' d' 9999 h h1 h2
      show ((⟨c'⟩ : Array Value).size == (⟨d'⟩ : Array Value).size && _) = true
      simp only [List.size_toArray, g1, beq_self_eq_true, Bool.true_and]
      exact g2
    · exact hc _ _ _ _ _ h h0 hk
  simp only [Instr.keyThatStays, Sem.run_ite, if_pos hb, Sem.run_pure]

theorem wf_mapOf (x : Value) : Wf (mapOf x) := by
  unfold mapOf
  (repeat' first | exact wf_bad _ | exact wf_ret _ | exact wf_eget _ | refine wf_bnd ?_ fun _ => ?_ | split)

theorem sim_mapOf {x x' : Value} (hx : VR P μ x x') {xt : TypeId} {α β : Type} {R : Ren → α → β → Prop} {f : List MapEntry × Nat → EM α} {m : Result β} (hwf : ∀ a, Wf (f a))
    (h : ∀ es es' k, MRel P μ es es'.toList → (x' = .map none ∧ es' = #[] ∨ ∃ r, x' = .map (some r) ∧ w.heap[r]? = some (.map es' k)) → Sim P μ s w R (f (es, k) s) m) :
    Sim P μ s w R (((mapOf x).bnd f) s) m := by
  unfold mapOf
  split
  · cases hx
    exact h [] #[] 0 .nil (.inl ⟨rfl, rfl⟩)
  · rename_i r
    cases hx with
    | map hr =>
      rename_i pl
      intro a s' he hf hst
      unfold EM.bnd at he
      have he2 : ((eget r).bnd fun o => (match o with | .map es c => EM.ret (es, c) | _ => E.bad "map" : EM (List MapEntry × Nat)).bnd f) s = .ok a s' := by
        rw [← he]
        unfold EM.bnd
        cases eget r s <;> rfl
      refine sim_eget (P := P) (μ := μ) (w := w) (m := m) (R := R) r (fun o ho => ?_) a s' he2 hf hst
      cases o with
      | map es c =>
        intro a s' he hf hst
        obtain ⟨plr, o', h1, h2, h3, es', h4, h5⟩ := hst.obj _ _ ho
        rw [hr] at h1; cases h1
        subst h4
        exact h es es' c h5 (.inr ⟨_, rfl, h2⟩) a s' he hf hst
      | _ => exact Sim.bad _ _
  · exact Sim.bad _ _

theorem wf_eLookup (t : TypeId) (x ix : Value) (ok : Bool) : Wf (eLookup P t x ix ok) := by
  unfold eLookup
  (repeat' first | exact wf_bad _ | exact wf_ret _ | exact wf_mapOf _ | exact wf_lift _ _ | refine wf_bnd ?_ fun _ => ?_ | refine wf_cond _ ?_ ?_ | split)
theorem sim_eLookup {t : TypeId} {x x' ix ix' : Value} {ok : Bool} (hx : VR P μ x x') (hi : VR P μ ix ix') :
    Sim P μ s w (RV P) (eLookup P t x ix ok s) ((Instr.lookup t x' ix' ok).run P w) := by
  unfold eLookup
  show SimM P μ s w _ _ _
  split
  · rename_i kt et hu
    show Sim P μ s w _ _ _
    refine sim_mapOf hx (xt := t) (fun a => ?_) fun es es' k hr hx' => ?_
    · exact wf_cond _ (wf_lift _ _) (wf_bad _)
    · cases hkv : keyV P 10 kt ix with
      | false => exact Sim.bad _ _
      | true =>
        simp only [cond_true]
        cases hf : eFound P kt et ix ok es with
        | none => exact Sim.bad _ _
        | some v =>
          obtain ⟨r', v', h1, hcase, h2⟩ := run_eFound (w := w) hkv hf hi hr
          have hck := run_part_keyV hkv hi w es'.isEmpty 10000 (by decide)
          have : (Instr.lookup t x' ix' ok).run P w = .ok v' w := by
            rcases hx' with ⟨rfl, rfl⟩ | ⟨r, rfl, hr'⟩
            · simp only [Instr.lookup, Sem.run_bind, run_und w hu, Result.andThen_ok, Sem.run_pure]
              rw [hck]
              simp only [Result.andThen_ok]
              rw [h1]
              rcases hcase with ⟨q, rfl, rfl⟩ | ⟨rfl, z, hz, rfl⟩
              · rfl
              · simp only [Result.andThen_ok, Sem.run_bind, hz, Sem.run_pure]
            · simp only [Instr.lookup, Sem.run_bind, run_und w hu, Result.andThen_ok, Sem.run_pure, run_getObj hr' (by intros; simp)]
              rw [hck]
              simp only [Result.andThen_ok]
              rw [h1]
              rcases hcase with ⟨q, rfl, rfl⟩ | ⟨rfl, z, hz, rfl⟩
              · rfl
              · simp only [Result.andThen_ok, Sem.run_bind, hz, Sem.run_pure]
          rw [this]
          exact Sim.ret h2
  · exact Sim.bad _ _
end
end Go.E

namespace Go.E

section
variable {P : Program} {μ : Ren} {s : ES} {w : World}

theorem sim_eset {r : Nat} {o o1 : EObj} {pl : Pl} {o1' : Obj} {β : Type} {R : Ren → Unit → β → Prop} {m : Result β} {b : β} (ho : s.st.get r = some o) (hp : μ r = some pl) (hor : OR P μ pl o1 o1')
    (hm : m = .ok b { w with heap := w.heap.setIfInBounds pl.b o1' }) (hr : R μ () b) : Sim P μ s w R (eset r o1 s) m := by
  intro a s' he _ hst
  unfold eset at he
  simp only [ho, Res.ok.injEq] at he
  obtain ⟨_, rfl⟩ := he
  rw [hm]
  exact sim_set (w' := { w with heap := w.heap.setIfInBounds pl.b o1' }) hst ho hp rfl rfl rfl rfl hor hr _
theorem sim_esetK {r : Nat} {o o1 : EObj} {pl : Pl} {o1' : Obj} {α β : Type} {R : Ren → α → β → Prop} {m : Result β} {b : β} {a : α} {f : Unit → EM α} (ho : s.st.get r = some o) (hp : μ r = some pl) (hor : OR P μ pl o1 o1')
    (hf : ∀ u, f u = EM.ret a) (hm : m = .ok b { w with heap := w.heap.setIfInBounds pl.b o1' }) (hr : R μ a b) : Sim P μ s w R (((eset r o1).bnd f) s) m := by
  intro x s' he _ hst
  unfold EM.bnd eset at he
  simp only [ho, hf, EM.ret, Res.ok.injEq] at he
  obtain ⟨rfl, rfl⟩ := he
  rw [hm]
  exact sim_set (w' := { w with heap := w.heap.setIfInBounds pl.b o1' }) hst ho hp rfl rfl rfl rfl hor hr _

/-- a map that a name holds -/
theorem sim_getMap {r : Nat} {pl : Pl} (hp : μ r = some pl) {α β : Type} {R : Ren → α → β → Prop} {f : EObj → EM α} {m : Result β}
    (hb : ∀ o, (∀ es c, o ≠ .map es c) → ∀ s a s', f o s ≠ .ok a s')
    (h : ∀ es es' c, s.st.get r = some (.map es c) → MRel P μ es es'.toList → pl.base = 0 → w.heap[pl.b]? = some (.map es' c) → Sim P μ s w R (f (.map es c) s) m) :
    Sim P μ s w R (((eget r).bnd f) s) m := by
  refine sim_eget r fun o ho => ?_
  intro a s' he hf hst
  obtain ⟨plr, o', h1, h2, h3⟩ := hst.obj _ _ ho
  rw [hp] at h1; cases h1
  cases o with
  | map es c =>
    obtain ⟨h4, es', h5, h6⟩ := h3
    subst h5
    exact h es es' c ho h6 h4 h2 a s' he hf hst
  | _ => exact absurd he (hb _ (by intros; simp) _ _ _)

theorem get_mod {l : List MapEntry} {i : Nat} {e : MapEntry} (h : l[i]? = some e) : ((l[i]?).map (·.key)).getD e.key = e.key := by simp [h]

theorem wf_eMapUpdate (t : TypeId) (m k v : Value) : Wf (eMapUpdate P t m k v) := by
  unfold eMapUpdate eMapUpdate1
  (repeat' first | exact wf_bad _ | exact wf_ret _ | exact wf_eget _ | exact wf_eset _ _ | refine wf_cond _ ?_ ?_ | refine wf_bnd ?_ fun _ => ?_ | split)
theorem sim_eMapUpdate {t : TypeId} {x x' k k' v v' : Value} (hx : VR P μ x x') (hk : VR P μ k k') (hv : VR P μ v v') :
    Sim P μ s w (fun _ _ _ => True) (eMapUpdate P t x k v s) ((Instr.mapUpdate t x' k' v').run P w) := by
  unfold eMapUpdate
  show SimM P μ s w _ _ _
  split
  · rename_i kt et r hu
    cases hx with
    | map hr =>
      rename_i pl
      show Sim P μ s w _ _ _
      cases hkv : keyV P 10 kt k with
      | false => exact Sim.bad _ _
      | true =>
        simp only [cond_true]
        obtain ⟨u, hu'⟩ := und_of_keyV hkv
        have hck := run_part_keyV hkv hk w false 10000 (by decide)
        unfold eMapUpdate1
        refine sim_getMap hr (fun o ho s a s' => ?_) fun es es' c hg hm hb hw => ?_
        · cases o <;> first | exact absurd rfl (ho _ _) | (intro h; cases h)
        · simp only
          show SimM P μ s w _ _ _
          split
          · rename_i i e hf
            show Sim P μ s w _ _ _
            cases hse : sameE e.key k with
            | false => exact Sim.bad _ _
            | true =>
              simp only [cond_true]
              obtain ⟨r', h1, h2⟩ := run_findKey (w := w) hk hu' hf hm
              cases r' with
              | none => exact absurd h2 (by simp [FoundR])
              | some q =>
                obtain ⟨h3, n, e', h4, h5, h6, h7⟩ := h2
                obtain ⟨n', h8, h9⟩ := findE_at _ _ _ _ hf
                have hn : n' = n := by omega
                subst hn
                have hi : i = n' := by omega
                obtain ⟨qi, qv⟩ := q
                simp only at h3 h6
                subst h3 hi
                cases h7 with
                | mk b hk0 hv0 =>
                  have hks := run_keyStays (w := w) hse hk0 hk
                  refine sim_eset (b := ()) hg hr (o1' := .map (es'.modify i fun e => { e with key := k', val := v' }) c) ?_ ?_ trivial
                  · refine ⟨hb, _, rfl, ?_⟩
                    rw [Array.toList_modify]
                    exact hm.put h9 h5 (.mk _ hk hv)
                  · have h5' := h5
                    rw [Array.getElem?_toList] at h5'
                    simp only [Instr.mapUpdate, Sem.run_bind, run_und w hu, Result.andThen_ok, run_getObj hw (by intros; simp), hck, h1, h5', Option.map_some, Option.getD_some, hks, run_setObj hw (by intros; simp)]
          · rename_i hf
            obtain ⟨r', h1, h2⟩ := run_findKey (w := w) hk hu' hf hm
            cases r' with
            | some q => exact absurd h2 (by simp [FoundR])
            | none =>
              refine sim_eset (b := ()) hg hr (o1' := .map (es'.push { key := k', val := v', born := c }) (c + 1)) ?_ ?_ trivial
              · exact ⟨hb, _, rfl, by rw [Array.toList_push]; exact hm.append (.cons (.mk _ hk hv) .nil)⟩
              · simp only [Instr.mapUpdate, Sem.run_bind, run_und w hu, Result.andThen_ok, run_getObj hw (by intros; simp), hck, h1, run_setObj hw (by intros; simp)]
          · exact Sim.bad _ _
  · exact Sim.bad _ _

theorem wf_eMapEntry (t : TypeId) (m k : Value) : Wf (eMapEntry P t m k) := by
  unfold eMapEntry eMapEntry1
  (repeat' first | exact wf_bad _ | exact wf_ret _ | exact wf_eget _ | exact wf_eset _ _ | refine wf_cond _ ?_ ?_ | refine wf_bnd ?_ fun _ => ?_ | split)
theorem sim_eMapEntry {t : TypeId} {x x' k k' : Value} (hx : VR P μ x x') (hk : VR P μ k k') :
    Sim P μ s w (RV P) (eMapEntry P t x k s) ((Instr.mapEntry t x' k').run P w) := by
  unfold eMapEntry
  show SimM P μ s w _ _ _
  split
  · rename_i kt et r hu
    cases hx with
    | map hr =>
      rename_i pl
      show Sim P μ s w _ _ _
      cases hkv : keyV P 10 kt k with
      | false => exact Sim.bad _ _
      | true =>
        simp only [cond_true]
        obtain ⟨u, hu'⟩ := und_of_keyV hkv
        have hck := run_part_keyV hkv hk w false 10000 (by decide)
        unfold eMapEntry1
        refine sim_getMap hr (fun o ho s a s' => ?_) fun es es' c hg hm hb hw => ?_
        · cases o <;> first | exact absurd rfl (ho _ _) | (intro h; cases h)
        · simp only
          show SimM P μ s w _ _ _
          split
          · rename_i i e hf
            show Sim P μ s w _ _ _
            cases hse : sameE e.key k with
            | false => exact Sim.bad _ _
            | true =>
              simp only [cond_true]
              obtain ⟨r', h1, h2⟩ := run_findKey (w := w) hk hu' hf hm
              cases r' with
              | none => exact absurd h2 (by simp [FoundR])
              | some q =>
                obtain ⟨h3, n, e', h4, h5, h6, h7⟩ := h2
                obtain ⟨n', h8, h9⟩ := findE_at _ _ _ _ hf
                have hn : n' = n := by omega
                subst hn
                have hi : i = n' := by omega
                obtain ⟨qi, qv⟩ := q
                simp only at h3 h6
                subst h3 hi
                cases h7 with
                | mk b hk0 hv0 =>
                  have hks := run_keyStays (w := w) hse hk0 hk
                  refine sim_esetK (b := .tuple #[qv, goInt b]) hg hr (o1' := .map (es'.modify i fun e => { e with key := k' }) c) ?_ (fun _ => rfl) ?_ ?_
                  · refine ⟨hb, _, rfl, ?_⟩
                    rw [Array.toList_modify]
                    exact hm.put h9 h5 (.mk _ hk hv0)
                  · have h5' := h5
                    rw [Array.getElem?_toList] at h5'
                    simp only [Instr.mapEntry, Sem.run_bind, run_und w hu, Result.andThen_ok, run_getObj hw (by intros; simp), hck, h1, h5', Option.map_some, Option.getD_some, hks, run_setObj hw (by intros; simp), Sem.run_pure]
                  · subst h6; exact .tuple (.cons hv0 (.cons (.int _ _) .nil))
          · rename_i hf
            split
            · rename_i z hz
              obtain ⟨r', h1, h2⟩ := run_findKey (w := w) hk hu' hf hm
              have hzz : VR P μ z z := VR.of_plain z (zer_info hz).1
              cases r' with
              | some q => exact absurd h2 (by simp [FoundR])
              | none =>
                refine sim_esetK (b := .tuple #[z, goInt c]) hg hr (o1' := .map (es'.push { key := k', val := z, born := c }) (c + 1)) ?_ (fun _ => rfl) ?_ ?_
                · exact ⟨hb, _, rfl, by rw [Array.toList_push]; exact hm.append (.cons (.mk _ hk hzz) .nil)⟩
                · simp only [Instr.mapEntry, Sem.run_bind, run_und w hu, Result.andThen_ok, run_getObj hw (by intros; simp), hck, h1, run_zer w hz, run_setObj hw (by intros; simp), Sem.run_pure]
                · exact .tuple (.cons hzz (.cons (.int _ _) .nil))
            · exact Sim.bad _ _
          · exact Sim.bad _ _
  · exact Sim.bad _ _

theorem atBorn_ok {b : Int} {v v' : Value} (hv : VR P μ v v') : ∀ (es es' : List MapEntry) (r : List MapEntry), atBorn b v es = some r → MRel P μ es es' →
    ∃ i, es'.findIdx? (fun e => (e.born : Int) == b) = some i ∧ MRel P μ r (es'.modify i fun e => { e with val := v' })
  | [], _, r, h, hm => by simp [atBorn] at h
  | e :: es, _, r, h, hm => by
    cases hm with
    | cons he hl =>
      rename_i e' l'
      cases he with
      | mk bo hk hv0 =>
        simp only [atBorn] at h
        by_cases hb : (bo : Int) = b
        · simp only [hb, decide_true, cond_true, Option.some.injEq] at h
          subst h
          exact ⟨0, by simp [List.findIdx?_cons, hb], by simp; exact .cons (.mk _ hk hv) hl⟩
        · simp only [hb, decide_false, cond_false] at h
          cases ha : atBorn b v es with
          | none => simp [ha] at h
          | some r' =>
            simp only [ha, Option.map_some, Option.some.injEq] at h
            subst h
            obtain ⟨i, h1, h2⟩ := atBorn_ok hv es l' r' ha hl
            exact ⟨i + 1, by simp [List.findIdx?_cons, hb, h1], by simp; exact .cons (.mk _ hk hv0) h2⟩

theorem wf_eEntryStore (m k v : Value) : Wf (eEntryStore m k v) := by
  unfold eEntryStore
  (repeat' first | exact wf_bad _ | exact wf_ret _ | exact wf_eget _ | exact wf_eset _ _ | refine wf_cond _ ?_ ?_ | refine wf_bnd ?_ fun _ => ?_ | split)
theorem sim_eEntryStore {t : TypeId} {x x' k k' v v' : Value} (hx : VR P μ x x') (hk : VR P μ k k') (hv : VR P μ v v') :
    Sim P μ s w (fun _ _ _ => True) (eEntryStore x k v s) ((Instr.entryStore t x' k' v').run P w) := by
  unfold eEntryStore
  show SimM P μ s w _ _ _
  split
  · rename_i r kk b hkk
    rw [asI_some hkk] at hk
    cases hk
    cases hx with
    | map hr =>
      rename_i pl
      show Sim P μ s w _ _ _
      refine sim_getMap hr (fun o ho s a s' => ?_) fun es es' c hg hm hb hw => ?_
      · cases o <;> first | exact absurd rfl (ho _ _) | (intro h; cases h)
      · simp only
        show SimM P μ s w _ _ _
        split
        · rename_i es2 ha
          obtain ⟨i, h1, h2⟩ := atBorn_ok hv _ _ _ ha hm
          have h1' : es'.findIdx? (fun e => (e.born : Int) == b) = some i := by
            rw [← h1]; cases es'; exact List.findIdx?_toArray _ _
          refine sim_eset (b := ()) hg hr (o1' := .map (es'.modify i fun e => { e with val := v' }) c) ?_ ?_ trivial
          · refine ⟨hb, _, rfl, ?_⟩
            rw [Array.toList_modify]
            exact h2
          · simp only [Instr.entryStore, Sem.run_bind, Result.andThen_ok, run_getObj hw (by intros; simp), asInt, asIntOf, Sem.run_pure, h1', run_setObj hw (by intros; simp)]
        · exact Sim.bad _ _
  · exact Sim.bad _ _

theorem wf_eDelete (t : TypeId) (m k : Value) : Wf (eDelete P t m k) := by
  unfold eDelete eDelete1
  (repeat' first | exact wf_bad _ | exact wf_ret _ | exact wf_eget _ | exact wf_eset _ _ | refine wf_cond _ ?_ ?_ | refine wf_bnd ?_ fun _ => ?_ | split)
theorem sim_eDelete {ts : Array TypeId} {ty t : TypeId} {x x' k k' : Value} {as' : Array Value} (hts : ts[0]? = some t) (h0 : as'[0]? = some x') (h1 : as'[1]? = some k') (hx : VR P μ x x') (hk : VR P μ k k') :
    Sim P μ s w (fun _ _ b => b = .tuple #[]) (eDelete P t x k s) ((Builtin.delete_ ts ty as').run P w) := by
  unfold eDelete
  show SimM P μ s w _ _ _
  split
  · rename_i kt et r hu
    cases hx with
    | map hr =>
      rename_i pl
      show Sim P μ s w _ _ _
      cases hkv : keyV P 10 kt k with
      | false => exact Sim.bad _ _
      | true =>
        simp only [cond_true]
        obtain ⟨u, hu'⟩ := und_of_keyV hkv
        unfold eDelete1
        refine sim_getMap hr (fun o ho s a s' => ?_) fun es es' c hg hm hb hw => ?_
        · cases o <;> first | exact absurd rfl (ho _ _) | (intro h; cases h)
        · have hck := run_part_keyV hkv hk w es'.isEmpty 10000 (by decide)
          simp only
          show SimM P μ s w _ _ _
          split
          · rename_i i e hf
            obtain ⟨r', h2, h3⟩ := run_findKey (w := w) hk hu' hf hm
            cases r' with
            | none => exact absurd h3 (by simp [FoundR])
            | some q =>
              obtain ⟨h4, n, e', h5, h6, h7, h8⟩ := h3
              obtain ⟨qi, qv⟩ := q
              subst h4
              have hi : i = n := by omega
              subst hi
              refine sim_eset (b := .tuple #[]) hg hr (o1' := .map (es'.eraseIdxIfInBounds i) c) ?_ ?_ rfl
              · refine ⟨hb, _, rfl, ?_⟩
                have : (es'.eraseIdxIfInBounds i).toList = es'.toList.take i ++ es'.toList.drop (i + 1) := by
                  rw [Array.toList_eraseIdxIfInBounds, List.eraseIdx_eq_take_drop_succ]
                rw [this]
                exact (hm.take i).append (hm.drop _)
              · simp only [Builtin.delete_, hts, h0, h1, Sem.run_bind, run_und w hu, Result.andThen_ok, run_getObj hw (by intros; simp), hck, h2, run_setObj hw (by intros; simp), Sem.run_pure]
          · rename_i hf
            obtain ⟨r', h2, h3⟩ := run_findKey (w := w) hk hu' hf hm
            cases r' with
            | some q => exact absurd h3 (by simp [FoundR])
            | none =>
              refine sim_eset (b := .tuple #[]) hg hr (o1' := .map es' c) ⟨hb, _, rfl, hm⟩ ?_ rfl
              simp only [Builtin.delete_, hts, h0, h1, Sem.run_bind, run_und w hu, Result.andThen_ok, run_getObj hw (by intros; simp), hck, h2, run_setObj hw (by intros; simp), Sem.run_pure]
          · exact Sim.bad _ _
  · rename_i kt et hu
    cases hx
    show Sim P μ s w _ _ _
    cases hkv : keyV P 10 kt k with
    | false => exact Sim.bad _ _
    | true =>
      simp only [cond_true]
      have hck := run_part_keyV hkv hk w true 10000 (by decide)
      have : (Builtin.delete_ ts ty as').run P w = .ok (.tuple #[]) w := by
        simp only [Builtin.delete_, hts, h0, h1, Sem.run_bind, run_und w hu, Result.andThen_ok, hck, Sem.run_pure]
      rw [this]
      exact Sim.ret rfl
  · exact Sim.bad _ _
end
end Go.E

