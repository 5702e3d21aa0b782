import Derived.Test.YthbkkpahoolhbaaGreatDoorEv06
set_option linter.unusedSimpArgs false
set_option linter.unusedVariables false
set_option linter.unusedSectionVars false
namespace Go.E

section
variable {P : Program} {μ : Ren} {s : ES} {w : World}

/-! ### iterators -/
theorem sim_obj {o : EObj} {o' : Obj} {α β : Type} {R : Ren → α → β → Prop} {f : Nat → EM α} {a : Nat → α} {b : β} {m : Result β} {w' : World}
    (hw : w'.heap = w.heap.push o') (ht : w'.tape = w.tape) (hos : w'.os = w.os) (hou : w'.output = w.output)
    (hor : ∀ μ', Sub μ μ' → OR P μ' ⟨w.heap.size, 0, 0, 0⟩ o o') (hf : ∀ r, f r = EM.ret (a r)) (hm : m = .ok b w')
    (hr : ∀ μ', Sub μ μ' → μ' s.nx = some ⟨w.heap.size, 0, 0, 0⟩ → R μ' (a s.nx) b) : Sim P μ s w R (((enew o).bnd f) s) m := by
  intro x s' hx hfr hst
  unfold EM.bnd enew at hx
  simp only [hf, EM.ret, Res.ok.injEq] at hx
  obtain ⟨rfl, rfl⟩ := hx
  rw [hm]
  exact sim_new (pl := ⟨w.heap.size, 0, 0, 0⟩) hst (hfr _ (Nat.le_refl _) (Nat.lt_succ_self _)) rfl hw ht hos hou hor hr

theorem wf_eRange (t : TypeId) (x : Value) : Wf (eRange P t x) := by
  unfold eRange
  (repeat' first | exact wf_bad _ | exact wf_ret _ | exact wf_eget _ | exact wf_enew _ | refine wf_bnd ?_ fun _ => ?_ | split)
theorem sim_eRange {t : TypeId} {x x' : Value} (hx : VR P μ x x') : Sim P μ s w (RV P) (eRange P t x s) ((Instr.range t x').run P w) := by
  unfold eRange
  show SimM P μ s w _ _ _
  split
  · rename_i str hu
    cases hx
    refine sim_obj (w' := { w with heap := w.heap.push (.stringIter str 0) }) (o' := .stringIter str 0) (b := .pointer (some ⟨w.heap.size, 0, none⟩)) rfl rfl rfl rfl (fun μ' hs => ⟨rfl, rfl⟩) (fun r => rfl) ?_ (fun μ' hs hn => VR.newPtr hn)
    simp only [Instr.range, Sem.run_bind, run_und w hu, Result.andThen_ok, Sem.run_pure, run_newObj]
  · rename_i k e hu
    cases hx
    refine sim_obj (w' := { w with heap := w.heap.push (.mapIter none 0 #[] 0) }) (o' := .mapIter none 0 #[] 0) (b := .pointer (some ⟨w.heap.size, 0, none⟩)) rfl rfl rfl rfl (fun μ' hs => ⟨rfl, rfl⟩) (fun r => rfl) ?_ (fun μ' hs hn => VR.newPtr hn)
    simp only [Instr.range, Sem.run_bind, run_und w hu, Result.andThen_ok, Sem.run_pure, run_newObj]
  · rename_i k e m hu
    cases hx with
    | map hr =>
      rename_i pl
      show Sim P μ s w _ _ _
      refine sim_getMap hr (fun o ho s a s' => ?_) fun es es' c hg hm hb hw => ?_
      · cases o <;> first | exact absurd rfl (ho _ _) | (intro h; cases h)
      · refine sim_obj (w' := { w with heap := w.heap.push (.mapIter (some pl.b) c #[] c) }) (o' := .mapIter (some pl.b) c #[] c) (b := .pointer (some ⟨w.heap.size, 0, none⟩)) rfl rfl rfl rfl (fun μ' hs => ⟨rfl, pl, hs _ _ hr, rfl⟩) (fun r => rfl) ?_ (fun μ' hs hn => VR.newPtr hn)
        simp only [Instr.range, Sem.run_bind, run_und w hu, Result.andThen_ok, Sem.run_pure, run_newObj, run_getObj hw (by intros; simp)]
  · exact Sim.bad _ _

theorem MRel.filter {l l' : List MapEntry} (h : MRel P μ l l') (p : Nat → Bool) : MRel P μ (l.filter fun e => p e.born) (l'.filter fun e => p e.born) := by
  induction h with
  | nil => exact .nil
  | cons hx hl ih =>
    cases hx with
    | mk b hk hv =>
      simp only [List.filter_cons]
      cases p b with
      | true => exact .cons (.mk b hk hv) ih
      | false => exact ih
theorem MRel.allb {l l' : List MapEntry} (h : MRel P μ l l') (p : Nat → Bool) : (l.all fun e => p e.born) = (l'.all fun e => p e.born) := by
  induction h with
  | nil => rfl
  | cons hx hl ih => cases hx; simp [ih]

theorem run_nextM {it : Value} {t : TypeId} {r m since last : Nat} {seen : List Nat} {es : Array MapEntry} {c : Nat} (hr : w.heap[r]? = some (.mapIter (some m) since ⟨seen⟩ last)) (hm : w.heap[m]? = some (.map es c))
    (h1 : (!seen.isEmpty && !es.isEmpty && es.all (fun e => decide (e.born ≥ last))) = false) (hit : it = .pointer (some ⟨r, 0, none⟩)) :
    (((es.toList.filter fun e => !seen.contains e.born) = [] → (Instr.next it false t).run P w = .ok (.tuple #[.bool false]) w)) ∧
    (∀ e, (es.toList.filter fun e => !seen.contains e.born) = [e] → e.born < since → (Instr.next it false t).run P w = .ok (.tuple #[.bool true, e.key, e.val]) { w with heap := w.heap.setIfInBounds r (.mapIter (some m) since (⟨seen ++ [e.born]⟩) c) }) := by
  subst hit
  have hf : (es.filter fun e => !(⟨seen⟩ : Array Nat).contains e.born).toList = es.toList.filter fun e => !seen.contains e.born := by
    rw [Array.toList_filter]
    congr 1
    funext e
    simp
  have h1' : ¬ ((!(⟨seen⟩ : Array Nat).isEmpty && !es.isEmpty && es.all (fun e => decide (e.born ≥ last))) = true) := by
    rw [Bool.not_eq_true]
    simpa using h1
  constructor
  · intro he
    rw [he] at hf
    have hf' : (es.filter fun e => !(⟨seen⟩ : Array Nat).contains e.born) = #[] := Array.ext' hf
    simp only [Instr.next, Sem.run_bind, run_getObj hr (by intros; simp), Result.andThen_ok, run_getObj hm (by intros; simp), Sem.run_ite, if_neg h1', hf']
    have ho : ((#[] : Array MapEntry).filter fun e => decide (e.born < since)) = #[] := by simp
    have hn : ((#[] : Array MapEntry).filter fun e => decide (e.born ≥ since)) = #[] := by simp
    rw [ho, hn]
    have hcand : ((if (#[] : Array MapEntry).isEmpty = true then #[none] else #[]) ++ Array.map some ((#[] : Array MapEntry) ++ #[])) = #[none] := by simp
    rw [hcand]
    rfl
  · intro e he hlt
    rw [he] at hf
    have hf' : (es.filter fun e => !(⟨seen⟩ : Array Nat).contains e.born) = #[e] := Array.ext' hf
    have hge : ¬ (e.born ≥ since) := by omega
    simp only [Instr.next, Sem.run_bind, run_getObj hr (by intros; simp), Result.andThen_ok, run_getObj hm (by intros; simp), Sem.run_ite, if_neg h1', hf']
    have ho : (#[e].filter fun e => decide (e.born < since)) = #[e] := by simp [hlt]
    have hn : (#[e].filter fun e => decide (e.born ≥ since)) = #[] := by simp; omega
    rw [ho, hn]
    have hcand : ((if #[e].isEmpty = true then #[none] else #[]) ++ Array.map some (#[e] ++ #[])) = #[some e] := by simp
    rw [hcand]
    show (((setObj r (.mapIter (some m) since ((⟨seen⟩ : Array Nat).push e.born) c)).bind fun _ => pure (.tuple #[.bool true, e.key, e.val]) : Sem Value).run P w) = _
    have hb := Sem.run_bind (P := P) (w := w) (setObj r (.mapIter (some m) since ((⟨seen⟩ : Array Nat).push e.born) c)) (fun _ => (pure (.tuple #[.bool true, e.key, e.val]) : Sem Value))
    refine hb.trans ?_
    rw [run_setObj hr (by intros; simp)]
    simp

theorem wf_eNext (it : Value) (b : Bool) : Wf (eNext it b) := by
  unfold eNext eNextS eNextM eNextL
  (repeat' first | exact wf_bad _ | exact wf_ret _ | exact wf_eget _ | exact wf_eset _ _ | refine wf_cond _ ?_ ?_ | refine wf_bnd ?_ fun _ => ?_ | split)

theorem sim_eNext {it it' : Value} {b : Bool} {t : TypeId} (hi : VR P μ it it') : Sim P μ s w (RV P) (eNext it b s) ((Instr.next it' b t).run P w) := by
  unfold eNext
  show SimM P μ s w _ _ _
  split
  · rename_i r
    obtain ⟨pl, hp, _, rfl⟩ := hi.ptr_inv
    show Sim P μ s w _ _ _
    refine sim_eget _ fun o ho => ?_
    intro v s' he hf hst
    obtain ⟨pl', o', p1, p2, p3⟩ := hst.obj _ _ ho
    rw [hp] at p1; cases p1
    cases o with
    | siter str pos =>
      obtain ⟨hb, rfl⟩ := p3
      cases b with
      | false => exact absurd he (by intro h; cases h)
      | true =>
        rw [hb]
        have key : Sim P μ s w (RV P) (eNextS r str pos s) ((Instr.next (.pointer (some ⟨pl.b, 0 + 0, none⟩)) true t).run P w) := by
          unfold eNextS
          cases hlt : pos.blt str.size with
          | true =>
            have hlt' : pos < str.size := by simpa using hlt
            simp only [cond_true]
            refine sim_esetK (b := .tuple #[.bool true, goInt pos, .int .i32 (Utf8.decode str pos).1]) ho hp (o1' := .stringIter str (pos + (Utf8.decode str pos).2)) ⟨hb, rfl⟩ (fun _ => rfl) ?_ (.tuple (.cons (.bool _) (.cons (.int _ _) (.cons (.int _ _) .nil))))
            simp only [Instr.next, Sem.run_bind, run_getObj p2 (by intros; simp), Result.andThen_ok, if_pos hlt']
            simp only [Sem.run_bind, run_setObj p2 (by intros; simp), Result.andThen_ok, Sem.run_pure]
          | false =>
            have hlt' : ¬ pos < str.size := by intro h; have : pos.blt str.size = true := by simpa using h
                                               rw [hlt] at this; cases this
            simp only [cond_false]
            have : (Instr.next (.pointer (some ⟨pl.b, 0 + 0, none⟩)) true t).run P w = .ok (.tuple #[.bool false]) w := by
              simp only [Instr.next, Sem.run_bind, run_getObj p2 (by intros; simp), Result.andThen_ok, if_neg hlt', Sem.run_pure]
            rw [this]
            exact Sim.ret (.tuple (.cons (.bool _) .nil))
        exact key v s' he hf hst
    | miter m si se la =>
      cases m with
      | none =>
        obtain ⟨hb, rfl⟩ := p3
        cases b with
        | true => exact absurd he (by intro h; cases h)
        | false =>
          rw [hb]
          have : (Instr.next (.pointer (some ⟨pl.b, 0 + 0, none⟩)) false t).run P w = .ok (.tuple #[.bool false]) w := by
            simp only [Instr.next, Sem.run_bind, run_getObj p2 (by intros; simp), Result.andThen_ok, Sem.run_pure]
          rw [this]
          exact Sim.ret (R := RV P) (.tuple (.cons (.bool _) .nil)) v s' he hf hst
      | some m =>
        obtain ⟨hb, pm, hpm, rfl⟩ := p3
        cases b with
        | true => exact absurd he (by intro h; cases h)
        | false =>
          rw [hb]
          have key : Sim P μ s w (RV P) (eNextM r m si se la s) ((Instr.next (.pointer (some ⟨pl.b, 0 + 0, none⟩)) false t).run P w) := by
            unfold eNextM
            refine sim_getMap hpm (fun o ho s a s' => ?_) fun es es' c hg hm hb2 hw => ?_
            · cases o <;> first | exact absurd rfl (ho _ _) | (intro h; cases h)
            · simp only
              cases hall : (!se.isEmpty && !es.isEmpty && es.all fun e => la.ble e.born) with
              | true => exact Sim.bad _ _
              | false =>
                simp only [cond_false]
                have hall' : (!se.isEmpty && !es'.isEmpty && es'.all (fun e => decide (e.born ≥ la))) = false := by
                  have e1 : es.isEmpty = es'.isEmpty := by
                    have hsz : es.length = es'.size := by have := hm.length; simpa using this
                    cases es with
                    | nil =>
                      have h0 : es' = #[] := Array.eq_empty_of_size_eq_zero hsz.symm
                      subst h0; rfl
                    | cons x l =>
                      simp only [List.length_cons] at hsz
                      have h0 : es'.isEmpty = false := by
                        rw [← Bool.not_eq_true, Array.isEmpty_iff]
                        intro h0
                        subst h0
                        simp at hsz
                      rw [h0]; rfl
                  have e2 : (es.all fun e => la.ble e.born) = es'.all (fun e => decide (e.born ≥ la)) := by
                    rw [hm.allb (fun b => la.ble b), Array.all_toList]
                    congr 1
                    funext e
                    rw [Bool.eq_iff_iff]; simp
                  rw [← e1, ← e2]; exact hall
                obtain ⟨n1, n2⟩ := run_nextM (P := P) (t := t) (it := .pointer (some ⟨pl.b, 0 + 0, none⟩)) p2 hw hall' rfl
                have hmf := hm.filter (fun b => !se.contains b)
                have hleft : leftOf se es = es.filter fun e => !se.contains e.born := by
                  unfold leftOf
                  congr 1
                  funext e
                  congr 1
                  rw [List.contains_eq_any_beq]
                  congr 1
                  funext b
                  rw [Bool.eq_iff_iff, Nat.beq_eq, beq_iff_eq]; exact eq_comm
                rw [hleft]
                revert hmf
                cases hl : (es.filter fun e => !se.contains e.born) with
                | nil =>
                  intro hmf
                  have hnil : (es'.toList.filter fun e => !se.contains e.born) = [] := by cases hx : (es'.toList.filter fun e => !se.contains e.born) with
                    | nil => rfl
                    | cons => rw [hx] at hmf; cases hmf
                  rw [n1 hnil]
                  exact Sim.ret (.tuple (.cons (.bool _) .nil))
                | cons e l =>
                  cases l with
                  | cons => intro _; exact Sim.bad _ _
                  | nil =>
                    intro hmf
                    unfold eNextL
                    show Sim P μ s w _ _ _
                    cases hs : si.ble e.born with
                    | true => simp only [hs, cond_true]; exact Sim.bad _ _
                    | false =>
                      simp only [hs, cond_false]
                      obtain ⟨e', hx, her⟩ : ∃ e', (es'.toList.filter fun e => !se.contains e.born) = [e'] ∧ ERel P μ e e' := by
                        cases hx : (es'.toList.filter fun e => !se.contains e.born) with
                        | nil => rw [hx] at hmf; cases hmf
                        | cons e' l' => rw [hx] at hmf; cases hmf with | cons h1 h2 => cases h2; exact ⟨e', rfl, h1⟩
                      cases her with
                      | mk bo hk hv =>
                        have hlt : bo < si := by
                          have h : ¬ (si.ble bo = true) := by rw [show si.ble bo = false from hs]; simp
                          rw [Nat.ble_eq] at h; omega
                        have hn := n2 _ hx hlt
                        refine sim_esetK (b := _) ho hp (o1' := .mapIter (some pm.b) si ⟨se ++ [bo]⟩ c) ⟨hb, pm, hpm, rfl⟩ (fun _ => rfl) hn ?_
                        exact .tuple (.cons (.bool _) (.cons hk (.cons hv .nil)))
          exact key v s' he hf hst
    | cells => cases b <;> exact absurd he (by intro h; cases h)
    | map => cases b <;> exact absurd he (by intro h; cases h)
    | loop => cases b <;> exact absurd he (by intro h; cases h)
    | dfr => cases b <;> exact absurd he (by intro h; cases h)
    | kcell => cases b <;> exact absurd he (by intro h; cases h)
  · exact Sim.bad _ _

theorem bornAt_ok {b : Nat} {e : MapEntry} : ∀ {es es' : List MapEntry}, MRel P μ es es' → bornAt b es = some e → ∃ e', (es'.find? fun e => e.born == b) = some e' ∧ ERel P μ e e' := by
  intro es es' hm
  induction hm with
  | nil => intro h; cases h
  | cons hx hl ih =>
    cases hx with
    | mk bo hk hv =>
      intro h
      simp only [bornAt] at h
      by_cases hb : bo = b
      · subst hb
        simp only [Nat.beq_refl, cond_true, Option.some.injEq] at h
        subst h
        exact ⟨_, by simp, .mk _ hk hv⟩
      · have hb' : bo.beq b = false := by rw [← Bool.not_eq_true, Nat.beq_eq]; exact hb
        simp only [hb', cond_false] at h
        obtain ⟨e', h1, h2⟩ := ih h
        exact ⟨e', by simp [List.find?_cons, hb, h1], h2⟩

theorem wf_eEntry (it : Value) : Wf (eEntry it) := by
  unfold eEntry eEntryM
  (repeat' first | exact wf_bad _ | exact wf_ret _ | exact wf_eget _ | refine wf_cond _ ?_ ?_ | refine wf_bnd ?_ fun _ => ?_ | split)
theorem sim_eEntry {it it' : Value} (hi : VR P μ it it') : Sim P μ s w (RV P) (eEntry it s) ((Instr.entry it').run P w) := by
  unfold eEntry
  show SimM P μ s w _ _ _
  split
  · rename_i r
    obtain ⟨pl, hp, _, rfl⟩ := hi.ptr_inv
    show Sim P μ s w _ _ _
    refine sim_eget _ fun o ho => ?_
    intro v s' he hf hst
    obtain ⟨pl', o', p1, p2, p3⟩ := hst.obj _ _ ho
    rw [hp] at p1; cases p1
    revert he
    split
    · rename_i m si se la
      obtain ⟨hb, pm, hpm, rfl⟩ := p3
      cases hb' : se.getLast? with
      | none => intro he; cases he
      | some b =>
        intro he
        rw [hb]
        have key : Sim P μ s w (RV P) (eEntryM m b la s) ((Instr.entry (.pointer (some ⟨pl.b, 0 + 0, none⟩))).run P w) := by
          unfold eEntryM
          refine sim_getMap hpm (fun o ho s a s' => ?_) fun es es' c hg hm hb2 hw => ?_
          · cases o <;> first | exact absurd rfl (ho _ _) | (intro h; cases h)
          · simp only
            cases hc : c.beq la with
            | false => exact Sim.bad _ _
            | true =>
              have hc' : c = la := by simpa using hc
              subst hc'
              simp only [cond_true]
              show SimM P μ s w _ _ _
              split
              · rename_i e hbo
                obtain ⟨e', h1, h2⟩ := bornAt_ok hm hbo
                have hback : (⟨se⟩ : Array Nat).back? = some b := by rw [← hb']; simp
                have h1' : es'.find? (fun e => e.born == b) = some e' := by rw [← h1]; simp
                have : (Instr.entry (.pointer (some ⟨pl.b, 0 + 0, none⟩))).run P w = .ok (.tuple #[e'.key, e'.val]) w := by
                  have hne : ¬ ((c != c) = true) := by simp
                  simp only [Instr.entry, Sem.run_bind, run_getObj p2 (by intros; simp), Result.andThen_ok, hback, run_getObj hw (by intros; simp), Sem.run_ite, if_neg hne, h1', Sem.run_pure]
                rw [this]
                cases h2 with
                | mk bo hk hv => exact Sim.ret (.tuple (.cons hk (.cons hv .nil)))
              · exact Sim.bad _ _
        exact key v s' he hf hst
    · intro he; cases he
  · exact Sim.bad _ _
end
end Go.E

namespace Go.E

section
variable {P : Program} {μ : Ren} {s : ES} {w : World}

/-! ### conversions -/
theorem intsOf_vrl (l : List UInt8) : VRL P μ (intsOf l) (intsOf l) := by
  unfold intsOf
  induction l with
  | nil => exact .nil
  | cons b l ih => exact .cons (.int _ _) ih

theorem wf_eConvert (a b : TypeId) (x : Value) : Wf (eConvert P a b x) := by
  unfold eConvert eBytesOf eStringOf
  (repeat' first | exact wf_bad _ | exact wf_ret _ | exact wf_rdCells _ _ | exact wf_enew _ | refine wf_bnd ?_ fun _ => ?_ | split)

theorem bytesOfCells_ok : ∀ (c c' : List Value) (l : List UInt8), bytesOfCells c = some l → VRL P μ c c' → ∃ ns : List Int, c' = ns.map (Value.int .u8) ∧ l = ns.map fun n => UInt8.ofNat n.toNat
  | [], c', l, h, hr => by
    cases hr
    simp only [bytesOfCells, Option.some.injEq] at h; subst h
    exact ⟨[], rfl, rfl⟩
  | x :: c, c', l, h, hr => by
    cases hr with
    | cons hx hl =>
      unfold bytesOfCells at h
      split at h
      · rename_i heq; cases heq
      · rename_i n c2 heq
        cases heq
        cases hx
        cases hb : bytesOfCells c with
        | none => simp [hb] at h
        | some l2 =>
          simp only [hb, Option.map_some, Option.some.injEq] at h
          obtain ⟨ns, h1, h2⟩ := bytesOfCells_ok c _ l2 hb hl
          exact ⟨n :: ns, by simp [h1], by simp [← h, h2]⟩
      · cases h

theorem foldl_push (ns : List Int) (s : ByteArray) : (ns.foldl (fun r n => r.push (UInt8.ofNat n.toNat)) s) = ⟨s.data ++ (ns.map fun n => UInt8.ofNat n.toNat).toArray⟩ := by
  induction ns generalizing s with
  | nil => apply ByteArray.ext; simp
  | cons n ns ih =>
    simp only [List.foldl_cons]
    rw [ih]
    apply ByteArray.ext
    apply Array.ext'
    simp [ByteArray.push]

theorem run_markS {w1 : World} {a : Addr} {e : TypeId} {n : Nat} (h : w1.shape? a.block = some (e, n)) : (markStringish a).run P w1 = .ok () (w1.freeze ⟨a.block, n, none⟩ 1) := by
  simp only [markStringish, Sem.run_bind, run_shape, h, Result.andThen_ok, run_freeze]

theorem sim_eConvert {a b : TypeId} {x x' : Value} (hx : VR P μ x x') : Sim P μ s w (RV P) (eConvert P a b x s) ((convert a b x').run P w) := by
  unfold eConvert
  show SimM P μ s w _ _ _
  split
  · rename_i d k kk n hs hd
    cases hx
    have : (convert a b (.int kk n)).run P w = .ok (.int k (k.wrap n)) w := by
      simp only [convert, Sem.run_bind, run_und w hs, run_und w hd, Result.andThen_ok, Conv.intToInt, Sem.run_pure]
    rw [this, ewrap_eq]
    exact Sim.ret (.int _ _)
  · rename_i d str hs hd
    cases hx
    have : (convert a b (.string str)).run P w = .ok (.string str) w := by
      simp only [convert, Sem.run_bind, run_und w hs, run_und w hd, Result.andThen_ok, Sem.run_pure]
    rw [this]
    exact Sim.ret (.str _)
  · rename_i d e str hs hd
    cases hx
    unfold eBytesOf
    show SimM P μ s w _ _ _
    split
    · rename_i hu hn
      let cap := (Question.appendCap str.size 0 e).cut (w.tape w.drawn (.appendCap str.size 0 e))
      have hcap : str.size ≤ cap := by simp only [cap, Question.cut]; omega
      let row : Array Value := (str.data.map fun b => Value.int .u8 b.toNat) ++ Array.replicate (cap - str.size) (.int .u8 0)
      have hrl : row.size = cap := by
        simp only [row, Array.size_append, Array.size_map, Array.size_replicate]
        have : str.data.size = str.size := rfl
        omega
      let w1 : World := { w with drawn := w.drawn + 1, heap := w.heap.push (.cells row e (0, 0)) }
      let w2 : World := { w with drawn := w.drawn + 1, heap := w.heap.push (.cells row e (cap, cap + 1)) }
      have hfr : w1.freeze ⟨w.heap.size, row.size, none⟩ 1 = w2 := by
        unfold World.freeze
        rw [if_neg (by decide)]
        simp only [w1, w2, World.mk.injEq, and_true, true_and]
        apply Array.ext_getElem?
        intro j
        rw [Array.getElem?_modify]
        by_cases hj : w.heap.size = j
        · subst hj; simp [hrl]
        · simp [Array.getElem?_push, hj, Ne.symm hj]
      have hrun : (convert a b (.string str)).run P w = .ok (.slice (some ⟨w.heap.size, 0, none⟩) str.size cap) w2 := by
        simp only [convert, Sem.run_bind, run_und w hs, run_und w hd, run_und w hu, Result.andThen_ok, Conv.stringToBytes, run_choose, Question.forced]
        simp only [Bool.false_eq_true, if_false, Result.andThen_ok, newRow, Sem.run_bind, run_newObj, Sem.run_pure]
        have hsh : w1.shape? w.heap.size = some (e, row.size) := by simp [w1, World.shape?]
        have hmk := run_markS (P := P) (w1 := w1) (a := ⟨w.heap.size, 0, none⟩) hsh
        rw [hfr] at hmk
        show (((markStringish ⟨w.heap.size, 0, none⟩).run P w1).andThen _) = _
        rw [hmk]
        rfl
      rw [hrun]
      intro v s' hx hfree hst
      unfold EM.bnd enew at hx
      simp only [EM.ret, Res.ok.injEq] at hx
      obtain ⟨rfl, rfl⟩ := hx
      have hbl := bytes_length str
      have hrow : row.toList.take (intsOf (bytes str)).length = intsOf (bytes str) := by
        simp only [row, Array.toList_append]
        rw [List.take_left' (by simp [intsOf, bytes])]
        simp [intsOf, bytes]
      refine sim_new (w' := w2) (pl := ⟨w.heap.size, 0, cap * 1, e⟩) (o' := .cells row e (cap, cap + 1)) hst (hfree _ (Nat.le_refl _) (Nat.lt_succ_self _)) rfl rfl rfl rfl rfl (fun μ' hs => ⟨rfl, _, _, rfl, ?_, ?_, ?_, ?_⟩) (fun μ' hs hnx => ?_)
      · simp [intsOf, hbl, hcap]
      · simp [hrl]
      · simp only [List.drop_zero]
        rw [hrow]
        exact intsOf_vrl _
      · intro j h1 h2
        simp only at h1 h2 ⊢
        omega
      · rw [hbl]
        exact VR.newSlU hn hnx hcap
    · exact Sim.bad _ _
  · rename_i e ad n c hs hd
    unfold eStringOf
    show SimM P μ s w _ _ _
    split
    · rename_i hu
      split
      · cases hx
        have : (convert a b (.slice none 0 0)).run P w = .ok (.string .empty) w := by
          simp only [convert, Sem.run_bind, run_und w hs, run_und w hd, run_und w hu, Result.andThen_ok, Conv.bytesToString, Sem.run_pure]
        rw [this]
        exact Sim.ret (.str _)
      · rename_i ad
        obtain ⟨pl, c', hp, _, rfl, _⟩ := hx.slice_inv
        intro v s' he hf hst
        unfold EM.bnd at he
        split at he
        · rename_i l s1 h1
          obtain ⟨rfl, r2, vs, r3, r4⟩ := rdCells_ok h1 hst hp
          cases hb : bytesOfCells l with
          | none => simp only [hb] at he; cases he
          | some bs =>
            simp only [hb, EM.ret, Res.ok.injEq] at he
            obtain ⟨rfl, rfl⟩ := he
            obtain ⟨ns, q1, q2⟩ := bytesOfCells_ok _ _ _ hb r3
            have hl := run_loadL (P := P) (w := w) (w1 := w) _ vs n (by rw [← r3.length]; exact r2) rfl r4
            have hl' : (loadCells (⟨pl.b, pl.base + ad.off, none⟩ : Addr) n).run P w = .ok (ns.map (Value.int .u8)).toArray w := by rw [hl, q1]
            have h2 := run_bytesToString (P := P) w ⟨pl.b, pl.base + ad.off, none⟩ n c' ns hl'
            have : (convert a b (.slice (some ⟨pl.b, pl.base + ad.off, none⟩) n c')).run P w = .ok (.string (ofBytes bs)) w := by
              rw [run_convert_bytes_string w a b e _ n c' hs hu hd, h2, foldl_push, q2]
              congr 2
              apply ByteArray.ext
              simp [ofBytes]
            rw [this]
            exact Sim.ret (R := RV P) (.str _) _ _ rfl hf hst
        · cases he
    · exact Sim.bad _ _
  · exact Sim.bad _ _

/-! ### unsafe.String, unsafe.SliceData -/
theorem liesAt_b {e : TypeId} (hc : P.cellsOf e = 1) (count off n : Nat) (hn : off + n ≤ count) : liesAt P P.depth e count off e n = true := by
  have hd : P.depth = (2 * (P.types.size + Made.depth) + 1) + 1 := rfl
  rw [hd]
  simp only [liesAt, Bool.or_eq_true]
  left
  rw [hd]
  simp [rowAt, hc, hn, sameLayout, Nat.mod_one]

theorem run_loadB : ∀ (ns : List Int) (a : Addr) (acc : ByteArray), (∀ j x, ns[j]? = some x → w.cell? (a.add j) = some (.int .u8 x)) →
    (loadBytes a acc ns.length).run P w = .ok ⟨acc.data ++ (ns.map fun n => UInt8.ofNat n.toNat).toArray⟩ w
  | [], a, acc, _ => by simp [loadBytes]
  | x :: l, a, acc, h => by
    have h0 : w.cell? a = some (.int .u8 x) := by
      have := h 0 x rfl
      simpa [Addr.add] using this
    have ih := run_loadB l (a.add 1) (acc.push (UInt8.ofNat x.toNat)) (fun j y hy => by
      have := h (j + 1) y (by simpa using hy)
      have e : (a.add 1).add j = a.add (j + 1) := by
        unfold Addr.add
        by_cases hj : j = 0
        · subst hj; simp
        · simp [hj]; omega
      rw [e]; exact this)
    have hx : (x.toNat).toUInt8 = UInt8.ofNat x.toNat := rfl
    simp only [List.length_cons, loadBytes, Sem.run_bind, run_load, h0, Result.andThen, hx]
    rw [ih]
    congr 1
    apply ByteArray.ext
    simp [ByteArray.push]

/-- a name is given up, and its block changes -/
theorem sim_edelW {r0 : Nat} {o : EObj} {pl : Pl} {α β : Type} {R : Ren → α → β → Prop} {a : α} {b : β} {f : Unit → EM α} {m : Result β} {w' : World} (ho : s.st.get r0 = some o) (hp : μ r0 = some pl)
    (hz : w'.heap.size = w.heap.size) (hk : ∀ j, j ≠ pl.b → w'.heap[j]? = w.heap[j]?) (ht : w'.tape = w.tape) (hos : w'.os = w.os) (hou : w'.output = w.output)
    (hf : ∀ u, f u = EM.ret a) (hm : m = .ok b w') (hr : R μ a b) : Sim P μ s w R (((edel r0).bnd f) s) m := by
  intro x s' hx hfree hst
  unfold EM.bnd edel at hx
  simp only [ho, hf, EM.ret, Res.ok.injEq] at hx
  obtain ⟨rfl, rfl⟩ := hx
  have live1 : ∀ j, Live (s.st.upd r0 none) j → j ≠ r0 ∧ Live s.st j := by
    intro j ⟨y, hy⟩
    rw [Tr.get_upd] at hy
    by_cases hj : j = r0
    · simp [hj] at hy
    · simp only [hj, if_false] at hy; exact ⟨hj, y, hy⟩
  refine ⟨μ, w', b, hm, ⟨Sub.refl _, fun _ _ => rfl, ⟨fun n o hn => ?_, fun n k pn pk hn hk => hst.inj n k pn pk (live1 n hn).2 (live1 k hk).2⟩, ⟨by omega, ht, hos, hou, fun d hd hkk => ?_⟩, fun n pn hl hn => .inr ⟨n, pn, (live1 n hl).2, hn, rfl⟩⟩, hr⟩
  · obtain ⟨hne, _⟩ := live1 n ⟨o, hn⟩
    rw [Tr.get_upd] at hn
    simp only [hne, if_false] at hn
    obtain ⟨pn, on, h1, h2, h3⟩ := hst.obj n o hn
    refine ⟨pn, on, h1, ?_, h3⟩
    rw [hk pn.b (fun hb => hne (hst.inj n r0 pn pl ⟨o, hn⟩ ⟨_, ho⟩ h1 hp hb))]
    exact h2
  · exact hk d (fun hb => hkk r0 pl ⟨_, ho⟩ hp hb.symm)

theorem wf_eUnsafeString (ts : Array TypeId) (args : Array Value) : Wf (eUnsafeString P ts args) := by
  unfold eUnsafeString eUSt
  (repeat' first | exact wf_bad _ | exact wf_ret _ | exact wf_eget _ | exact wf_edel _ | refine wf_cond _ ?_ ?_ | refine wf_bnd ?_ fun _ => ?_ | split)
theorem sim_eUnsafeString {ts : Array TypeId} {ty : TypeId} {as as' : List Value} (ha : VRL P μ as as') :
    Sim P μ s w (RV P) (eUnsafeString P ts ⟨as⟩ s) ((Builtin.unsafeString_ ts ty ⟨as'⟩).run P w) := by
  unfold eUnsafeString
  show SimM P μ s w _ _ _
  split
  · rename_i t tr k n hts has
    subst has
    have h0 := arr0 hts
    cases ha with
    | cons h1 ha => cases ha with
      | cons h2 ha =>
        cases ha; cases h1; cases h2
        show Sim P μ s w _ _ _
        cases hn : ieq n 0 with
        | false => exact Sim.bad _ _
        | true =>
          have hn0 : n = 0 := (ieq_iff _ _).1 hn
          subst hn0
          simp only [cond_true]
          have : (Builtin.unsafeString_ ts ty ⟨[.pointer none, .int k 0]⟩).run P w = .ok (.string .empty) w := by
            have hdef : Builtin.unsafeString_ ts ty ⟨[.pointer none, .int k 0]⟩ =
                (do
                  let n ← asInt (.int k 0)
                  let some pt := ts[0]? | stuck "unsafe.String: no argument types"
                  if n < 0 then runtimePanic (.error "unsafe.String: len out of range")
                  if n > IntKind.i64.max then unsupported (.unsafePointer "String: a length above the largest int")
                  if n = 0 then pure (.string .empty)
                  else runtimePanic (.error "unsafe.String: ptr is nil and len is not zero")) := rfl
            rw [hdef]
            have hmax : IntKind.i64.max = 9223372036854775807 := rfl
            simp [asInt, asIntOf, hmax, h0]
          rw [this]
          exact Sim.ret (.str _)
  · rename_i t tr a k n hts has
    subst has
    have h0 := arr0 hts
    cases ha with
    | cons h1 ha => cases ha with
      | cons h2 ha =>
        cases ha; cases h2
        obtain ⟨pl, hp, hs, rfl⟩ := h1.ptr_inv
        split
        · rename_i u hu
          split
          · rename_i hu8 _
            show Sim P μ s w _ _ _
            cases hn : (ile n 0 || !(ile n 9223372036854775807)) with
            | true => exact Sim.bad _ _
            | false =>
              simp only [Bool.or_eq_false_iff, Bool.not_eq_false', ile_iff, ile_false] at hn
              obtain ⟨hn1, hn2⟩ := hn
              simp only [cond_false]
              unfold eUSt
              show SimM P μ s w _ _ _
              split
              · rename_i hz1
                show Sim P μ s w _ _ _
                refine sim_eget _ fun o ho => ?_
                intro v s' he hf hst
                obtain ⟨pl', o', p1, p2, p3⟩ := hst.obj _ _ ho
                rw [hp] at p1; cases p1
                revert he
                cases o with
                | cells c e =>
                  simp only
                  cases hc : e.beq u && (Nat.add a.off n.toNat).ble c.length with
                  | false => intro he; cases he
                  | true =>
                    simp only [Bool.and_eq_true, Nat.beq_eq, Nat.ble_eq, Nat.add_eq] at hc
                    obtain ⟨rfl, hle⟩ := hc
                    simp only [cond_true]
                    obtain ⟨vs, q1, q2, q3⟩ := cells_read p3 p2 a.off n.toNat hle
                    obtain ⟨_, c', fr, rfl, g3, g4, g5, g6⟩ := p3
                    cases hb : bytesOfCells (cut c a.off n.toNat) with
                    | none => intro he; cases he
                    | some bs =>
                      simp only
                      obtain ⟨ns, t1, t2⟩ := bytesOfCells_ok _ _ _ hb q1
                      have hco : P.cellsOf e = 1 := siz_cellsOf hz1
                      have hnl : ns.length = n.toNat := by rw [← q2, t1]; simp
                      have hsh : w.shape? pl.b = some (e, c'.size) := by simp [World.shape?, p2]
                      have hlies := liesAt_b (P := P) hco (c'.size / P.cellsOf e) (pl.base + a.off) n.toNat (by rw [hco, Nat.div_one]; omega)
                      have hlb := run_loadB (P := P) (w := w) ns ⟨pl.b, pl.base + a.off, none⟩ .empty (fun j x hj => q3 _ rfl rfl rfl j _ (by rw [t1]; simp [hj]))
                      rw [hnl] at hlb
                      have hrun : (Builtin.unsafeString_ ts ty ⟨[.pointer (some ⟨pl.b, pl.base + a.off, none⟩), .int k n]⟩).run P w = .ok (.string (ofBytes bs)) (w.freeze ⟨pl.b, pl.base + a.off, none⟩ n.toNat) := by
                        have hdef : Builtin.unsafeString_ ts ty ⟨[.pointer (some ⟨pl.b, pl.base + a.off, none⟩), .int k n]⟩ =
                            (do
                              let n ← asInt (.int k n)
                              let some pt := ts[0]? | stuck "unsafe.String: no argument types"
                              if n < 0 then runtimePanic (.error "unsafe.String: len out of range")
                              if n > IntKind.i64.max then unsupported (.unsafePointer "String: a length above the largest int")
                              if n = 0 then pure (.string .empty)
                              else if ← variablesAt ⟨pl.b, pl.base + a.off, none⟩ (← Go.elemOf pt) n.toNat then do
                                let s ← loadBytes ⟨pl.b, pl.base + a.off, none⟩ .empty n.toNat
                                freeze ⟨pl.b, pl.base + a.off, none⟩ n.toNat
                                pure (.string s)
                              else unsupported (.unsafePointer "String: not so many bytes at ptr")) := rfl
                        rw [hdef]
                        have hmax : IntKind.i64.max = 9223372036854775807 := rfl
                        have e1 : ¬ n < 0 := by omega
                        have e2 : ¬ n > IntKind.i64.max := by rw [hmax]; omega
                        have e3 : ¬ n = 0 := by omega
                        simp only [asInt, asIntOf, Sem.run_bind, Sem.run_pure, Result.andThen_ok, h0, Sem.run_ite, if_neg e1, if_neg e2, if_neg e3, variablesAt, run_program, run_shape, hsh, Go.elemOf, run_und w hu, hlies, if_true, hlb, run_freeze]
                        congr 2
                        apply ByteArray.ext
                        simp [ofBytes, t2]
                      intro he
                      refine sim_edelW (w' := w.freeze ⟨pl.b, pl.base + a.off, none⟩ n.toNat) ho hp ?_ ?_ ?_ ?_ ?_ (fun _ => rfl) hrun (VR.str _) v s' he hf hst
                      · unfold World.freeze; split <;> simp
                      · intro j hj
                        unfold World.freeze
                        split
                        · rfl
                        · simp only [Array.getElem?_modify, if_neg (Ne.symm hj)]
                      · unfold World.freeze; split <;> rfl
                      · unfold World.freeze; split <;> rfl
                      · unfold World.freeze; split <;> rfl
                | _ => intro he; cases he
              · exact Sim.bad _ _
          · exact Sim.bad _ _
        · exact Sim.bad _ _
  · exact Sim.bad _ _

theorem sim_eSliceData {ts : Array TypeId} {ty : TypeId} {as as' : List Value} (ha : VRL P μ as as') :
    Sim P μ s w (RV P) (eSliceData ⟨as⟩ s) ((Builtin.unsafeSliceData_ ts ty ⟨as'⟩).run P w) := by
  unfold eSliceData
  show SimM P μ s w _ _ _
  split
  · rename_i n c has
    subst has
    cases ha with
    | cons h1 ha =>
      cases ha; cases h1
      exact Sim.ret .ptrN
  · rename_i a n c has
    subst has
    cases ha with
    | cons h1 ha =>
      cases ha
      obtain ⟨pl, c', hp, hs, rfl, hc⟩ := h1.slice_inv
      show Sim P μ s w _ _ _
      cases hb : ((1 : Nat).ble n || (2 : Nat).ble c) with
      | false => exact Sim.bad _ _
      | true =>
        simp only [Bool.or_eq_true, Nat.ble_eq] at hb
        have hc0 : c' ≠ 0 := by
          rcases hc with ⟨h1, h2⟩ | ⟨h1, h2, _⟩ <;> omega
        obtain ⟨q, rfl⟩ : ∃ q, c' = q + 1 := ⟨c' - 1, by omega⟩
        simp only [cond_true]
        exact Sim.ret (.ptr hp hs)
  · exact Sim.bad _ _
theorem wf_eSliceData (args : Array Value) : Wf (eSliceData args) := by
  unfold eSliceData
  (repeat' first | exact wf_bad _ | exact wf_ret _ | refine wf_cond _ ?_ ?_ | split)

/-! ### type assertions -/
theorem run_eTypeAssert {x x' v : Value} {xt t : TypeId} {ok : Bool} (h : eTypeAssert P x t ok = some v) (hx : VR P μ x x') :
    ∃ v', (Instr.typeAssert x' xt t ok).run P w = .ok v' w ∧ VR P μ v v' := by
  unfold eTypeAssert at h
  split at h
  · cases h
  · cases h
  · rename_i d hd hu
    have hzr : ∀ z, zer P t = some z → VR P μ (.tuple #[z, .bool false]) (.tuple #[z, .bool false]) := fun z hz =>
      .tuple (.cons (VR.of_plain z (zer_info hz).1) (.cons (.bool _) .nil))
    split at h
    · cases hx
      cases ok with
      | false => cases h
      | true =>
        simp only [cond_true] at h
        cases hz : zer P t with
        | none => simp [hz] at h
        | some z =>
          simp only [hz, Option.map_some, Option.some.injEq] at h
          subst h
          refine ⟨_, ?_, hzr z hz⟩
          simp only [Instr.typeAssert, Sem.run_bind, run_und w hu, Result.andThen_ok]
          cases d <;> first | exact absurd rfl (hd _) | simp only [if_true, Sem.run_bind, run_zer w hz, Result.andThen_ok, Sem.run_pure]
    · rename_i tx vx
      obtain ⟨vx', rfl, hv⟩ := hx.iface_inv
      cases hb : tx.beq t with
      | true =>
        have hbt : tx = t := by simpa using hb
        subst hbt
        simp only [hb, cond_true, Option.some.injEq] at h
        subst h
        refine ⟨if ok then .tuple #[vx', .bool true] else vx', ?_, ?_⟩
        · simp only [Instr.typeAssert, Sem.run_bind, run_und w hu, Result.andThen_ok]
          cases d <;> first | exact absurd rfl (hd _) | simp only [if_true, Sem.run_pure]
        · cases ok with
          | true => exact .tuple (.cons hv (.cons (.bool _) .nil))
          | false => exact hv
      | false =>
        have hbt : ¬ tx = t := by intro hh; subst hh; simp at hb
        simp only [hb, cond_false] at h
        cases ok with
        | false => cases h
        | true =>
          simp only [cond_true] at h
          cases hz : zer P t with
          | none => simp [hz] at h
          | some z =>
            simp only [hz, Option.map_some, Option.some.injEq] at h
            subst h
            refine ⟨_, ?_, hzr z hz⟩
            simp only [Instr.typeAssert, Sem.run_bind, run_und w hu, Result.andThen_ok]
            cases d <;> first | exact absurd rfl (hd _) | simp only [if_neg hbt, if_true, Sem.run_bind, run_zer w hz, Result.andThen_ok, Sem.run_pure]
    · cases h
end
end Go.E

