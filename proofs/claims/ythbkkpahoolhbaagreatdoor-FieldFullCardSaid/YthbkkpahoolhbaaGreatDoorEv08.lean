import Derived.Test.YthbkkpahoolhbaaGreatDoorEv07
import Derived.Lib.Bytealg
set_option linter.unusedSimpArgs false
set_option linter.unusedVariables false
set_option linter.unusedSectionVars false
namespace Go.E

section
variable {P : Program} {X : Ctx} {μ : Ren} {s : ES} {w : World}

/-! ### functions without a body -/
def extSem : Nat → Array Value → Sem Value
  | 1 => Extern.BytealgCount.count
  | 2 => Extern.BytealgIndexByte.indexByte
  | 3 => Extern.BytealgCompare.compare
  | 4 => Extern.MapsClone.clone
  | 5 => Extern.AbiNoEscape.same
  | _ => fun _ => stuck ""

theorem u8_beq (b : UInt8) (c : Int) : (b.toNat.beq (c8 c)) = (b == c.toNat.toUInt8) := by
  rw [Bool.eq_iff_iff, Nat.beq_eq, beq_iff_eq]
  have h : (c.toNat.toUInt8).toNat = c8 c := UInt8.toNat_ofNat'
  constructor
  · intro hh; apply UInt8.toNat_inj.1; rw [h]; exact hh
  · intro hh; rw [hh, h]

theorem cnt8_eq (c : Int) : ∀ (l : List UInt8) (n : Nat), cnt8 (c8 c) l n = n + Lib.countByte l c.toNat.toUInt8
  | [], n => by simp [cnt8, Lib.countByte]
  | b :: l, n => by
    simp only [cnt8]
    rw [cnt8_eq c l, u8_beq]
    unfold Lib.countByte
    rw [List.count_cons]
    cases b == c.toNat.toUInt8 <;> simp <;> omega
theorem idx8_eq (c : Int) : ∀ (l : List UInt8) (n : Nat), idxOf (idx8 (c8 c) l n) = if Lib.indexByte l c.toNat.toUInt8 = -1 then -1 else Lib.indexByte l c.toNat.toUInt8 + n
  | [], n => by simp [idx8, Lib.indexByte, idxOf]
  | b :: l, n => by
    simp only [idx8, Lib.indexByte]
    rw [u8_beq]
    by_cases hb : (b == c.toNat.toUInt8) = true
    · simp [hb, idxOf]
    · have hb' : (b == c.toNat.toUInt8) = false := by simpa using hb
      simp only [hb', cond_false, Bool.false_eq_true, if_false]
      rw [idx8_eq c l (n + 1)]
      have hge := Lib.indexByte_ge l c.toNat.toUInt8
      by_cases h : Lib.indexByte l c.toNat.toUInt8 = -1
      · simp [h]
      · have h2 : ¬ (Lib.indexByte l c.toNat.toUInt8 + 1 = -1) := by omega
        simp only [h, if_false, beq_iff_eq, h2]
        omega
theorem cmp8_eq : ∀ (a b : List UInt8), cmp8 a b = Lib.compareBytes a b
  | [], [] => rfl
  | [], _ :: _ => rfl
  | _ :: _, [] => rfl
  | a :: x, b :: y => by
    simp only [cmp8, Lib.compareBytes]
    rw [cmp8_eq x y]
    have h1 : a.toNat.blt b.toNat = decide (a < b) := by rw [Bool.eq_iff_iff]; simp [UInt8.lt_iff_toNat_lt]
    have h2 : b.toNat.blt a.toNat = decide (b < a) := by rw [Bool.eq_iff_iff]; simp [UInt8.lt_iff_toNat_lt]
    rw [h1, h2]
    by_cases h : a < b <;> by_cases h' : b < a <;> simp [h, h']

theorem wf_eExtern (k : Nat) (args : List Value) : Wf (eExtern k args) := by
  unfold eExtern eClone
  (repeat' first | exact wf_bad _ | exact wf_ret _ | exact wf_eget _ | exact wf_enew _ | refine wf_bnd ?_ fun _ => ?_ | split)
theorem sim_eExtern {k : Nat} {as as' : List Value} (ha : VRL P μ as as') : Sim P μ s w (RV P) (eExtern k as s) ((extSem k ⟨as'⟩).run P w) := by
  unfold eExtern
  show SimM P μ s w _ _ _
  split
  · rename_i str c
    cases ha with
    | cons h1 ha => cases ha with
      | cons h2 ha =>
        cases ha; cases h1; cases h2
        have := Lib.run_countString (P := P) str c w
        rw [show (extSem 1 ⟨[.string str, .int .u8 c]⟩) = Extern.BytealgCount.count #[.string str, .int .u8 c] from rfl, this, cnt8_eq, Nat.zero_add]
        exact Sim.ret (.int _ _)
  · rename_i str c
    cases ha with
    | cons h1 ha => cases ha with
      | cons h2 ha =>
        cases ha; cases h1; cases h2
        have := Lib.run_indexByteString (P := P) str c w
        rw [show (extSem 2 ⟨[.string str, .int .u8 c]⟩) = Extern.BytealgIndexByte.indexByte #[.string str, .int .u8 c] from rfl, this, idx8_eq]
        have hx : (if Lib.indexByte (bytes str) c.toNat.toUInt8 = -1 then (-1 : Int) else Lib.indexByte (bytes str) c.toNat.toUInt8 + (0 : Nat)) = Lib.indexByte str.data.toList c.toNat.toUInt8 := by
          unfold bytes
          split <;> omega
        rw [hx]
        exact Sim.ret (.int _ _)
  · rename_i a b
    cases ha with
    | cons h1 ha => cases ha with
      | cons h2 ha =>
        cases ha; cases h1; cases h2
        have := Lib.run_compareString (P := P) a b w
        rw [show (extSem 3 ⟨[.string a, .string b]⟩) = Extern.BytealgCompare.compare #[.string a, .string b] from rfl, this, cmp8_eq]
        exact Sim.ret (.int _ _)
  · rename_i t r
    cases ha with
    | cons h1 ha =>
      cases ha
      obtain ⟨v', rfl, h2⟩ := h1.iface_inv
      cases h2 with
      | map hr =>
        rename_i pl
        unfold eClone
        show Sim P μ s w _ _ _
        refine sim_getMap hr (fun o ho s a s' => ?_) fun es es' c hg hm hb hw => ?_
        · cases o <;> first | exact absurd rfl (ho _ _) | (intro h; cases h)
        · refine sim_obj (w' := { w with heap := w.heap.push (.map es' c) }) (o' := .map es' c) (b := .iface t (.map (some w.heap.size))) rfl rfl rfl rfl (fun μ' hs => ⟨rfl, es', rfl, hm.sub hs⟩) (fun r => rfl) ?_ (fun μ' hs hn => .iface t (.map hn))
          change Sem.run P (do
            let .map entries clock ← getObj pl.b | stuck "maps.clone: a map expected"
            pure (.iface t (.map (some (← newObj (.map entries clock))))) : Sem Value) w = _
          simp only [Sem.run_bind, run_getObj hw (by intros; simp), Result.andThen_ok, run_newObj, Sem.run_pure]
  · cases ha with
    | cons h1 ha =>
      cases ha
      exact Sim.ret h1
  · exact Sim.bad _ _

/-! ### calls -/
structure CtxOk (P : Program) (X : Ctx) : Prop where
  num : ∀ (f : FuncId) (fn : Func), P.funcs[f]? = some fn → fn.body.isSome = true → fn.name ≠ "runtime.NumGoroutine"
  ext : ∀ f, X.x f ≠ 0 → X.x f ≠ 6 → X.x f ≠ 7 → X.x f ≠ 8 → X.x f ≠ 9 → ∀ args w, (callFunc f args).run P w = ((extSem (X.x f) args).run P w).andThen fun v w' => .ok (.value v) w'

theorem run_call_body (hX : CtxOk P X) {f : FuncId} (h : hasBody P f = true) (args : Array Value) : (callFunc f args).run P w = .ok (.enter f args) w := by
  unfold hasBody at h
  cases hf : P.funcs[f]? with
  | none => simp [hf] at h
  | some fn =>
    simp only [hf] at h
    have hn := hX.num f fn hf h
    have hb : ¬ (fn.body.isNone = true) := by cases hb : fn.body <;> simp_all
    have hn' : ¬ ((fn.name == "runtime.NumGoroutine") = true) := by simpa using hn
    simp only [callFunc, Sem.run_bind, run_program, Result.andThen_ok, hf, if_neg hn', if_neg hb, Sem.run_pure]

theorem wf_eCallFunc (f : FuncId) (args : List Value) : Wf (eCallFunc P X f args) := by
  unfold eCallFunc eKeysFn eSumFn eHeapFn
  (repeat' first | exact wf_bad _ | exact wf_ret _ | exact wf_eExtern _ _ | refine wf_cond _ ?_ ?_ | refine wf_bnd ?_ fun _ => ?_ | split)
theorem sim_eCallFunc (hX : CtxOk P X) {f : FuncId} {as as' : List Value} (ha : VRL P μ as as') :
    Sim P μ s w (NR P X) (eCallFunc P X f as s) ((callFunc f ⟨as'⟩).run P w) := by
  unfold eCallFunc
  show SimM P μ s w _ _ _
  split
  · show Sim P μ s w _ _ _
    cases hb : hasBody P f with
    | false => exact Sim.bad _ _
    | true => rw [run_call_body hX hb]; exact Sim.ret (.enter f ha)
  · rename_i hx
    show Sim P μ s w _ _ _
    cases hb : hasBody P f with
    | false => exact Sim.bad _ _
    | true =>
      rw [run_call_body hX hb]
      simp only [cond_true]
      unfold eKeysFn
      show SimM P μ s w _ _ _
      split
      · rename_i g a
        cases ha with
        | cons h1 ha =>
          cases ha
          cases h1 with
          | func _ h2 h3 =>
            cases h2
            cases h3 with
            | cons h4 h5 =>
              cases h5
              split
              · rename_i h7; exact Sim.ret (.keys f g hx h7 h4)
              · exact Sim.bad _ _
      · exact Sim.bad _ _
  · rename_i hx
    show Sim P μ s w _ _ _
    cases hb : hasBody P f with
    | false => exact Sim.bad _ _
    | true =>
      rw [run_call_body hX hb]
      simp only [cond_true]
      unfold eSumFn
      show SimM P μ s w _ _ _
      split
      · rename_i v hm
        show Sim P μ s w _ _ _
        cases hp : plainL as && plain v with
        | false => exact Sim.bad _ _
        | true =>
          simp only [Bool.and_eq_true] at hp
          have := ha.plain hp.1
          subst this
          exact Sim.ret (.done f hx hm hp.1 hp.2)
      · exact Sim.ret (.enter f ha)
  · rename_i hx
    show Sim P μ s w _ _ _
    cases hb : hasBody P f with
    | false => exact Sim.bad _ _
    | true =>
      rw [run_call_body hX hb]
      simp only [cond_true]
      unfold eHeapFn
      show SimM P μ s w _ _ _
      split
      · rename_i m hm
        exact Sim.ret (.heap f hx hm ha)
      · exact Sim.ret (.enter f ha)
  · rename_i h0 h6 h8 h9
    by_cases h7 : X.x f = 7
    · rw [h7]
      have hb : eExtern 7 as = bad "extern" := by
        unfold eExtern
        split <;> first | rfl | (exfalso; omega)
      show Sim P μ s w _ ((eExtern 7 as).bnd (fun v => EM.ret (ENext.val v)) s) _
      rw [hb]
      exact Sim.bad _ _
    rw [hX.ext f h0 h6 h7 h8 h9]
    exact (sim_eExtern ha).bnd (wf_eExtern _ _) (fun _ => wf_ret _) fun a s1 b μ1 w1 _ _ hr => Sim.ret (.val hr)
end
end Go.E

namespace Go.E

section
variable {P : Program} {X : Ctx} {μ : Ren} {s : ES} {w : World}

/-! ### frames -/
theorem getv_upd (tm : Tr Value) (t u : Nat) (v : Value) : getv (tm.upd t (some v)) u = if u = t then v else getv tm u := by
  unfold getv; rw [Tr.get_upd]
  by_cases h : u = t <;> simp [h]
theorem TR.put {nt : Nat} {tm : Tr Value} {tmps : Array Value} (h : TR P μ nt tm tmps) {t : Nat} {v v' : Value} (hv : VR P μ v v') :
    TR P μ nt (bif t.blt nt then tm.upd t (some v) else tm) (tmps.setIfInBounds t v') := by
  obtain ⟨h1, h2⟩ := h
  refine ⟨by simp [h1], fun u => ?_⟩
  cases hlt : t.blt nt with
  | true =>
    have hlt' : t < nt := by simpa using hlt
    simp only [cond_true]
    rw [getv_upd]
    by_cases hu : u = t
    · subst hu
      have : (tmps.setIfInBounds u v').getD u undef = v' := by simp [Array.getD, h1, hlt']
      simp only [if_true]
      rw [this]; exact hv
    · simp only [hu, if_false]
      have : (tmps.setIfInBounds t v').getD u undef = tmps.getD u undef := by
        simp only [Array.getD_eq_getD_getElem?, Array.getElem?_setIfInBounds]
        rw [if_neg (Ne.symm hu)]
      rw [this]; exact h2 u
  | false =>
    have hlt' : ¬ t < nt := by intro h; have : t.blt nt = true := by simpa using h
                               rw [hlt] at this; cases this
    simp only [cond_false]
    have : tmps.setIfInBounds t v' = tmps := by
      rw [Array.setIfInBounds_eq_of_size_le (by omega)]
    rw [this]; exact h2 u
theorem TR.setAll {nt : Nat} : ∀ (l : List (Nat × Value)) (l' : List (Nat × Value)) (tm : Tr Value) (tmps : Array Value), TR P μ nt tm tmps → l.map Prod.fst = l'.map Prod.fst → VRL P μ (l.map Prod.snd) (l'.map Prod.snd) →
    TR P μ nt (E.setAll nt tm l) (l'.foldl (fun tmps (t, a) => tmps.setIfInBounds t a) tmps)
  | [], [], tm, tmps, h, _, _ => h
  | (t, v) :: l, (t', v') :: l', tm, tmps, h, hf, hv => by
    simp only [List.map_cons, List.cons.injEq] at hf
    obtain ⟨rfl, hf⟩ := hf
    cases hv with
    | cons hv1 hv2 => exact TR.setAll l l' _ _ (h.put hv1) hf hv2
  | [], _ :: _, _, _, _, hf, _ => by simp at hf
  | _ :: _, [], _, _, _, hf, _ => by simp at hf

theorem zip_fst {α β : Type} : ∀ (a : List α) (b c : List β), b.length = c.length → ((a.zip b).map Prod.fst) = ((a.zip c).map Prod.fst)
  | [], _, _, _ => by simp
  | _ :: _, [], [], _ => by simp
  | x :: a, y :: b, z :: c, h => by simp [zip_fst a b c (by simpa using h)]
  | _ :: _, [], _ :: _, h => by simp at h
  | _ :: _, _ :: _, [], h => by simp at h
theorem zip_snd {α : Type} : ∀ (a : List α) (b c : List Value), VRL P μ b c → VRL P μ ((a.zip b).map Prod.snd) ((a.zip c).map Prod.snd)
  | [], _, _, _ => by simp; exact .nil
  | _ :: _, _, _, .nil => by simp; exact .nil
  | x :: a, _, _, .cons h1 h2 => by simp; exact .cons h1 (zip_snd a _ _ h2)

/-! ### builtins -/
theorem wf_eBuiltin (b : Builtin) (ts : Array TypeId) (args : Array Value) : Wf (eBuiltin P b ts args) := by
  unfold eBuiltin
  cases b <;> first
    | exact wf_bad _
    | exact wf_ret _
    | exact wf_vo _ _
    | exact wf_vl (wf_eAppend _ _)
    | exact wf_vl (wf_eCopy _ _)
    | exact wf_vl (wf_eLen _ _)
    | exact wf_vl (wf_eClear _ _)
    | exact wf_vl (wf_eUnsafeString _ _)
    | exact wf_vl (wf_eSliceData _)
    | (dsimp only; split
       · exact wf_bnd (wf_eDelete _ _ _) fun _ => wf_ret _
       · exact wf_bad _)

theorem sim_eBuiltin {b : Builtin} {ts : Array TypeId} {ty : TypeId} {cs : Array Bool} {as as' : List Value} (ha : VRL P μ as as') :
    Sim P μ s w (NR P X) (eBuiltin P b ts ⟨as⟩ s) ((builtin b ts ty cs ⟨as'⟩).run P w) := by
  unfold eBuiltin
  cases b <;> try exact Sim.bad _ _
  case append => exact sim_vl (wf_eAppend _ _) (sim_eAppend ha)
  case copy => exact sim_vl (wf_eCopy _ _) (sim_eCopy ha)
  case len => exact sim_vl (wf_eLen _ _) (sim_eLen ha)
  case clear => exact sim_vl (wf_eClear _ _) (sim_eClear ha)
  case unsafeString => exact sim_vl (wf_eUnsafeString _ _) (sim_eUnsafeString ha)
  case unsafeSliceData => exact sim_vl (wf_eSliceData _) (sim_eSliceData ha)
  case recover => exact Sim.ret .recover
  case max => exact sim_vo (m := Builtin.max_ ts ty ⟨as'⟩) "max" fun v hv => run_eMinMax (ts := ts) (ty := ty) (mx := true) hv ha
  case min => exact sim_vo (m := Builtin.min_ ts ty ⟨as'⟩) "min" fun v hv => run_eMinMax (ts := ts) (ty := ty) (mx := false) hv ha
  case delete =>
    dsimp only
    show SimM P μ s w _ _ _
    split
    · rename_i t tr m k rest hts
      cases ha with
      | cons h1 ha => cases ha with
        | cons h2 ha =>
          show Sim P μ s w _ _ (((do let a ← Builtin.delete_ ts ty _; pure (Next.value a) : Sem Next)).run P w)
          rw [Sem.run_bind]
          exact (sim_eDelete (ty := ty) (arr0 hts) (by simp) (by simp) h1 h2).bnd (wf_eDelete _ _ _) (fun _ => wf_ret _) fun a s1 b μ1 w1 _ _ hr => by
            subst hr; exact Sim.ret (.val (.tuple .nil))
    · exact Sim.bad _ _

/-! ### calls -/
theorem wf_eInvoke (t : Target) (args : List Value) : Wf (eInvoke P X t args) := by
  unfold eInvoke
  (repeat' first | exact wf_bad _ | exact wf_ret _ | exact wf_eget _ | exact wf_eBuiltin _ _ _ | exact wf_eCallFunc _ _ | refine wf_cond _ ?_ ?_ | refine wf_bnd ?_ fun _ => ?_ | split)

theorem sim_eInvoke (hX : CtxOk P X) {t t' : Target} {as as' : List Value} (ht : TgR P μ t t') (ha : VRL P μ as as') :
    Sim P μ s w (NR P X) (eInvoke P X t as s) ((invoke t' ⟨as'⟩).run P w) := by
  unfold eInvoke
  show SimM P μ s w _ _ _
  split
  · cases ht
    exact sim_eBuiltin ha
  · rename_i f cap
    cases ht with
    | func _ h =>
      have := sim_eCallFunc (s := s) (w := w) hX (f := f) (ha.append h)
      show Sim P μ s w _ _ _
      simpa [invoke] using this
  · rename_i l cap
    cases ht with
    | yield hl _ cc =>
      rename_i pl
      show Sim P μ s w _ _ _
      refine sim_eget _ fun o ho => ?_
      intro v s' he hf hst
      obtain ⟨pl', o', p1, p2, p3⟩ := hst.obj _ _ ho
      rw [hl] at p1; cases p1
      revert he
      cases o with
      | loop st pe nt tm ps as2 bo dr =>
        simp only
        obtain ⟨hb, fn, tmps, pd, rfl, h1, h2, hfn⟩ := p3
        cases hlen : as.length.beq ps.size with
        | false => intro he; cases he
        | true =>
          have hlen' : as.length = ps.size := by simpa using hlen
          simp only [cond_true, EM.ret, Res.ok.injEq]
          rintro ⟨rfl, rfl⟩
          have hal := ha.length
          have hrun : (invoke (.fn (.yield pl.b) cc) ⟨as'⟩).run P w = .ok (.round pl.b fn ((ps.zip ⟨as'⟩).foldl (fun tmps (t, a) => tmps.setIfInBounds t a) tmps) as2 bo) w := by
            have hne : ¬ ((⟨as'⟩ : Array Value).size ≠ ps.size) := by simp; omega
            show (Instr.yield pl.b ⟨as'⟩).run P w = _
            simp only [Instr.yield, Instr.getLoop, Sem.run_bind, run_getObj p2 (by intros; simp), Result.andThen_ok, Sem.run_pure, Sem.run_ite, if_neg hne]
          rw [hrun]
          refine Sim.ret (R := NR P X) (.round hl ?_ fn hfn as2 bo) _ _ rfl hf hst
          have hz : (ps.zip (⟨as'⟩ : Array Value)).toList = ps.toList.zip as' := by simp
          rw [← Array.foldl_toList, hz]
          exact TR.setAll _ _ _ _ h2 (zip_fst _ _ _ hal) (zip_snd _ _ _ ha)
      | _ => intro he; cases he
  · exact Sim.bad _ _

theorem mapA_vrl {ρ ρ' : Operand → Value} (hρ : ∀ x, VR P μ (ρ x) (ρ' x)) : ∀ l : List Operand, VRL P μ (mapA ρ l) (l.map ρ')
  | [] => .nil
  | x :: l => .cons (hρ x) (mapA_vrl hρ l)
theorem mapP_parts {ρ ρ' : Operand → Value} (hρ : ∀ x, VR P μ (ρ x) (ρ' x)) : ∀ l : List (Nat × Operand), PartsR P μ (mapP ρ l) (l.map fun (i, x) => (i, ρ' x))
  | [] => ⟨rfl, fun i p p' h => by simp [mapP] at h⟩
  | (j, x) :: l => by
    obtain ⟨h1, h2⟩ := mapP_parts hρ l
    refine ⟨by simp [mapP, h1], fun i p p' e1 e2 => ?_⟩
    cases i with
    | zero =>
      simp only [mapP, List.getElem?_cons_zero, Option.some.injEq] at e1
      simp only [List.map_cons, List.getElem?_cons_zero, Option.some.injEq] at e2
      subst e1; subst e2
      exact ⟨rfl, hρ x⟩
    | succ i => exact h2 i p p' (by simpa [mapP] using e1) (by simpa using e2)

theorem run_eResolve {ρ ρ' : Operand → Value} (hρ : ∀ x, VR P μ (ρ x) (ρ' x)) {c : Call} {ty : TypeId} {t : Target} {as : List Value} (h : eResolve ρ c ty = some (t, as)) :
    ∃ t' as', (resolve ρ' c ty).run P w = .ok { target := t', args := ⟨as'⟩ } w ∧ TgR P μ t t' ∧ VRL P μ as as' := by
  have hm : (c.args.map ρ') = ⟨c.args.toList.map ρ'⟩ := by apply Array.ext'; simp
  unfold eResolve at h
  split at h
  · rename_i b hc
    simp only [Option.some.injEq, Prod.mk.injEq] at h
    obtain ⟨rfl, rfl⟩ := h
    have he : ∃ cs, (resolve ρ' c ty).run P w = .ok { target := .builtin b c.argTypes ty cs, args := ⟨c.args.toList.map ρ'⟩ } w := by
      have h1 : resolve ρ' c ty = pure { target := .builtin b c.argTypes ty (c.args.map fun | .const _ => true | _ => false), args := c.args.map ρ' } := by
        unfold resolve; rw [hc]; rfl
      exact ⟨(c.args.map fun | .const _ => true | _ => false), by rw [h1, hm]; rfl⟩
    obtain ⟨cs, he⟩ := he
    exact ⟨.builtin b c.argTypes ty cs, c.args.toList.map ρ', he, .builtin _ _ _ _ _, mapA_vrl hρ _⟩
  · cases h
  · rename_i f hc
    have hf := hρ f
    split at h
    · rename_i fn first cap hfe
      simp only [Option.some.injEq, Prod.mk.injEq] at h
      obtain ⟨rfl, rfl⟩ := h
      rw [hfe] at hf
      generalize hv : ρ' f = v' at hf
      cases hf with
      | func g h1 h2 =>
        rename_i a a' b b'
        refine ⟨.fn (.func g) ⟨b'⟩, a' ++ c.args.toList.map ρ', ?_, .func g h2, h1.append (mapA_vrl hρ _)⟩
        simp only [resolve, hc, hv, hm, Deferred.ofValue, Sem.run_pure, List.append_toArray]
      | yield h1 =>
        refine ⟨.fn (.yield _) ⟨[]⟩, [] ++ c.args.toList.map ρ', ?_, .yield h1 _ _, VRL.append .nil (mapA_vrl hρ _)⟩
        simp only [resolve, hc, hv, hm, Deferred.ofValue, Sem.run_pure, List.append_toArray]
    · cases h
end
end Go.E

namespace Go.E

section
variable {P : Program} {X : Ctx} {μ : Ren} {s : ES} {w : World}

theorem wf_eBuildSlice (t : TypeId) (n : Nat) (ps : List (Nat × Value)) : Wf (eBuildSlice P t n ps) := by
  unfold eBuildSlice
  (repeat' first | exact wf_bad _ | exact wf_ret _ | exact wf_enew _ | refine wf_cond _ ?_ ?_ | refine wf_bnd ?_ fun _ => ?_ | split)
theorem wf_eMakeSlice (t : TypeId) (l c : Value) : Wf (eMakeSlice P t l c) := by
  unfold eMakeSlice
  (repeat' first | exact wf_bad _ | exact wf_ret _ | exact wf_enew _ | refine wf_cond _ ?_ ?_ | refine wf_bnd ?_ fun _ => ?_ | split)
theorem wf_sureA (v : Value) : Wf (sureA v) := by
  unfold sureA
  split
  · exact wf_ret _
  · exact wf_bad _

theorem wf_eop (ρ : Operand → Value) (o : Oper) : Wf (eop P X ρ o) := by
  unfold eop
  split <;>
  (repeat' first | exact wf_bad _ | exact wf_ret _ | exact wf_enew _ | exact wf_vo _ _ | exact wf_vl (wf_eBuildSlice _ _ _) | exact wf_vl (wf_rd _ _ _) | exact wf_sureA _ | exact wf_wr _ _ _ | exact wf_vl (wf_eConvert _ _ _) | exact wf_vl (wf_eMakeSlice _ _ _) | exact wf_vl (wf_eSlice _ _ _ _ _ _) | exact wf_vl (wf_eLookup _ _ _ _) | exact wf_eMapUpdate _ _ _ _ | exact wf_vl (wf_eMapEntry _ _ _) | exact wf_eEntryStore _ _ _ | exact wf_vl (wf_eRange _ _) | exact wf_vl (wf_eNext _ _) | exact wf_vl (wf_eEntry _) | exact wf_eInvoke _ _ | refine wf_cond _ ?_ ?_ | refine wf_bnd ?_ fun _ => ?_ | split)

theorem OV.map {ρ ρ' : Operand → Value} (hρ : ∀ x, VR P μ (ρ x) (ρ' x)) (o : Option Operand) : OV P μ (o.map ρ) (o.map ρ') := by
  cases o with
  | none => exact .none
  | some x => exact .some (hρ x)

/-- a value from the evaluator, handed on -/
theorem sim_bv {e : EM Value} {m : Sem Value} (he : Wf e) (h : Sim P μ s w (RV P) (e s) (m.run P w)) :
    Sim P μ s w (NR P X) ((e.bnd fun v => EM.ret (.val v)) s) ((do let a ← m; pure (Next.value a) : Sem Next).run P w) := sim_vl he h
theorem sim_ptr {o : EObj} {m : Sem Value} (h : Sim P μ s w (RV P) (((enew o).bnd fun r => EM.ret (mkPtr r)) s) (m.run P w)) :
    Sim P μ s w (NR P X) (((enew o).bnd fun r => EM.ret (.val (mkPtr r))) s) ((do let a ← m; pure (Next.value a) : Sem Next).run P w) := by
  have h2 := sim_vl (X := X) (e := (enew o).bnd fun r => EM.ret (mkPtr r)) (wf_bnd (wf_enew _) fun _ => wf_ret _) h
  exact h2
theorem sim_skip {e : EM Unit} {m : Sem Unit} (he : Wf e) (h : Sim P μ s w (fun _ _ _ => True) (e s) (m.run P w)) :
    Sim P μ s w (NR P X) ((e.bnd fun _ => EM.ret .skip) s) ((do m; pure Next.skip : Sem Next).run P w) := by
  rw [Sem.run_bind]
  exact h.bnd he (fun _ => wf_ret _) fun a s1 b μ1 w1 _ _ _ => Sim.ret .skip

theorem sim_sure {v v' : Value} (hv : VR P μ v v') {α β : Type} {R : Ren → α → β → Prop} {f : Addr → EM α} {m : Result β}
    (h : ∀ a pl, v = .pointer (some a) → μ a.block = some pl → v' = .pointer (some ⟨pl.b, pl.base + a.off, none⟩) → Sim P μ s w R (f a s) m) : Sim P μ s w R (((sureA v).bnd f) s) m := by
  unfold sureA
  split
  · rename_i a
    obtain ⟨pl, hp, _, rfl⟩ := hv.ptr_inv
    exact h a pl rfl hp rfl
  · exact Sim.bad _ _

theorem sim_eop (hX : CtxOk P X) {ρ ρ' : Operand → Value} (hρ : ∀ x, VR P μ (ρ x) (ρ' x)) (o : Oper) :
    OpSim P X μ s w (eop P X ρ o s) ((execOp ρ' o).run P w) := by
  have wm : ∀ (m : Sem Value) (v' : Value), m.run P w = .ok v' w → ((do let a ← m; pure (Next.value a) : Sem Next)).run P w = .ok (.value v') w := by
    intro m v' h; rw [Sem.run_bind, h]; rfl
  have hmap : ∀ (l : Array (Nat × Operand)), (l.map fun (i, x) => (i, ρ' x)) = (l.toList.map fun (i, x) => (i, ρ' x)).toArray := by
    intro l; apply Array.ext'; simp
  have hmapA : ∀ (l : Array Operand), l.map ρ' = ⟨l.toList.map ρ'⟩ := by
    intro l; apply Array.ext'; simp
  cases ho : o.op <;> simp only [eop, execOp, ho] <;> try exact OpSim.bad _ _
  case move x => exact OpSim.of_sim (Sim.ret (.val (hρ x)))
  case assign x => exact OpSim.of_sim (Sim.ret (.val (hρ x)))
  case pick c a b =>
    refine OpSim.of_sim ?_
    have hc := hρ c
    show SimM P μ s w _ _ _
    split
    · rename_i t hce
      rw [hce] at hc
      have hc' := hc.bool_inv
      rw [hc']
      cases t with
      | true => exact Sim.ret (.val (hρ a))
      | false => exact Sim.ret (.val (hρ b))
    · exact Sim.bad _ _
  case alloc e =>
    refine OpSim.of_sim ?_
    show SimM P μ s w _ _ _
    split
    · rename_i z hz
      exact sim_ptr (sim_alloc hz)
    · exact Sim.bad _ _
  case box e x =>
    refine OpSim.of_sim ?_
    cases hn : notTup (ρ x) with
    | false => exact Sim.bad _ _
    | true => exact sim_ptr (sim_box (hρ x) hn)
  case build t ps =>
    rw [hmap]
    exact OpSim.of_sim (sim_vo "build" fun v hv => run_eBuild hv (mapP_parts hρ _))
  case buildSlice t n ps =>
    rw [hmap]
    exact OpSim.of_sim (sim_vl (wf_eBuildSlice _ _ _) (sim_eBuildSlice (mapP_parts hρ _)))
  case load t a =>
    refine OpSim.of_sim ?_
    refine sim_sure (hρ a) fun ad pl _ hp hv => ?_
    rw [hv]
    exact sim_vl (m := Instr.loadAt t (.pointer (some ⟨pl.b, pl.base + ad.off, none⟩))) (wf_rd _ _ _) (by
      have : (Instr.loadAt t (.pointer (some ⟨pl.b, pl.base + ad.off, none⟩))) = loadVar t ⟨pl.b, pl.base + ad.off, none⟩ := rfl
      rw [this]; exact sim_rd hp rfl)
  case store t a x =>
    refine OpSim.of_sim ?_
    refine sim_sure (hρ a) fun ad pl _ hp hv => ?_
    rw [hv]
    exact sim_skip (m := Instr.storeAt t (.pointer (some ⟨pl.b, pl.base + ad.off, none⟩)) (ρ' x)) (wf_wr _ _ _) (by
      have : (Instr.storeAt t (.pointer (some ⟨pl.b, pl.base + ad.off, none⟩)) (ρ' x)) = storeVar t ⟨pl.b, pl.base + ad.off, none⟩ (ρ' x) := rfl
      rw [this]; exact sim_wr hp rfl (hρ x))
  case nilCheck x =>
    refine OpSim.of_sim ?_
    have hx := hρ x
    show SimM P μ s w _ _ _
    split
    · rename_i a hxe
      rw [hxe] at hx
      obtain ⟨pl, hp, hs, he⟩ := hx.ptr_inv
      rw [he] at hx ⊢
      exact Sim.ret (.val hx)
    · rename_i f a b hxe
      rw [hxe] at hx
      generalize ρ' x = v' at hx ⊢
      cases hx with
      | func _ h1 h2 => exact Sim.ret (.val (.func _ h1 h2))
    · rename_i f a b hxe
      rw [hxe] at hx
      generalize ρ' x = v' at hx ⊢
      cases hx with
      | yield h1 => exact Sim.ret (.val (.yield h1))
    · exact Sim.bad _ _
  case binOp op t x y sz => exact OpSim.of_sim (sim_vo "binOp" fun v hv => run_eBin hv (hρ x) (hρ y))
  case unOp op t x => exact OpSim.of_sim (sim_vo "unOp" fun v hv => run_eUn hv (hρ x))
  case convert a b x => exact OpSim.of_sim (sim_vl (wf_eConvert _ _ _) (sim_eConvert (hρ x)))
  case makeInterface t x =>
    refine OpSim.of_sim ?_
    show SimM P μ s w _ _ _
    split
    · exact Sim.bad _ _
    · exact Sim.bad _ _
    · rename_i d hd hu
      have : (Instr.makeInterface t (ρ' x)).run P w = .ok (.iface t (ρ' x)) w := by
        simp only [Instr.makeInterface, Sem.run_bind, run_und w hu, Result.andThen_ok]
        cases d <;> first | exact absurd rfl (hd _) | rfl
      rw [wm _ _ this]
      exact Sim.ret (.val (.iface t (hρ x)))
  case makeFunc fn first cap =>
    cases fn <;> simp only <;> try exact OpSim.bad _ _
    rename_i f
    rw [hmapA, hmapA]
    exact OpSim.of_sim (Sim.ret (.val (.func f (mapA_vrl hρ _) (mapA_vrl hρ _))))
  case makeMap t r =>
    have hnew : Sim P μ s w (NR P X) (((enew (.map [] 0)).bnd fun r => EM.ret (.val (.map (some r)))) s) (.ok (.value (.map (some w.heap.size))) { w with heap := w.heap.push (.map #[] 0) }) :=
      sim_obj (w' := { w with heap := w.heap.push (.map #[] 0) }) (o' := .map #[] 0) (b := .value (.map (some w.heap.size))) rfl rfl rfl rfl (fun μ' hs => ⟨rfl, #[], rfl, .nil⟩) (fun r => rfl) rfl (fun μ' hs hn => .val (.map hn))
    cases r with
    | none =>
      refine OpSim.of_sim ?_
      exact hnew
    | some h =>
      refine OpSim.of_sim ?_
      have hh := hρ h
      simp only
      show SimM P μ s w _ _ _
      split
      · rename_i k e ik n hu hhe
        rw [hhe] at hh
        have hrun : (Instr.makeMap t (Option.map ρ' (some h))).run P w = .ok (.map (some w.heap.size)) { w with heap := w.heap.push (.map #[] 0) } := by
          have := hh.int_inv
          simp only [Instr.makeMap, Option.map_some, this, asInt, asIntOf, Sem.run_bind, run_und w hu, Result.andThen_ok, Sem.run_pure, run_newObj]
        rw [Sem.run_bind, hrun]
        exact hnew
      · exact Sim.bad _ _
  case makeSlice t l c => exact OpSim.of_sim (sim_vl (wf_eMakeSlice _ _ _) (sim_eMakeSlice (hρ l) (hρ c)))
  case slice t x l h m => exact OpSim.of_sim (sim_vl (wf_eSlice _ _ _ _ _ _) (sim_eSlice (hρ x) (OV.map hρ l) (OV.map hρ h) (OV.map hρ m)))
  case fieldAddr t x f => exact OpSim.of_sim (sim_vo "fieldAddr" fun v hv => run_eFieldAddr hv (hρ x))
  case field t x f => exact OpSim.of_sim (sim_vo "field" fun v hv => run_eField hv (hρ x))
  case indexAddr t x i => exact OpSim.of_sim (sim_vo "indexAddr" fun v hv => run_eIndexAddr hv (hρ x) (hρ i))
  case index t x i => exact OpSim.of_sim (sim_vo "index" fun v hv => run_eIndex hv (hρ x) (hρ i))
  case lookup t x i ok => exact OpSim.of_sim (sim_vl (wf_eLookup _ _ _ _) (sim_eLookup (hρ x) (hρ i)))
  case mapUpdate t m k v => exact OpSim.of_sim (sim_skip (wf_eMapUpdate _ _ _ _) (sim_eMapUpdate (hρ m) (hρ k) (hρ v)))
  case insert t m k v => exact OpSim.of_sim (sim_skip (wf_eMapUpdate _ _ _ _) (sim_eMapUpdate (hρ m) (hρ k) (hρ v)))
  case mapEntry t m k => exact OpSim.of_sim (sim_vl (wf_eMapEntry _ _ _) (sim_eMapEntry (hρ m) (hρ k)))
  case entryStore t m k v => exact OpSim.of_sim (sim_skip (wf_eEntryStore _ _ _) (sim_eEntryStore (hρ m) (hρ k) (hρ v)))
  case range t x => exact OpSim.of_sim (sim_vl (wf_eRange _ _) (sim_eRange (hρ x)))
  case next i b => exact OpSim.of_sim (sim_vl (wf_eNext _ _) (sim_eNext (hρ i)))
  case entry i => exact OpSim.of_sim (sim_vl (wf_eEntry _) (sim_eEntry (hρ i)))
  case typeAssert x xt t ok => exact OpSim.of_sim (sim_vo "typeAssert" fun v hv => run_eTypeAssert hv (hρ x))
  case extract t i =>
    have ht := hρ t
    refine OpSim.of_sim ?_
    show SimM P μ s w _ _ _
    split
    · rename_i vs hte
      rw [hte] at ht
      cases hx : eExtract vs.toList i with
      | none => exact Sim.bad _ _
      | some v =>
        have hn : nth vs.toList i = some v ∧ notTup v = true := by
          unfold eExtract at hx
          cases hn : nth vs.toList i with
          | none => simp [hn] at hx
          | some v0 =>
            cases hc : notTup v0 with
            | false => simp [hn, hc] at hx
            | true => simp [hn, hc] at hx; subst hx; exact ⟨rfl, hc⟩
        obtain ⟨hn, hnt⟩ := hn
        generalize hv' : ρ' t = v' at ht
        cases ht with
        | tuple h1 =>
          rename_i c c'
          obtain ⟨y, h2, h3⟩ := h1.nth hn
          have : (Instr.extract (.tuple ⟨c'⟩) i).run P w = .ok y w := by
            have h2' : (⟨c'⟩ : Array Value)[i]? = some y := by simpa using h2
            simp only [Instr.extract, h2', Sem.run_pure]
          rw [wm _ _ this]
          exact Sim.ret (.val h3)
        | junk =>
          cases i with
          | zero =>
            simp only [nth, Option.some.injEq] at hn
            subst hn
            cases hnt
          | succ => simp [nth] at hn
    · exact Sim.bad _ _
  case call c =>
    refine OpSim.of_sim ?_
    show SimM P μ s w _ _ _
    split
    · rename_i t as hr
      obtain ⟨t', as', h1, h2, h3⟩ := run_eResolve (w := w) hρ hr
      show Sim P μ s w _ _ _
      rw [Sem.run_bind, h1, Result.andThen_ok]
      exact sim_eInvoke hX h2 h3
    · exact Sim.bad _ _
  case defer c =>
    refine OpSim.of_sim ?_
    show SimM P μ s w _ _ _
    split
    · rename_i t as hr
      obtain ⟨t', as', h1, h2, h3⟩ := run_eResolve (w := w) hρ hr
      show Sim P μ s w _ _ _
      rw [Sem.run_bind, h1, Result.andThen_ok]
      exact Sim.ret (.defer (.mk h2 h3))
    · exact Sim.bad _ _
  case panic x =>
    have hx := hρ x
    intro nx s' he hf hst
    generalize ρ x = xv at hx he
    cases xv with
    | iface t v =>
      simp only [EM.ret, Res.ok.injEq] at he
      obtain ⟨rfl, rfl⟩ := he
      obtain ⟨v', h1, h2⟩ := hx.iface_inv
      refine .inl ⟨_, .iface t v', rfl, rfl, .iface t h2, ?_⟩
      rw [h1]
      rfl
    | _ => cases he
end
end Go.E

namespace Go.E

/-! ### frames, callers -/
section
variable {P : Program} {X : Ctx} {μ μ' : Ren}

/-- how a call stands to its caller's panic -/
inductive KR (P : Program) (μ : Ren) : PK → CallKind → List Frame → Prop
  | norm (cs : List Frame) : KR P μ .no .normal cs
  | defRet {c : Frame} {cs : List Frame} (h : c.mode = .returning) : KR P μ .no .deferred (c :: cs)
  | yes {v v' : Value} {c : Frame} {cs : List Frame} (hv : VR P μ v v') (h : c.mode = .panicking [⟨v', false, false⟩]) : KR P μ (.yes v) .deferred (c :: cs)
  | done {v' : Value} {c : Frame} {cs : List Frame} (h : c.mode = .panicking [⟨v', true, false⟩]) : KR P μ .done .deferred (c :: cs)

theorem KR.sub (hs : Sub μ μ') {k : PK} {kd : CallKind} {cs : List Frame} : KR P μ k kd cs → KR P μ' k kd cs
  | .norm cs => .norm cs
  | .defRet h => .defRet h
  | .yes hv h => .yes (hv.sub hs) h
  | .done h => .done h

/-- what recover does to the callers -/
inductive CsR (kd : CallKind) : List Frame → List Frame → Prop
  | refl (cs : List Frame) : CsR kd cs cs
  | mark {c : Frame} {v' : Value} (cs : List Frame) (hk : kd = .deferred) (h : c.mode = .panicking [⟨v', false, false⟩]) : CsR kd (c :: cs) ({ c with mode := .panicking [⟨v', true, false⟩] } :: cs)

theorem CsR.trans {kd : CallKind} {a b c : List Frame} (h : CsR kd a b) (h' : CsR kd b c) : CsR kd a c := by
  cases h with
  | refl => exact h'
  | mark cs hk h =>
    cases h' with
    | refl => exact .mark cs hk h
    | mark cs' _ h2 => simp at h2
theorem CsR.run {kd : CallKind} {c : Frame} {cs cs' : List Frame} (h : CsR kd (c :: cs) cs') (hc : c.mode = .run) : cs' = c :: cs := by
  cases h with
  | refl => rfl
  | mark _ _ h => rw [hc] at h; cases h
theorem CsR.normal {cs cs' : List Frame} (h : CsR .normal cs cs') : cs' = cs := by
  cases h with
  | refl => rfl
  | mark _ hk _ => cases hk

/-- the round that the frame runs -/
def RO (μ : Ren) (rd : Option Nat) (b : Frame) : Prop :=
  match rd, b.roundOf with
  | none, none => True
  | some l, some n => b.kind = .normal ∧ ∃ pl, μ l = some pl ∧ pl.b = n
  | _, _ => False
theorem RO.sub (hs : Sub μ μ') {rd : Option Nat} {b : Frame} (h : RO μ rd b) : RO μ' rd b := by
  unfold RO at *
  split at h
  · trivial
  · obtain ⟨h1, pl, h2, h3⟩ := h; exact ⟨h1, pl, hs _ _ h2, h3⟩
  · exact h.elim

inductive ArrR (P : Program) (μ : Ren) (m : Machine) (b : Frame) (k : List Item) (cs : List Frame) (a : Act) (w : World) : Ex → Prop
  | normal (h : Steps P m (lone (b.atR a k) cs w)) : ArrR P μ m b k cs a w .normal
  | exit (id : Nat) {todo : List Item} (h : Steps P m (lone (b.atR a (.code (.exit id) :: todo)) cs w)) (he : exitTo id todo = exitTo id k) : ArrR P μ m b k cs a w (.exit id)
  | ret {todo : List Item} (h : Steps P m (lone (b.atR a (.code .ret :: todo)) cs w)) : ArrR P μ m b k cs a w .ret
  | pan {v v' : Value} (hv : VR P μ v v') {todo : List Item} (h : Steps P m (lone { b.atR a todo with mode := .panicking [⟨v', false, false⟩] } cs w)) : ArrR P μ m b k cs a w (.pan v)

theorem ArrR.of_steps {m m1 : Machine} {b : Frame} {k : List Item} {cs : List Frame} {a : Act} {w : World} {e : Ex} (h : Steps P m m1) (h' : ArrR P μ m1 b k cs a w e) : ArrR P μ m b k cs a w e := by
  cases h' with
  | normal h1 => exact .normal (h.trans h1)
  | exit id h1 he => exact .exit id (h.trans h1) he
  | ret h1 => exact .ret (h.trans h1)
  | pan hv h1 => exact .pan hv (h.trans h1)

/-- from behind one item to behind all: 'x' is what is stepped over -/
theorem ArrR.pass {m : Machine} {b : Frame} {k : List Item} {cs : List Frame} {a : Act} {w : World} {e : Ex} {x : Item} (hx : ∀ id, exitTo id (x :: k) = exitTo id k)
    (hn : Steps P (lone (b.atR a (x :: k)) cs w) (lone (b.atR a k) cs w)) (h : ArrR P μ m b (x :: k) cs a w e) : ArrR P μ m b k cs a w e := by
  cases h with
  | normal h1 => exact .normal (h1.trans hn)
  | exit id h1 he => exact .exit id h1 (he.trans (hx id))
  | ret h1 => exact .ret h1
  | pan hv h1 => exact .pan hv h1

end

/-! ### what the evaluator's run says of the machine -/
def WfO (s s' : ES) : Prop := s.nx ≤ s'.nx

/-- the frame stands for 'a' -/
structure FrR (P : Program) (μ : Ren) (rd : Option Nat) (b : Frame) (cs : List Frame) (a : Fr) (c : Act) : Prop where
  ro : RO μ rd b
  fn : ∃ fn, P.funcs[b.fn]? = some fn
  tr : TR P μ a.nt a.tm c.tmps
  df : DRL P μ a.df c.defers
  kr : KR P μ a.pk b.kind cs

theorem FrR.sub {P : Program} {μ μ' : Ren} (hs : Sub μ μ') {rd : Option Nat} {b : Frame} {cs : List Frame} {a : Fr} {c : Act} (h : FrR P μ rd b cs a c) : FrR P μ' rd b cs a c :=
  ⟨h.ro.sub hs, h.fn, h.tr.sub hs, h.df.sub hs, h.kr.sub hs⟩

def GoodCode (P : Program) (start : Frame → List Item → Act → Frame) (rd : Option Nat) (a : Fr) (s : ES) (e : Ex) (a' : Fr) (s' : ES) : Prop :=
  s.nx ≤ s'.nx ∧ ∀ (μ : Ren) (w : World) (b : Frame) (k : List Item) (cs : List Frame) (c : Act), St P μ s.st w → Free μ s.nx s'.nx → FrR P μ rd b cs a c →
    ∃ μ' w' c' cs', Nxt P μ s w μ' s' w' ∧ FrR P μ' rd b cs' a' c' ∧ CsR b.kind cs cs' ∧ ArrR P μ' (lone (start b k c) cs w) b k cs' c' w' e

inductive EndR (P : Program) (μ : Ren) (f : FuncId) (kind : CallKind) (fr : Frame) (w : World) : Md → Value → Prop
  | ret {v v' : Value} (hv : VR P μ v v') (hm : fr.mode = .returning) (hr : ∃ fn, P.funcs[f]? = some fn ∧ (results fn fr.tmps).run P w = .ok v' w) : EndR P μ f kind fr w .ret v
  | pan {v v' : Value} (hv : VR P μ v v') (hm : fr.mode = .panicking [⟨v', false, false⟩]) (hr : ∃ fn, P.funcs[f]? = some fn) : EndR P μ f kind fr w (.pan v) v

def GoodCall (P : Program) (start : Ren → CallKind → Frame → Prop) (f : FuncId) (pk : PK) (s : ES) (e : Md) (v : Value) (pk' : PK) (s' : ES) : Prop :=
  s.nx ≤ s'.nx ∧ ∀ (μ : Ren) (w : World) (cs : List Frame) (kind : CallKind) (fr0 : Frame), St P μ s.st w → Free μ s.nx s'.nx → start μ kind fr0 → KR P μ pk kind cs →
    ∃ μ' w' cs' fr, Nxt P μ s w μ' s' w' ∧ KR P μ' pk' kind cs' ∧ CsR kind cs cs' ∧ Steps P (lone fr0 cs w) (lone fr cs' w') ∧ fr.fn = f ∧ fr.kind = kind ∧ fr.defers = [] ∧ EndR P μ' f kind fr w' e v

inductive RndR (P : Program) (μ : Ren) (m : Machine) (c : Frame) (cs : List Frame) (w : World) : Md → Value → Prop
  | ret {v v' : Value} (hv : VR P μ v v') (h : Steps P m (lone (c.finish v') cs w)) : RndR P μ m c cs w .ret v
  | pan {v v' : Value} (hv : VR P μ v v') (h : Steps P m (lone (c.raise [⟨v', false, false⟩]) cs w)) : RndR P μ m c cs w (.pan v) v

def GoodRnd (P : Program) (l nt : Nat) (tm : Tr Value) (assign body : Code) (s : ES) (e : Md) (v : Value) (s' : ES) : Prop :=
  s.nx ≤ s'.nx ∧ ∀ (μ : Ren) (w : World) (c : Frame) (cs : List Frame) (f : FuncId) (tmps : Array Value) (pl : Pl), St P μ s.st w → Free μ s.nx s'.nx → μ l = some pl → TR P μ nt tm tmps → (∃ fn, P.funcs[f]? = some fn) → c.mode = .run →
    ∃ μ' w', Nxt P μ s w μ' s' w' ∧ RndR P μ' (lone (Frame.round pl.b f tmps assign body .normal) (c :: cs) w) c cs w' e v

def Frame.inOps (b : Frame) (ops : Array Oper) (j : Nat) (k : List Item) (c : Act) : Frame := b.atR c (.inRegion ops (List.range' j (ops.size - j)) :: k)

def MdR (P : Program) (μ : Ren) : Md → FrameMode → Prop
  | .ret, m => m = .returning
  | .pan v, m => ∃ v', VR P μ v v' ∧ m = .panicking [⟨v', false, false⟩]

def Good (P : Program) (t : Task) (s : ES) (o : Out) : Prop :=
  match t, o with
  | .code c rd a, .code e a' s' => GoodCode P (fun b k x => b.atR x (.code c :: k)) rd a s e a' s'
  | .ops ops l rd a, .code e a' s' => ∀ j, l = ops.drop j → GoodCode P (fun b k x => Frame.inOps b ⟨ops⟩ j k x) rd a s e a' s'
  | .call f args pk, .ret v pk' s' => GoodCall P (fun μ kind fr => ∃ args', VRL P μ args args' ∧ fr = Frame.enter P f ⟨args'⟩ kind) f pk s .ret v pk' s'
  | .call f args pk, .pan v pk' s' => GoodCall P (fun μ kind fr => ∃ args', VRL P μ args args' ∧ fr = Frame.enter P f ⟨args'⟩ kind) f pk s (.pan v) v pk' s'
  | .unw fn m a, .ret v pk' s' => ∀ f, P.funcs[f]? = some fn → GoodCall P (fun μ kind fr => TR P μ a.nt a.tm fr.tmps ∧ DRL P μ a.df fr.defers ∧ MdR P μ m fr.mode ∧ fr.fn = f ∧ fr.kind = kind ∧ fr.roundOf = none) f a.pk s .ret v pk' s'
  | .unw fn m a, .pan v pk' s' => ∀ f, P.funcs[f]? = some fn → GoodCall P (fun μ kind fr => TR P μ a.nt a.tm fr.tmps ∧ DRL P μ a.df fr.defers ∧ MdR P μ m fr.mode ∧ fr.fn = f ∧ fr.kind = kind ∧ fr.roundOf = none) f a.pk s (.pan v) v pk' s'
  | .rnd l nt tm as bo, .ret v _ s' => GoodRnd P l nt tm as bo s .ret v s'
  | .rnd l nt tm as bo, .pan v _ s' => GoodRnd P l nt tm as bo s (.pan v) v s'
  | _, .bad _ => True
  | _, _ => True

def GoodR (P : Program) (r : Rec) : Prop := ∀ t s, Good P t s (r t s)

end Go.E

