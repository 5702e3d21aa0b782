import Derived.Test.YthbkkpahoolhbaaGreatDoorEv09
import Derived.Defers
import Derived.RangeFuncIn
set_option linter.unusedSimpArgs false
set_option linter.unusedVariables false
set_option linter.unusedSectionVars false
namespace Go.E

section
variable {P : Program} {X : Ctx} {r : Rec} {μ : Ren}

/-! ### calls -/
theorem getv_setFrom : ∀ (l : List Value) (tm : Tr Value) (i t : Nat), getv (setFrom tm i l) t = if i ≤ t ∧ t < i + l.length then l.getD (t - i) undef else getv tm t
  | [], tm, i, t => by
    have : ¬ (i ≤ t ∧ t < i + ([] : List Value).length) := by simp
    rw [if_neg this]; rfl
  | v :: l, tm, i, t => by
    simp only [setFrom]
    rw [getv_setFrom l _ (i + 1) t, getv_upd]
    simp only [List.length_cons]
    by_cases h : t = i
    · subst h
      rw [if_neg (by omega), if_pos rfl, if_pos (by omega), Nat.sub_self]
      rfl
    · by_cases h2 : i + 1 ≤ t ∧ t < i + 1 + l.length
      · rw [if_pos h2, if_pos (by omega)]
        obtain ⟨n, hn⟩ : ∃ n, t - i = n + 1 := ⟨t - i - 1, by omega⟩
        rw [hn, List.getD_cons_succ]
        congr 1
        omega
      · rw [if_neg h2, if_neg h, if_neg (by omega)]

theorem TR.enter {args args' : List Value} {n : Nat} (h : VRL P μ args args') : TR P μ (emptyFr n args .no).nt (emptyFr n args .no).tm ((⟨args'⟩ : Array Value) ++ Array.replicate (n - (⟨args'⟩ : Array Value).size) Go.undef) := by
  have hl := h.length
  refine ⟨by simp [emptyFr, hl], fun t => ?_⟩
  simp only [emptyFr]
  rw [getv_setFrom, Array.getD_eq_getD_getElem?, Array.getElem?_append]
  simp only [Nat.zero_le, true_and, Nat.zero_add, Nat.sub_zero, List.size_toArray]
  by_cases ht : t < args.length
  · rw [if_pos ht, if_pos (by omega)]
    have hn : nth args t = some args[t] := by rw [nth_eq]; simp [ht]
    obtain ⟨v', h1, h2⟩ := h.nth hn
    have h1' : (⟨args'⟩ : Array Value)[t]? = some v' := by simpa using h1
    rw [h1', List.getD_eq_getElem?_getD, List.getElem?_eq_getElem ht]
    exact h2
  · rw [if_neg ht, if_neg (by omega)]
    have : getv .nil t = undef := rfl
    rw [this]
    rw [Array.getElem?_replicate]
    split <;> exact .tuple .nil

theorem evCall_good (hr : GoodR P r) (f : FuncId) (args : List Value) (pk : PK) (s : ES) : Good P (.call f args pk) s (evCall P r f args pk s) := by
  unfold evCall
  cases hf : P.funcs[f]? with
  | none => trivial
  | some fn =>
    simp only
    cases hb : fn.body with
    | none => trivial
    | some body =>
      simp only
      have hc := hr (.code body none (emptyFr fn.ntmps args pk)) s
      -- the frame
      have key : ∀ {e : Ex} {a : Fr} {s1 : ES}, GoodCode P (fun b k c => b.atR c (.code body :: k)) none (emptyFr fn.ntmps args pk) s e a s1 → ∀ {md : Md} {v : Value} {pk' : PK} {s2 : ES},
          (∀ (b : Frame) (c : Act) (cs : List Frame) (w : World) (μ : Ren) (m : Machine), b.roundOf = none → ArrR P μ m b [] cs c w e → ∃ todo mo, MdR P μ (match e with | .pan v => .pan v | _ => .ret) mo ∧ Steps P m (lone { b.atR c todo with mode := mo } cs w)) →
          GoodCall P (fun μ kind fr => TR P μ a.nt a.tm fr.tmps ∧ DRL P μ a.df fr.defers ∧ MdR P μ (match e with | .pan v => .pan v | _ => .ret) fr.mode ∧ fr.fn = f ∧ fr.kind = kind ∧ fr.roundOf = none) f a.pk s1 md v pk' s2 →
          GoodCall P (fun μ kind fr => ∃ args', VRL P μ args args' ∧ fr = Frame.enter P f ⟨args'⟩ kind) f pk s md v pk' s2 := by
        intro e a s1 hg md v pk' s2 hend hu
        refine ⟨Nat.le_trans hg.1 hu.1, fun μ w cs kind fr0 hst hfree hs hkr => ?_⟩
        obtain ⟨args', ha, rfl⟩ := hs
        let b : Frame := { (default : Frame) with fn := f, kind := kind, roundOf := none }
        have henter : Frame.enter P f ⟨args'⟩ kind = b.atR ⟨(⟨args'⟩ : Array Value) ++ Array.replicate (fn.ntmps - (⟨args'⟩ : Array Value).size) Go.undef, []⟩ [.code body] := by
          simp [Frame.enter, Frame.atR, hf, hb, b]
        have hfr : FrR P μ none b cs (emptyFr fn.ntmps args pk) ⟨(⟨args'⟩ : Array Value) ++ Array.replicate (fn.ntmps - (⟨args'⟩ : Array Value).size) Go.undef, []⟩ :=
          ⟨trivial, ⟨fn, hf⟩, TR.enter ha, .nil, hkr⟩
        obtain ⟨μ1, w1, c1, cs1, n1, n2, n3, n4⟩ := hg.2 μ w b [] cs _ hst (fun n k1 k2 => hfree n k1 (Nat.lt_of_lt_of_le k2 hu.1)) hfr
        obtain ⟨todo, mo, hmo, hsteps⟩ := hend b c1 cs1 w1 μ1 _ rfl n4
        obtain ⟨μ2, w2, cs2, fr, m1, m2, m3, m4, m5, m6, m7, m8⟩ := hu.2 μ1 w1 cs1 kind { b.atR c1 todo with mode := mo } n1.st (fun n k1 k2 => by rw [n1.same n (by omega)]; exact hfree n (Nat.le_trans hg.1 k1) k2)
          ⟨n2.tr, n2.df, hmo, rfl, rfl, rfl⟩ n2.kr
        rw [henter]
        exact ⟨μ2, w2, cs2, fr, n1.trans hg.1 hu.1 m1, m2, n3.trans m3, hsteps.trans m4, m5, m6, m7, m8⟩
      unfold evBody
      cases ho : r (.code body none (emptyFr fn.ntmps args pk)) s with
      | code e a s1 =>
        rw [ho] at hc
        cases e with
        | normal =>
          simp only
          have hu := hr (.unw fn .ret a) s1
          have hend : ∀ (b : Frame) (c : Act) (cs : List Frame) (w : World) (μ : Ren) (m : Machine), b.roundOf = none → ArrR P μ m b [] cs c w .normal → ∃ todo mo, MdR P μ .ret mo ∧ Steps P m (lone { b.atR c todo with mode := mo } cs w) := by
            intro b c cs w μ m hro h
            cases h with
            | normal h1 => exact ⟨[], .returning, rfl, h1.trans (.one (stepR_end hro))⟩
          cases ho2 : r (.unw fn .ret a) s1 with
          | ret v pk' s2 => rw [ho2] at hu; exact key hc hend (hu f hf)
          | pan v pk' s2 => rw [ho2] at hu; exact key hc hend (hu f hf)
          | _ => trivial
        | ret =>
          simp only
          have hu := hr (.unw fn .ret a) s1
          have hend : ∀ (b : Frame) (c : Act) (cs : List Frame) (w : World) (μ : Ren) (m : Machine), b.roundOf = none → ArrR P μ m b [] cs c w .ret → ∃ todo mo, MdR P μ .ret mo ∧ Steps P m (lone { b.atR c todo with mode := mo } cs w) := by
            intro b c cs w μ m hro h
            cases h with
            | ret h1 => exact ⟨_, .returning, rfl, h1.trans (.one (stepR_ret hro))⟩
          cases ho2 : r (.unw fn .ret a) s1 with
          | ret v pk' s2 => rw [ho2] at hu; exact key hc hend (hu f hf)
          | pan v pk' s2 => rw [ho2] at hu; exact key hc hend (hu f hf)
          | _ => trivial
        | pan v0 =>
          simp only
          have hu := hr (.unw fn (.pan v0) a) s1
          have hend : ∀ (b : Frame) (c : Act) (cs : List Frame) (w : World) (μ : Ren) (m : Machine), b.roundOf = none → ArrR P μ m b [] cs c w (.pan v0) → ∃ todo mo, MdR P μ (.pan v0) mo ∧ Steps P m (lone { b.atR c todo with mode := mo } cs w) := by
            intro b c cs w μ m hro h
            cases h with
            | pan hv h1 => exact ⟨_, _, ⟨_, hv, rfl⟩, h1⟩
          cases ho2 : r (.unw fn (.pan v0) a) s1 with
          | ret v pk' s2 => rw [ho2] at hu; exact key hc hend (hu f hf)
          | pan v pk' s2 => rw [ho2] at hu; exact key hc hend (hu f hf)
          | _ => trivial
        | exit i => trivial
      | _ => trivial
end
end Go.E

namespace Go.E

section
variable {P : Program} {X : Ctx} {r : Rec} {μ : Ren} {s : ES} {w : World}

/-! ### results -/
theorem rd_ok {t : TypeId} {a a' : Addr} {pl : Pl} {v : Value} {s' : ES} (he : rd P t a s = .ok v s') (hst : St P μ s.st w) (hp : μ a.block = some pl) (ha : a' = ⟨pl.b, pl.base + a.off, none⟩) :
    s' = s ∧ ∃ v', (loadVar t a').run P w = .ok v' w ∧ VR P μ v v' := by
  subst ha
  unfold rd at he
  revert he
  cases hs : a.spot with
  | some x => intro he; cases he
  | none =>
    simp only
    unfold EM.bnd eget
    simp only
    cases ho : s.st.get a.block with
    | none => intro he; cases he
    | some o =>
      simp only
      obtain ⟨pl', o', h1, h2, h3⟩ := hst.obj _ _ ho
      rw [hp] at h1; cases h1
      cases o with
      | cells c e =>
        simp only
        cases hagg : aggT P t with
        | none => intro he; cases he
        | some b =>
          cases hsz : siz P t with
          | none => cases b <;> (intro he; cases he)
          | some n =>
            cases b with
            | true =>
              simp only [Nat.add_eq]
              cases hle : (a.off + n).ble c.length with
              | false => intro he; cases he
              | true =>
                simp only [cond_true, EM.ret, Res.ok.injEq]
                rintro ⟨rfl, rfl⟩
                have hle' : a.off + n ≤ c.length := by simpa using hle
                obtain ⟨vs, k1, k2, k3⟩ := cells_read h3 h2 a.off n hle'
                have hl := run_loadCells_list (P := P) w ⟨pl.b, pl.base + a.off, none⟩ vs (k3 _ rfl rfl rfl)
                rw [k2] at hl
                refine ⟨rfl, .agg ⟨vs⟩, ?_, .agg k1⟩
                simp [loadVar, run_agg w hagg, run_siz w hsz, hl]
            | false =>
              simp only [lift, nth_eq]
              cases hn : c[a.off]? with
              | none => intro he; cases he
              | some x =>
                simp only [EM.ret, Res.ok.injEq]
                rintro ⟨rfl, rfl⟩
                have hlt : a.off < c.length := by
                  by_cases hlt : a.off < c.length
                  · exact hlt
                  · rw [List.getElem?_eq_none (by omega)] at hn; simp at hn
                obtain ⟨vs, k1, k2, k3⟩ := cells_read h3 h2 a.off 1 (by omega)
                have hd : (c.drop a.off).take 1 = [x] := by
                  rw [List.getElem?_eq_getElem hlt] at hn
                  rw [List.drop_eq_getElem_cons hlt, List.take_succ_cons, Option.some.inj hn]; rfl
                rw [hd] at k1
                cases k1 with
                | cons hv hl =>
                  cases hl
                  rename_i v'
                  have := k3 ⟨pl.b, pl.base + a.off, none⟩ rfl rfl rfl 0 v' (by simp)
                  rw [addr_add] at this
                  refine ⟨rfl, v', ?_, hv⟩
                  simp only [Nat.add_zero] at this
                  simp [loadVar, run_agg w hagg, this]
      | _ => intro he; cases he

abbrev resF (tmps : Array Value) : ResultVar → Sem Value
  | .tmp t => pure (tmps.getD t Go.undef)
  | .cell a t => do loadVar t (← asAddr (tmps.getD a Go.undef))

theorem bnd_ok {α β : Type} {m : EM α} {f : α → EM β} {b : β} {s' : ES} (h : m.bnd f s = .ok b s') : ∃ a s1, m s = .ok a s1 ∧ f a s1 = .ok b s' := by
  unfold EM.bnd at h
  split at h
  · exact ⟨_, _, by assumption, h⟩
  · cases h

theorem resL_ok {nt : Nat} {tm : Tr Value} {tmps : Array Value} (ht : TR P μ nt tm tmps) (hst : St P μ s.st w) : ∀ (l : List ResultVar) (vs : List Value) (s' : ES), resL P tm l s = .ok vs s' →
    s' = s ∧ ∃ vs', VRL P μ vs vs' ∧ (l.mapM (resF tmps)).run P w = .ok vs' w
  | [], vs, s', h => by
    simp only [resL, EM.ret, Res.ok.injEq] at h
    obtain ⟨rfl, rfl⟩ := h
    exact ⟨rfl, [], .nil, rfl⟩
  | .tmp t :: l, vs, s', h => by
    obtain ⟨vs1, s1, h1, h2⟩ := bnd_ok h
    simp only [EM.ret, Res.ok.injEq] at h2
    obtain ⟨rfl, rfl⟩ := h2
    obtain ⟨rfl, vs', h3, h4⟩ := resL_ok ht hst l vs1 s1 h1
    refine ⟨rfl, tmps.getD t undef :: vs', .cons (ht.2 t) h3, ?_⟩
    rw [List.mapM_cons]
    simp only [Sem.run_bind, Sem.run_pure, Result.andThen_ok, h4]
    rfl
  | .cell a t :: l, vs, s', h => by
    obtain ⟨ad, s1, h1, h2⟩ := bnd_ok h
    obtain ⟨v, s2, h3, h4⟩ := bnd_ok h2
    obtain ⟨vs1, s3, h5, h6⟩ := bnd_ok h4
    simp only [EM.ret, Res.ok.injEq] at h6
    obtain ⟨rfl, rfl⟩ := h6
    have ha := ht.2 a
    have hsu : evalO tm (.tmp a) = .pointer (some ad) ∧ s1 = s := by
      unfold sureA at h1
      revert h1
      cases hv : evalO tm (.tmp a) <;> intro h1 <;> try (cases h1)
      rename_i o
      cases o with
      | none => cases h1
      | some x => simp only [EM.ret, Res.ok.injEq] at h1; exact ⟨by rw [h1.1], h1.2.symm⟩
    obtain ⟨hsu, e1⟩ := hsu
    rw [e1] at h3
    have ha' : VR P μ (.pointer (some ad)) (tmps.getD a undef) := by rw [← hsu]; exact ha
    obtain ⟨pl, hp, _, hv'⟩ := ha'.ptr_inv
    obtain ⟨e2, v', k1, k2⟩ := rd_ok h3 hst hp rfl
    rw [e2] at h5
    obtain ⟨e3, vs', k3, k4⟩ := resL_ok ht hst l vs1 s3 h5
    refine ⟨e3, v' :: vs', .cons k2 k3, ?_⟩
    have hv2 : tmps.getD a Go.undef = .pointer (some ⟨pl.b, pl.base + ad.off, none⟩) := hv'
    rw [List.mapM_cons]
    simp only [resF, hv2, asAddr, Sem.run_bind, Sem.run_pure, Result.andThen_ok, k1, k4]

theorem eResults_ok {nt : Nat} {tm : Tr Value} {tmps : Array Value} {fn : Func} {v : Value} {s' : ES} (ht : TR P μ nt tm tmps) (hst : St P μ s.st w) (h : eResults P fn tm s = .ok v s') :
    s' = s ∧ ∃ v', VR P μ v v' ∧ (results fn tmps).run P w = .ok v' w := by
  unfold eResults at h
  obtain ⟨vs, s1, h1, h2⟩ := bnd_ok h
  obtain ⟨rfl, vs', h3, h4⟩ := resL_ok ht hst _ _ _ h1
  have hrun : (results fn tmps).run P w = .ok (if h : vs'.length = 1 then vs'[0] else .tuple ⟨vs'⟩) w := by
    have hm : fn.results.mapM (resF tmps) = List.toArray <$> fn.results.toList.mapM (resF tmps) := Array.mapM_eq_mapM_toList ..
    have : results fn tmps = (do
        let vs ← fn.results.mapM (resF tmps)
        pure (if h : vs.size = 1 then vs[0] else .tuple vs) : Sem Value) := by
      unfold results resF
      rfl
    rw [this, hm]
    simp only [Sem.run_bind, Sem.run_map, h4, Result.andThen_ok, Sem.run_pure]
    rfl
  split at h2
  · rename_i x
    simp only [EM.ret, Res.ok.injEq] at h2
    obtain ⟨rfl, rfl⟩ := h2
    cases h3 with
    | cons hv hl =>
      cases hl
      exact ⟨rfl, _, hv, by rw [hrun]; rfl⟩
  · rename_i hne
    simp only [EM.ret, Res.ok.injEq] at h2
    obtain ⟨rfl, rfl⟩ := h2
    have hlen : ¬ (vs'.length = 1) := by
      rw [← h3.length]
      intro h1
      obtain ⟨x, hx⟩ := List.length_eq_one_iff.1 h1
      exact hne x hx
    refine ⟨rfl, .tuple ⟨vs'⟩, .tuple h3, ?_⟩
    rw [hrun, dif_neg hlen]

theorem rd_state {t : TypeId} {a : Addr} {v : Value} {s s' : ES} (he : rd P t a s = .ok v s') : s' = s := by
  unfold rd at he
  revert he
  cases a.spot with
  | some x => intro he; cases he
  | none =>
    simp only
    unfold EM.bnd eget
    simp only
    cases s.st.get a.block with
    | none => intro he; cases he
    | some o =>
      simp only
      cases o with
      | cells c e =>
        simp only
        cases aggT P t with
        | none => intro he; cases he
        | some b =>
          cases siz P t with
          | none => cases b <;> (intro he; cases he)
          | some n =>
            cases b with
            | true =>
              simp only [Nat.add_eq]
              cases (a.off + n).ble c.length with
              | false => intro he; cases he
              | true => simp only [cond_true, EM.ret, Res.ok.injEq]; rintro ⟨_, rfl⟩; rfl
            | false =>
              simp only [lift, nth_eq]
              cases c[a.off]? with
              | none => intro he; cases he
              | some x => simp only [EM.ret, Res.ok.injEq]; rintro ⟨_, rfl⟩; rfl
      | _ => intro he; cases he
theorem sureA_state {v : Value} {a : Addr} {s s' : ES} (h : sureA v s = .ok a s') : s' = s := by
  unfold sureA at h
  cases v <;> try (cases h)
  rename_i o
  cases o with
  | none => cases h
  | some x => simp only [EM.ret, Res.ok.injEq] at h; exact h.2.symm
theorem resL_state {tm : Tr Value} {s : ES} : ∀ (l : List ResultVar) (vs : List Value) (s' : ES), resL P tm l s = .ok vs s' → s' = s
  | [], vs, s', h => by simp only [resL, EM.ret, Res.ok.injEq] at h; exact h.2.symm
  | .tmp t :: l, vs, s', h => by
    obtain ⟨vs1, s1, h1, h2⟩ := bnd_ok h
    simp only [EM.ret, Res.ok.injEq] at h2
    rw [← h2.2]; exact resL_state l _ _ h1
  | .cell a t :: l, vs, s', h => by
    obtain ⟨ad, s1, h1, h2⟩ := bnd_ok h
    obtain ⟨v, s2, h3, h4⟩ := bnd_ok h2
    obtain ⟨vs1, s3, h5, h6⟩ := bnd_ok h4
    simp only [EM.ret, Res.ok.injEq] at h6
    have e1 := sureA_state h1
    have e2 := rd_state h3
    rw [e2, e1] at h5
    rw [← h6.2]; exact resL_state l _ _ h5
theorem eResults_state {fn : Func} {tm : Tr Value} {v : Value} {s s' : ES} (h : eResults P fn tm s = .ok v s') : s' = s := by
  unfold eResults at h
  obtain ⟨vs, s1, h1, h2⟩ := bnd_ok h
  have e1 := resL_state _ _ _ h1
  split at h2
  · simp only [EM.ret, Res.ok.injEq] at h2; rw [← h2.2]; exact e1
  · simp only [EM.ret, Res.ok.injEq] at h2; rw [← h2.2]; exact e1
end
end Go.E

namespace Go.E

section
variable {P : Program} {X : Ctx} {r : Rec} {μ : Ren} {s : ES} {w : World}

/-! ### leaving a call -/
def UnwAt (P : Program) (a : Fr) (m : Md) (f : FuncId) : Ren → CallKind → Frame → Prop := fun μ kind fr =>
  TR P μ a.nt a.tm fr.tmps ∧ DRL P μ a.df fr.defers ∧ MdR P μ m fr.mode ∧ fr.fn = f ∧ fr.kind = kind ∧ fr.roundOf = none

theorem unw_then {a a1 : Fr} {m m1 : Md} {f : FuncId} {s s1 s2 : ES} {md : Md} {v : Value} {pk pk' : PK} (hn : s.nx ≤ s1.nx)
    (h : ∀ (μ : Ren) (w : World) (cs : List Frame) (kind : CallKind) (fr0 : Frame), St P μ s.st w → Free μ s.nx s1.nx → UnwAt P a m f μ kind fr0 →
      ∃ μ' w' fr1, Nxt P μ s w μ' s1 w' ∧ Steps P (lone fr0 cs w) (lone fr1 cs w') ∧ UnwAt P a1 m1 f μ' kind fr1)
    (hu : GoodCall P (UnwAt P a1 m1 f) f pk s1 md v pk' s2) : GoodCall P (UnwAt P a m f) f pk s md v pk' s2 := by
  refine ⟨Nat.le_trans hn hu.1, fun μ w cs kind fr0 hst hfree hs hkr => ?_⟩
  obtain ⟨μ1, w1, fr1, n1, n2, n3⟩ := h μ w cs kind fr0 hst (fun n k1 k2 => hfree n k1 (Nat.lt_of_lt_of_le k2 hu.1)) hs
  obtain ⟨μ2, w2, cs2, fr, m1, m2, m3, m4, m5, m6, m7, m8⟩ := hu.2 μ1 w1 cs kind fr1 n1.st (fun n k1 k2 => by rw [n1.same n (by omega)]; exact hfree n (Nat.le_trans hn k1) k2) n3 (hkr.sub n1.sub)
  exact ⟨μ2, w2, cs2, fr, n1.trans hn hu.1 m1, m2, m3, n2.trans m4, m5, m6, m7, m8⟩

theorem step_deferW {fr : Frame} {cs : List Frame} {w w' : World} {d : Deferred} {ds : List Deferred} {f : FuncId} {args : Array Value} (hm : fr.mode ≠ .run) (hd : fr.defers = d :: ds)
    (hc : ∀ b, d.target ≠ .collected b) (hz : d.target ≠ .nil) (hi : (invoke d.target d.args).run P w = .ok (.enter f args) w') :
    step P (lone fr cs w) = .next (lone (Frame.enter P f args .deferred) ({ fr with defers := ds } :: cs) w') := by
  obtain ⟨t, a⟩ := d
  simp only at hc hz hi
  refine step_lone_go ?_
  cases t with
  | collected b => exact absurd rfl (hc b)
  | nil => exact absurd rfl hz
  | _ =>
    cases hmode : fr.mode with
    | run => exact absurd hmode hm
    | returning => simp [stepG, unwind, callDeferred, hmode, hd, hi]
    | panicking chain => simp [stepG, unwind, callDeferred, hmode, hd, hi]

theorem step_deferV {fr : Frame} {cs : List Frame} {w w' : World} {d : Deferred} {ds : List Deferred} {v : Value} (hm : fr.mode ≠ .run) (hd : fr.defers = d :: ds)
    (hc : ∀ b, d.target ≠ .collected b) (hz : d.target ≠ .nil) (hi : (invoke d.target d.args).run P w = .ok (.value v) w') :
    step P (lone fr cs w) = .next (lone { fr with defers := ds } cs w') := by
  obtain ⟨t, a⟩ := d
  simp only at hc hz hi
  refine step_lone_go ?_
  cases t with
  | collected b => exact absurd rfl (hc b)
  | nil => exact absurd rfl hz
  | _ =>
    cases hmode : fr.mode with
    | run => exact absurd hmode hm
    | returning => simp [stepG, unwind, callDeferred, hmode, hd, hi]
    | panicking chain => simp [stepG, unwind, callDeferred, hmode, hd, hi]

theorem step_collected {fr : Frame} {cs : List Frame} {w w' : World} {b : Nat} {as : Array Value} {ds l : List Deferred} (hm : fr.mode ≠ .run) (hd : fr.defers = { target := .collected b, args := as } :: ds)
    (hi : (Instr.takeDeferred b).run P w = .ok l w') : step P (lone fr cs w) = .next (lone { fr with defers := l ++ ds } cs w') := by
  refine step_lone_go ?_
  cases hmode : fr.mode with
  | run => exact absurd hmode hm
  | returning => simp [stepG, unwind, hmode, hd, Sem.runT_eq, hi, GStep.bare_after]
  | panicking chain => simp [stepG, unwind, hmode, hd, Sem.runT_eq, hi, GStep.bare_after]

theorem MdR.not_run {m : Md} {mo : FrameMode} (h : MdR P μ m mo) : mo ≠ .run := by
  cases m with
  | ret => intro hh; rw [hh] at h; cases h
  | pan v => obtain ⟨v', _, h⟩ := h; rw [h]; simp
theorem MdR.sub {μ' : Ren} (hs : Sub μ μ') {m : Md} {mo : FrameMode} (h : MdR P μ m mo) : MdR P μ' m mo := by
  cases m with
  | ret => exact h
  | pan v => obtain ⟨v', h1, h2⟩ := h; exact ⟨v', h1.sub hs, h2⟩

theorem wf_takeD (n : Nat) : Wf (takeD n) := by
  unfold takeD
  (repeat' first | exact wf_bad _ | exact wf_ret _ | exact wf_eget _ | exact wf_eset _ _ | refine wf_bnd ?_ fun _ => ?_ | split)
theorem sim_takeD {n : Nat} {pl : Pl} (hp : μ n = some pl) : Sim P μ s w (fun μ l l' => DRL P μ l l') (takeD n s) ((Instr.takeDeferred pl.b).run P w) := by
  unfold takeD
  refine sim_eget _ fun o ho => ?_
  intro v s' he hf hst
  obtain ⟨pl', o', p1, p2, p3⟩ := hst.obj _ _ ho
  rw [hp] at p1; cases p1
  cases o with
  | dfr l =>
    cases l with
    | none => cases he
    | some l =>
      obtain ⟨hb, l', rfl, hl⟩ := p3
      have key : Sim P μ s w (fun μ l l' => DRL P μ l l') (((eset n (.dfr none)).bnd fun _ => EM.ret l) s) ((Instr.takeDeferred pl.b).run P w) := by
        refine sim_esetK (b := l') ho hp (o1' := .deferred none) ⟨hb, rfl⟩ (fun _ => rfl) ?_ hl
        simp only [Instr.takeDeferred, Sem.run_bind, run_getObj p2 (by intros; simp), Result.andThen_ok, run_setObj p2 (by intros; simp), Sem.run_pure]
      exact key v s' he hf hst
  | _ => cases he

theorem evUnw_good (hX : CtxOk P X) (hr : GoodR P r) (fn : Func) (m : Md) (a : Fr) (s : ES) : Good P (.unw fn m a) s (evUnw P X r fn m a s) := by
  unfold evUnw
  cases hdf : a.df with
  | nil =>
    simp only
    unfold uEnd
    cases m with
    | ret =>
      simp only
      unfold uRet
      cases he : eResults P fn a.tm s with
      | bad y => trivial
      | ok v s' =>
        intro f hf
        have hs' : s' = s := eResults_state he
        subst hs'
        refine ⟨Nat.le_refl _, fun μ w cs kind fr0 hst _ hs hkr => ?_⟩
        obtain ⟨h1, h2, h3, h4, h5, h6⟩ := hs
        obtain ⟨_, v', k1, k2⟩ := eResults_ok h1 hst he
        rw [hdf] at h2
        have hd0 : fr0.defers = [] := by
          generalize fr0.defers = l at h2
          cases h2; rfl
        exact ⟨μ, w, cs, fr0, Nxt.refl hst, hkr, .refl _, .refl P _, h4, h5, hd0, .ret k1 h3 ⟨fn, hf, k2⟩⟩
    | pan v =>
      simp only
      intro f hf
      refine ⟨Nat.le_refl _, fun μ w cs kind fr0 hst _ hs hkr => ?_⟩
      obtain ⟨h1, h2, h3, h4, h5, h6⟩ := hs
      obtain ⟨v', h7, h8⟩ := h3
      rw [hdf] at h2
      have hd0 : fr0.defers = [] := by
        generalize fr0.defers = l at h2
        cases h2; rfl
      exact ⟨μ, w, cs, fr0, Nxt.refl hst, hkr, .refl _, .refl P _, h4, h5, hd0, .pan h7 h8 ⟨fn, hf⟩⟩
  | cons d ds =>
    simp only
    -- what the frame bears
    have hd1 : ∀ {μ : Ren} {fr0 : Frame}, DRL P μ a.df fr0.defers → ∃ d' ds', fr0.defers = d' :: ds' ∧ DRel P μ d d' ∧ DRL P μ ds ds' := by
      intro μ fr0 h
      rw [hdf] at h
      generalize fr0.defers = l at h
      cases h with
      | cons h1 h2 => exact ⟨_, _, rfl, h1, h2⟩
    have other : (∀ n, d.target ≠ .collected n) → Good P (.unw fn m a) s (uInv r fn m a ds (eInvoke P X d.target d.args.toList s)) := by
      intro hnc
      cases he : eInvoke P X d.target d.args.toList s with
      | bad y => trivial
      | ok nx s1 =>
        have hn := ((wf_eInvoke (P := P) (X := X) d.target d.args.toList) _ _ _ he).1
        -- the machine's call
        have inv : ∀ {μ : Ren} {w : World} {fr0 : Frame} {kind : CallKind} {f : FuncId}, St P μ s.st w → Free μ s.nx s1.nx → UnwAt P a m f μ kind fr0 → ∃ d' ds' μ' w' nx', fr0.defers = d' :: ds' ∧ DRL P μ ds ds' ∧ (∀ b, d'.target ≠ .collected b) ∧ d'.target ≠ .nil ∧
            (invoke d'.target d'.args).run P w = .ok nx' w' ∧ Nxt P μ s w μ' s1 w' ∧ NR P X μ' nx nx' := by
          intro μ w fr0 kind f hst hfree hs
          obtain ⟨d', ds', h1, h2, h3⟩ := hd1 hs.2.1
          cases h2 with
          | mk ht ha =>
            rename_i t t' a1 a1'
            obtain ⟨μ', w', nx', q1, q2, q3⟩ := sim_eInvoke (s := s) (w := w) hX ht ha nx s1 he hfree hst
            refine ⟨_, ds', μ', w', nx', h1, h3, fun b hb => ?_, fun hb => ?_, q1, q2, q3⟩
            · simp only at hb
              subst hb
              cases ht with
              | collected h => exact hnc _ rfl
            · simp only at hb
              subst hb
              cases ht
        unfold uInv
        cases nx with
        | val v =>
          simp only
          have hu := hr (.unw fn m { a with df := ds }) s1
          have key : ∀ {f : FuncId} {md : Md} {v : Value} {pk' : PK} {s2 : ES}, GoodCall P (UnwAt P { a with df := ds } m f) f a.pk s1 md v pk' s2 → GoodCall P (UnwAt P a m f) f a.pk s md v pk' s2 := by
            intro f md v pk' s2 hu
            refine unw_then hn (fun μ w cs kind fr0 hst hfree hs => ?_) hu
            obtain ⟨d', ds', μ', w', nx', h1, h2, h3, h4, h5, h6, h7⟩ := inv hst hfree hs
            cases h7 with
            | val hv =>
              refine ⟨μ', w', { fr0 with defers := ds' }, h6, .one (step_deferV hs.2.2.1.not_run h1 h3 h4 h5), hs.1.sub h6.sub, h2.sub h6.sub, hs.2.2.1.sub h6.sub, hs.2.2.2.1, hs.2.2.2.2.1, hs.2.2.2.2.2⟩
          cases ho : r (.unw fn m { a with df := ds }) s1 with
          | ret v pk' s2 => rw [ho] at hu; exact fun f hf => key (hu f hf)
          | pan v pk' s2 => rw [ho] at hu; exact fun f hf => key (hu f hf)
          | _ => trivial
        | enter g args =>
          simp only
          have hc := hr (.call g args (pkOf m)) s1
          unfold uCalled
          cases ho : r (.call g args (pkOf m)) s1 with
          | ret v0 pk0 s2 =>
            rw [ho] at hc
            simp only
            have hu := hr (.unw fn (mdOf m pk0) { a with df := ds }) s2
            have key : ∀ {f : FuncId} {md : Md} {v : Value} {pk' : PK} {s3 : ES}, P.funcs[f]? = some fn → GoodCall P (UnwAt P { a with df := ds } (mdOf m pk0) f) f a.pk s2 md v pk' s3 → GoodCall P (UnwAt P a m f) f a.pk s md v pk' s3 := by
              intro f md v pk' s3 hf hu
              refine unw_then (Nat.le_trans hn hc.1) (fun μ w cs kind fr0 hst hfree hs => ?_) hu
              obtain ⟨d', ds', μ1, w1, nx', h1, h2, h3, h4, h5, h6, h7⟩ := inv hst (fun n k1 k2 => hfree n k1 (Nat.lt_of_lt_of_le k2 hc.1)) hs
              cases h7 with
              | enter _ ha =>
                rename_i args'
                have hmd := hs.2.2.1.sub h6.sub
                have hkr : KR P μ1 (pkOf m) .deferred ({ fr0 with defers := ds' } :: cs) := by
                  cases m with
                  | ret => exact .defRet hmd
                  | pan v1 => obtain ⟨v', q1, q2⟩ := hmd; exact .yes q1 q2
                obtain ⟨μ2, w2, cs2, fr2, m1, m2, m3, m4, m5, m6, m7, m8⟩ := hc.2 μ1 w1 ({ fr0 with defers := ds' } :: cs) .deferred _ h6.st (fun n k1 k2 => by rw [h6.same n (by omega)]; exact hfree n (Nat.le_trans hn k1) k2) ⟨args', ha, rfl⟩ hkr
                have hst1 := step_deferW (cs := cs) hs.2.2.1.not_run h1 h3 h4 h5
                cases m8 with
                | ret hv hm hres =>
                  rename_i v'
                  have hgo : fr2.going P w2 (.returned v') := ⟨hm, m7, by rw [m5]; exact hres⟩
                  have hmd2 := hmd.sub m1.sub
                  have fin : ∀ (hd : Frame), hd.tmps = fr0.tmps → hd.defers = ds' → hd.fn = fr0.fn → hd.kind = fr0.kind → hd.roundOf = fr0.roundOf → cs2 = hd :: cs → MdR P μ2 (mdOf m pk0) (settle hd.mode) →
                      ∃ μ' w' fr1, Nxt P μ s w μ' s2 w' ∧ Steps P (lone fr0 cs w) (lone fr1 cs w') ∧ UnwAt P { a with df := ds } (mdOf m pk0) f μ' kind fr1 := by
                    intro hd e1 e2 e3 e4 e5 e6 e7
                    subst e6
                    refine ⟨μ2, w2, { hd with mode := settle hd.mode }, h6.trans hn hc.1 m1, .head hst1 (m4.trans (.one (step_going_returned m6 hgo))), ?_, ?_, e7, ?_, ?_, ?_⟩
                    · show TR P μ2 a.nt a.tm hd.tmps
                      rw [e1]; exact (hs.1.sub h6.sub).sub m1.sub
                    · show DRL P μ2 ds hd.defers
                      rw [e2]; exact (h2.sub h6.sub).sub m1.sub
                    · exact e3.trans hs.2.2.2.1
                    · exact e4.trans hs.2.2.2.2.1
                    · exact e5.trans hs.2.2.2.2.2
                  cases m3 with
                  | refl =>
                    refine fin { fr0 with defers := ds' } rfl rfl rfl rfl rfl rfl ?_
                    cases m with
                    | ret =>
                      have hmr : fr0.mode = .returning := hmd2
                      show MdR P μ2 .ret (settle fr0.mode)
                      rw [hmr]; rfl
                    | pan v1 =>
                      obtain ⟨v1', q1, q2⟩ := hmd2
                      have hpk : mdOf (.pan v1) pk0 = .pan v1 := by
                        cases pk0 with
                        | no => rfl
                        | yes x => rfl
                        | done =>
                          cases m2 with
                          | done hh => rw [show ({ fr0 with defers := ds' } : Frame).mode = fr0.mode from rfl, q2] at hh; simp at hh
                      rw [hpk]
                      refine ⟨v1', q1, ?_⟩
                      show settle fr0.mode = _
                      rw [q2]; rfl
                  | mark _ _ hmk =>
                    rename_i v2 _
                    refine fin { fr0 with defers := ds', mode := .panicking [⟨v2, true, false⟩] } rfl rfl rfl rfl rfl rfl ?_
                    have hmk' : fr0.mode = .panicking [⟨v2, false, false⟩] := hmk
                    have hpk : pk0 = .done := by
                      cases m2 with
                      | defRet hh => simp at hh
                      | yes _ hh => simp at hh
                      | done _ => rfl
                    subst hpk
                    cases m with
                    | ret =>
                      have hmr : fr0.mode = .returning := hmd2
                      rw [hmr] at hmk'; cases hmk'
                    | pan v1 => rfl
            cases ho2 : r (.unw fn (mdOf m pk0) { a with df := ds }) s2 with
            | ret v pk' s3 => rw [ho2] at hu; exact fun f hf => key hf (hu f hf)
            | pan v pk' s3 => rw [ho2] at hu; exact fun f hf => key hf (hu f hf)
            | _ => trivial
          | _ => trivial
        | _ => trivial
    split
    · rename_i n hdt
      have hn := (wf_takeD n)
      cases he : takeD n s with
      | bad y => trivial
      | ok l s1 =>
        have hn := (hn _ _ _ he).1
        unfold uColl
        simp only
        have hu := hr (.unw fn m { a with df := l ++ ds }) s1
        have key : ∀ {f : FuncId} {md : Md} {v : Value} {pk' : PK} {s2 : ES}, GoodCall P (UnwAt P { a with df := l ++ ds } m f) f a.pk s1 md v pk' s2 → GoodCall P (UnwAt P a m f) f a.pk s md v pk' s2 := by
          intro f md v pk' s2 hu
          refine unw_then hn (fun μ w cs kind fr0 hst hfree hs => ?_) hu
          obtain ⟨d', ds', h1, h2, h3⟩ := hd1 hs.2.1
          cases h2 with
          | mk ht ha =>
            rename_i t t' a1 a1'
            simp only at hdt
            subst hdt
            cases ht with
            | collected hp =>
              rename_i pl
              obtain ⟨μ', w', l', q1, q2, q3⟩ := sim_takeD (s := s) (w := w) hp l s1 he hfree hst
              refine ⟨μ', w', { fr0 with defers := l' ++ ds' }, q2, .one (step_collected hs.2.2.1.not_run h1 q1), hs.1.sub q2.sub, q3.append (h3.sub q2.sub), hs.2.2.1.sub q2.sub, hs.2.2.2.1, hs.2.2.2.2.1, hs.2.2.2.2.2⟩
        cases ho : r (.unw fn m { a with df := l ++ ds }) s1 with
        | ret v pk' s2 => rw [ho] at hu; exact fun f hf => key (hu f hf)
        | pan v pk' s2 => rw [ho] at hu; exact fun f hf => key (hu f hf)
        | _ => trivial
    · rename_i hnc
      exact other fun n hn => hnc n hn
end
end Go.E

namespace Go.E

section
variable {P : Program} {X : Ctx} {r : Rec} {μ : Ren} {s : ES} {w : World}

/-! ### rounds -/
theorem sim_getLoop {l : Nat} {pl : Pl} (hp : μ l = some pl) {α β : Type} {R : Ren → α → β → Prop} {f : EObj → EM α} {m : Result β}
    (hb : ∀ o, (∀ st pe nt tm ps as bo dr, o ≠ .loop st pe nt tm ps as bo dr) → ∀ s a s', f o s ≠ .ok a s')
    (h : ∀ st pe nt tm ps as bo dr fn tmps pd, s.st.get l = some (.loop st pe nt tm ps as bo dr) → pl.base = 0 → w.heap[pl.b]? = some (.loop { state := st, pending := pe, fn, tmps, params := ps, assign := as, body := bo, defers := pd.b }) →
      μ dr = some pd → TR P μ nt tm tmps → (∃ g, P.funcs[fn]? = some g) → Sim P μ s w R (f (.loop st pe nt tm ps as bo dr) s) m) :
    Sim P μ s w R (((eget l).bnd f) s) m := by
  refine sim_eget l fun o ho => ?_
  intro a s' he hf hst
  obtain ⟨plr, o', h1, h2, h3⟩ := hst.obj _ _ ho
  rw [hp] at h1; cases h1
  cases o with
  | loop st pe nt tm ps as bo dr =>
    obtain ⟨h4, fn, tmps, pd, h5, h6, h7, h8⟩ := h3
    subst h5
    exact h st pe nt tm ps as bo dr fn tmps pd ho h4 h2 h6 h7 h8 a s' he hf hst
  | _ => exact absurd he (hb _ (by intros; simp) _ _ _)

theorem wf_rBegin (l : Nat) : Wf (rBegin l) := by
  unfold rBegin
  (repeat' first | exact wf_bad _ | exact wf_ret _ | exact wf_eget _ | exact wf_eset _ _ | refine wf_bnd ?_ fun _ => ?_ | split)
theorem sim_rBegin {l : Nat} {pl : Pl} (hp : μ l = some pl) : Sim P μ s w (fun _ _ _ => True) (rBegin l s) ((Instr.beginRound pl.b).run P w) := by
  unfold rBegin
  refine sim_getLoop hp (fun o ho s a s' => ?_) fun st pe nt tm ps as bo dr fn tmps pd hg hb hw hd ht hfn => ?_
  · cases o <;> first | exact absurd rfl (ho _ _ _ _ _ _ _ _) | (intro h; cases h)
  · cases st <;> try exact Sim.bad _ _
    refine sim_eset (b := ()) hg hp (o1' := .loop { state := .busy, pending := pe, fn, tmps, params := ps, assign := as, body := bo, defers := pd.b }) ⟨hb, fn, tmps, pd, rfl, hd, ht, hfn⟩ ?_ trivial
    simp only [Instr.beginRound, Instr.getLoop, Sem.run_bind, run_getObj hw (by intros; simp), Result.andThen_ok, Sem.run_pure, run_setObj hw (by intros; simp)]

theorem wf_rFin (l : Nat) (b : Bool) (j : Option Code) : Wf (rFin l b j) := by
  unfold rFin
  (repeat' first | exact wf_bad _ | exact wf_ret _ | exact wf_eget _ | exact wf_eset _ _ | refine wf_bnd ?_ fun _ => ?_ | split)
theorem sim_rFin {l : Nat} {pl : Pl} (hp : μ l = some pl) (b : Bool) (j : Option Code) (hj : b = j.isNone) : Sim P μ s w (RV P) (rFin l b j s) ((Instr.endRound pl.b j).run P w) := by
  subst hj
  unfold rFin
  refine sim_getLoop hp (fun o ho s a s' => ?_) fun st pe nt tm ps as bo dr fn tmps pd hg hb hw hd ht hfn => ?_
  · cases o <;> first | exact absurd rfl (ho _ _ _ _ _ _ _ _) | (intro h; cases h)
  · refine sim_esetK (b := .bool j.isNone) hg hp (o1' := .loop { state := bif j.isNone then .ready else .done, pending := j, fn, tmps, params := ps, assign := as, body := bo, defers := pd.b }) ⟨hb, fn, tmps, pd, rfl, hd, ht, hfn⟩ (fun _ => rfl) ?_ (.bool _)
    simp only [Instr.endRound, Instr.getLoop, Sem.run_bind, run_getObj hw (by intros; simp), Result.andThen_ok, Sem.run_pure, run_setObj hw (by intros; simp)]
    cases j <;> rfl

theorem wf_rfEnd (l : Nat) : Wf (rfEnd l) := by
  unfold rfEnd
  (repeat' first | exact wf_bad _ | exact wf_ret _ | exact wf_eget _ | exact wf_eset _ _ | refine wf_bnd ?_ fun _ => ?_ | split)
theorem sim_rfEnd {l : Nat} {pl : Pl} (hp : μ l = some pl) : Sim P μ s w (fun _ a b => a = b) (rfEnd l s) ((Instr.endLoop pl.b).run P w) := by
  unfold rfEnd
  refine sim_getLoop hp (fun o ho s a s' => ?_) fun st pe nt tm ps as bo dr fn tmps pd hg hb hw hd ht hfn => ?_
  · cases o <;> first | exact absurd rfl (ho _ _ _ _ _ _ _ _) | (intro h; cases h)
  · have key : st ≠ .busy → Sim P μ s w (fun _ a b => a = b) (((eset l (.loop .exhausted pe nt tm ps as bo dr)).bnd fun _ => EM.ret pe) s) ((Instr.endLoop pl.b).run P w) := by
      intro hne
      refine sim_esetK (b := pe) hg hp (o1' := .loop { state := .exhausted, pending := pe, fn, tmps, params := ps, assign := as, body := bo, defers := pd.b }) ⟨hb, fn, tmps, pd, rfl, hd, ht, hfn⟩ (fun _ => rfl) ?_ rfl
      have hb' : ¬ ((st == LoopState.busy) = true) := by intro h; exact hne (by simpa using h)
      simp only [Instr.endLoop, Instr.getLoop, Sem.run_bind, run_getObj hw (by intros; simp), Result.andThen_ok, Sem.run_pure, Sem.run_ite, if_neg hb', run_setObj hw (by intros; simp)]
    cases st with
    | busy => exact Sim.bad _ _
    | ready => exact key (by simp)
    | done => exact key (by simp)
    | exhausted => exact key (by simp)

theorem evRnd_good (hr : GoodR P r) (l nt : Nat) (tm : Tr Value) (assign body : Code) (s : ES) : Good P (.rnd l nt tm assign body) s (evRnd r l nt tm assign body s) := by
  unfold evRnd rAssigned
  have h1 := hr (.code assign (some l) { nt, tm, df := [], pk := .no }) s
  cases ho : r (.code assign (some l) { nt, tm, df := [], pk := .no }) s with
  | code e a s1 =>
    rw [ho] at h1
    cases e with
    | normal =>
      simp only
      unfold rBody
      cases hbg : rBegin l s1 with
      | bad y => trivial
      | ok u s2 =>
        simp only
        have hn2 := (wf_rBegin l _ _ _ hbg).1
        have h2 := hr (.code body (some l) a) s2
        cases ho2 : r (.code body (some l) a) s2 with
        | code e2 a2 s3 =>
          rw [ho2] at h2
          have h1n := h1.1
          have h2n := h2.1
          -- up to the body's end
          have upto : ∀ {s4 : ES}, s3.nx ≤ s4.nx → ∀ (μ : Ren) (w : World) (c : Frame) (cs : List Frame) (f : FuncId) (tmps : Array Value) (pl : Pl), St P μ s.st w → Free μ s.nx s4.nx → μ l = some pl → TR P μ nt tm tmps → (∃ fn, P.funcs[f]? = some fn) → c.mode = .run →
              ∃ μ' w' c' b, Nxt P μ s w μ' s3 w' ∧ Free μ' s3.nx s4.nx ∧ FrR P μ' (some l) b (c :: cs) a2 c' ∧ b.kind = .normal ∧ b.roundOf = some pl.b ∧ b.fn = f ∧ ArrR P μ' (lone (Frame.round pl.b f tmps assign body .normal) (c :: cs) w) b [] (c :: cs) c' w' e2 := by
            intro s4 hn4 μ w c cs f tmps pl hst hfree hl ht hf hc
            let b : Frame := { (default : Frame) with fn := f, kind := .normal, roundOf := some pl.b }
            have hround : Frame.round pl.b f tmps assign body .normal = b.atR ⟨tmps, []⟩ [.code assign, .beginRound, .code body] := by
              simp [Frame.round, Frame.atR, b]
            have hfr : FrR P μ (some l) b (c :: cs) { nt, tm, df := [], pk := .no } ⟨tmps, []⟩ := ⟨⟨rfl, pl, hl, rfl⟩, hf, ht, .nil, .norm _⟩
            obtain ⟨μ1, w1, c1, cs1, n1, n2, n3, n4⟩ := h1.2 μ w b [.beginRound, .code body] (c :: cs) _ hst (fun n k1 k2 => hfree n k1 (by omega)) hfr
            have hcs := n3.run hc
            subst hcs
            obtain ⟨μ2, w2, _, q1, q2, _⟩ := sim_rBegin (P := P) (w := w1) (n1.sub _ _ hl) u s2 hbg (fun n k1 k2 => by rw [n1.same n (by omega)]; exact hfree n (by omega) (by omega)) n1.st
            obtain ⟨μ3, w3, c3, cs3, m1, m2, m3, m4⟩ := h2.2 μ2 w2 b [] (c :: cs) c1 q2.st (fun n k1 k2 => by rw [q2.same n (by omega), n1.same n (by omega)]; exact hfree n (by omega) (by omega)) (n2.sub q2.sub)
            have hcs := m3.run hc
            subst hcs
            refine ⟨μ3, w3, c3, b, (n1.trans h1n hn2 q2).trans (by omega) h2n m1, fun n k1 k2 => ?_, m2, rfl, rfl, rfl, ?_⟩
            · rw [m1.same n (by omega), q2.same n (by omega), n1.same n (by omega)]; exact hfree n (by omega) k2
            · rw [hround]
              cases n4 with
              | normal hs => exact .of_steps (hs.trans (.one (stepR_beginRound rfl q1))) m4
          have fin : ∀ (bb : Bool) (j : Option Code), bb = j.isNone → (∀ (μ : Ren) (m : Machine) (b c : Frame) (cs : List Frame) (a' : Act) (w w' : World) (v : Value) (lb : Nat), b.kind = .normal → b.roundOf = some lb → ArrR P μ m b [] (c :: cs) a' w e2 → (Instr.endRound lb j).run P w = .ok v w' →
              Steps P m (lone (c.finish v) cs w')) → Good P (.rnd l nt tm assign body) s (uRet .no (rFin l bb j s3)) := by
            intro bb j hj hstep
            unfold uRet
            cases hfi : rFin l bb j s3 with
            | bad y => trivial
            | ok v s4 =>
              have hn4 := (wf_rFin l bb j _ _ _ hfi).1
              refine ⟨by omega, fun μ w c cs f tmps pl hst hfree hl ht hf hc => ?_⟩
              obtain ⟨μ1, w1, c1, b, n1, n2, n3, n4, n5, n6, n7⟩ := upto hn4 μ w c cs f tmps pl hst hfree hl ht hf hc
              obtain ⟨μ2, w2, v', q1, q2, q3⟩ := sim_rFin (P := P) (w := w1) (n1.sub _ _ hl) bb j hj v s4 hfi n2 n1.st
              exact ⟨μ2, w2, n1.trans (by omega) hn4 q2, .ret q3 (hstep _ _ _ _ _ _ _ _ _ _ n4 n5 n7 q1)⟩
          unfold rDone
          cases e2 with
          | normal =>
            refine fin true none rfl fun μ m b c cs a' w w' v lb hk hro h he => ?_
            cases h with
            | normal h1 => exact h1.trans (.one (stepR_round_end hro hk he))
          | ret =>
            refine fin false (some .ret) rfl fun μ m b c cs a' w w' v lb hk hro h he => ?_
            cases h with
            | ret h1 => exact h1.trans (.one (stepR_round_ret hro hk he))
          | exit id =>
            refine fin false (some (.exit id)) rfl fun μ m b c cs a' w w' v lb hk hro h he => ?_
            cases h with
            | exit _ h1 hx => exact h1.trans (.one (stepR_round_exit hro hk hx he))
          | pan v =>
            simp only
            unfold rPan
            cases hdf : a2.df with
            | cons => trivial
            | nil =>
              simp only
              refine ⟨by omega, fun μ w c cs f tmps pl hst hfree hl ht hf hc => ?_⟩
              obtain ⟨μ1, w1, c1, b, n1, n2, n3, n4, n5, n6, n7⟩ := upto (Nat.le_refl _) μ w c cs f tmps pl hst hfree hl ht hf hc
              cases n7 with
              | pan hv h1 =>
                have hd := n3.df
                rw [hdf] at hd
                have hd0 : c1.defers = [] := by
                  generalize c1.defers = dl at hd
                  cases hd; rfl
                exact ⟨μ1, w1, n1, .pan hv (h1.trans (.one (step_pan rfl hd0 n3.fn)))⟩
        | _ => trivial
    | _ => trivial
  | _ => trivial
end
end Go.E

