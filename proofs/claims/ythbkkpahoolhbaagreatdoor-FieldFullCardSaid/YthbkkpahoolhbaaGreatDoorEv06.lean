import Derived.Test.YthbkkpahoolhbaaGreatDoorEv05
import Derived.Laws.Append
import Derived.Laws.BytesString
set_option linter.unusedSimpArgs false
set_option linter.unusedVariables false
set_option linter.unusedSectionVars false
namespace Go.E

section
variable {P : Program} {μ : Ren} {s : ES} {w : World}

/-! ### rows read -/
theorem wf_rdCells (a : Addr) (n : Nat) : Wf (rdCells a n) := by
  unfold rdCells
  (repeat' first | exact wf_bad _ | exact wf_ret _ | exact wf_eget _ | refine wf_cond _ ?_ ?_ | refine wf_bnd ?_ fun _ => ?_ | split)

theorem rdCells_ok {a : Addr} {n : Nat} {l : List Value} {s' : ES} {pl : Pl} (h : rdCells a n s = .ok l s') (hst : St P μ s.st w) (hp : μ a.block = some pl) :
    s' = s ∧ l.length = n ∧ ∃ vs, VRL P μ l vs ∧ ∀ j v, vs[j]? = some v → w.cell? ((⟨pl.b, pl.base + a.off, none⟩ : Addr).add j) = some v := by
  unfold rdCells at h
  revert h
  cases hs : a.spot with
  | some x => intro h; cases h
  | none =>
    simp only [EM.bnd, eget]
    cases hg : s.st.get a.block with
    | none => intro h; cases h
    | some o =>
      simp only
      obtain ⟨pl', o', h1, h2, h3⟩ := hst.obj _ _ hg
      rw [hp] at h1; cases h1
      cases o with
      | cells c e =>
        simp only [Nat.add_eq]
        cases hb : (a.off + n).ble c.length with
        | false => intro h; cases h
        | true =>
          simp only [cond_true, EM.ret, Res.ok.injEq]
          rintro ⟨rfl, rfl⟩
          have hb' : a.off + n ≤ c.length := by simpa using hb
          obtain ⟨vs, k1, k2, k3⟩ := cells_read h3 h2 a.off n hb'
          refine ⟨rfl, by have := k1.length; rw [k2] at this; exact this, vs, k1, k3 _ rfl rfl rfl⟩
      | _ => intro h; cases h

theorem cell_heap {w1 : World} (h : w1.heap = w.heap) (a : Addr) : w1.cell? a = w.cell? a := by simp only [World.cell?, h]

theorem run_loadL {w1 : World} (a : Addr) (vs : List Value) (n : Nat) (hn : vs.length = n) (hh : w1.heap = w.heap) (h : ∀ j v, vs[j]? = some v → w.cell? (a.add j) = some v) : (loadCells a n).run P w1 = .ok ⟨vs⟩ w1 := by
  subst hn
  exact run_loadCells_list w1 a vs fun j v hv => by rw [cell_heap hh]; exact h j v hv

/-- a source of elements: a slice or a string -/
theorem src_ok {n k : Nat} {x x' : Value} {l : List Value} {s' : ES} (h : srcCells n x s = .ok (k, l) s') (hst : St P μ s.st w) (hx : VR P μ x x') :
    s' = s ∧ l.length = k * n ∧ (∀ w1 : World, (Builtin.lenOf x').run P w1 = .ok k w1) ∧
    ∀ m, m ≤ k → ∃ vs, VRL P μ (l.take (m * n)) vs ∧ ∀ w1 : World, w1.heap = w.heap → (Builtin.firstCells n m x').run P w1 = .ok ⟨vs⟩ w1 := by
  unfold srcCells at h
  split at h
  · cases hx
    simp only [EM.ret, Res.ok.injEq, Prod.mk.injEq] at h
    obtain ⟨⟨rfl, rfl⟩, rfl⟩ := h
    refine ⟨rfl, by simp, fun w1 => rfl, fun m hm => ⟨[], by simp; exact .nil, fun w1 _ => rfl⟩⟩
  · rename_i a len c
    obtain ⟨pl, c', hp, hs, rfl, _⟩ := hx.slice_inv
    unfold EM.bnd at h
    split at h
    · rename_i l' s1 h1
      simp only [EM.ret, Res.ok.injEq, Prod.mk.injEq] at h
      obtain ⟨⟨rfl, rfl⟩, rfl⟩ := h
      obtain ⟨r1, r2, vs, r3, r4⟩ := rdCells_ok h1 hst hp
      refine ⟨r1, r2, fun w1 => rfl, fun m hm => ⟨vs.take (m * n), r3.take _, fun w1 hw => ?_⟩⟩
      have hl : vs.length = len * n := by rw [← r3.length]; exact r2
      have hmn : m * n ≤ len * n := Nat.mul_le_mul_right _ hm
      exact run_loadL (w := w) _ _ _ (by rw [List.length_take, hl]; exact Nat.min_eq_left hmn) hw fun j v hv => r4 j v (by
        rw [List.getElem?_take] at hv
        split at hv
        · exact hv
        · cases hv)
    · cases h
  · rename_i str
    cases hx
    cases hn : n.beq 1 with
    | false => simp only [hn, cond_false] at h; cases h
    | true =>
      have hn1 : n = 1 := by simpa using hn
      subst hn1
      simp only [hn, cond_true, EM.ret, Res.ok.injEq, Prod.mk.injEq] at h
      obtain ⟨⟨rfl, rfl⟩, rfl⟩ := h
      refine ⟨rfl, by simp [intsOf], fun w1 => by simp [Builtin.lenOf, bytes_length], fun m hm => ⟨((intsOf (bytes str)).take (m * 1)), ?_, fun w1 _ => ?_⟩⟩
      · refine VRL.take ?_ _
        unfold intsOf
        induction bytes str with
        | nil => exact .nil
        | cons b l ih => exact .cons (.int _ _) ih
      · simp only [Builtin.firstCells, Sem.run_pure]
        congr 1
        apply Array.ext'
        simp [intsOf, bytes]
  · cases h

theorem wf_srcCells (n : Nat) (x : Value) : Wf (srcCells n x) := by
  unfold srcCells
  (repeat' first | exact wf_bad _ | exact wf_ret _ | exact wf_rdCells _ _ | refine wf_cond _ ?_ ?_ | refine wf_bnd ?_ fun _ => ?_ | split)

theorem sim_src {n : Nat} {x x' : Value} (hx : VR P μ x x') {α β : Type} {R : Ren → α → β → Prop} {f : Nat × List Value → EM α} {m : Result β}
    (h : ∀ k l, l.length = k * n → (∀ w1 : World, (Builtin.lenOf x').run P w1 = .ok k w1) →
      (∀ m, m ≤ k → ∃ vs, VRL P μ (l.take (m * n)) vs ∧ ∀ w1 : World, w1.heap = w.heap → (Builtin.firstCells n m x').run P w1 = .ok ⟨vs⟩ w1) → Sim P μ s w R (f (k, l) s) m) :
    Sim P μ s w R (((srcCells n x).bnd f) s) m := by
  intro a s' he hf hst
  unfold EM.bnd at he
  split at he
  · rename_i kl s1 h1
    obtain ⟨k, l⟩ := kl
    obtain ⟨rfl, h2, h3, h4⟩ := src_ok h1 hst hx
    exact h k l h2 h3 h4 a s' he hf hst
  · cases he

theorem wf_eCopy (ts : Array TypeId) (args : Array Value) : Wf (eCopy P ts args) := by
  unfold eCopy eCopy1
  (repeat' first | exact wf_bad _ | exact wf_ret _ | exact wf_srcCells _ _ | exact wf_wrL _ _ | refine wf_cond _ ?_ ?_ | refine wf_bnd ?_ fun _ => ?_ | split)
theorem sim_eCopy {ts : Array TypeId} {ty : TypeId} {as as' : List Value} (ha : VRL P μ as as') :
    Sim P μ s w (RV P) (eCopy P ts ⟨as⟩ s) ((Builtin.copy_ ts ty ⟨as'⟩).run P w) := by
  unfold eCopy
  show SimM P μ s w _ _ _
  split
  · rename_i t0 tr base dLen cap x rest hts has
    subst has
    have hts' : ts[0]? = some t0 := by rw [← Array.getElem?_toList, hts]; rfl
    cases ha with
    | cons h1 ha => cases ha with
      | cons h2 ha =>
        rename_i y1 y2 l'
        split
        · rename_i e hu
          split
          · rename_i n hn
            show Sim P μ s w _ _ _
            refine sim_src h2 fun k l hl hlen hsrc => ?_
            obtain ⟨vs, q1, q2⟩ := hsrc (min k dLen) (by omega)
            have q2 := q2 w rfl
            unfold eCopy1
            show SimM P μ s w _ _ _
            split
            · rename_i a
              obtain ⟨pl, c', hp, hs, rfl, _⟩ := h1.slice_inv
              have hrun : (Builtin.copy_ ts ty ⟨.slice (some ⟨pl.b, pl.base + a.off, none⟩) dLen c' :: y2 :: l'⟩).run P w =
                  ((storeCells ⟨pl.b, pl.base + a.off, none⟩ vs).run P w).andThen fun _ w1 => .ok (goInt (min k dLen : Nat)) w1 := by
                simp only [Builtin.copy_, hts', List.getElem?_toArray, List.getElem?_cons_zero, List.getElem?_cons_succ, Sem.run_bind, run_und w hu, Result.andThen_ok, hlen, run_siz w hn]
                rw [show Nat.min k dLen = min k dLen from rfl, q2]
                rfl
              rw [hrun]
              refine Sim.bnd (R := fun _ _ _ => True) (wf_wrL _ _) (fun _ => wf_ret _) (sim_wrL hp rfl q1) fun a s1 b μ1 w1 _ _ _ => Sim.ret (.int _ _)
            · cases h1
              have hrun : (Builtin.copy_ ts ty ⟨.slice none 0 0 :: y2 :: l'⟩).run P w = .ok (goInt (min k 0 : Nat)) w := by
                simp only [Builtin.copy_, hts', List.getElem?_toArray, List.getElem?_cons_zero, List.getElem?_cons_succ, Sem.run_bind, run_und w hu, Result.andThen_ok, hlen, run_siz w hn]
                rw [show Nat.min k 0 = min k 0 from rfl, q2]
                rfl
              rw [hrun]
              exact Sim.ret (.int _ _)
          · exact Sim.bad _ _
        · exact Sim.bad _ _
  · exact Sim.bad _ _
end
end Go.E

namespace Go.E

section
variable {P : Program} {μ : Ren} {s : ES} {w : World}

/-! ### append -/
theorem zeroCells_len (z : Array Value) (n : Nat) : (Builtin.zeroCells z n).size = n * z.size := by simp [Builtin.zeroCells]

theorem VRL_take_all {l vs : List Value} {k n : Nat} (hl : l.length = k * n) (h : VRL P μ (l.take (k * n)) vs) : VRL P μ l vs := by
  rw [List.take_of_length_le (by omega)] at h; exact h

/-- the model's append, where the capacity does -/
theorem run_app_in {ts : Array TypeId} {ty t0 t1 e : TypeId} {d1 : TypeDesc} {n k len c : Nat} {base : Option Addr} {x' : Value} {rest vs : List Value} (h0 : ts[0]? = some t0) (h1 : ts[1]? = some t1) (hu : und P t0 = some (.slice e)) (hu1 : und P t1 = some d1) (hd1 : ∀ k, d1 ≠ .int k)
    (hn : siz P e = some n) (hlen : ∀ w1 : World, (Builtin.lenOf x').run P w1 = .ok k w1) (hsrc : (Builtin.firstCells n k x').run P w = .ok ⟨vs⟩ w) (hle : len + k ≤ c) :
    (Builtin.append_ ts ty ⟨.slice base len c :: x' :: rest⟩).run P w =
      ((match base with | some a => storeCells (a.add (len * n)) vs | none => pure ()).run P w).andThen fun _ w1 => .ok (.slice base (len + k) c) w1 := by
  have hz : (match d1 with | .int _ => true | _ => false) = false := by cases d1 <;> first | rfl | exact absurd rfl (hd1 _)
  simp only [Builtin.append_, h0, h1, List.getElem?_toArray, List.getElem?_cons_zero, List.getElem?_cons_succ, Sem.run_bind, run_und w hu, run_und w hu1, Result.andThen_ok, run_siz w hn, Sem.run_pure, hz, Bool.false_eq_true, if_false, hlen, hle, if_true, Bool.not_false, hsrc]
  cases base <;> simp

/-- the model's append into a new block -/
theorem run_app_grow {ts : Array TypeId} {ty t0 t1 e : TypeId} {d1 : TypeDesc} {n b k len c : Nat} {z : Value} {base : Option Addr} {x' : Value} {rest vs olds : List Value} (h0 : ts[0]? = some t0) (h1 : ts[1]? = some t1) (hu : und P t0 = some (.slice e)) (hu1 : und P t1 = some d1) (hd1 : ∀ k, d1 ≠ .int k)
    (hn : siz P e = some n) (hb : byt P e = some b) (hz : zer P e = some z) (hlen : ∀ w1 : World, (Builtin.lenOf x').run P w1 = .ok k w1)
    (hsrc : ∀ w1 : World, w1.heap = w.heap → (Builtin.firstCells n k x').run P w1 = .ok ⟨vs⟩ w1) (hold : ∀ w1 : World, w1.heap = w.heap → (Builtin.firstCells n len (.slice base len c)).run P w1 = .ok ⟨olds⟩ w1)
    (hgt : c < len + k) (hf : fits b (len + k) = true) :
    ∃ nc rc, len + k ≤ nc ∧ rc.length = (nc - (len + k)) * z.cells.size ∧ (Builtin.append_ ts ty ⟨.slice base len c :: x' :: rest⟩).run P w =
      .ok (.slice (some ⟨w.heap.size, 0, none⟩) (len + k) nc) { w with drawn := w.drawn + 1, heap := w.heap.push (.cells ⟨olds ++ vs ++ rc⟩ e (0, 0)) } := by
  have hzz : (match d1 with | .int _ => true | _ => false) = false := by cases d1 <;> first | rfl | exact absurd rfl (hd1 _)
  obtain ⟨it, hi, rfl⟩ := info_of_siz hn
  have hib : it.bytes = b := by unfold byt at hb; simpa [hi] using hb
  subst hib
  simp only [fits, Bool.and_eq_true, Nat.ble_eq, Nat.mul_eq] at hf
  have hle : ¬ (len + k ≤ c) := by omega
  have h63 : ¬ (((len + k : Nat) : Int) > IntKind.i64.max ∧ (False ∨ it.bytes = 0)) := by
    have : IntKind.i64.max = 9223372036854775807 := rfl
    omega
  have hcap : ¬ (Builtin.nextslicecap (len + k) c * it.bytes > 2 ^ 48) := by
    have := growslice_fits (need := len + k) (old := c) (bytes := it.bytes) hgt (by omega)
    omega
  refine ⟨(Question.appendCap (len + k) c e).cut (w.tape w.drawn (.appendCap (len + k) c e)), (Builtin.zeroCells z.cells ((Question.appendCap (len + k) c e).cut (w.tape w.drawn (.appendCap (len + k) c e)) - (len + k))).toList, ?_, ?_, ?_⟩
  · simp only [Question.cut]; omega
  · rw [Array.length_toList, zeroCells_len]
  · simp only [Builtin.append_, h0, h1, List.getElem?_toArray, List.getElem?_cons_zero, List.getElem?_cons_succ, Sem.run_bind, run_und w hu, run_und w hu1, Result.andThen_ok, run_siz w hn, Sem.run_pure, hzz, Bool.false_eq_true, if_false, hlen, hle, Bool.not_false, if_true, run_info _ hi, Sem.run_ite, h63, hcap, run_choose, Question.forced, run_askRoom]
    rw [hold { w with drawn := w.drawn + 1 } rfl]
    simp only [Result.andThen_ok]
    rw [hsrc { w with drawn := w.drawn + 1 } rfl]
    simp only [Result.andThen_ok, run_zer _ hz, newRow, Sem.run_bind, run_newObj, Sem.run_pure]
    have ha : ∀ zc : Array Value, ((⟨olds⟩ : Array Value) ++ (⟨vs⟩ : Array Value) ++ zc) = ⟨olds ++ vs ++ zc.toList⟩ := fun zc => by apply Array.ext'; simp
    rw [ha]

theorem wf_eApp (e : TypeId) (n b : Nat) (s0 : Value) (kn : Nat × List Value) : Wf (eApp e n b s0 kn) := by
  unfold eApp eAppNil eAppU eAppK eAppMove
  (repeat' first | exact wf_bad _ | exact wf_ret _ | exact wf_eget _ | exact wf_edel _ | exact wf_enew _ | exact wf_wrL _ _ | exact wf_rdCells _ _ | refine wf_cond _ ?_ ?_ | refine wf_bnd ?_ fun _ => ?_ | split)
theorem wf_eAppend (ts : Array TypeId) (args : Array Value) : Wf (eAppend P ts args) := by
  unfold eAppend eAppend1
  (repeat' first | exact wf_bad _ | exact wf_ret _ | exact wf_srcCells _ _ | exact wf_eApp _ _ _ _ _ | refine wf_cond _ ?_ ?_ | refine wf_bnd ?_ fun _ => ?_ | split)

/-- a name is given up -/
theorem sim_edel {r0 : Nat} {o : EObj} {α β : Type} {R : Ren → α → β → Prop} {f : Unit → EM α} {m : Result β} (ho : s.st.get r0 = some o)
    (h : Sim P μ { s with st := s.st.upd r0 none, lg := r0 :: s.lg } w R (f () { s with st := s.st.upd r0 none, lg := r0 :: s.lg }) m) : Sim P μ s w R (((edel r0).bnd f) s) m := by
  intro x s' hx hfree hst
  unfold EM.bnd edel at hx
  simp only [ho] at hx
  have live1 : ∀ j, Live (s.st.upd r0 none) j → Live s.st j := by
    intro j ⟨y, hy⟩
    rw [Tr.get_upd] at hy
    by_cases hj : j = r0
    · simp [hj] at hy
    · simp only [hj, if_false] at hy; exact ⟨y, hy⟩
  have hst1 : St P μ (s.st.upd r0 none) w := by
    refine ⟨fun n o hn => ?_, fun n k pn pk hn hk => hst.inj n k pn pk (live1 n hn) (live1 k hk)⟩
    rw [Tr.get_upd] at hn
    by_cases hj : n = r0
    · simp [hj] at hn
    · simp only [hj, if_false] at hn; exact hst.obj n o hn
  obtain ⟨μ', w', b, e1, e2, e3⟩ := h x s' hx hfree hst1
  refine ⟨μ', w', b, e1, ⟨e2.sub, e2.same, e2.st, ⟨e2.frm.size, e2.frm.tape, e2.frm.os, e2.frm.output, fun d hd hk => e2.frm.kept d hd fun n pl hl => hk n pl (live1 n hl)⟩, fun n pl hl hn => ?_⟩, e3⟩
  rcases e2.cover n pl hl hn with h1 | ⟨k, pk, k1, k2, k3⟩
  · exact .inl h1
  · exact .inr ⟨k, pk, live1 k k1, k2, k3⟩

/-- a name that takes over the end of another one's block -/
theorem sim_move {r0 : Nat} {e : TypeId} {pl : Pl} {off : Nat} {c add add' : List Value} {α β : Type} {R : Ren → α → β → Prop} {a : Nat → α} {f : Nat → EM α} {g : Unit → EM Nat} {b : β} {m : Result β} {c' : Array Value} {fr : Nat × Nat}
    (hp : μ r0 = some pl) (ho : s.st.get r0 = some (.cells c e)) (hst0 : St P μ s.st w) (hw : w.heap[pl.b]? = some (.cells c' e fr)) (he : e = pl.elem) (hoff : off ≤ c.length) (hend : c.length + add.length ≤ pl.lim)
    (hlim : pl.base + pl.lim ≤ c'.size) (hc : VRL P μ c ((c'.toList.drop pl.base).take c.length)) (hfr : ∀ j, pl.base ≤ j → j < pl.base + pl.lim → ¬ (fr.1 ≤ j ∧ j < fr.2)) (hadd : VRL P μ add add')
    (hg : ∀ u, g u = enew (.cells (c.drop off ++ add) e)) (hf : ∀ r, f r = EM.ret (a r))
    (hm : m = .ok b { w with heap := w.heap.setIfInBounds pl.b (.cells (spl c' (pl.base + c.length) add') e fr) })
    (hr : ∀ μ', Sub μ μ' → μ' s.nx = some ⟨pl.b, pl.base + off, pl.lim - off, e⟩ → R μ' (a s.nx) b) :
    Sim P μ s w R (((edel r0).bnd fun u => (g u).bnd f) s) m := by
  intro x s' hx hfree hst
  unfold EM.bnd edel at hx
  simp only [ho, hg, hf, enew, EM.ret, Res.ok.injEq] at hx
  obtain ⟨rfl, rfl⟩ := hx
  have hfr0 : μ s.nx = none := hfree _ (Nat.le_refl _) (Nat.lt_succ_self _)
  let pn : Pl := ⟨pl.b, pl.base + off, pl.lim - off, e⟩
  let μ' : Ren := fun n => if n = s.nx then some pn else μ n
  have hsub : Sub μ μ' := by
    intro n q hq
    show (if n = s.nx then some pn else μ n) = some q
    by_cases he : n = s.nx
    · subst he; rw [hfr0] at hq; cases hq
    · simp [he, hq]
  have hnew : μ' s.nx = some pn := by simp [μ']
  have hlt : pl.b < w.heap.size := by
    by_cases hlt : pl.b < w.heap.size
    · exact hlt
    · rw [Array.getElem?_eq_none (by omega)] at hw; cases hw
  have hlen := hadd.length
  have get2 : ∀ j, ((s.st.upd r0 none).upd s.nx (some (.cells (c.drop off ++ add) e))).get j = if j = s.nx then some (.cells (c.drop off ++ add) e) else if j = r0 then none else s.st.get j := by
    intro j; rw [Tr.get_upd, Tr.get_upd]
  have hne : ∀ j o, s.st.get j = some o → j ≠ s.nx := by
    intro j o hj hjn
    obtain ⟨plj, _, h1, _⟩ := hst.obj _ _ hj
    rw [hjn, hfr0] at h1; cases h1
  have live2 : ∀ j pj, Live ((s.st.upd r0 none).upd s.nx (some (.cells (c.drop off ++ add) e))) j → μ' j = some pj → (j = s.nx ∧ pj = pn) ∨ (j ≠ s.nx ∧ j ≠ r0 ∧ Live s.st j ∧ μ j = some pj) := by
    intro j pj hj hm
    obtain ⟨y, hy⟩ := hj
    rw [get2] at hy
    by_cases he : j = s.nx
    · subst he; rw [hnew] at hm; cases hm; exact .inl ⟨rfl, rfl⟩
    · by_cases h0 : j = r0
      · simp [he, h0] at hy
        subst h0
        exact absurd hy (by simp [he])
      · simp only [he, h0, if_false] at hy
        exact .inr ⟨he, h0, ⟨y, hy⟩, by simpa [μ', he] using hm⟩
  rw [hm]
  refine ⟨μ', _, b, rfl, ⟨hsub, fun n hn => ?_, ⟨fun j o hj => ?_, fun j k pj pk hj hk h1 h2 h3 => ?_⟩, ⟨by simp, rfl, rfl, rfl, fun d hd hk => ?_⟩, fun j pj hj h1 => ?_⟩, hr μ' hsub hnew⟩
  · have : n ≠ s.nx := by intro h; subst h; exact hn ⟨Nat.le_refl _, Nat.lt_succ_self _⟩
    simp [μ', this]
  · rw [get2] at hj
    by_cases he2 : j = s.nx
    · subst he2
      simp only [if_true, Option.some.injEq] at hj
      subst hj
      refine ⟨pn, .cells (spl c' (pl.base + c.length) add') e fr, hnew, by simp [pn, hlt], rfl, _, fr, rfl, ?_, ?_, ?_, ?_⟩
      · simp only [List.length_append, List.length_drop, pn]; omega
      · rw [spl_size _ _ _ (by omega)]; simp only [pn]; omega
      · have hwin := win_spl c'.toList pl.base c.length (c.length + add.length) add add' hlen (by omega) (by simp only [Array.length_toList]; omega)
        have e1 : (c.drop off ++ add).length = c.length + add.length - off := by simp; omega
        have e2 : ((spl c' (pl.base + c.length) add').toList.drop (pl.base + off)).take (c.length + add.length - off) = ((((spl c' (pl.base + c.length) add').toList.drop pl.base).take (c.length + add.length)).drop off) := by
          rw [List.drop_take, List.drop_drop]
        rw [e1]
        show VRL P μ' (c.drop off ++ add) (((spl c' (pl.base + c.length) add').toList.drop (pl.base + off)).take (c.length + add.length - off))
        rw [e2]
        have e3 : ((spl c' (pl.base + c.length) add').toList.drop pl.base).take (c.length + add.length) = (c'.toList.drop pl.base).take c.length ++ add' := by
          have : (spl c' (pl.base + c.length) add').toList = c'.toList.take (pl.base + c.length + 0) ++ add' ++ c'.toList.drop (pl.base + c.length + 0 + add'.length) := rfl
          rw [this, hwin]
          have e4 : ((c'.toList.drop pl.base).take (c.length + add.length)).drop (c.length + add.length) = [] := List.drop_eq_nil_of_le (by rw [List.length_take]; omega)
          rw [List.take_take, Nat.min_eq_left (by omega), e4, List.append_nil]
        rw [e3, List.drop_append_of_le_length (by simp [Array.length_toList]; omega)]
        exact ((hc.drop off).append hadd).sub hsub
      · intro j h1 h2
        simp only [pn] at h1 h2
        exact hfr j (by omega) (by omega)
    · by_cases h0 : j = r0
      · subst h0; simp [he2] at hj
      · simp only [he2, h0, if_false] at hj
        obtain ⟨pj, oj, k1, k2, k3⟩ := hst.obj j o hj
        refine ⟨pj, oj, hsub _ _ k1, ?_, k3.sub hsub⟩
        have hne2 : pl.b ≠ pj.b := fun hb => h0 (hst.inj j r0 pj pl ⟨o, hj⟩ ⟨_, ho⟩ k1 hp hb.symm)
        simp [hne2, k2]
  · rcases live2 j pj hj h1 with ⟨e1, e2⟩ | ⟨e1, z1, l1, q1⟩ <;> rcases live2 k pk hk h2 with ⟨e3, e4⟩ | ⟨e3, z3, l3, q3⟩
    · rw [e1, e3]
    · subst e2
      exact absurd (hst.inj k r0 pk pl l3 ⟨_, ho⟩ q3 hp h3.symm) z3
    · subst e4
      exact absurd (hst.inj j r0 pj pl l1 ⟨_, ho⟩ q1 hp h3) z1
    · exact hst.inj j k pj pk l1 l3 q1 q3 h3
  · have := hk r0 pl ⟨_, ho⟩ hp
    simp [this]
  · rcases live2 j pj hj h1 with ⟨e1, e2⟩ | ⟨e1, z1, l1, q1⟩
    · subst e2; exact .inr ⟨r0, pl, ⟨_, ho⟩, hp, rfl⟩
    · exact .inr ⟨j, pj, l1, q1, rfl⟩

theorem sim_eApp {ts : Array TypeId} {ty t0 t1 e : TypeId} {d1 : TypeDesc} {n b k : Nat} {z : Value} {s0 s0' x' : Value} {l : List Value} {rest : List Value} (h0 : ts[0]? = some t0) (h1 : ts[1]? = some t1) (hu : und P t0 = some (.slice e)) (hu1 : und P t1 = some d1) (hd1 : ∀ k, d1 ≠ .int k)
    (hn : siz P e = some n) (hn0 : n ≠ 0) (hb : byt P e = some b) (hz : zer P e = some z) (hzs : z.cells.size = n) (hs0 : VR P μ s0 s0')
    (hl : l.length = k * n) (hlen : ∀ w1 : World, (Builtin.lenOf x').run P w1 = .ok k w1)
    (hsrc : ∃ vs, VRL P μ l vs ∧ ∀ w1 : World, w1.heap = w.heap → (Builtin.firstCells n k x').run P w1 = .ok ⟨vs⟩ w1) :
    Sim P μ s w (RV P) (eApp e n b s0 (k, l) s) ((Builtin.append_ ts ty ⟨s0' :: x' :: rest⟩).run P w) := by
  obtain ⟨vs, hvs, hrun⟩ := hsrc
  have hvl : vs.length = k * n := by rw [← hvs.length]; exact hl
  have hco : P.cellsOf e = n := siz_cellsOf hn
  have grow : ∀ (s : ES) (len : Nat) (olds olds' : List Value) (c : Nat) (base : Option Addr), VRL P μ olds olds' → olds.length = len * n → c < len + k → fits b (len + k) = true →
      (∀ w1 : World, w1.heap = w.heap → (Builtin.firstCells n len (.slice base len c)).run P w1 = .ok ⟨olds'⟩ w1) →
      Sim P μ s w (RV P) (((enew (.cells (olds ++ l) e)).bnd fun r => EM.ret (.slice (some ⟨r, 0, none⟩) (Nat.add len k) 0)) s) ((Builtin.append_ ts ty ⟨.slice base len c :: x' :: rest⟩).run P w) := by
    intro s len olds olds' c base ho hol hgt hfit hold
    obtain ⟨nc, rc, q1, q2, q3⟩ := run_app_grow (ty := ty) (rest := rest) h0 h1 hu hu1 hd1 hn hb hz hlen hrun hold hgt hfit
    rw [q3]
    refine sim_row (w' := { w with drawn := w.drawn + 1, heap := w.heap.push (.cells ⟨olds' ++ vs ++ rc⟩ e (0, 0)) }) (b := .slice (some ⟨w.heap.size, 0, none⟩) (len + k) nc) (e' := e) (cs' := olds' ++ vs) (rest := rc) rfl (ho.append hvs) rfl rfl rfl rfl (fun r => rfl) rfl (fun μ' pl hs hnx hpl => ?_)
    have hlim : (olds ++ l).length + rc.length = nc * n := by
      rw [List.length_append, hol, hl, q2, hzs, ← Nat.add_mul, ← Nat.add_mul]
      congr 1; omega
    rw [hlim] at hpl
    subst hpl
    exact VR.newSlU hn hnx q1
  unfold eApp
  show SimM P μ s w _ _ _
  split
  · cases hs0
    unfold eAppNil
    cases hk : k.beq 0 with
    | true =>
      have hk0 : k = 0 := by simpa using hk
      subst hk0
      have := run_app_in (ty := ty) (rest := rest) (base := none) (c := 0) (len := 0) (w := w) h0 h1 hu hu1 hd1 hn hlen (hrun w rfl) (by omega)
      show Sim P μ s w _ _ _
      simp only [hk, cond_true]
      rw [this]
      simp only [Sem.run_pure, Result.andThen_ok]
      exact Sim.ret .slN
    | false =>
      have hk0 : k ≠ 0 := by intro h; subst h; exact absurd hk (by decide)
      show Sim P μ s w _ _ _
      simp only [hk, cond_false]
      cases hf : fits b k with
      | false => exact Sim.bad _ _
      | true =>
        simp only [cond_true]
        have := grow s 0 [] [] 0 none .nil (by simp) (by omega) (by simpa using hf) (fun w1 _ => rfl)
        simpa using this
  · rename_i a len
    obtain ⟨pl, c, hp, hs, rfl, hc⟩ := hs0.slice_inv
    obtain ⟨hc1, hc2⟩ : len ≤ c ∧ a.off + c * P.cellsOf pl.elem ≤ pl.lim := by
      rcases hc with ⟨h, _⟩ | ⟨_, h1, h2⟩
      · omega
      · exact ⟨h1, h2⟩
    unfold eAppU
    show Sim P μ s w _ _ _
    cases hk : k.beq 0 with
    | true =>
      have hk0 : k = 0 := by simpa using hk
      subst hk0
      have := run_app_in (ty := ty) (rest := rest) (base := some ⟨pl.b, pl.base + a.off, none⟩) (c := c) (len := len) (w := w) h0 h1 hu hu1 hd1 hn hlen (hrun w rfl) (by omega)
      simp only [hk, cond_true]
      rw [this]
      have hv0 : vs = [] := List.length_eq_zero_iff.1 (by rw [hvl]; simp)
      subst hv0
      simp only [storeCells, Sem.run_pure, Result.andThen_ok]
      exact Sim.ret (.slU hp hs hc1 hc2)
    | false =>
      have hk0 : k ≠ 0 := by intro h; subst h; exact absurd hk (by decide)
      simp only [hk, cond_false]
      cases hf : fits b (Nat.add len k) with
      | false => exact Sim.bad _ _
      | true =>
        simp only [cond_true, hs]
        unfold eAppMove
        refine sim_eget _ fun o ho => ?_
        intro v s' he hfree hst
        obtain ⟨pl', o', p1, p2, p3⟩ := hst.obj _ _ ho
        rw [hp] at p1; cases p1
        revert he
        cases o with
        | cells cs e' =>
          simp only
          cases hcond : e.beq e' && (Nat.add a.off (Nat.mul len n)).beq cs.length && l.all okCell with
          | false => simp [E.bad]
          | true =>
            simp only [Bool.and_eq_true, Nat.beq_eq, Nat.add_eq, Nat.mul_eq] at hcond
            obtain ⟨⟨he1, he2⟩, he3⟩ := hcond
            subst he1
            simp only [cond_true]
            obtain ⟨g1, c', fr, rfl, g3, g4, g5, g6⟩ := p3
            subst g1
            rw [hco] at hc2
            intro he
            have key : Sim P μ s w (RV P) (((edel a.block).bnd fun _ => (enew (.cells (cs.drop a.off ++ l) pl.elem)).bnd fun r => EM.ret (.slice (some ⟨r, 0, none⟩) (Nat.add len k) 0)) s)
                ((Builtin.append_ ts ty ⟨.slice (some ⟨pl.b, pl.base + a.off, none⟩) len c :: x' :: rest⟩).run P w) := by
              by_cases hle : len + k ≤ c
              · have hrunin := run_app_in (ty := ty) (rest := rest) (base := some ⟨pl.b, pl.base + a.off, none⟩) (c := c) (len := len) (w := w) h0 h1 hu hu1 hd1 hn hlen (hrun w rfl) hle
                have hmul : (len + k) * n ≤ c * n := Nat.mul_le_mul_right _ hle
                rw [Nat.add_mul] at hmul
                have hcl : cs.length + l.length ≤ pl.lim := by omega
                have hst2 := run_storeB (P := P) pl.b (pl.base + a.off + len * n) vs 0 w c' pl.elem fr p2 (by omega) (fun j h1 h2 => g6 j (by omega) (by omega)) (hvs.okCells he3)
                simp only [addr_add] at hrunin
                rw [hst2] at hrunin
                simp only [Result.andThen_ok] at hrunin
                have hoff : pl.base + a.off + len * n + 0 = pl.base + cs.length := by omega
                rw [hoff] at hrunin
                refine sim_move (off := a.off) (add := l) (add' := vs) hp ho hst p2 rfl (by omega) hcl g4 g5 g6 hvs (fun _ => rfl) (fun _ => rfl) hrunin (fun μ' hs hn' => ?_)
                have := VR.slU (P := P) (μ := μ') (a := ⟨s.nx, 0, none⟩) (len := len + k) (c := c) hn' rfl hle (by simp only [hco]; omega)
                simpa using this
              · -- a new block
                have hgt : c < len + k := by omega
                obtain ⟨olds, q1, q2, q3⟩ := cells_read (P := P) (μ := μ) (pl := pl) (c := cs) (e := pl.elem) (w := w) ⟨rfl, c', fr, rfl, g3, g4, g5, g6⟩ p2 a.off (len * n) (by omega)
                have hdrop : (cs.drop a.off).take (len * n) = cs.drop a.off := List.take_of_length_le (by rw [List.length_drop]; omega)
                rw [hdrop] at q1
                have hg := grow { s with st := s.st.upd a.block none, lg := a.block :: s.lg } len (cs.drop a.off) olds c (some ⟨pl.b, pl.base + a.off, none⟩) q1 (by rw [List.length_drop]; omega) hgt hf (fun w1 hw1 => by
                  show (loadCells _ (len * n)).run P w1 = _
                  exact run_loadL (w := w) _ _ _ q2 hw1 (q3 _ rfl rfl rfl))
                exact sim_edel ho hg
            exact key v s' he hfree hst
        | _ => simp [E.bad]
  · rename_i a len K
    obtain ⟨pl, c, hp, hs, rfl, hc⟩ := hs0.slice_inv
    have hcK : c = K ∧ len ≤ c := by
      rcases hc with ⟨h, h1⟩ | ⟨h, _⟩
      · exact ⟨by omega, h1⟩
      · omega
    obtain ⟨rfl, hc1⟩ := hcK
    unfold eAppK
    show Sim P μ s w _ _ _
    cases hle : (Nat.add len k).ble c with
    | true =>
      have hle' : len + k ≤ c := by simpa using hle
      simp only [hle, cond_true]
      have hrunin := run_app_in (ty := ty) (rest := rest) (base := some ⟨pl.b, pl.base + a.off, none⟩) (c := c) (len := len) (w := w) h0 h1 hu hu1 hd1 hn hlen (hrun w rfl) hle'
      rw [hrunin]
      refine Sim.bnd (R := fun _ _ _ => True) (wf_wrL _ _) (fun _ => wf_ret _) (sim_wrL (a' := (⟨pl.b, pl.base + a.off, none⟩ : Addr).add (len * n)) hp ?_ hvs) fun u s1 u' μ1 w1 _ hnx _ => Sim.ret ?_
      · rw [addr_add]; simp [adda, Nat.add_assoc]
      · exact .slK (hnx.sub _ _ hp) hs hle'
    | false =>
      have hgt : c < len + k := by
        have h : ¬ ((Nat.add len k).ble c = true) := by rw [hle]; simp
        rw [Nat.ble_eq, Nat.add_eq] at h
        omega
      simp only [hle, cond_false]
      cases hf : fits b (Nat.add len k) with
      | false => exact Sim.bad _ _
      | true =>
        simp only [cond_true]
        intro v s' he hfree hst
        unfold EM.bnd at he
        split at he
        · rename_i old s1 h1'
          obtain ⟨rfl, r2, olds, r3, r4⟩ := rdCells_ok h1' hst hp
          exact grow s1 len old olds c (some ⟨pl.b, pl.base + a.off, none⟩) r3 r2 hgt hf (fun w1 hw1 => by
            show (loadCells _ (len * n)).run P w1 = _
            exact run_loadL (w := w) _ _ _ (by rw [← r3.length]; exact r2) hw1 r4) v s' he hfree hst
        · cases he
  · exact Sim.bad _ _

theorem sim_eAppend {ts : Array TypeId} {ty : TypeId} {as as' : List Value} (ha : VRL P μ as as') :
    Sim P μ s w (RV P) (eAppend P ts ⟨as⟩ s) ((Builtin.append_ ts ty ⟨as'⟩).run P w) := by
  unfold eAppend
  show SimM P μ s w _ _ _
  split
  · rename_i t0 t1 tr s0 x rest hts has
    subst has
    have h0 : ts[0]? = some t0 := by rw [← Array.getElem?_toList, hts]; rfl
    have h1 : ts[1]? = some t1 := by rw [← Array.getElem?_toList, hts]; rfl
    cases ha with
    | cons ha1 ha => cases ha with
      | cons ha2 ha =>
        split
        · exact Sim.bad _ _
        · rename_i e d1 hni hu hu1
          unfold eAppend1
          show SimM P μ s w _ _ _
          split
          · rename_i n b z hn hb hz
            show Sim P μ s w _ _ _
            cases hc : (n.beq 0 || !(z.cells.size.beq n)) with
            | true => exact Sim.bad _ _
            | false =>
              simp only [Bool.or_eq_false_iff, Bool.not_eq_false', Nat.beq_eq] at hc
              have hn0 : n ≠ 0 := by intro h; rw [h] at hc; exact absurd hc.1 (by decide)
              simp only [cond_false]
              refine sim_src ha2 fun k l hl hlen hsrc => ?_
              obtain ⟨vs, q1, q2⟩ := hsrc k (Nat.le_refl _)
              exact sim_eApp h0 h1 hu hu1 (fun k hk => hni k hk) hn hn0 hb hz hc.2 ha1 hl hlen ⟨vs, VRL_take_all hl q1, q2⟩
          · exact Sim.bad _ _
        · exact Sim.bad _ _
  · exact Sim.bad _ _
end
end Go.E

namespace Go.E

section
variable {P : Program} {μ : Ren} {s : ES} {w : World}

theorem arr0 {α : Type} {a : Array α} {x : α} {l : List α} (h : a.toList = x :: l) : a[0]? = some x := by rw [← Array.getElem?_toList, h]; rfl
theorem arr1 {α : Type} {a : Array α} {x y : α} {l : List α} (h : a.toList = x :: y :: l) : a[1]? = some y := by rw [← Array.getElem?_toList, h]; rfl

/-! ### len, clear, min, max -/
theorem wf_eLen (ts : Array TypeId) (args : Array Value) : Wf (eLen P ts args) := by
  unfold eLen
  (repeat' first | exact wf_bad _ | exact wf_ret _ | exact wf_mapOf _ | refine wf_bnd ?_ fun _ => ?_ | split)
theorem sim_eLen {ts : Array TypeId} {ty : TypeId} {as as' : List Value} (ha : VRL P μ as as') :
    Sim P μ s w (RV P) (eLen P ts ⟨as⟩ s) ((Builtin.len_ ts ty ⟨as'⟩).run P w) := by
  unfold eLen
  show SimM P μ s w _ _ _
  split
  · rename_i t tr x rest hts has
    subst has
    have h0 := arr0 hts
    cases ha with
    | cons h1 ha =>
      rename_i x' l'
      split
      · rename_i str hu
        cases h1
        have : (Builtin.len_ ts ty ⟨.string str :: l'⟩).run P w = .ok (goInt str.size) w := by
          simp only [Builtin.len_, h0, List.getElem?_toArray, List.getElem?_cons_zero, Sem.run_bind, run_und w hu, Result.andThen_ok, Sem.run_pure]
        rw [this, bytes_length]
        exact Sim.ret (.int _ _)
      · rename_i n e hu
        have : (Builtin.len_ ts ty ⟨x' :: l'⟩).run P w = .ok (goInt n) w := by
          simp only [Builtin.len_, h0, List.getElem?_toArray, List.getElem?_cons_zero, Sem.run_bind, run_und w hu, Result.andThen_ok, Sem.run_pure]
        rw [this]
        exact Sim.ret (.int _ _)
      · rename_i e b n c hu
        have hx : ∃ b' c', x' = Value.slice b' n c' := by
          cases h1 with
          | slN => exact ⟨_, _, rfl⟩
          | slK => exact ⟨_, _, rfl⟩
          | slU => exact ⟨_, _, rfl⟩
        obtain ⟨b', c', rfl⟩ := hx
        have : (Builtin.len_ ts ty ⟨.slice b' n c' :: l'⟩).run P w = .ok (goInt n) w := by
          simp only [Builtin.len_, h0, List.getElem?_toArray, List.getElem?_cons_zero, Sem.run_bind, run_und w hu, Result.andThen_ok, Sem.run_pure]
        rw [this]
        exact Sim.ret (.int _ _)
      · rename_i k e hu
        show Sim P μ s w _ _ _
        refine sim_mapOf h1 (xt := t) (fun a => wf_ret _) fun es es' c hm hx' => ?_
        have hl : es.length = es'.size := by have := hm.length; simpa using this
        rcases hx' with ⟨rfl, rfl⟩ | ⟨r, rfl, hr'⟩
        · have : (Builtin.len_ ts ty ⟨.map none :: l'⟩).run P w = .ok (goInt 0) w := by
            simp only [Builtin.len_, h0, List.getElem?_toArray, List.getElem?_cons_zero, Sem.run_bind, run_und w hu, Result.andThen_ok, Sem.run_pure]
          rw [this]
          have hl0 : es.length = 0 := by rw [hl]; rfl
          show Sim P μ s w _ (EM.ret (goInt (Int.ofNat es.length)) s) _
          rw [hl0]
          exact Sim.ret (.int _ _)
        · have : (Builtin.len_ ts ty ⟨.map (some r) :: l'⟩).run P w = .ok (goInt es'.size) w := by
            simp only [Builtin.len_, h0, List.getElem?_toArray, List.getElem?_cons_zero, Sem.run_bind, run_und w hu, Result.andThen_ok, Sem.run_pure, run_getObj hr' (by intros; simp)]
          rw [this, ← hl]
          exact Sim.ret (.int _ _)
      · exact Sim.bad _ _
  · exact Sim.bad _ _

theorem run_eMM {mx : Bool} {k : IntKind} : ∀ (l l' : List Value) (acc : Int) (v : Value), eMM mx k acc l = some v → VRL P μ l l' →
    (l'.foldlM (bif mx then Builtin.max2 else Builtin.min2) (.int k acc)).run P w = .ok v w ∧ VR P μ v v
  | [], l', acc, v, h, hr => by
    cases hr
    simp only [eMM, Option.some.injEq] at h; subst h
    exact ⟨rfl, .int _ _⟩
  | x :: l, l', acc, v, h, hr => by
    cases hr with
    | cons hx hl =>
      cases x <;> try (simp [eMM] at h; done)
      rename_i k' y
      cases hx
      simp only [eMM] at h
      by_cases hk : k = k'
      · simp only [hk, decide_true, cond_true] at h
        subst hk
        have ih := run_eMM l _ _ v h hl
        refine ⟨?_, ih.2⟩
        rw [List.foldlM_cons, Sem.run_bind]
        cases mx with
        | true =>
          simp only [cond_true, Builtin.max2, Sem.run_pure, Result.andThen_ok]
          have : (if y > acc then y else acc) = (bif ile y acc then acc else y) := by
            cases hi : ile y acc with
            | true => rw [if_neg (by have := (ile_iff y acc).1 hi; omega)]; rfl
            | false => rw [if_pos ((ile_false y acc).1 hi)]; rfl
          rw [this]; exact ih.1
        | false =>
          simp only [cond_false, Builtin.min2, Sem.run_pure, Result.andThen_ok]
          have : (if y < acc then y else acc) = (bif ile acc y then acc else y) := by
            cases hi : ile acc y with
            | true => rw [if_neg (by have := (ile_iff acc y).1 hi; omega)]; rfl
            | false => rw [if_pos ((ile_false acc y).1 hi)]; rfl
          rw [this]; exact ih.1
      · simp [hk] at h
theorem run_eMinMax {mx : Bool} {ts : Array TypeId} {ty : TypeId} {l l' : List Value} {v : Value} (h : eMinMax mx l = some v) (hr : VRL P μ l l') :
    ∃ v', (bif mx then Builtin.max_ ts ty ⟨l'⟩ else Builtin.min_ ts ty ⟨l'⟩).run P w = .ok v' w ∧ VR P μ v v' := by
  unfold eMinMax at h
  split at h
  · rename_i k x rest
    cases hr with
    | cons hx hl =>
      cases hx
      obtain ⟨h1, h2⟩ := run_eMM (w := w) _ _ _ _ h hl
      refine ⟨v, ?_, h2⟩
      cases mx <;> exact h1
  · cases h

theorem wf_eClear (ts : Array TypeId) (args : Array Value) : Wf (eClear P ts args) := by
  unfold eClear
  (repeat' first | exact wf_bad _ | exact wf_ret _ | exact wf_eget _ | exact wf_eset _ _ | exact wf_wrL _ _ | refine wf_bnd ?_ fun _ => ?_ | split)
theorem sim_eClear {ts : Array TypeId} {ty : TypeId} {as as' : List Value} (ha : VRL P μ as as') :
    Sim P μ s w (RV P) (eClear P ts ⟨as⟩ s) ((Builtin.clear_ ts ty ⟨as'⟩).run P w) := by
  unfold eClear
  show SimM P μ s w _ _ _
  split
  · rename_i t tr x rest hts has
    subst has
    have h0 := arr0 hts
    cases ha with
    | cons h1 ha =>
      rename_i x' l'
      split
      · rename_i e n c hu
        cases h1
        have : (Builtin.clear_ ts ty ⟨.slice none 0 0 :: l'⟩).run P w = .ok (.tuple #[]) w := by
          simp only [Builtin.clear_, h0, List.getElem?_toArray, List.getElem?_cons_zero, Sem.run_bind, run_und w hu, Result.andThen_ok, Sem.run_pure]
        rw [this]; exact Sim.ret (.tuple .nil)
      · rename_i e a c hu
        obtain ⟨pl, c', hp, hs, rfl, _⟩ := h1.slice_inv
        have : (Builtin.clear_ ts ty ⟨.slice (some ⟨pl.b, pl.base + a.off, none⟩) 0 c' :: l'⟩).run P w = .ok (.tuple #[]) w := by
          simp only [Builtin.clear_, h0, List.getElem?_toArray, List.getElem?_cons_zero, Sem.run_bind, run_und w hu, Result.andThen_ok, Sem.run_pure]
        rw [this]; exact Sim.ret (.tuple .nil)
      · exact Sim.bad _ _
      · rename_i k e hu
        cases h1
        have : (Builtin.clear_ ts ty ⟨.map none :: l'⟩).run P w = .ok (.tuple #[]) w := by
          simp only [Builtin.clear_, h0, List.getElem?_toArray, List.getElem?_cons_zero, Sem.run_bind, run_und w hu, Result.andThen_ok, Sem.run_pure]
        rw [this]; exact Sim.ret (.tuple .nil)
      · rename_i k e r hu
        cases h1 with
        | map hr =>
          rename_i pl
          show Sim P μ s w _ _ _
          refine sim_getMap hr (fun o ho s a s' => ?_) fun es es' c hg hm hb hw => ?_
          · cases o <;> first | exact absurd rfl (ho _ _) | (intro h; cases h)
          · refine sim_esetK (b := .tuple #[]) hg hr (o1' := .map #[] c) ⟨hb, _, rfl, .nil⟩ (fun _ => rfl) ?_ (.tuple .nil)
            simp only [Builtin.clear_, h0, List.getElem?_toArray, List.getElem?_cons_zero, Sem.run_bind, run_und w hu, Result.andThen_ok, Sem.run_pure, run_getObj hw (by intros; simp), run_setObj hw (by intros; simp)]
      · exact Sim.bad _ _
  · exact Sim.bad _ _
end
end Go.E

