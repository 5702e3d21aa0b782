import Derived.Test.YthbkkpahoolhbaaGreatDoorEv17
import Derived.Test.YthbkkpahoolhbaaGreatDoorEv18
set_option linter.unusedSimpArgs false
set_option linter.unusedVariables false
set_option linter.unusedSectionVars false
namespace Go.E.FF
open Go.Proofs Go.Maps Go.RowKit Go.Sort Go.Shelf

theorem ltB_lt : ∀ {a b : List UInt8}, ltB a b = true ↔ a < b
  | a, [] => by
    constructor
    · intro h; simp [ltB] at h
    · intro h; exact absurd h (List.not_lt_nil a)
  | [], b :: y => by simp [ltB]
  | a :: x, b :: y => by
    have ih := @ltB_lt x y
    rw [List.cons_lt_cons_iff]
    simp only [ltB]
    cases hb : beq8 a b with
    | true =>
      have : a = b := by unfold beq8 at hb; rw [Nat.beq_eq] at hb; exact UInt8.toNat_inj.1 hb
      subst this
      simp only [cond_true, true_and, ih]
      constructor
      · exact .inr
      · rintro (h | h)
        · exact absurd h (UInt8.lt_irrefl a)
        · exact h
    | false =>
      have hne : a ≠ b := by
        intro h
        subst h
        unfold beq8 at hb
        rw [Nat.beq_refl] at hb; cases hb
      simp only [cond_false, Nat.blt_eq, UInt8.lt_iff_toNat_lt, hne, false_and, or_false]

theorem insB_perm (x : List UInt8) : ∀ l, (insB x l).Perm (x :: l)
  | [] => .refl _
  | y :: l => by
    simp only [insB]
    cases ltB y x with
    | true => exact ((insB_perm x l).cons y).trans (.swap x y l)
    | false => exact .refl _
theorem sortB_perm : ∀ l, (sortB l).Perm l
  | [] => .refl _
  | x :: l => (insB_perm x (sortB l)).trans ((sortB_perm l).cons x)
theorem strict_pw : ∀ {l : List (List UInt8)}, strictB l = true → l.Pairwise (· < ·)
  | [], _ => .nil
  | [x], _ => by simp
  | x :: y :: l, h => by
    simp only [strictB, Bool.and_eq_true] at h
    have ih := strict_pw h.2
    have hxy := ltB_lt.1 h.1
    refine List.pairwise_cons.2 ⟨fun z hz => ?_, ih⟩
    rcases List.mem_cons.1 hz with rfl | hz
    · exact hxy
    · exact List.lt_trans hxy ((List.pairwise_cons.1 ih).1 z hz)
theorem mergeSort_sortB {ss l : List (List UInt8)} (hp : ss.Perm l) (h : strictB (sortB l) = true) : ss.mergeSort (fun x y => decide (x ≤ y)) = sortB l := by
  have tr : ∀ a b c : List UInt8, leB a b = true → leB b c = true → leB a c = true := fun a b c h1 h2 => by simp only [leB, decide_eq_true_eq] at *; exact List.le_trans h1 h2
  have to : ∀ a b : List UInt8, (leB a b || leB b a) = true := fun a b => by simp only [leB, Bool.or_eq_true, decide_eq_true_eq]; exact List.le_total a b
  refine List.Perm.eq_of_pairwise (le := fun a b => leB a b = true) (fun a b _ _ h1 h2 => ?_) (List.pairwise_mergeSort tr to ss) ?_ (((List.mergeSort_perm ss leB).trans hp).trans (sortB_perm l).symm)
  · simp only [leB, decide_eq_true_eq] at h1 h2
    exact List.le_antisymm h1 h2
  · refine (strict_pw h).imp fun {a b} hab => ?_
    simp only [leB, decide_eq_true_eq]
    exact List.le_of_lt hab

section
variable {P : Program} {μ : Ren}
theorem mrel_keys : ∀ {es es' : List MapEntry}, MRel P μ es es' → ∀ l, keyB es = some l → es'.map (·.key) = l.map fun b => Value.string ⟨⟨b⟩⟩
  | [], _, h, l, hk => by
    cases h
    simp only [keyB, Option.some.injEq] at hk
    subst hk; rfl
  | e :: es, _, h, l, hk => by
    cases h with
    | cons h hl =>
      cases h with
      | mk b hkey hv =>
        rename_i k k' v v'
        simp only [keyB] at hk
        split at hk
        · rename_i s
          cases hkey
          simp only [Option.map_eq_some_iff] at hk
          obtain ⟨l', h1, rfl⟩ := hk
          simp only [List.map_cons, mrel_keys hl l' h1]
          rfl
        · cases hk
theorem mrel_stamp : ∀ {es es' : List MapEntry}, MRel P μ es es' → ∀ c lo, stampB c lo es = true → (∀ x ∈ es', lo ≤ x.born ∧ x.born < c) ∧ (es'.map (·.born)).Pairwise (· < ·)
  | [], _, h, c, lo, _ => by cases h; exact ⟨fun x hx => (by cases hx), .nil⟩
  | e :: es, _, h, c, lo, hs => by
    cases h with
    | cons h hl =>
      cases h with
      | mk b hkey hv =>
        simp only [stampB, Bool.and_eq_true, Nat.ble_eq, Nat.blt_eq] at hs
        obtain ⟨ih1, ih2⟩ := mrel_stamp hl c _ hs.2
        refine ⟨fun x hx => ?_, ?_⟩
        · rcases List.mem_cons.1 hx with rfl | hx
          · exact hs.1
          · have := ih1 x hx; simp only [Nat.succ_eq_add_one] at this; exact ⟨by omega, this.2⟩
        · simp only [List.map_cons]
          refine List.pairwise_cons.2 ⟨fun z hz => ?_, ih2⟩
          obtain ⟨x, hx, rfl⟩ := List.mem_map.1 hz
          have := (ih1 x hx).1
          simp only [Nat.succ_eq_add_one] at this
          omega

def RD : Value → Option (DataW Unit × List MemPlace) := fun _ => some (.nil, [])

theorem own_of {es : List MapEntry} {es' : Array MapEntry} {c : Nat} {l : List (List UInt8)} (h : MRel P μ es es'.toList) (hk : keyB es = some l) (hok : keysOk l c es = true) (hu : P.underlying 9 = some .string) {w : World} {b : Nat} (hb : w.heap[b]? = some (.map es' c)) :
    ∃ D0 : DataW Unit, w.ownsMap P 9 RD b es'.size D0 ∧ (strKeys D0).Perm l ∧ Maps.size D0 = l.length := by
  unfold keysOk at hok
  simp only [Bool.and_eq_true, Nat.ble_eq, List.all_eq_true] at hok
  obtain ⟨⟨⟨h1, h2⟩, h3⟩, h4⟩ := hok
  have hkeys := mrel_keys h l hk
  obtain ⟨st1, st2⟩ := mrel_stamp h c 0 h1
  have hlen : es'.size = l.length := by
    have := congrArg List.length hkeys
    simpa using this
  have hnd : l.Nodup := by
    refine (sortB_perm l).nodup_iff.1 ((strict_pw h4).imp fun {a b} hab e => ?_)
    subst e; exact List.lt_irrefl _ hab
  have hrd : ∀ x ∈ es'.toList, ∃ b ∈ l, x.key = .string ⟨⟨b⟩⟩ ∧ WideElems.rd P 9 RD x = some (.string b, .nil) := by
    intro x hx
    have hm : x.key ∈ es'.toList.map (·.key) := List.mem_map.2 ⟨x, hx, rfl⟩
    rw [hkeys] at hm
    obtain ⟨b, hb, hbe⟩ := List.mem_map.1 hm
    refine ⟨b, hb, hbe.symm, ?_⟩
    unfold WideElems.rd
    have hs : (ByteArray.mk ⟨b⟩).size ≤ maxLen := by
      have := h3 b hb
      show b.length ≤ maxLen
      unfold maxLen
      omega
    rw [← hbe, WideMaps.keyOf_string_mk hu hs]
    rfl
  refine ⟨_, ⟨es', c, hb, ⟨by unfold maxLen; omega, ⟨fun x hx => (st1 x hx).2, st2.imp fun hab e => by omega, ?_⟩, fun x hx => ?_⟩, Nat.le_refl _, rfl⟩, ?_, ?_⟩
  · rw [hkeys]
    refine List.pairwise_map.2 (hnd.imp fun {a b} hab e => hab ?_)
    simpa using e
  · obtain ⟨b, _, _, hb⟩ := hrd x hx; exact ⟨_, hb⟩
  · show (((es'.toList.map (WideElems.rg P 9 RD)).foldr DataW.insert []).map fun p => strOf p.1).Perm l
    refine ((WideShapes.sorted_perm _).map _).trans ?_
    rw [List.map_map]
    have : es'.toList.map ((fun p => strOf p.1) ∘ WideElems.rg P 9 RD) = l := by
      have h5 : (es'.toList.map (·.key)).map (fun v => match v with | .string s => bytes s | _ => []) = l := by
        rw [hkeys, List.map_map]
        conv => rhs; rw [← List.map_id l]
        exact List.map_congr_left fun b _ => rfl
      rw [← h5, List.map_map]
      refine List.map_congr_left fun x hx => ?_
      obtain ⟨b, _, hke, hb⟩ := hrd x hx
      simp only [Function.comp]
      rw [WideElems.rg_of hb, hke]
      rfl
    rw [this]
  · show Maps.size (DataW.map _) = _
    simp only [Maps.size]
    rw [length_sorted]
    simpa using hlen

theorem keys_contract {P : Program} {f g : FuncId} (hu : P.underlying 9 = some .string) (hc : P.cellsOf 9 = 1)
    (hgives : ∀ (Bm b nn : Nat) (D0 : DataW Unit) (w : World), Bm < w.heap.size → w.cell? ⟨Bm, 0, none⟩ = some (.map (some b)) → w.ownsMap P 9 RD b nn D0 → SeqGives Fence.wide 2 P g #[.pointer (some ⟨Bm, 0, none⟩)] encStr (fun ss => ss.Perm (strKeys D0)) (Maps.size D0) w)
    (hnil : ∀ (Bm : Nat) (w : World), Bm < w.heap.size → w.cell? ⟨Bm, 0, none⟩ = some (.map none) → SeqGives Fence.wide 2 P g #[.pointer (some ⟨Bm, 0, none⟩)] encStr (fun ss : List (List UInt8) => ss = []) 0 w)
    (hsort : ∀ (S : List (List UInt8) → Prop) (N : Nat), N ≤ maxLen → N * 16 ≤ 140737488355328 → ∀ (lb : Array Value) (w : World), SeqGives Fence.wide 2 P g lb encStr S N w →
      Calls P f #[.func (.func g) #[] lb] w fun e w' => ∃ (v : Value) (ss : List (List UInt8)), e = .returned v ∧ S ss ∧
        w'.ownsRow w.heap.size 9 1 v ss.length ((ss.mergeSort (fun x y => decide (x ≤ y))).map encStr) ∧ (v = .slice none 0 0 ↔ ss = []) ∧ Below w.heap.size w w')
    (he : elemOf P f = some 9) {μ : Ren} {s : ES} {w : World} {a : Addr} {a' v : Value} {s' : ES} (hk : eSortedKeys 9 a s = .ok v s') (hst : St P μ s.st w) (hf : Free μ s.nx s'.nx) (ha : VR P μ (.pointer (some a)) a') :
    Calls P f ⟨[.func (.func g) ⟨[]⟩ ⟨[a']⟩]⟩ w fun
    | .returned v', w' => ∃ μ', Nxt P μ s w μ' s' w' ∧ VR P μ' v v'
    | _, _ => False := by
  have hlt : ∀ {b : Nat} {o : Obj}, w.heap[b]? = some o → b < w.heap.size := fun hb => (Array.getElem?_eq_some_iff.1 hb).1
  -- what is handed back
  have fin : ∀ (w' : World) (ss l : List (List UInt8)) (v' : Value), w'.ownsRow w.heap.size 9 1 v' ss.length ((ss.mergeSort (fun x y => decide (x ≤ y))).map encStr) → (v' = .slice none 0 0 ↔ ss = []) → Below w.heap.size w w' →
      ss.Perm l → strictB (sortB l) = true → l ≠ [] → v = .slice (some ⟨s.nx, 0, none⟩) l.length 0 → s' = { s with st := s.st.upd s.nx (some (.cells ((sortB l).map fun b => .string (ofBytes b)) 9)), nx := s.nx + 1 } →
      ∃ μ', Nxt P μ s w μ' s' w' ∧ VR P μ' v v' := by
    intro w' ss l v' hrow hn hb hp hstr hne hv hs
    subst hv hs
    have hlen := hp.length_eq
    rw [mergeSort_sortB hp hstr] at hrow
    rcases hrow with ⟨r1, ⟨r2, r3⟩ | ⟨gb, cap, cur, r2, r3, r4, r5, r6, r7, r8⟩⟩
    · have := hn.1 r2
      subst this
      exact absurd (List.eq_nil_of_length_eq_zero (by simpa using hlen.symm)) hne
    · have hfs : μ s.nx = none := hf s.nx (Nat.le_refl _) (Nat.lt_succ_self _)
      let pl : Pl := ⟨gb, 0, cap, 9⟩
      let μ' : Ren := fun n => if n = s.nx then some pl else μ n
      have hsub : Sub μ μ' := by
        intro n q hq
        show (if n = s.nx then some pl else μ n) = some q
        by_cases he : n = s.nx
        · subst he; rw [hfs] at hq; cases hq
        · simp [he, hq]
      have hnew : μ' s.nx = some pl := by simp [μ']
      have hold : ∀ n, n ≠ s.nx → μ' n = μ n := fun n hn => by simp [μ', hn]
      have hblock : ∀ n o, s.st.get n = some o → ∃ q, μ n = some q ∧ q.b < w.heap.size := by
        intro n o ho
        obtain ⟨q, o', h1, h2, _⟩ := hst.obj n o ho
        exact ⟨q, h1, hlt h2⟩
      have hVL : VRL P μ' ((sortB l).map fun b => .string (ofBytes b)) ((sortB l).map encStr) := by
        have : ∀ m : List (List UInt8), VRL P μ' (m.map fun b => .string (ofBytes b)) (m.map encStr) := by
          intro m
          induction m with
          | nil => exact .nil
          | cons x m ih => exact .cons (.str _) ih
        exact this _
      have hsl : (sortB l).length = l.length := (sortB_perm l).length_eq
      refine ⟨μ', ⟨hsub, fun n hn => hold n fun h => hn ⟨by omega, by simp only; omega⟩, ⟨fun n o ho => ?_, fun n m pn pm hln hlm h1 h2 h3 => ?_⟩, ⟨hb.size, hb.tape, hb.os, hb.output, fun b hb' _ => hb.block b hb'⟩, fun n pn hln h1 => ?_⟩, ?_⟩
      · simp only [Tr.get_upd] at ho
        by_cases he : n = s.nx
        · subst he
          simp only [if_true, Option.some.injEq] at ho
          subst ho
          refine ⟨pl, _, hnew, r4, rfl, cur, (0, 0), rfl, ?_, ?_, ?_, fun j _ _ h => by simp at h⟩
          · simp only [List.length_map, hsl]
            show l.length ≤ cap
            omega
          · show 0 + cap ≤ cur.size
            omega
          · simp only [List.length_map, hsl, pl, List.drop_zero]
            rw [← hlen]
            have : cur.toList.take ss.length = (sortB l).map encStr := by simpa using r8
            rw [this]
            exact hVL
        · simp only [he, if_false] at ho
          obtain ⟨q, o', h1, h2, h3⟩ := hst.obj n o ho
          exact ⟨q, o', hsub _ _ h1, by rw [hb.block _ (hlt h2)]; exact h2, h3.sub hsub⟩
      · have key : ∀ k pk, Live (s.st.upd s.nx (some (.cells ((sortB l).map fun b => .string (ofBytes b)) 9))) k → μ' k = some pk → (k = s.nx ∧ pk = pl) ∨ (Live s.st k ∧ μ k = some pk ∧ pk.b < w.heap.size) := by
          intro k pk hl hk
          by_cases he : k = s.nx
          · subst he; rw [hnew] at hk; cases hk; exact .inl ⟨rfl, rfl⟩
          · obtain ⟨o, ho⟩ := hl
            simp only [Tr.get_upd, he, if_false] at ho
            rw [hold k he] at hk
            obtain ⟨q, hq, hq2⟩ := hblock k o ho
            rw [hk] at hq; cases hq
            exact .inr ⟨⟨o, ho⟩, hk, hq2⟩
        rcases key n pn hln h1 with ⟨a1, a2⟩ | ⟨a1, a2, a3⟩ <;> rcases key m pm hlm h2 with ⟨b1, b2⟩ | ⟨b1, b2, b3⟩
        · rw [a1, b1]
        · subst a2; simp only [pl] at h3; omega
        · subst b2; simp only [pl] at h3; omega
        · exact hst.inj n m pn pm a1 b1 a2 b2 h3
      · by_cases he : n = s.nx
        · subst he; rw [hnew] at h1; cases h1; exact .inl r3
        · obtain ⟨o, ho⟩ := hln
          simp only [Tr.get_upd, he, if_false] at ho
          rw [hold n he] at h1
          exact .inr ⟨n, pn, ⟨o, ho⟩, h1, rfl⟩
      · rw [r2, hlen]
        have : (⟨gb, 0, none⟩ : Addr) = ⟨pl.b, pl.base + (⟨s.nx, 0, none⟩ : Addr).off, none⟩ := rfl
        rw [this]
        refine .slU hnew rfl (by omega) ?_
        show 0 + cap * P.cellsOf 9 ≤ cap
        rw [hc]; omega
  have fin0 : ∀ (w' : World) (v' : Value), v' = .slice none 0 0 → Below w.heap.size w w' → v = .slice none 0 0 → s' = s → ∃ μ', Nxt P μ s w μ' s' w' ∧ VR P μ' v v' := by
    intro w' v' hv' hb hv hs
    subst hv' hv hs
    have hx : Ext w w' := ⟨hb.size, hb.tape, hb.os, hb.output, hb.block⟩
    exact ⟨μ, hx.nxt hst, .slN⟩
  unfold eSortedKeys at hk
  split at hk
  · rename_i r
    obtain ⟨o, s1, h1, h2⟩ := bnd_ok hk
    unfold eget at h1
    cases hg : s.st.get r with
    | none => rw [hg] at h1; cases h1
    | some o0 =>
      rw [hg] at h1
      simp only [Res.ok.injEq] at h1
      obtain ⟨rfl, rfl⟩ := h1
      split at h2
      · rename_i m
        obtain ⟨pl, o', p1, p2, p3, m', t, fr, rfl, hm⟩ := hst.obj _ _ hg
        obtain ⟨pl', hp', hsp, rfl⟩ := ha.ptr_inv
        simp only at hp'
        rw [p1] at hp'; cases hp'
        rw [p3]
        have hBm : pl.b < w.heap.size := hlt p2
        have hcell : w.cell? ⟨pl.b, 0, none⟩ = some m' := by rw [cell_of p2]; rfl
        show Calls P f #[.func (.func g) #[] #[.pointer (some ⟨pl.b, 0, none⟩)]] w _
        unfold eSortedM at h2
        obtain ⟨ec, s2, h3, h4⟩ := bnd_ok h2
        unfold mapOf at h3
        split at h3
        · -- nil
          cases hm
          simp only [EM.ret, Res.ok.injEq] at h3
          obtain ⟨rfl, rfl⟩ := h3
          simp only [keyB, EM.ret, Res.ok.injEq] at h4
          refine (hsort _ 0 (Nat.zero_le _) (by omega) _ w (hnil pl.b w hBm hcell)).mono fun e w' h => ?_
          obtain ⟨v', ss, rfl, hS, hrow, hn, hb⟩ := h
          exact fin0 w' v' (hn.2 hS) hb h4.1.symm h4.2.symm
        · rename_i r2
          cases hm
          rename_i pm hpm
          obtain ⟨o2, s3, h5, h6⟩ := bnd_ok h3
          unfold eget at h5
          cases hg2 : s.st.get r2 with
          | none => rw [hg2] at h5; cases h5
          | some o3 =>
            rw [hg2] at h5
            simp only [Res.ok.injEq] at h5
            obtain ⟨rfl, rfl⟩ := h5
            split at h6
            · rename_i es c
              simp only [EM.ret, Res.ok.injEq] at h6
              obtain ⟨rfl, rfl⟩ := h6
              obtain ⟨pl2, o2', q1, q2, q3, es', rfl, hm2⟩ := hst.obj _ _ hg2
              rw [hpm] at q1; cases q1
              simp only at h4
              cases hkb : keyB es with
              | none => rw [hkb] at h4; cases h4
              | some lk =>
               rw [hkb] at h4
               cases lk with
               | nil =>
                simp only [EM.ret, Res.ok.injEq] at h4
                have hk0 := mrel_keys hm2 _ hkb
                have hes : es' = #[] := by
                  have := congrArg List.length hk0
                  simp at this
                  exact this
                obtain ⟨D0, d1, d2, d3⟩ := own_of (l := []) hm2 hkb (by
                  have : es = [] := by
                    have := hm2.length
                    rw [hes] at this
                    exact List.eq_nil_of_length_eq_zero (by simpa using this)
                  subst this
                  rfl) hu q2
                refine (hsort _ 0 (Nat.zero_le _) (by omega) _ w (by have := hgives pl.b _ _ D0 w hBm hcell d1; rw [d3] at this; exact this)).mono fun e w' h => ?_
                obtain ⟨v', ss, rfl, hS, hrow, hn, hb⟩ := h
                exact fin0 w' v' (hn.2 ((hS.trans d2).eq_nil)) hb h4.1.symm h4.2.symm
               | cons x0 l0 =>
                generalize hl : x0 :: l0 = l at *
                have hl0 : l ≠ [] := by rw [← hl]; simp
                have h4 : (bif keysOk l c es then (enew (.cells ((sortB l).map fun b => .string (ofBytes b)) 9)).bnd fun r => EM.ret (.slice (some ⟨r, 0, none⟩) l.length 0) else bad "sorted keys") s = .ok v s' := by rw [← hl] at h4 ⊢; exact h4
                cases hok : keysOk l c es with
                | false => rw [hok] at h4; cases h4
                | true =>
                  rw [hok] at h4
                  simp only [cond_true] at h4
                  obtain ⟨r3, s4, h7, h8⟩ := bnd_ok h4
                  unfold enew at h7
                  simp only [Res.ok.injEq] at h7
                  obtain ⟨rfl, rfl⟩ := h7
                  simp only [EM.ret, Res.ok.injEq] at h8
                  obtain ⟨D0, d1, d2, d3⟩ := own_of hm2 hkb hok hu q2
                  have hok' := hok
                  unfold keysOk at hok'
                  simp only [Bool.and_eq_true, Nat.ble_eq] at hok'
                  refine (hsort _ l.length (by unfold maxLen; omega) (by omega) _ w (by have := hgives pl.b _ _ D0 w hBm hcell d1; rw [d3] at this; exact this)).mono fun e w' h => ?_
                  obtain ⟨v', ss, rfl, hS, hrow, hn, hb⟩ := h
                  exact fin w' ss l v' hrow hn hb (hS.trans d2) hok'.2 hl0 h8.1.symm h8.2.symm
            · cases h6
        · cases h3
      · cases h2
  · cases hk
end
end Go.E.FF

