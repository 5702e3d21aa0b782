import Derived.Test.YthbkkpahoolhbaaGreatDoorEv14
set_option linter.unusedSimpArgs false
set_option linter.unusedVariables false
set_option linter.unusedSectionVars false
namespace Go.E

/-! ### stepping through a region with symbols -/
inductive GR where
  | fin (a : Fr) (s : ES)
  | call (o : Oper) (f : FuncId) (args : List Value) (rest : List Oper) (a : Fr) (s : ES)
  | pan (v : Value) (a : Fr) (s : ES)
  | stuck

section
variable (P : Program) (X : Ctx)
noncomputable def goOps (ops : List Oper) : List Oper → Fr → ES → GR
  | [], a, s => .fin a s
  | o :: l, a, s =>
    match wantE ops a.tm o with
    | none => .stuck
    | some false => goOps ops l (put a o.dst undef) s
    | some true =>
      match eop P X (evalO a.tm) o s with
      | .bad _ => .stuck
      | .ok (.val v) s1 => goOps ops l (put a o.dst v) s1
      | .ok .skip s1 => goOps ops l (put a o.dst undef) s1
      | .ok (.done _ _ v) s1 => goOps ops l (put a o.dst v) s1
      | .ok (.enter f as) s1 => .call o f as l a s1
      | .ok (.panic v) s1 => .pan v a s1
      | .ok (.heap _ _ m) s1 => match m.run s1 with
        | .ok v s2 => goOps ops l (put a o.dst v) s2
        | .bad _ => .stuck
      | .ok (.keys f _ m) s1 => match elemOf P f with
        | some e => match eSortedKeys e m s1 with
          | .ok v s2 => goOps ops l (put a o.dst v) s2
          | .bad _ => .stuck
        | none => .stuck
      | _ => .stuck
end

/-- what is still to be shown behind some operations -/
def AfterOps (P : Program) (X : Ctx) (ops : List Oper) (rd : Option Nat) (Q : Out → Prop) : GR → Prop
  | .fin a s => Q (.code .normal a s)
  | .call o f args rest a s => ∃ v pk s', Run P X (.call f args .no) s (.ret v pk s') ∧ ∃ out, Run P X (.ops ops rest rd (put a o.dst v)) s' out ∧ Q out
  | .pan v a s => Q (.code (.pan v) a s)
  | .stuck => False

section
variable {P : Program} {X : Ctx}
theorem run_keys {ops rest : List Oper} {o : Oper} {rd : Option Nat} {a : Fr} {s s1 s2 : ES} {f g : FuncId} {m : Addr} {e : TypeId} {v : Value} {out : Out} (hw : wantE ops a.tm o = some true) (he : eop P X (evalO a.tm) o s = .ok (.keys f g m) s1)
    (hel : elemOf P f = some e) (hk : eSortedKeys e m s1 = .ok v s2) (h : Run P X (.ops ops rest rd (put a o.dst v)) s2 out) : Run P X (.ops ops (o :: rest) rd a) s out :=
  run1 (fun r h => by
    show evOps P X r ops rd a s (o :: rest) = out
    unfold evOps; dsimp only; rw [hw]; simp only; rw [he]; unfold one oKeys; simp only; rw [hel]; simp only; rw [hk]; exact h) h
theorem run_heap {ops rest : List Oper} {o : Oper} {rd : Option Nat} {a : Fr} {s s1 s2 : ES} {f : FuncId} {args : List Value} {m : WM} {v : Value} {out : Out} (hw : wantE ops a.tm o = some true) (he : eop P X (evalO a.tm) o s = .ok (.heap f args m) s1)
    (hk : m.run s1 = .ok v s2) (h : Run P X (.ops ops rest rd (put a o.dst v)) s2 out) : Run P X (.ops ops (o :: rest) rd a) s out :=
  run1 (fun r h => by
    show evOps P X r ops rd a s (o :: rest) = out
    unfold evOps; dsimp only; rw [hw]; simp only; rw [he]; unfold one; simp only; rw [hk]; exact h) h

theorem go_ops (ops : List Oper) (rd : Option Nat) (Q : Out → Prop) : ∀ (l : List Oper) (a : Fr) (s : ES), AfterOps P X ops rd Q (goOps P X ops l a s) → ∃ out, Run P X (.ops ops l rd a) s out ∧ Q out
  | [], a, s, h => ⟨_, run_nil, h⟩
  | o :: l, a, s, h => by
    unfold goOps at h
    cases hw : wantE ops a.tm o with
    | none => rw [hw] at h; exact h.elim
    | some t =>
      rw [hw] at h
      cases t with
      | false =>
        obtain ⟨out, h1, h2⟩ := go_ops ops rd Q l _ _ h
        exact ⟨out, run_not hw h1, h2⟩
      | true =>
        simp only at h
        cases he : eop P X (evalO a.tm) o s with
        | bad y => rw [he] at h; exact h.elim
        | ok nx s1 =>
          rw [he] at h
          cases nx with
          | val v => obtain ⟨out, h1, h2⟩ := go_ops ops rd Q l _ _ h; exact ⟨out, run_val hw he h1, h2⟩
          | skip => obtain ⟨out, h1, h2⟩ := go_ops ops rd Q l _ _ h; exact ⟨out, run_unit hw he h1, h2⟩
          | done f as v => obtain ⟨out, h1, h2⟩ := go_ops ops rd Q l _ _ h; exact ⟨out, run_done hw he h1, h2⟩
          | enter f as =>
            obtain ⟨v, pk, s', h1, out, h2, h3⟩ := h
            exact ⟨out, run_call hw he h1 h2, h3⟩
          | panic v => exact ⟨_, run_panic hw he, h⟩
          | heap f as m =>
            simp only at h
            cases hm : m.run s1 with
            | bad y => rw [hm] at h; exact h.elim
            | ok v s2 => rw [hm] at h; obtain ⟨out, h1, h2⟩ := go_ops ops rd Q l _ _ h; exact ⟨out, run_heap hw he hm h1, h2⟩
          | keys f g m =>
            simp only at h
            cases hel : elemOf P f with
            | none => rw [hel] at h; exact h.elim
            | some e =>
              rw [hel] at h
              simp only at h
              cases hm : eSortedKeys e m s1 with
              | bad y => rw [hm] at h; exact h.elim
              | ok v s2 => rw [hm] at h; obtain ⟨out, h1, h2⟩ := go_ops ops rd Q l _ _ h; exact ⟨out, run_keys hw he hel hm h1, h2⟩
          | _ => exact h.elim
end
end Go.E

namespace Go.E

/-! ### lemmas for stepping -/
section
variable {P : Program} {X : Ctx}
theorem want_none (ops : List Oper) (tm : Tr Value) (d : Option Tmp) (op : Op) (ty : TypeId) (pos : String) (af : Array Edge) : wantE ops tm ⟨d, op, ty, pos, af, none⟩ = some true := rfl
noncomputable def wantG (tm : Tr Value) (want : Bool) : Option Tmp → Option Bool
  | none => some false
  | some d => match getv tm d with
    | .bool b => some (b == want)
    | .tuple ⟨[]⟩ => some false
    | _ => none
theorem want_some (ops : List Oper) (tm : Tr Value) (d : Option Tmp) (op : Op) (ty : TypeId) (pos : String) (af : Array Edge) (j : Nat) (w : Bool) :
    wantE ops tm ⟨d, op, ty, pos, af, some (j, w)⟩ = wantG tm w (dstOf ops j) := by
  unfold wantE wantG
  simp only
  cases dstOf ops j <;> rfl
theorem wantG_none (tm : Tr Value) (w : Bool) : wantG tm w none = some false := rfl
theorem wantG_bool {tm : Tr Value} {w b : Bool} {d : Tmp} (h : getv tm d = .bool b) : wantG tm w (some d) = some (b == w) := by unfold wantG; simp only [h]
theorem wantG_undef {tm : Tr Value} {w : Bool} {d : Tmp} (h : getv tm d = undef) : wantG tm w (some d) = some false := by unfold wantG; simp only [h]

theorem evalO_tmp (tm : Tr Value) (t : Tmp) : evalO tm (.tmp t) = getv tm t := rfl
theorem evalO_func (tm : Tr Value) (f : FuncId) : evalO tm (.func f) = .func (.func f) #[] #[] := rfl
theorem evalO_int (tm : Tr Value) (k : IntKind) (n : Int) : evalO tm (.const (.int k n)) = .int k n := rfl
theorem evalO_bool (tm : Tr Value) (b : Bool) : evalO tm (.const (.bool b)) = .bool b := rfl
theorem evalO_str (tm : Tr Value) (b : ByteArray) : evalO tm (.const (.string b)) = .string b := rfl
theorem evalO_nilp (tm : Tr Value) : evalO tm (.const (.pointer none)) = .pointer none := rfl
theorem evalO_nils (tm : Tr Value) : evalO tm (.const (.slice none 0 0)) = .slice none 0 0 := rfl
theorem evalO_nilm (tm : Tr Value) : evalO tm (.const (.map none)) = .map none := rfl
theorem evalO_nilf (tm : Tr Value) : evalO tm (.const .nilFunc) = .nilFunc := rfl
theorem evalO_nili (tm : Tr Value) : evalO tm (.const .nilIface) = .nilIface := rfl

theorem getv_put_some (a : Fr) (d : Tmp) (v : Value) (t : Nat) : getv (put a (some d) v).tm t = if d = t ∧ t < a.nt then v else getv a.tm t := by
  rw [getv_put]; simp only [Option.some.injEq]
theorem put_none (a : Fr) (v : Value) : put a none v = a := rfl
theorem put_nt' (a : Fr) (d : Option Tmp) (v : Value) : (put a d v).nt = a.nt := put_nt a d v
theorem put_df (a : Fr) (d : Option Tmp) (v : Value) : (put a d v).df = a.df := by
  cases d with
  | none => rfl
  | some d => unfold E.put; simp only; cases d.blt a.nt <;> rfl
theorem put_pk (a : Fr) (d : Option Tmp) (v : Value) : (put a d v).pk = a.pk := by
  cases d with
  | none => rfl
  | some d => unfold E.put; simp only; cases d.blt a.nt <;> rfl

theorem getv_setFrom2 : ∀ (l : List Value) (i : Nat) (tm : Tr Value) (t : Nat), getv (setFrom tm i l) t = if i ≤ t ∧ t < i + l.length then (l.getD (t - i) undef) else getv tm t
  | [], i, tm, t => by simp only [setFrom, List.length_nil]; rw [if_neg (by omega)]
  | v :: l, i, tm, t => by
    simp only [setFrom, List.length_cons]
    rw [getv_setFrom2 l (i + 1)]
    by_cases h : t = i
    · subst h
      rw [if_neg (by omega), if_pos (by omega), getv_upd]
      simp
    · by_cases h2 : i + 1 ≤ t ∧ t < i + 1 + l.length
      · rw [if_pos h2, if_pos (by omega), show t - i = t - (i + 1) + 1 by omega]
        simp
      · rw [if_neg h2, if_neg (by omega), getv_upd, if_neg h]
theorem getv_empty (nt : Nat) (args : List Value) (pk : PK) (t : Nat) : getv (emptyFr nt args pk).tm t = args.getD t undef := by
  unfold emptyFr
  simp only
  rw [getv_setFrom2]
  by_cases h : t < args.length
  · rw [if_pos (by omega)]; simp
  · rw [if_neg (by omega), List.getD_eq_getElem?_getD, List.getElem?_eq_none (by omega)]
    rfl
theorem empty_nt (nt : Nat) (args : List Value) (pk : PK) (h : args.length ≤ nt) : (emptyFr nt args pk).nt = nt := by
  unfold emptyFr
  simp only
  show args.length + (nt - args.length) = nt
  omega
theorem empty_df (nt : Nat) (args : List Value) (pk : PK) : (emptyFr nt args pk).df = [] := rfl
theorem empty_pk (nt : Nat) (args : List Value) (pk : PK) : (emptyFr nt args pk).pk = pk := rfl

theorem bnd_ret {α β : Type} (x : α) (f : α → EM β) : (EM.ret x).bnd f = f x := rfl
theorem ret_ap {α : Type} (x : α) (s : ES) : EM.ret x s = .ok x s := rfl
theorem vl_ret (v : Value) : vl (EM.ret v) = EM.ret (.val v) := rfl
theorem vo_some (y : String) (v : Value) : vo y (some v) = EM.ret (.val v) := rfl
theorem lift_some {α : Type} (y : String) (v : α) : lift y (some v) = EM.ret v := rfl
theorem sureA_some (a : Addr) : sureA (.pointer (some a)) = EM.ret a := rfl
theorem bnd_ok' {α β : Type} {m : EM α} {f : α → EM β} {s s1 : ES} {x : α} (h : m s = .ok x s1) : m.bnd f s = f x s1 := by unfold EM.bnd; rw [h]
theorem eget_ok {n : Nat} {s : ES} {o : EObj} (h : s.st.get n = some o) : eget n s = .ok o s := by unfold eget; rw [h]
theorem eset_ok {n : Nat} {s : ES} {o o' : EObj} (h : s.st.get n = some o) : eset n o' s = .ok () { s with st := s.st.upd n (some o'), lg := n :: s.lg } := by unfold eset; rw [h]
theorem enew_ok (o : EObj) (s : ES) : enew o s = .ok s.nx { s with st := s.st.upd s.nx (some o), nx := s.nx + 1 } := rfl
theorem get_upd_eq {α : Type} (t : Tr α) (n : Nat) (o : Option α) : (t.upd n o).get n = o := by rw [Tr.get_upd, if_pos rfl]
theorem get_upd_ne {α : Type} (t : Tr α) {n m : Nat} (o : Option α) (h : m ≠ n) : (t.upd n o).get m = t.get m := by rw [Tr.get_upd, if_neg h]

/-! reading and writing cells -/
theorem rd_agg {t : TypeId} {b off n : Nat} {c : List Value} {e : TypeId} {s : ES} (ha : aggT P t = some true) (hs : siz P t = some n) (h : s.st.get b = some (.cells c e)) (hl : (Nat.add off n).ble c.length = true) :
    rd P t ⟨b, off, none⟩ s = .ok (.agg ⟨cut c off n⟩) s := by
  unfold rd
  simp only
  rw [bnd_ok' (eget_ok h)]
  simp only [ha, hs, hl]
  rfl
theorem rd_one {t : TypeId} {b off n : Nat} {c : List Value} {e : TypeId} {v : Value} {s : ES} (ha : aggT P t = some false) (hs : siz P t = some n) (h : s.st.get b = some (.cells c e)) (hv : nth c off = some v) :
    rd P t ⟨b, off, none⟩ s = .ok v s := by
  unfold rd
  simp only
  rw [bnd_ok' (eget_ok h)]
  simp only [ha, hs, hv]
  rfl
theorem wr_ok {t : TypeId} {b off n : Nat} {c : List Value} {e : TypeId} {v : Value} {s : ES} (hs : siz P t = some n) (hn : n.beq v.cells.size = true) (h : s.st.get b = some (.cells c e))
    (hl : ((Nat.add off v.cells.toList.length).ble c.length && v.cells.toList.all okCell) = true) :
    wr P t ⟨b, off, none⟩ v s = .ok () { s with st := s.st.upd b (some (.cells (c.take off ++ v.cells.toList ++ c.drop (Nat.add off v.cells.toList.length)) e)), lg := b :: s.lg } := by
  unfold wr
  simp only [hs, hn, cond_true]
  unfold wrL
  simp only
  rw [bnd_ok' (eget_ok h)]
  simp only [hl, cond_true]
  exact eset_ok h
end
end Go.E

namespace Go.E

/-! ### what is to be shown of a run -/
def Exq (P : Program) (X : Ctx) (t : Task) (s : ES) (Q : Out → Prop) : Prop := ∃ o, Run P X t s o ∧ Q o

section
variable {P : Program} {X : Ctx}
theorem Exq.mono {t : Task} {s : ES} {Q Q' : Out → Prop} (h : Exq P X t s Q) (hq : ∀ o, Q o → Q' o) : Exq P X t s Q' := by
  obtain ⟨o, h1, h2⟩ := h; exact ⟨o, h1, hq o h2⟩
theorem Exq.of {t : Task} {s : ES} {o : Out} (h : Run P X t s o) : Exq P X t s (· = o) := ⟨o, h, rfl⟩
theorem Exq.run {t : Task} {s : ES} {o : Out} (h : Exq P X t s (· = o)) : Run P X t s o := by
  obtain ⟨o', h1, h2⟩ := h
  subst h2
  exact h1

def SeqK (P : Program) (X : Ctx) (y : Code) (rd : Option Nat) (Q : Out → Prop) : Out → Prop
  | .code .normal a s => Exq P X (.code y rd a) s Q
  | o => Q o
theorem seqK_normal {y : Code} {rd : Option Nat} {Q : Out → Prop} {a : Fr} {s : ES} : SeqK P X y rd Q (.code .normal a s) = Exq P X (.code y rd a) s Q := rfl
theorem seqK_ret {y : Code} {rd : Option Nat} {Q : Out → Prop} {a : Fr} {s : ES} : SeqK P X y rd Q (.code .ret a s) = Q (.code .ret a s) := rfl
theorem seqK_exit {y : Code} {rd : Option Nat} {Q : Out → Prop} {a : Fr} {s : ES} {i : Nat} : SeqK P X y rd Q (.code (.exit i) a s) = Q (.code (.exit i) a s) := rfl
theorem seqK_pan {y : Code} {rd : Option Nat} {Q : Out → Prop} {a : Fr} {s : ES} {v : Value} : SeqK P X y rd Q (.code (.pan v) a s) = Q (.code (.pan v) a s) := rfl
theorem ex_seq {x y : Code} {rd : Option Nat} {a : Fr} {s : ES} {Q : Out → Prop} (h : Exq P X (.code x rd a) s (SeqK P X y rd Q)) : Exq P X (.code (.seq x y) rd a) s Q := by
  obtain ⟨o, h1, h2⟩ := h
  have out : ∀ e a1 s1, o = .code e a1 s1 → e ≠ .normal → Q (.code e a1 s1) → Exq P X (.code (.seq x y) rd a) s Q := by
    intro e a1 s1 ho he hq
    subst ho
    exact ⟨_, run_seq_out he h1, hq⟩
  cases o with
  | code e a1 s1 =>
    cases e with
    | normal => obtain ⟨o2, h3, h4⟩ := h2; exact ⟨o2, run_seq h1 h3, h4⟩
    | ret => exact out _ _ _ rfl (by intro h; cases h) h2
    | exit i => exact out _ _ _ rfl (by intro h; cases h) h2
    | pan v => exact out _ _ _ rfl (by intro h; cases h) h2
  | ret v pk s1 => exact ⟨_, run1 (fun r h => by show cSeq r x y rd a s = _; unfold cSeq; rw [h]) h1, h2⟩
  | pan v pk s1 => exact ⟨_, run1 (fun r h => by show cSeq r x y rd a s = _; unfold cSeq; rw [h]) h1, h2⟩
  | bad y' => exact ⟨_, run1 (fun r h => by show cSeq r x y rd a s = _; unfold cSeq; rw [h]) h1, h2⟩
theorem ex_skip {rd : Option Nat} {a : Fr} {s : ES} {Q : Out → Prop} (h : Q (.code .normal a s)) : Exq P X (.code .skip rd a) s Q := ⟨_, run_skip, h⟩
theorem ex_ret {rd : Option Nat} {a : Fr} {s : ES} {Q : Out → Prop} (h : Q (.code .ret a s)) : Exq P X (.code .ret rd a) s Q := ⟨_, run_ret, h⟩
theorem ex_exit {id : Nat} {rd : Option Nat} {a : Fr} {s : ES} {Q : Out → Prop} (h : Q (.code (.exit id) a s)) : Exq P X (.code (.exit id) rd a) s Q := ⟨_, run_exit, h⟩
theorem ex_cond {c : Operand} {x y : Code} {rd : Option Nat} {a : Fr} {s : ES} {Q : Out → Prop} {t : Bool} (hc : evalO a.tm c = .bool t) (h : Exq P X (.code (bif t then x else y) rd a) s Q) : Exq P X (.code (.cond c x y) rd a) s Q := by
  obtain ⟨o, h1, h2⟩ := h; exact ⟨o, run_cond t hc h1, h2⟩
theorem ex_scope {c : Code} {rd : Option Nat} {a : Fr} {s : ES} {Q : Out → Prop} (h : Exq P X (.code c rd a) s Q) : Exq P X (.code (.scope c) rd a) s Q := by
  obtain ⟨o, h1, h2⟩ := h; exact ⟨o, run_scope h1, h2⟩
theorem ex_region {id : Nat} {ops : Array Oper} {rd : Option Nat} {a : Fr} {s : ES} {Q : Out → Prop} (h : AfterOps P X ops.toList rd Q (goOps P X ops.toList ops.toList a s)) : Exq P X (.code (.region id ops false) rd a) s Q := by
  obtain ⟨o, h1, h2⟩ := go_ops ops.toList rd Q _ _ _ h; exact ⟨o, run_region h1, h2⟩
theorem ex_ops {ops l : List Oper} {rd : Option Nat} {a : Fr} {s : ES} {Q : Out → Prop} (h : AfterOps P X ops rd Q (goOps P X ops l a s)) : Exq P X (.ops ops l rd a) s Q := go_ops ops rd Q _ _ _ h
def BlockK (id : Nat) (Q : Out → Prop) : Out → Prop
  | .code (.exit i) a s => Q (.code (bif i.beq id then .normal else .exit i) a s)
  | o => Q o
theorem blockK_normal {id : Nat} {Q : Out → Prop} {a : Fr} {s : ES} : BlockK id Q (.code .normal a s) = Q (.code .normal a s) := rfl
theorem blockK_ret {id : Nat} {Q : Out → Prop} {a : Fr} {s : ES} : BlockK id Q (.code .ret a s) = Q (.code .ret a s) := rfl
theorem blockK_exit {id i : Nat} {Q : Out → Prop} {a : Fr} {s : ES} : BlockK id Q (.code (.exit i) a s) = Q (.code (bif i.beq id then .normal else .exit i) a s) := rfl
theorem blockK_pan {id : Nat} {Q : Out → Prop} {a : Fr} {s : ES} {v : Value} : BlockK id Q (.code (.pan v) a s) = Q (.code (.pan v) a s) := rfl
theorem ex_block {id : Nat} {c : Code} {rd : Option Nat} {a : Fr} {s : ES} {Q : Out → Prop} (h : Exq P X (.code c rd a) s (BlockK id Q)) : Exq P X (.code (.block id c) rd a) s Q := by
  obtain ⟨o, h1, h2⟩ := h
  cases o with
  | code e a1 s1 =>
    cases e with
    | exit i =>
      refine ⟨_, run1 (fun r h => ?_) h1, h2⟩
      show cBlock r id c rd a s = _
      unfold cBlock
      rw [h]
      simp only
      cases i.beq id <;> rfl
    | normal => exact ⟨_, run_block h1 (by intro h; cases h), h2⟩
    | ret => exact ⟨_, run_block h1 (by intro h; cases h), h2⟩
    | pan v => exact ⟨_, run_block h1 (by intro h; cases h), h2⟩
  | ret v pk s1 => exact ⟨_, run1 (fun r h => by show cBlock r id c rd a s = _; unfold cBlock; rw [h]) h1, h2⟩
  | pan v pk s1 => exact ⟨_, run1 (fun r h => by show cBlock r id c rd a s = _; unfold cBlock; rw [h]) h1, h2⟩
  | bad y' => exact ⟨_, run1 (fun r h => by show cBlock r id c rd a s = _; unfold cBlock; rw [h]) h1, h2⟩
def LoopK (P : Program) (X : Ctx) (c : Code) (rd : Option Nat) (Q : Out → Prop) : Out → Prop
  | .code .normal a s => Exq P X (.code (.loop c) rd a) s Q
  | o => Q o
theorem loopK_normal {c : Code} {rd : Option Nat} {Q : Out → Prop} {a : Fr} {s : ES} : LoopK P X c rd Q (.code .normal a s) = Exq P X (.code (.loop c) rd a) s Q := rfl
theorem loopK_ret {c : Code} {rd : Option Nat} {Q : Out → Prop} {a : Fr} {s : ES} : LoopK P X c rd Q (.code .ret a s) = Q (.code .ret a s) := rfl
theorem loopK_exit {c : Code} {rd : Option Nat} {Q : Out → Prop} {a : Fr} {s : ES} {i : Nat} : LoopK P X c rd Q (.code (.exit i) a s) = Q (.code (.exit i) a s) := rfl
theorem loopK_pan {c : Code} {rd : Option Nat} {Q : Out → Prop} {a : Fr} {s : ES} {v : Value} : LoopK P X c rd Q (.code (.pan v) a s) = Q (.code (.pan v) a s) := rfl
theorem ex_loop {c : Code} {rd : Option Nat} {a : Fr} {s : ES} {Q : Out → Prop} (h : Exq P X (.code c rd a) s (LoopK P X c rd Q)) : Exq P X (.code (.loop c) rd a) s Q := by
  obtain ⟨o, h1, h2⟩ := h
  cases o with
  | code e a1 s1 =>
    cases e with
    | normal => obtain ⟨o2, h3, h4⟩ := h2; exact ⟨o2, run_loop h1 h3, h4⟩
    | exit i => exact ⟨_, run_loop_out (by intro h; cases h) h1, h2⟩
    | ret => exact ⟨_, run_loop_out (by intro h; cases h) h1, h2⟩
    | pan v => exact ⟨_, run_loop_out (by intro h; cases h) h1, h2⟩
  | ret v pk s1 => exact ⟨_, run1 (fun r h => by show cLoop r c rd a s = _; unfold cLoop; rw [h]) h1, h2⟩
  | pan v pk s1 => exact ⟨_, run1 (fun r h => by show cLoop r c rd a s = _; unfold cLoop; rw [h]) h1, h2⟩
  | bad y' => exact ⟨_, run1 (fun r h => by show cLoop r c rd a s = _; unfold cLoop; rw [h]) h1, h2⟩

/-- the results of a function whose frame has no deferred calls -/
def FnK (P : Program) (fn : Func) (Q : Out → Prop) : Out → Prop
  | .code .normal a s => a.df = [] ∧ ∃ v, eResults P fn a.tm s = .ok v s ∧ Q (.ret v a.pk s)
  | .code .ret a s => a.df = [] ∧ ∃ v, eResults P fn a.tm s = .ok v s ∧ Q (.ret v a.pk s)
  | .code (.pan v) a s => a.df = [] ∧ Q (.pan v a.pk s)
  | _ => False
theorem fnK_normal {fn : Func} {Q : Out → Prop} {a : Fr} {s : ES} : FnK P fn Q (.code .normal a s) = (a.df = [] ∧ ∃ v, eResults P fn a.tm s = .ok v s ∧ Q (.ret v a.pk s)) := rfl
theorem fnK_ret {fn : Func} {Q : Out → Prop} {a : Fr} {s : ES} : FnK P fn Q (.code .ret a s) = (a.df = [] ∧ ∃ v, eResults P fn a.tm s = .ok v s ∧ Q (.ret v a.pk s)) := rfl
theorem fnK_pan {fn : Func} {Q : Out → Prop} {a : Fr} {s : ES} {v : Value} : FnK P fn Q (.code (.pan v) a s) = (a.df = [] ∧ Q (.pan v a.pk s)) := rfl
theorem ex_call {f : FuncId} {fn : Func} {c : Code} {nt : Nat} {args : List Value} {pk : PK} {s : ES} {Q : Out → Prop} (hf : P.funcs[f]? = some fn) (hb : fn.body = some c) (hn : fn.ntmps = nt)
    (h : Exq P X (.code c none (emptyFr nt args pk)) s (FnK P fn Q)) : Exq P X (.call f args pk) s Q := by
  subst hn
  obtain ⟨o, h1, h2⟩ := h
  cases o with
  | code e a s1 =>
    cases e with
    | normal => obtain ⟨h3, v, h4, h5⟩ := h2; exact ⟨_, run_fn hf hb h1 (.inl rfl) h3 h4, h5⟩
    | ret => obtain ⟨h3, v, h4, h5⟩ := h2; exact ⟨_, run_fn hf hb h1 (.inr rfl) h3 h4, h5⟩
    | pan v => obtain ⟨h3, h4⟩ := h2; exact ⟨_, run_fn_pan hf hb h1 h3, h4⟩
    | exit i => exact h2.elim
  | _ => exact h2.elim

theorem after_fin {ops : List Oper} {rd : Option Nat} {Q : Out → Prop} {a : Fr} {s : ES} : AfterOps P X ops rd Q (.fin a s) = Q (.code .normal a s) := rfl
theorem after_pan {ops : List Oper} {rd : Option Nat} {Q : Out → Prop} {a : Fr} {s : ES} {v : Value} : AfterOps P X ops rd Q (.pan v a s) = Q (.code (.pan v) a s) := rfl
theorem after_call {ops : List Oper} {rd : Option Nat} {Q : Out → Prop} {o : Oper} {f : FuncId} {args : List Value} {rest : List Oper} {a : Fr} {s : ES} {v : Value} {pk : PK} {s' : ES}
    (h : Run P X (.call f args .no) s (.ret v pk s')) (h2 : AfterOps P X ops rd Q (goOps P X ops rest (put a o.dst v) s')) : AfterOps P X ops rd Q (.call o f args rest a s) := by
  obtain ⟨out, h3, h4⟩ := go_ops ops rd Q rest _ _ h2
  exact ⟨v, pk, s', h, out, h3, h4⟩
theorem after_callq {ops : List Oper} {rd : Option Nat} {Q : Out → Prop} {o : Oper} {f : FuncId} {args : List Value} {rest : List Oper} {a : Fr} {s : ES}
    (h : Exq P X (.call f args .no) s fun
      | .ret v _ s' => AfterOps P X ops rd Q (goOps P X ops rest (put a o.dst v) s')
      | _ => False) : AfterOps P X ops rd Q (.call o f args rest a s) := by
  obtain ⟨out, h1, h2⟩ := h
  cases out with
  | ret v pk s' => exact after_call h1 h2
  | _ => exact h2.elim
end
end Go.E

namespace Go.E

section
variable {P : Program} {X : Ctx}
theorem eop_move (ρ : Operand → Value) (d : Option Tmp) (ty : TypeId) (pos : String) (af : Array Edge) (g : Option (Nat × Bool)) (x : Operand) : eop P X ρ ⟨d, .move x, ty, pos, af, g⟩ = EM.ret (.val (ρ x)) := rfl
theorem eop_assign (ρ : Operand → Value) (d : Option Tmp) (ty : TypeId) (pos : String) (af : Array Edge) (g : Option (Nat × Bool)) (x : Operand) : eop P X ρ ⟨d, .assign x, ty, pos, af, g⟩ = EM.ret (.val (ρ x)) := rfl
theorem eop_build (ρ : Operand → Value) (d : Option Tmp) (ty : TypeId) (pos : String) (af : Array Edge) (g : Option (Nat × Bool)) (t : TypeId) (ps : Array (Nat × Operand)) : eop P X ρ ⟨d, .build t ps, ty, pos, af, g⟩ = vo "build" (eBuild P t (mapP ρ ps.toList)) := rfl
theorem eop_buildSlice (ρ : Operand → Value) (d : Option Tmp) (ty : TypeId) (pos : String) (af : Array Edge) (g : Option (Nat × Bool)) (t : TypeId) (n : Nat) (ps : Array (Nat × Operand)) : eop P X ρ ⟨d, .buildSlice t n ps, ty, pos, af, g⟩ = vl (eBuildSlice P t n (mapP ρ ps.toList)) := rfl
theorem eop_load (ρ : Operand → Value) (d : Option Tmp) (ty : TypeId) (pos : String) (af : Array Edge) (g : Option (Nat × Bool)) (t : TypeId) (a : Operand) : eop P X ρ ⟨d, .load t a, ty, pos, af, g⟩ = (sureA (ρ a)).bnd fun a => vl (rd P t a) := rfl
theorem eop_store (ρ : Operand → Value) (d : Option Tmp) (ty : TypeId) (pos : String) (af : Array Edge) (g : Option (Nat × Bool)) (t : TypeId) (a x : Operand) : eop P X ρ ⟨d, .store t a x, ty, pos, af, g⟩ = (sureA (ρ a)).bnd fun a => (wr P t a (ρ x)).bnd fun _ => EM.ret .skip := rfl
theorem eop_binOp (ρ : Operand → Value) (d : Option Tmp) (ty : TypeId) (pos : String) (af : Array Edge) (g : Option (Nat × Bool)) (op : BinOp) (t : TypeId) (x y : Operand) (u : TypeId) : eop P X ρ ⟨d, .binOp op t x y u, ty, pos, af, g⟩ = vo "binOp" (eBin P op t x y (ρ x) (ρ y)) := rfl
theorem eop_unOp (ρ : Operand → Value) (d : Option Tmp) (ty : TypeId) (pos : String) (af : Array Edge) (g : Option (Nat × Bool)) (op : UnOp) (t : TypeId) (x : Operand) : eop P X ρ ⟨d, .unOp op t x, ty, pos, af, g⟩ = vo "unOp" (eUn op (ρ x)) := rfl
theorem eop_convert (ρ : Operand → Value) (d : Option Tmp) (ty : TypeId) (pos : String) (af : Array Edge) (g : Option (Nat × Bool)) (t u : TypeId) (x : Operand) : eop P X ρ ⟨d, .convert t u x, ty, pos, af, g⟩ = vl (eConvert P t u (ρ x)) := rfl
theorem eop_makeMapN (ρ : Operand → Value) (d : Option Tmp) (ty : TypeId) (pos : String) (af : Array Edge) (g : Option (Nat × Bool)) (t : TypeId) : eop P X ρ ⟨d, .makeMap t none, ty, pos, af, g⟩ = (enew (.map [] 0)).bnd fun r => EM.ret (.val (.map (some r))) := rfl
theorem eop_makeFunc (ρ : Operand → Value) (d : Option Tmp) (ty : TypeId) (pos : String) (af : Array Edge) (g : Option (Nat × Bool)) (f : FuncId) (first captured : Array Operand) : eop P X ρ ⟨d, .makeFunc (.func f) first captured, ty, pos, af, g⟩ = EM.ret (.val (.func (.func f) ⟨mapA ρ first.toList⟩ ⟨mapA ρ captured.toList⟩)) := rfl
theorem eop_slice (ρ : Operand → Value) (d : Option Tmp) (ty : TypeId) (pos : String) (af : Array Edge) (g : Option (Nat × Bool)) (t : TypeId) (x : Operand) (l h m : Option Operand) : eop P X ρ ⟨d, .slice t x l h m, ty, pos, af, g⟩ = vl (eSlice P t (ρ x) (l.map ρ) (h.map ρ) (m.map ρ)) := rfl
theorem eop_fieldAddr (ρ : Operand → Value) (d : Option Tmp) (ty : TypeId) (pos : String) (af : Array Edge) (g : Option (Nat × Bool)) (t : TypeId) (x : Operand) (f : Nat) : eop P X ρ ⟨d, .fieldAddr t x f, ty, pos, af, g⟩ = vo "fieldAddr" (eFieldAddr P t (ρ x) f) := rfl
theorem eop_field (ρ : Operand → Value) (d : Option Tmp) (ty : TypeId) (pos : String) (af : Array Edge) (g : Option (Nat × Bool)) (t : TypeId) (x : Operand) (f : Nat) : eop P X ρ ⟨d, .field t x f, ty, pos, af, g⟩ = vo "field" (eField P t (ρ x) f) := rfl
theorem eop_indexAddr (ρ : Operand → Value) (d : Option Tmp) (ty : TypeId) (pos : String) (af : Array Edge) (g : Option (Nat × Bool)) (t : TypeId) (x i : Operand) : eop P X ρ ⟨d, .indexAddr t x i, ty, pos, af, g⟩ = vo "indexAddr" (eIndexAddr P t (ρ x) (ρ i)) := rfl
theorem eop_index (ρ : Operand → Value) (d : Option Tmp) (ty : TypeId) (pos : String) (af : Array Edge) (g : Option (Nat × Bool)) (t : TypeId) (x i : Operand) : eop P X ρ ⟨d, .index t x i, ty, pos, af, g⟩ = vo "index" (eIndex P t (ρ x) (ρ i)) := rfl
theorem eop_lookup (ρ : Operand → Value) (d : Option Tmp) (ty : TypeId) (pos : String) (af : Array Edge) (g : Option (Nat × Bool)) (t : TypeId) (x i : Operand) (ok : Bool) : eop P X ρ ⟨d, .lookup t x i ok, ty, pos, af, g⟩ = vl (eLookup P t (ρ x) (ρ i) ok) := rfl
theorem eop_mapUpdate (ρ : Operand → Value) (d : Option Tmp) (ty : TypeId) (pos : String) (af : Array Edge) (g : Option (Nat × Bool)) (t : TypeId) (m k v : Operand) : eop P X ρ ⟨d, .mapUpdate t m k v, ty, pos, af, g⟩ = (eMapUpdate P t (ρ m) (ρ k) (ρ v)).bnd fun _ => EM.ret .skip := rfl
theorem eop_insert (ρ : Operand → Value) (d : Option Tmp) (ty : TypeId) (pos : String) (af : Array Edge) (g : Option (Nat × Bool)) (t : TypeId) (m k v : Operand) : eop P X ρ ⟨d, .insert t m k v, ty, pos, af, g⟩ = (eMapUpdate P t (ρ m) (ρ k) (ρ v)).bnd fun _ => EM.ret .skip := rfl
theorem eop_typeAssert (ρ : Operand → Value) (d : Option Tmp) (ty : TypeId) (pos : String) (af : Array Edge) (g : Option (Nat × Bool)) (x : Operand) (u t : TypeId) (ok : Bool) : eop P X ρ ⟨d, .typeAssert x u t ok, ty, pos, af, g⟩ = vo "typeAssert" (eTypeAssert P (ρ x) t ok) := rfl
theorem eop_alloc (ρ : Operand → Value) (d : Option Tmp) (ty : TypeId) (pos : String) (af : Array Edge) (g : Option (Nat × Bool)) (e : TypeId) {z : Value} (h : zer P e = some z) :
    eop P X ρ ⟨d, .alloc e, ty, pos, af, g⟩ = (enew (.cells z.cells.toList e)).bnd fun r => EM.ret (.val (mkPtr r)) := by unfold eop; simp only [h]
theorem eop_box (ρ : Operand → Value) (d : Option Tmp) (ty : TypeId) (pos : String) (af : Array Edge) (g : Option (Nat × Bool)) (e : TypeId) (x : Operand) (h : notTup (ρ x) = true) :
    eop P X ρ ⟨d, .box e x, ty, pos, af, g⟩ = (enew (.cells (ρ x).cells.toList e)).bnd fun r => EM.ret (.val (mkPtr r)) := by unfold eop; simp only [h, cond_true]
theorem eop_pick (ρ : Operand → Value) (d : Option Tmp) (ty : TypeId) (pos : String) (af : Array Edge) (g : Option (Nat × Bool)) (c x y : Operand) {b : Bool} (h : ρ c = .bool b) :
    eop P X ρ ⟨d, .pick c x y, ty, pos, af, g⟩ = EM.ret (.val (bif b then ρ x else ρ y)) := by unfold eop; simp only [h]
theorem eop_nilCheck (ρ : Operand → Value) (d : Option Tmp) (ty : TypeId) (pos : String) (af : Array Edge) (g : Option (Nat × Bool)) (x : Operand) {a : Addr} (h : ρ x = .pointer (some a)) :
    eop P X ρ ⟨d, .nilCheck x, ty, pos, af, g⟩ = EM.ret (.val (.pointer (some a))) := by unfold eop; simp only [h]
theorem eop_makeInterface (ρ : Operand → Value) (d : Option Tmp) (ty : TypeId) (pos : String) (af : Array Edge) (g : Option (Nat × Bool)) (t : TypeId) (x : Operand) (h : (match und P t with | some (.interface _) | none => false | some _ => true) = true) :
    eop P X ρ ⟨d, .makeInterface t x, ty, pos, af, g⟩ = EM.ret (.val (.iface t (ρ x))) := by
  unfold eop
  simp only
  split
  · rename_i hu; simp [hu] at h
  · rename_i hu; simp [hu] at h
  · rfl
theorem eop_extract (ρ : Operand → Value) (d : Option Tmp) (ty : TypeId) (pos : String) (af : Array Edge) (g : Option (Nat × Bool)) (t : Operand) (i : Nat) {vs : Array Value} {v : Value} (h : ρ t = .tuple vs) (h2 : nth vs.toList i = some v) (h3 : notTup v = true) :
    eop P X ρ ⟨d, .extract t i, ty, pos, af, g⟩ = EM.ret (.val v) := by
  unfold eop; simp only [h]; unfold eExtract; rw [h2]; simp only [h3, cond_true]; rfl
theorem eop_callF (ρ : Operand → Value) (d : Option Tmp) (ty : TypeId) (pos : String) (af : Array Edge) (g : Option (Nat × Bool)) (f : Operand) (args : Array Operand) (ts : Array TypeId) {k : FuncId} {first cap : Array Value} (h : ρ f = .func (.func k) first cap) :
    eop P X ρ ⟨d, .call ⟨.value f, args, ts⟩, ty, pos, af, g⟩ = eCallFunc P X k ((first.toList ++ mapA ρ args.toList) ++ cap.toList) := by
  unfold eop; simp only [eResolve, h]; rfl
theorem eop_callB (ρ : Operand → Value) (d : Option Tmp) (ty : TypeId) (pos : String) (af : Array Edge) (g : Option (Nat × Bool)) (b : Builtin) (args : Array Operand) (ts : Array TypeId) :
    eop P X ρ ⟨d, .call ⟨.builtin b, args, ts⟩, ty, pos, af, g⟩ = eBuiltin P b ts ⟨mapA ρ args.toList⟩ := rfl
theorem callF_enter {f : FuncId} {args : List Value} (h : X.x f = 0) (hb : hasBody P f = true) : eCallFunc P X f args = EM.ret (.enter f args) := by unfold eCallFunc; rw [h]; simp only [hb, cond_true]
theorem callF_sum {f : FuncId} {args : List Value} {v : Value} (h : X.x f = 8) (hb : hasBody P f = true) (hm : X.m f args = some v) (hp : (plainL args && plain v) = true) : eCallFunc P X f args = EM.ret (.done f args v) := by
  unfold eCallFunc; rw [h]; simp only [hb, cond_true]; unfold eSumFn; rw [hm]; simp only [hp, cond_true]
theorem callF_nosum {f : FuncId} {args : List Value} (h : X.x f = 8) (hb : hasBody P f = true) (hm : X.m f args = none) : eCallFunc P X f args = EM.ret (.enter f args) := by
  unfold eCallFunc; rw [h]; simp only [hb, cond_true]; unfold eSumFn; rw [hm]
theorem callF_heap {f : FuncId} {args : List Value} {m : WM} (h : X.x f = 9) (hb : hasBody P f = true) (hm : X.h f args = some m) : eCallFunc P X f args = EM.ret (.heap f args m) := by
  unfold eCallFunc; rw [h]; simp only [hb, cond_true]; unfold eHeapFn; rw [hm]
end
end Go.E

namespace Go.E

/-! ### frames of which something is known -/
def lk (t : Nat) : List (Nat × Value) → Option Value
  | [] => none
  | (d, v) :: l => bif d.beq t then some v else lk t l
structure Kn (nt : Nat) (df : List Deferred) (pk : PK) (l : List (Nat × Value)) (a : Fr) : Prop where
  nt : a.nt = nt
  df : a.df = df
  pk : a.pk = pk
  tm : ∀ t v, lk t l = some v → getv a.tm t = v
def lookO (l : List (Nat × Value)) : Operand → Option Value
  | .tmp t => lk t l
  | .const v => bif plain v then some v else none
  | .global _ => none
  | .func f => some (.func (.func f) #[] #[])
def lookL (l : List (Nat × Value)) : List Operand → Option (List Value)
  | [] => some []
  | x :: r => match lookO l x, lookL l r with
    | some v, some vs => some (v :: vs)
    | _, _ => none
def lookP (l : List (Nat × Value)) : List (Nat × Operand) → Option (List (Nat × Value))
  | [] => some []
  | (i, x) :: r => match lookO l x, lookP l r with
    | some v, some vs => some ((i, v) :: vs)
    | _, _ => none
/-- a shorter list, of the same -/
def subL (l : List (Nat × Value)) : List (Nat × Value) → Prop
  | [] => True
  | (t, v) :: r => lk t l = some v ∧ subL l r

section
variable {P : Program} {X : Ctx} {nt : Nat} {df : List Deferred} {pk : PK} {l : List (Nat × Value)} {a : Fr}
theorem subL_lk {l : List (Nat × Value)} : ∀ {r : List (Nat × Value)}, subL l r → ∀ t v, lk t r = some v → lk t l = some v
  | [], _, t, v, h => by cases h
  | (d, u) :: r, hs, t, v, h => by
    simp only [lk] at h
    cases hb : d.beq t with
    | true =>
      rw [hb] at h
      simp only [cond_true, Option.some.injEq] at h
      obtain rfl := Nat.eq_of_beq_eq_true hb
      rw [← h]; exact hs.1
    | false => rw [hb] at h; exact subL_lk hs.2 t v h
theorem Kn.sub (K : Kn nt df pk l a) {r : List (Nat × Value)} (h : subL l r) : Kn nt df pk r a := ⟨K.nt, K.df, K.pk, fun t v ht => K.tm t v (subL_lk h t v ht)⟩
theorem Kn.op (K : Kn nt df pk l a) {x : Operand} {v : Value} (h : lookO l x = some v) : evalO a.tm x = v := by
  cases x with
  | tmp t => exact K.tm t v h
  | const c =>
    simp only [lookO] at h
    cases hp : plain c with
    | true => rw [hp] at h; simp only [cond_true, Option.some.injEq] at h; show (bif plain c then c else junk) = v; rw [hp]; exact h
    | false => rw [hp] at h; cases h
  | global g => cases h
  | func f => simp only [lookO, Option.some.injEq] at h; exact h
theorem Kn.args (K : Kn nt df pk l a) : ∀ {xs : List Operand} {vs : List Value}, lookL l xs = some vs → mapA (evalO a.tm) xs = vs
  | [], vs, h => by simp only [lookL, Option.some.injEq] at h; rw [← h]; rfl
  | x :: xs, vs, h => by
    simp only [lookL] at h
    split at h
    · rename_i v ws h1 h2
      simp only [Option.some.injEq] at h
      subst h
      simp only [mapA, K.op h1, K.args h2]
    · cases h
theorem Kn.parts (K : Kn nt df pk l a) : ∀ {xs : List (Nat × Operand)} {vs : List (Nat × Value)}, lookP l xs = some vs → mapP (evalO a.tm) xs = vs
  | [], vs, h => by simp only [lookP, Option.some.injEq] at h; rw [← h]; rfl
  | (i, x) :: xs, vs, h => by
    simp only [lookP] at h
    split at h
    · rename_i v ws h1 h2
      simp only [Option.some.injEq] at h
      subst h
      simp only [mapP, K.op h1, K.parts h2]
    · cases h
theorem Kn.put (K : Kn nt df pk l a) {d : Tmp} (hd : d.blt nt = true) (v : Value) : Kn nt df pk ((d, v) :: l) (put a (some d) v) := by
  refine ⟨by rw [put_nt', K.nt], by rw [put_df, K.df], by rw [put_pk, K.pk], fun t u h => ?_⟩
  rw [getv_put_some]
  simp only [lk] at h
  have hd' : d < a.nt := by rw [K.nt]; simpa using hd
  cases hb : d.beq t with
  | true =>
    rw [hb] at h
    obtain rfl := Nat.eq_of_beq_eq_true hb
    simp only [cond_true, Option.some.injEq] at h
    rw [if_pos ⟨rfl, hd'⟩, h]
  | false =>
    rw [hb] at h
    have : d ≠ t := fun e => by rw [e, Nat.beq_refl] at hb; cases hb
    rw [if_neg fun hh => this hh.1]
    exact K.tm t u h
/-- a new frame -/
def argsL : Nat → List Value → List (Nat × Value)
  | _, [] => []
  | i, v :: l => (i, v) :: argsL (i + 1) l
theorem lk_argsL : ∀ (vs : List Value) (i t : Nat) (v : Value), lk t (argsL i vs) = some v → i ≤ t ∧ vs[t - i]? = some v
  | [], i, t, v, h => by cases h
  | u :: vs, i, t, v, h => by
    simp only [argsL, lk] at h
    cases hb : i.beq t with
    | true =>
      rw [hb] at h
      obtain rfl := Nat.eq_of_beq_eq_true hb
      simp only [cond_true, Option.some.injEq] at h
      simp [h]
    | false =>
      rw [hb] at h
      obtain ⟨h1, h2⟩ := lk_argsL vs (i + 1) t v h
      refine ⟨by omega, ?_⟩
      rw [show t - i = (t - (i + 1)) + 1 by omega]
      simpa using h2
theorem kn_new {args : List Value} (h : args.length.ble nt = true) : Kn nt [] pk (argsL 0 args) (emptyFr nt args pk) := by
  refine ⟨empty_nt _ _ _ (by simpa using h), rfl, rfl, fun t v ht => ?_⟩
  rw [getv_empty]
  obtain ⟨_, h2⟩ := lk_argsL args 0 t v ht
  rw [List.getD_eq_getElem?_getD]
  rw [Nat.sub_zero] at h2
  rw [h2]; rfl

/-! the operations -/
variable {ops rest : List Oper} {rd : Option Nat} {Q : Out → Prop} {s s1 : ES} {d : Tmp} {ty : TypeId} {pos : String} {af : Array Edge}

theorem g_val {op : Op} {v : Value} (K : Kn nt df pk l a) (hd : d.blt nt = true) (he : eop P X (evalO a.tm) ⟨some d, op, ty, pos, af, none⟩ s = .ok (.val v) s1)
    (h : ∀ a', Kn nt df pk ((d, v) :: l) a' → AfterOps P X ops rd Q (goOps P X ops rest a' s1)) : AfterOps P X ops rd Q (goOps P X ops (⟨some d, op, ty, pos, af, none⟩ :: rest) a s) := by
  unfold goOps
  rw [want_none, he]
  exact h _ (K.put hd v)
theorem g_skip {op : Op} (he : eop P X (evalO a.tm) ⟨none, op, ty, pos, af, none⟩ s = .ok .skip s1)
    (h : AfterOps P X ops rd Q (goOps P X ops rest a s1)) : AfterOps P X ops rd Q (goOps P X ops (⟨none, op, ty, pos, af, none⟩ :: rest) a s) := by
  unfold goOps
  rw [want_none, he]
  exact h
theorem g_end (h : Q (.code .normal a s)) : AfterOps P X ops rd Q (goOps P X ops [] a s) := h

theorem want_true {j : Nat} {w b : Bool} {dj : Tmp} {dst : Option Tmp} {op : Op} (K : Kn nt df pk l a) (hj : dstOf ops j = some dj) (hl : lk dj l = some (.bool b)) (hb : (b == w) = true) : wantE ops a.tm ⟨dst, op, ty, pos, af, some (j, w)⟩ = some true := by
  rw [want_some, hj, wantG_bool (K.tm _ _ hl), hb]
theorem want_false {j : Nat} {w b : Bool} {dj : Tmp} {dst : Option Tmp} {op : Op} (K : Kn nt df pk l a) (hj : dstOf ops j = some dj) (hl : lk dj l = some (.bool b)) (hb : (b == w) = false) : wantE ops a.tm ⟨dst, op, ty, pos, af, some (j, w)⟩ = some false := by
  rw [want_some, hj, wantG_bool (K.tm _ _ hl), hb]
theorem want_undef {j : Nat} {w : Bool} {dj : Tmp} {dst : Option Tmp} {op : Op} (K : Kn nt df pk l a) (hj : dstOf ops j = some dj) (hl : lk dj l = some undef) : wantE ops a.tm ⟨dst, op, ty, pos, af, some (j, w)⟩ = some false := by
  rw [want_some, hj, wantG_undef (K.tm _ _ hl)]
/-- a guarded operation that is wanted -/
theorem g_if {op : Op} {j : Nat} {w b : Bool} {dj : Tmp} {dst : Option Tmp} (K : Kn nt df pk l a) (hj : dstOf ops j = some dj) (hl : lk dj l = some (.bool b)) (hb : (b == w) = true)
    (h : AfterOps P X ops rd Q (goOps P X ops (⟨dst, op, ty, pos, af, none⟩ :: rest) a s)) : AfterOps P X ops rd Q (goOps P X ops (⟨dst, op, ty, pos, af, some (j, w)⟩ :: rest) a s) := by
  unfold goOps at h ⊢
  rw [want_none] at h
  rw [want_true K hj hl hb]
  have e : eop P X (evalO a.tm) ⟨dst, op, ty, pos, af, some (j, w)⟩ = eop P X (evalO a.tm) ⟨dst, op, ty, pos, af, none⟩ := by unfold eop; rfl
  rw [e]
  cases he : eop P X (evalO a.tm) ⟨dst, op, ty, pos, af, none⟩ s with
  | bad y => rw [he] at h; exact h
  | ok nx s1 =>
    rw [he] at h
    cases nx <;> exact h
theorem g_not {op : Op} {j : Nat} {w b : Bool} {dj : Tmp} (K : Kn nt df pk l a) (hd : d.blt nt = true) (hj : dstOf ops j = some dj) (hl : lk dj l = some (.bool b)) (hb : (b == w) = false)
    (h : ∀ a', Kn nt df pk ((d, undef) :: l) a' → AfterOps P X ops rd Q (goOps P X ops rest a' s)) : AfterOps P X ops rd Q (goOps P X ops (⟨some d, op, ty, pos, af, some (j, w)⟩ :: rest) a s) := by
  unfold goOps
  rw [want_false K hj hl hb]
  exact h _ (K.put hd undef)
theorem g_notu {op : Op} {j : Nat} {w : Bool} {dj : Tmp} (K : Kn nt df pk l a) (hd : d.blt nt = true) (hj : dstOf ops j = some dj) (hl : lk dj l = some undef)
    (h : ∀ a', Kn nt df pk ((d, undef) :: l) a' → AfterOps P X ops rd Q (goOps P X ops rest a' s)) : AfterOps P X ops rd Q (goOps P X ops (⟨some d, op, ty, pos, af, some (j, w)⟩ :: rest) a s) := by
  unfold goOps
  rw [want_undef K hj hl]
  exact h _ (K.put hd undef)
end
end Go.E

