import Derived.Test.YthbkkpahoolhbaaGreatDoorEv15
set_option linter.unusedSimpArgs false
set_option linter.unusedVariables false
set_option linter.unusedSectionVars false
namespace Go.E

section
variable {P : Program} {X : Ctx} {nt : Nat} {df : List Deferred} {pk : PK} {l : List (Nat × Value)} {a : Fr}
variable {st : Tr EObj} {n : Nat} {lg : List Nat} {ops rest : List Oper} {rd : Option Nat} {Q : Out → Prop} {s s1 : ES} {d : Tmp} {ty : TypeId} {pos : String} {af : Array Edge}

theorem g_move {x : Operand} {v : Value} (K : Kn nt df pk l a) (hd : d.blt nt = true) (hx : lookO l x = some v)
    (h : ∀ a', Kn nt df pk ((d, v) :: l) a' → AfterOps P X ops rd Q (goOps P X ops rest a' s)) : AfterOps P X ops rd Q (goOps P X ops (⟨some d, .move x, ty, pos, af, none⟩ :: rest) a s) :=
  g_val K hd (by rw [eop_move, K.op hx]; rfl) h
theorem g_assign {x : Operand} {v : Value} (K : Kn nt df pk l a) (hd : d.blt nt = true) (hx : lookO l x = some v)
    (h : ∀ a', Kn nt df pk ((d, v) :: l) a' → AfterOps P X ops rd Q (goOps P X ops rest a' s)) : AfterOps P X ops rd Q (goOps P X ops (⟨some d, .assign x, ty, pos, af, none⟩ :: rest) a s) :=
  g_val K hd (by rw [eop_assign, K.op hx]; rfl) h
theorem g_pick {c x y : Operand} {b : Bool} {v : Value} (K : Kn nt df pk l a) (hd : d.blt nt = true) (hc : lookO l c = some (.bool b)) (hx : lookO l (bif b then x else y) = some v)
    (h : ∀ a', Kn nt df pk ((d, v) :: l) a' → AfterOps P X ops rd Q (goOps P X ops rest a' s)) : AfterOps P X ops rd Q (goOps P X ops (⟨some d, .pick c x y, ty, pos, af, none⟩ :: rest) a s) :=
  g_val K hd (by
    rw [eop_pick _ _ _ _ _ _ _ _ _ (K.op hc)]
    have : (bif b then evalO a.tm x else evalO a.tm y) = v := by rw [← K.op hx]; cases b <;> rfl
    rw [this]; rfl) h
theorem g_alloc {e : TypeId} {z : Value} (K : Kn nt df pk l a) (hd : d.blt nt = true) (hz : zer P e = some z)
    (h : ∀ a', Kn nt df pk ((d, .pointer (some ⟨n, 0, none⟩)) :: l) a' → AfterOps P X ops rd Q (goOps P X ops rest a' ⟨st.upd n (some (.cells z.cells.toList e)), n + 1, lg⟩)) :
    AfterOps P X ops rd Q (goOps P X ops (⟨some d, .alloc e, ty, pos, af, none⟩ :: rest) a ⟨st, n, lg⟩) :=
  g_val K hd (by rw [eop_alloc _ _ _ _ _ _ _ hz]; rfl) h
theorem g_box {e : TypeId} {x : Operand} {v : Value} (K : Kn nt df pk l a) (hd : d.blt nt = true) (hx : lookO l x = some v) (hv : notTup v = true)
    (h : ∀ a', Kn nt df pk ((d, .pointer (some ⟨n, 0, none⟩)) :: l) a' → AfterOps P X ops rd Q (goOps P X ops rest a' ⟨st.upd n (some (.cells v.cells.toList e)), n + 1, lg⟩)) :
    AfterOps P X ops rd Q (goOps P X ops (⟨some d, .box e x, ty, pos, af, none⟩ :: rest) a ⟨st, n, lg⟩) :=
  g_val K hd (by rw [eop_box _ _ _ _ _ _ _ _ (by rw [K.op hx]; exact hv), K.op hx]; rfl) h
theorem g_makeMap {t : TypeId} (K : Kn nt df pk l a) (hd : d.blt nt = true)
    (h : ∀ a', Kn nt df pk ((d, .map (some n)) :: l) a' → AfterOps P X ops rd Q (goOps P X ops rest a' ⟨st.upd n (some (.map [] 0)), n + 1, lg⟩)) :
    AfterOps P X ops rd Q (goOps P X ops (⟨some d, .makeMap t none, ty, pos, af, none⟩ :: rest) a ⟨st, n, lg⟩) := g_val K hd rfl h
theorem g_build {t : TypeId} {ps : Array (Nat × Operand)} {vs : List (Nat × Value)} {v : Value} (K : Kn nt df pk l a) (hd : d.blt nt = true) (hp : lookP l ps.toList = some vs) (hb : eBuild P t vs = some v)
    (h : ∀ a', Kn nt df pk ((d, v) :: l) a' → AfterOps P X ops rd Q (goOps P X ops rest a' s)) : AfterOps P X ops rd Q (goOps P X ops (⟨some d, .build t ps, ty, pos, af, none⟩ :: rest) a s) :=
  g_val K hd (by rw [eop_build, K.parts hp, hb]; rfl) h
theorem g_buildSlice {t : TypeId} {n : Nat} {ps : Array (Nat × Operand)} {vs : List (Nat × Value)} {v : Value} (K : Kn nt df pk l a) (hd : d.blt nt = true) (hp : lookP l ps.toList = some vs) (hb : eBuildSlice P t n vs s = .ok v s1)
    (h : ∀ a', Kn nt df pk ((d, v) :: l) a' → AfterOps P X ops rd Q (goOps P X ops rest a' s1)) : AfterOps P X ops rd Q (goOps P X ops (⟨some d, .buildSlice t n ps, ty, pos, af, none⟩ :: rest) a s) :=
  g_val K hd (by rw [eop_buildSlice, K.parts hp]; unfold vl; rw [bnd_ok' hb]; rfl) h
theorem g_load1 {t : TypeId} {x : Operand} {b off z : Nat} {c : List Value} {e : TypeId} {v : Value} (K : Kn nt df pk l a) (hd : d.blt nt = true) (hx : lookO l x = some (.pointer (some ⟨b, off, none⟩)))
    (ha : aggT P t = some false) (hs : siz P t = some z) (hg : st.get b = some (.cells c e)) (hv : nth c off = some v)
    (h : ∀ a', Kn nt df pk ((d, v) :: l) a' → AfterOps P X ops rd Q (goOps P X ops rest a' ⟨st, n, lg⟩)) : AfterOps P X ops rd Q (goOps P X ops (⟨some d, .load t x, ty, pos, af, none⟩ :: rest) a ⟨st, n, lg⟩) :=
  g_val K hd (by rw [eop_load, K.op hx, sureA_some, bnd_ret]; unfold vl; rw [bnd_ok' (rd_one ha hs hg hv)]; rfl) h
theorem g_loadA {t : TypeId} {x : Operand} {b off z : Nat} {c c' : List Value} {e : TypeId} (K : Kn nt df pk l a) (hd : d.blt nt = true) (hx : lookO l x = some (.pointer (some ⟨b, off, none⟩)))
    (ha : aggT P t = some true) (hs : siz P t = some z) (hg : st.get b = some (.cells c e)) (hl : (Nat.add off z).ble c.length = true) (hc : cut c off z = c')
    (h : ∀ a', Kn nt df pk ((d, .agg ⟨c'⟩) :: l) a' → AfterOps P X ops rd Q (goOps P X ops rest a' ⟨st, n, lg⟩)) : AfterOps P X ops rd Q (goOps P X ops (⟨some d, .load t x, ty, pos, af, none⟩ :: rest) a ⟨st, n, lg⟩) :=
  g_val K hd (by rw [eop_load, K.op hx, sureA_some, bnd_ret]; unfold vl; rw [bnd_ok' (rd_agg ha hs hg hl), hc]; rfl) h
theorem g_store {t : TypeId} {x y : Operand} {b off z : Nat} {c c' : List Value} {e : TypeId} {v : Value} (K : Kn nt df pk l a) (hx : lookO l x = some (.pointer (some ⟨b, off, none⟩))) (hy : lookO l y = some v)
    (hs : siz P t = some z) (hn : z.beq v.cells.size = true) (hg : st.get b = some (.cells c e)) (hl : ((Nat.add off v.cells.toList.length).ble c.length && v.cells.toList.all okCell) = true)
    (hc : c.take off ++ v.cells.toList ++ c.drop (Nat.add off v.cells.toList.length) = c')
    (h : AfterOps P X ops rd Q (goOps P X ops rest a ⟨st.upd b (some (.cells c' e)), n, b :: lg⟩)) : AfterOps P X ops rd Q (goOps P X ops (⟨none, .store t x y, ty, pos, af, none⟩ :: rest) a ⟨st, n, lg⟩) :=
  g_skip (by rw [eop_store, K.op hx, K.op hy, sureA_some, bnd_ret, bnd_ok' (wr_ok hs hn hg hl), hc]; rfl) h
theorem g_nilCheck {x : Operand} {ad : Addr} (K : Kn nt df pk l a) (hd : d.blt nt = true) (hx : lookO l x = some (.pointer (some ad)))
    (h : ∀ a', Kn nt df pk ((d, .pointer (some ad)) :: l) a' → AfterOps P X ops rd Q (goOps P X ops rest a' s)) : AfterOps P X ops rd Q (goOps P X ops (⟨some d, .nilCheck x, ty, pos, af, none⟩ :: rest) a s) :=
  g_val K hd (by rw [eop_nilCheck _ _ _ _ _ _ _ (K.op hx)]; rfl) h
theorem g_fieldAddr {t : TypeId} {x : Operand} {f : Nat} {vx v : Value} (K : Kn nt df pk l a) (hd : d.blt nt = true) (hx : lookO l x = some vx) (he : eFieldAddr P t vx f = some v)
    (h : ∀ a', Kn nt df pk ((d, v) :: l) a' → AfterOps P X ops rd Q (goOps P X ops rest a' s)) : AfterOps P X ops rd Q (goOps P X ops (⟨some d, .fieldAddr t x f, ty, pos, af, none⟩ :: rest) a s) :=
  g_val K hd (by rw [eop_fieldAddr, K.op hx, he]; rfl) h
theorem g_field {t : TypeId} {x : Operand} {f : Nat} {vx v : Value} (K : Kn nt df pk l a) (hd : d.blt nt = true) (hx : lookO l x = some vx) (he : eField P t vx f = some v)
    (h : ∀ a', Kn nt df pk ((d, v) :: l) a' → AfterOps P X ops rd Q (goOps P X ops rest a' s)) : AfterOps P X ops rd Q (goOps P X ops (⟨some d, .field t x f, ty, pos, af, none⟩ :: rest) a s) :=
  g_val K hd (by rw [eop_field, K.op hx, he]; rfl) h
theorem g_indexAddr {t : TypeId} {x y : Operand} {vx vy v : Value} (K : Kn nt df pk l a) (hd : d.blt nt = true) (hx : lookO l x = some vx) (hy : lookO l y = some vy) (he : eIndexAddr P t vx vy = some v)
    (h : ∀ a', Kn nt df pk ((d, v) :: l) a' → AfterOps P X ops rd Q (goOps P X ops rest a' s)) : AfterOps P X ops rd Q (goOps P X ops (⟨some d, .indexAddr t x y, ty, pos, af, none⟩ :: rest) a s) :=
  g_val K hd (by rw [eop_indexAddr, K.op hx, K.op hy, he]; rfl) h
theorem g_index {t : TypeId} {x y : Operand} {vx vy v : Value} (K : Kn nt df pk l a) (hd : d.blt nt = true) (hx : lookO l x = some vx) (hy : lookO l y = some vy) (he : eIndex P t vx vy = some v)
    (h : ∀ a', Kn nt df pk ((d, v) :: l) a' → AfterOps P X ops rd Q (goOps P X ops rest a' s)) : AfterOps P X ops rd Q (goOps P X ops (⟨some d, .index t x y, ty, pos, af, none⟩ :: rest) a s) :=
  g_val K hd (by rw [eop_index, K.op hx, K.op hy, he]; rfl) h
theorem g_binOp {op : BinOp} {t u : TypeId} {x y : Operand} {vx vy v : Value} (K : Kn nt df pk l a) (hd : d.blt nt = true) (hx : lookO l x = some vx) (hy : lookO l y = some vy) (he : eBin P op t x y vx vy = some v)
    (h : ∀ a', Kn nt df pk ((d, v) :: l) a' → AfterOps P X ops rd Q (goOps P X ops rest a' s)) : AfterOps P X ops rd Q (goOps P X ops (⟨some d, .binOp op t x y u, ty, pos, af, none⟩ :: rest) a s) :=
  g_val K hd (by rw [eop_binOp, K.op hx, K.op hy, he]; rfl) h
theorem g_unOp {op : UnOp} {t : TypeId} {x : Operand} {vx v : Value} (K : Kn nt df pk l a) (hd : d.blt nt = true) (hx : lookO l x = some vx) (he : eUn op vx = some v)
    (h : ∀ a', Kn nt df pk ((d, v) :: l) a' → AfterOps P X ops rd Q (goOps P X ops rest a' s)) : AfterOps P X ops rd Q (goOps P X ops (⟨some d, .unOp op t x, ty, pos, af, none⟩ :: rest) a s) :=
  g_val K hd (by rw [eop_unOp, K.op hx, he]; rfl) h
theorem g_convert {t u : TypeId} {x : Operand} {vx v : Value} (K : Kn nt df pk l a) (hd : d.blt nt = true) (hx : lookO l x = some vx) (he : eConvert P t u vx s = .ok v s1)
    (h : ∀ a', Kn nt df pk ((d, v) :: l) a' → AfterOps P X ops rd Q (goOps P X ops rest a' s1)) : AfterOps P X ops rd Q (goOps P X ops (⟨some d, .convert t u x, ty, pos, af, none⟩ :: rest) a s) :=
  g_val K hd (by rw [eop_convert, K.op hx]; unfold vl; rw [bnd_ok' he]; rfl) h
theorem g_lookup {t : TypeId} {x y : Operand} {c : Bool} {vx vy v : Value} (K : Kn nt df pk l a) (hd : d.blt nt = true) (hx : lookO l x = some vx) (hy : lookO l y = some vy) (he : eLookup P t vx vy c s = .ok v s1)
    (h : ∀ a', Kn nt df pk ((d, v) :: l) a' → AfterOps P X ops rd Q (goOps P X ops rest a' s1)) : AfterOps P X ops rd Q (goOps P X ops (⟨some d, .lookup t x y c, ty, pos, af, none⟩ :: rest) a s) :=
  g_val K hd (by rw [eop_lookup, K.op hx, K.op hy]; unfold vl; rw [bnd_ok' he]; rfl) h
theorem g_mapUpdate {t : TypeId} {x y z : Operand} {vx vy vz : Value} (K : Kn nt df pk l a) (hx : lookO l x = some vx) (hy : lookO l y = some vy) (hz : lookO l z = some vz) (he : eMapUpdate P t vx vy vz s = .ok () s1)
    (h : AfterOps P X ops rd Q (goOps P X ops rest a s1)) : AfterOps P X ops rd Q (goOps P X ops (⟨none, .mapUpdate t x y z, ty, pos, af, none⟩ :: rest) a s) :=
  g_skip (by rw [eop_mapUpdate, K.op hx, K.op hy, K.op hz, bnd_ok' he]; rfl) h
theorem g_makeFunc {f : FuncId} {first cap : Array Operand} {vf vc : List Value} (K : Kn nt df pk l a) (hd : d.blt nt = true) (hf : lookL l first.toList = some vf) (hc : lookL l cap.toList = some vc)
    (h : ∀ a', Kn nt df pk ((d, .func (.func f) ⟨vf⟩ ⟨vc⟩) :: l) a' → AfterOps P X ops rd Q (goOps P X ops rest a' s)) : AfterOps P X ops rd Q (goOps P X ops (⟨some d, .makeFunc (.func f) first cap, ty, pos, af, none⟩ :: rest) a s) :=
  g_val K hd (by rw [eop_makeFunc, K.args hf, K.args hc]; rfl) h
theorem g_makeInterface {t : TypeId} {x : Operand} {v : Value} (K : Kn nt df pk l a) (hd : d.blt nt = true) (hx : lookO l x = some v) (hu : (match und P t with | some (.interface _) | none => false | some _ => true) = true)
    (h : ∀ a', Kn nt df pk ((d, .iface t v) :: l) a' → AfterOps P X ops rd Q (goOps P X ops rest a' s)) : AfterOps P X ops rd Q (goOps P X ops (⟨some d, .makeInterface t x, ty, pos, af, none⟩ :: rest) a s) :=
  g_val K hd (by rw [eop_makeInterface _ _ _ _ _ _ _ _ hu, K.op hx]; rfl) h
theorem g_typeAssert {x : Operand} {u t : TypeId} {c : Bool} {vx v : Value} (K : Kn nt df pk l a) (hd : d.blt nt = true) (hx : lookO l x = some vx) (he : eTypeAssert P vx t c = some v)
    (h : ∀ a', Kn nt df pk ((d, v) :: l) a' → AfterOps P X ops rd Q (goOps P X ops rest a' s)) : AfterOps P X ops rd Q (goOps P X ops (⟨some d, .typeAssert x u t c, ty, pos, af, none⟩ :: rest) a s) :=
  g_val K hd (by rw [eop_typeAssert, K.op hx, he]; rfl) h
theorem g_extract {t : Operand} {i : Nat} {vs : Array Value} {v : Value} (K : Kn nt df pk l a) (hd : d.blt nt = true) (hx : lookO l t = some (.tuple vs)) (hi : nth vs.toList i = some v) (hv : notTup v = true)
    (h : ∀ a', Kn nt df pk ((d, v) :: l) a' → AfterOps P X ops rd Q (goOps P X ops rest a' s)) : AfterOps P X ops rd Q (goOps P X ops (⟨some d, .extract t i, ty, pos, af, none⟩ :: rest) a s) :=
  g_val K hd (by rw [eop_extract _ _ _ _ _ _ _ _ (K.op hx) hi hv]; rfl) h
theorem g_slice {t : TypeId} {x : Operand} {lo hi mx : Option Operand} {vx v : Value} (K : Kn nt df pk l a) (hd : d.blt nt = true) (hx : lookO l x = some vx) {vl0 vh0 vm0 : Option Value} (h1 : lo.map (evalO a.tm) = vl0) (h2 : hi.map (evalO a.tm) = vh0) (h3 : mx.map (evalO a.tm) = vm0)
    (he : eSlice P t vx vl0 vh0 vm0 s = .ok v s1)
    (h : ∀ a', Kn nt df pk ((d, v) :: l) a' → AfterOps P X ops rd Q (goOps P X ops rest a' s1)) : AfterOps P X ops rd Q (goOps P X ops (⟨some d, .slice t x lo hi mx, ty, pos, af, none⟩ :: rest) a s) :=
  g_val K hd (by rw [eop_slice, K.op hx, h1, h2, h3]; unfold vl; rw [bnd_ok' he]; rfl) h
theorem g_builtin {b : Builtin} {args : Array Operand} {ts : Array TypeId} {vs : List Value} {v : Value} (K : Kn nt df pk l a) (hd : d.blt nt = true) (ha : lookL l args.toList = some vs) (he : eBuiltin P b ts ⟨vs⟩ s = .ok (.val v) s1)
    (h : ∀ a', Kn nt df pk ((d, v) :: l) a' → AfterOps P X ops rd Q (goOps P X ops rest a' s1)) : AfterOps P X ops rd Q (goOps P X ops (⟨some d, .call ⟨.builtin b, args, ts⟩, ty, pos, af, none⟩ :: rest) a s) :=
  g_val K hd (by rw [eop_callB, K.args ha, he]) h

/-! calls -/
theorem g_callv {f : Operand} {args : Array Operand} {ts : Array TypeId} {vs : List Value} {k : FuncId} {first cap : Array Value} {v : Value} {pk' : PK} (K : Kn nt df pk l a) (hd : d.blt nt = true) (hf : lookO l f = some (.func (.func k) first cap)) (ha : lookL l args.toList = some vs)
    (hx : X.x k = 0) (hb : hasBody P k = true) (hr : Run P X (.call k ((first.toList ++ vs) ++ cap.toList) .no) s (.ret v pk' s1))
    (h : ∀ a', Kn nt df pk ((d, v) :: l) a' → AfterOps P X ops rd Q (goOps P X ops rest a' s1)) : AfterOps P X ops rd Q (goOps P X ops (⟨some d, .call ⟨.value f, args, ts⟩, ty, pos, af, none⟩ :: rest) a s) := by
  unfold goOps
  rw [want_none, eop_callF _ _ _ _ _ _ _ _ _ (K.op hf), K.args ha, callF_enter hx hb]
  exact after_call hr (h _ (K.put hd v))
theorem g_calls {f : Operand} {args : Array Operand} {ts : Array TypeId} {vs : List Value} {k : FuncId} {first cap : Array Value} {v : Value} (K : Kn nt df pk l a) (hd : d.blt nt = true) (hf : lookO l f = some (.func (.func k) first cap)) (ha : lookL l args.toList = some vs)
    (hx : X.x k = 8) (hb : hasBody P k = true) (hm : X.m k ((first.toList ++ vs) ++ cap.toList) = some v) (hp : (plainL ((first.toList ++ vs) ++ cap.toList) && plain v) = true)
    (h : ∀ a', Kn nt df pk ((d, v) :: l) a' → AfterOps P X ops rd Q (goOps P X ops rest a' s)) : AfterOps P X ops rd Q (goOps P X ops (⟨some d, .call ⟨.value f, args, ts⟩, ty, pos, af, none⟩ :: rest) a s) := by
  unfold goOps
  rw [want_none, eop_callF _ _ _ _ _ _ _ _ _ (K.op hf), K.args ha, callF_sum hx hb hm hp]
  exact h _ (K.put hd v)
theorem g_callh {f : Operand} {args : Array Operand} {ts : Array TypeId} {vs : List Value} {k : FuncId} {first cap : Array Value} {v : Value} {m : WM} (K : Kn nt df pk l a) (hd : d.blt nt = true) (hf : lookO l f = some (.func (.func k) first cap)) (ha : lookL l args.toList = some vs)
    (hx : X.x k = 9) (hb : hasBody P k = true) (hm : X.h k ((first.toList ++ vs) ++ cap.toList) = some m) (hr : m.run s = .ok v s1)
    (h : ∀ a', Kn nt df pk ((d, v) :: l) a' → AfterOps P X ops rd Q (goOps P X ops rest a' s1)) : AfterOps P X ops rd Q (goOps P X ops (⟨some d, .call ⟨.value f, args, ts⟩, ty, pos, af, none⟩ :: rest) a s) := by
  unfold goOps
  rw [want_none, eop_callF _ _ _ _ _ _ _ _ _ (K.op hf), K.args ha, callF_heap hx hb hm]
  simp only [EM.ret, hr]
  exact h _ (K.put hd v)
theorem g_callx {f : Operand} {args : Array Operand} {ts : Array TypeId} {vs : List Value} {k : FuncId} {first cap : Array Value} {v : Value} (K : Kn nt df pk l a) (hd : d.blt nt = true) (hf : lookO l f = some (.func (.func k) first cap)) (ha : lookL l args.toList = some vs)
    (he : eCallFunc P X k ((first.toList ++ vs) ++ cap.toList) s = .ok (.val v) s1)
    (h : ∀ a', Kn nt df pk ((d, v) :: l) a' → AfterOps P X ops rd Q (goOps P X ops rest a' s1)) : AfterOps P X ops rd Q (goOps P X ops (⟨some d, .call ⟨.value f, args, ts⟩, ty, pos, af, none⟩ :: rest) a s) :=
  g_val K hd (by rw [eop_callF _ _ _ _ _ _ _ _ _ (K.op hf), K.args ha]; exact he) h
theorem g_callk {f : Operand} {args : Array Operand} {ts : Array TypeId} {vs : List Value} {k g : FuncId} {first cap : Array Value} {v : Value} {e : TypeId} {m : Addr} (K : Kn nt df pk l a) (hd : d.blt nt = true) (hf : lookO l f = some (.func (.func k) first cap)) (ha : lookL l args.toList = some vs)
    (he : eCallFunc P X k ((first.toList ++ vs) ++ cap.toList) s = .ok (.keys k g m) s) (hel : elemOf P k = some e) (hk : eSortedKeys e m s = .ok v s1)
    (h : ∀ a', Kn nt df pk ((d, v) :: l) a' → AfterOps P X ops rd Q (goOps P X ops rest a' s1)) : AfterOps P X ops rd Q (goOps P X ops (⟨some d, .call ⟨.value f, args, ts⟩, ty, pos, af, none⟩ :: rest) a s) := by
  unfold goOps
  rw [want_none, eop_callF _ _ _ _ _ _ _ _ _ (K.op hf), K.args ha, he]
  simp only [hel, hk]
  exact h _ (K.put hd v)
end

/-! the results -/
def retV : List Value → Value
  | [v] => v
  | vs => .tuple ⟨vs⟩
section
variable {st : Tr EObj} {n : Nat} {lg : List Nat} {P : Program} {nt : Nat} {df : List Deferred} {pk : PK} {l : List (Nat × Value)} {a : Fr} {s : ES}
theorem res_tmp {t : Tmp} {rs : List ResultVar} {v : Value} {vs : List Value} (K : Kn nt df pk l a) (h : lk t l = some v) (h2 : resL P a.tm rs s = .ok vs s) : resL P a.tm (.tmp t :: rs) s = .ok (v :: vs) s := by
  unfold resL
  rw [bnd_ok' h2, evalO_tmp, K.tm _ _ h]
  rfl
theorem res_cell1 {t : TypeId} {x : Tmp} {rs : List ResultVar} {b off z : Nat} {c : List Value} {e : TypeId} {v : Value} {vs : List Value} (K : Kn nt df pk l a) (h : lk x l = some (.pointer (some ⟨b, off, none⟩))) (ha : aggT P t = some false) (hs : siz P t = some z)
    (hg : st.get b = some (.cells c e)) (hv : nth c off = some v) (h2 : resL P a.tm rs ⟨st, n, lg⟩ = .ok vs ⟨st, n, lg⟩) : resL P a.tm (.cell x t :: rs) ⟨st, n, lg⟩ = .ok (v :: vs) ⟨st, n, lg⟩ := by
  unfold resL
  rw [evalO_tmp, K.tm _ _ h, sureA_some, bnd_ret, bnd_ok' (rd_one ha hs hg hv), bnd_ok' h2]
  rfl
theorem res_cellA {t : TypeId} {x : Tmp} {rs : List ResultVar} {b off z : Nat} {c c' : List Value} {e : TypeId} {vs : List Value} (K : Kn nt df pk l a) (h : lk x l = some (.pointer (some ⟨b, off, none⟩))) (ha : aggT P t = some true) (hs : siz P t = some z)
    (hg : st.get b = some (.cells c e)) (hl : (Nat.add off z).ble c.length = true) (hc : cut c off z = c') (h2 : resL P a.tm rs ⟨st, n, lg⟩ = .ok vs ⟨st, n, lg⟩) : resL P a.tm (.cell x t :: rs) ⟨st, n, lg⟩ = .ok (.agg ⟨c'⟩ :: vs) ⟨st, n, lg⟩ := by
  unfold resL
  rw [evalO_tmp, K.tm _ _ h, sureA_some, bnd_ret, bnd_ok' (rd_agg ha hs hg hl), bnd_ok' h2, hc]
  rfl
theorem res_nil {tm : Tr Value} : resL P tm [] s = .ok [] s := rfl
theorem results_ok {fn : Func} {rs : List ResultVar} {tm : Tr Value} {vs : List Value} (hf : fn.results.toList = rs) (h : resL P tm rs s = .ok vs s) : eResults P fn tm s = .ok (retV vs) s := by
  unfold eResults
  rw [hf, bnd_ok' h]
  cases vs with
  | nil => rfl
  | cons v vs => cases vs <;> rfl
/-- leaving -/
theorem leave {fn : Func} {Q : Out → Prop} {rs : List ResultVar} {vs : List Value} (K : Kn nt [] pk l a) (hf : fn.results.toList = rs) (h : resL P a.tm rs s = .ok vs s) (hq : Q (.ret (retV vs) pk s)) : FnK P fn Q (.code .ret a s) := by
  refine ⟨K.df, _, results_ok hf h, ?_⟩
  rw [K.pk]; exact hq
theorem leaveN {fn : Func} {Q : Out → Prop} {rs : List ResultVar} {vs : List Value} (K : Kn nt [] pk l a) (hf : fn.results.toList = rs) (h : resL P a.tm rs s = .ok vs s) (hq : Q (.ret (retV vs) pk s)) : FnK P fn Q (.code .normal a s) := by
  refine ⟨K.df, _, results_ok hf h, ?_⟩
  rw [K.pk]; exact hq
theorem k_cond {P : Program} {X : Ctx} {c : Operand} {x y : Code} {rd : Option Nat} {Q : Out → Prop} {t : Bool} (K : Kn nt df pk l a) (hc : lookO l c = some (.bool t)) (h : Exq P X (.code (bif t then x else y) rd a) s Q) : Exq P X (.code (.cond c x y) rd a) s Q :=
  ex_cond (K.op hc) h
theorem ex_callK {P : Program} {X : Ctx} {f : FuncId} {fn : Func} {c : Code} {nt : Nat} {args : List Value} {pk : PK} {s : ES} {Q : Out → Prop} (hf : P.funcs[f]? = some fn) (hb : fn.body = some c) (hn : fn.ntmps = nt) (hl : args.length.ble nt = true)
    (h : ∀ a, Kn nt [] pk (argsL 0 args) a → Exq P X (.code c none a) s (FnK P fn Q)) : Exq P X (.call f args pk) s Q :=
  ex_call hf hb hn (h _ (kn_new hl))
end
end Go.E

namespace Go.E

section
variable {P : Program} {X : Ctx} {nt : Nat} {df : List Deferred} {pk : PK} {l : List (Nat × Value)} {a : Fr}
variable {st : Tr EObj} {n : Nat} {lg : List Nat} {ops rest : List Oper} {rd : Option Nat} {Q : Out → Prop} {s s1 : ES} {d : Tmp} {ty : TypeId} {pos : String} {af : Array Edge}

/-- a call of which something is known -/
def CallK (P : Program) (X : Ctx) (ops : List Oper) (rest : List Oper) (rd : Option Nat) (Q : Out → Prop) (nt : Nat) (df : List Deferred) (pk : PK) (l : List (Nat × Value)) (d : Tmp) : Out → Prop
  | .ret v _ s => ∀ a', Kn nt df pk ((d, v) :: l) a' → AfterOps P X ops rd Q (goOps P X ops rest a' s)
  | _ => False
theorem g_callq {f : Operand} {args : Array Operand} {ts : Array TypeId} {vs : List Value} {k : FuncId} {first cap : Array Value} (K : Kn nt df pk l a) (hd : d.blt nt = true) (hf : lookO l f = some (.func (.func k) first cap)) (ha : lookL l args.toList = some vs)
    (hx : X.x k = 0) (hb : hasBody P k = true) (hr : Exq P X (.call k ((first.toList ++ vs) ++ cap.toList) .no) s (CallK P X ops rest rd Q nt df pk l d)) :
    AfterOps P X ops rd Q (goOps P X ops (⟨some d, .call ⟨.value f, args, ts⟩, ty, pos, af, none⟩ :: rest) a s) := by
  obtain ⟨o, h1, h2⟩ := hr
  cases o with
  | ret v pk' s1 => exact g_callv K hd hf ha hx hb h1 h2
  | _ => exact h2.elim

/-! regions whose order is drawn -/
def DRun (P : Program) (X : Ctx) (ops : List Oper) (b : Array Nat) (rd : Option Nat) (l : List Oper) (j : Nat) (a : Fr) (s : ES) (hist : List DRec) (o : Out) : Prop := ∃ N, ∀ k, dGo P X (ev P X (N + k)) ops b rd l j a s hist = o
def Dq (P : Program) (X : Ctx) (ops : List Oper) (b : Array Nat) (rd : Option Nat) (l : List Oper) (j : Nat) (a : Fr) (s : ES) (hist : List DRec) (Q : Out → Prop) : Prop := ∃ o, DRun P X ops b rd l j a s hist o ∧ Q o

theorem ex_draw {id : Nat} {ops : Array Oper} (hok : dOkAll ops = true) (h : Dq P X ops.toList (Region.before ops) rd ops.toList 0 a s [] Q) : Exq P X (.code (.region id ops true) rd a) s Q := by
  obtain ⟨o, ⟨N, h1⟩, h2⟩ := h
  refine ⟨o, ⟨N + 1, fun k => ?_⟩, h2⟩
  rw [show N + 1 + k = (N + k) + 1 by omega]
  show dReg P X (ev P X (N + k)) ops rd a s = o
  unfold dReg
  rw [hok]
  exact h1 k
variable {b : Array Nat} {j : Nat} {hist : List DRec}
theorem d_end (h : Q (.code .normal a s)) : Dq P X ops b rd [] j a s hist Q := ⟨_, ⟨0, fun _ => rfl⟩, h⟩
theorem d_loc {st1 : Tr EObj} {n1 : Nat} {lg1 : List Nat} {op : Op} {v : Value} (K : Kn nt df pk l a) (hd : d.blt nt = true) (hb : bigOp op = false) (he : eop P X (evalO a.tm) ⟨some d, op, ty, pos, af, none⟩ ⟨st, n, lg⟩ = .ok (.val v) ⟨st1, n1, lg1⟩) {ns : List Nat} (hns : readsOf (evalO a.tm) op = ns)
    (hh : histOk b j ⟨false, ns, n, n1⟩ j hist = true)
    (h : ∀ a', Kn nt df pk ((d, v) :: l) a' → Dq P X ops b rd rest (Nat.succ j) a' ⟨st1, n1, lg1⟩ (⟨false, ns, n, n1⟩ :: hist) Q) : Dq P X ops b rd (⟨some d, op, ty, pos, af, none⟩ :: rest) j a ⟨st, n, lg⟩ hist Q := by
  obtain ⟨o, ⟨N, h1⟩, h2⟩ := h _ (K.put hd v)
  refine ⟨o, ⟨N, fun k => ?_⟩, h2⟩
  unfold dGo
  rw [want_none]
  simp only [hb, cond_false]
  rw [he]
  unfold dLoc dNext
  simp only
  rw [hns, hh]
  exact h1 k
/-- an operation that may change memory, without a call -/
theorem d_bigv {st1 : Tr EObj} {n1 : Nat} {lg1 : List Nat} {op : Op} {v : Value} (K : Kn nt df pk l a) (hd : d.blt nt = true) (hb : bigOp op = true) (he : eop P X (evalO a.tm) ⟨some d, op, ty, pos, af, none⟩ ⟨st, n, []⟩ = .ok (.val v) ⟨st1, n1, lg1⟩)
    (hh : histOk b j ⟨true, lg1, n, n1⟩ j hist = true)
    (h : ∀ a', Kn nt df pk ((d, v) :: l) a' → Dq P X ops b rd rest (Nat.succ j) a' ⟨st1, n1, lg1 ++ lg⟩ (⟨true, lg1, n, n1⟩ :: hist) Q) : Dq P X ops b rd (⟨some d, op, ty, pos, af, none⟩ :: rest) j a ⟨st, n, lg⟩ hist Q := by
  obtain ⟨o, ⟨N, h1⟩, h2⟩ := h _ (K.put hd v)
  refine ⟨o, ⟨N, fun k => ?_⟩, h2⟩
  unfold dGo
  rw [want_none]
  simp only [hb, cond_true]
  rw [he]
  unfold one dBig dNext
  simp only
  rw [hh]
  exact h1 k
theorem d_bigs {st1 : Tr EObj} {n1 : Nat} {lg1 : List Nat} {op : Op} (hb : bigOp op = true) (he : eop P X (evalO a.tm) ⟨none, op, ty, pos, af, none⟩ ⟨st, n, []⟩ = .ok .skip ⟨st1, n1, lg1⟩)
    (hh : histOk b j ⟨true, lg1, n, n1⟩ j hist = true)
    (h : Dq P X ops b rd rest (Nat.succ j) a ⟨st1, n1, lg1 ++ lg⟩ (⟨true, lg1, n, n1⟩ :: hist) Q) : Dq P X ops b rd (⟨none, op, ty, pos, af, none⟩ :: rest) j a ⟨st, n, lg⟩ hist Q := by
  obtain ⟨o, ⟨N, h1⟩, h2⟩ := h
  refine ⟨o, ⟨N, fun k => ?_⟩, h2⟩
  unfold dGo
  rw [want_none]
  simp only [hb, cond_true]
  rw [he]
  unfold one dBig dNext
  simp only
  rw [hh]
  exact h1 k
theorem d_call {st1 : Tr EObj} {n1 : Nat} {lg1 : List Nat} {f : Operand} {args : Array Operand} {ts : Array TypeId} {vs : List Value} {kf : FuncId} {first cap : Array Value} {v : Value} {pk' : PK} (K : Kn nt df pk l a) (hd : d.blt nt = true) (hf : lookO l f = some (.func (.func kf) first cap)) (ha : lookL l args.toList = some vs)
    (hx : X.x kf = 0) (hbd : hasBody P kf = true) (hr : Run P X (.call kf ((first.toList ++ vs) ++ cap.toList) .no) ⟨st, n, []⟩ (.ret v pk' ⟨st1, n1, lg1⟩))
    (hh : histOk b j ⟨true, lg1, n, n1⟩ j hist = true)
    (h : ∀ a', Kn nt df pk ((d, v) :: l) a' → Dq P X ops b rd rest (Nat.succ j) a' ⟨st1, n1, lg1 ++ lg⟩ (⟨true, lg1, n, n1⟩ :: hist) Q) :
    Dq P X ops b rd (⟨some d, .call ⟨.value f, args, ts⟩, ty, pos, af, none⟩ :: rest) j a ⟨st, n, lg⟩ hist Q := by
  obtain ⟨o, ⟨N, h1⟩, h2⟩ := h _ (K.put hd v)
  obtain ⟨M, h3⟩ := hr
  refine ⟨o, ⟨N + M, fun k => ?_⟩, h2⟩
  unfold dGo
  rw [want_none]
  have hb : bigOp (.call ⟨.value f, args, ts⟩) = true := rfl
  simp only [hb, cond_true]
  rw [eop_callF _ _ _ _ _ _ _ _ _ (K.op hf), K.args ha, callF_enter hx hbd]
  unfold one
  simp only [EM.ret]
  rw [show N + M + k = M + (N + k) by omega, h3 (N + k)]
  unfold oCall dBig dNext
  simp only
  rw [hh]
  have := h1 (M + k)
  rw [show N + (M + k) = M + (N + k) by omega] at this
  exact this
end
end Go.E

namespace Go.E

/-! the same, for drawn regions -/
section
variable {P : Program} {X : Ctx} {nt : Nat} {df : List Deferred} {pk : PK} {l : List (Nat × Value)} {a : Fr}
variable {st : Tr EObj} {n : Nat} {lg : List Nat} {s s1 : ES} {d : Tmp} {ty : TypeId} {pos : String} {af : Array Edge}
theorem e_move {x : Operand} {v : Value} (K : Kn nt df pk l a)  (hx : lookO l x = some v) :
    eop P X (evalO a.tm) ⟨some d, .move x, ty, pos, af, none⟩ s = .ok (.val (v)) s := (by rw [eop_move, K.op hx]; rfl)
theorem e_assign {x : Operand} {v : Value} (K : Kn nt df pk l a)  (hx : lookO l x = some v) :
    eop P X (evalO a.tm) ⟨some d, .assign x, ty, pos, af, none⟩ s = .ok (.val (v)) s := (by rw [eop_assign, K.op hx]; rfl)
theorem e_pick {c x y : Operand} {b : Bool} {v : Value} (K : Kn nt df pk l a)  (hc : lookO l c = some (.bool b)) (hx : lookO l (bif b then x else y) = some v) :
    eop P X (evalO a.tm) ⟨some d, .pick c x y, ty, pos, af, none⟩ s = .ok (.val (v)) s := (by
    rw [eop_pick _ _ _ _ _ _ _ _ _ (K.op hc)]
    have : (bif b then evalO a.tm x else evalO a.tm y) = v := by rw [← K.op hx]; cases b <;> rfl
    rw [this]; rfl)
theorem e_alloc {e : TypeId} {z : Value} (K : Kn nt df pk l a)  (hz : zer P e = some z) :
    eop P X (evalO a.tm) ⟨some d, .alloc e, ty, pos, af, none⟩ ⟨st, n, lg⟩ = .ok (.val (.pointer (some ⟨n, 0, none⟩))) ⟨st.upd n (some (.cells z.cells.toList e)), n + 1, lg⟩ := (by rw [eop_alloc _ _ _ _ _ _ _ hz]; rfl)
theorem e_box {e : TypeId} {x : Operand} {v : Value} (K : Kn nt df pk l a)  (hx : lookO l x = some v) (hv : notTup v = true) :
    eop P X (evalO a.tm) ⟨some d, .box e x, ty, pos, af, none⟩ ⟨st, n, lg⟩ = .ok (.val (.pointer (some ⟨n, 0, none⟩))) ⟨st.upd n (some (.cells v.cells.toList e)), n + 1, lg⟩ := (by rw [eop_box _ _ _ _ _ _ _ _ (by rw [K.op hx]; exact hv), K.op hx]; rfl)
theorem e_makeMap {t : TypeId} (K : Kn nt df pk l a) :
    eop P X (evalO a.tm) ⟨some d, .makeMap t none, ty, pos, af, none⟩ ⟨st, n, lg⟩ = .ok (.val (.map (some n))) ⟨st.upd n (some (.map [] 0)), n + 1, lg⟩ := rfl
theorem e_build {t : TypeId} {ps : Array (Nat × Operand)} {vs : List (Nat × Value)} {v : Value} (K : Kn nt df pk l a)  (hp : lookP l ps.toList = some vs) (hb : eBuild P t vs = some v) :
    eop P X (evalO a.tm) ⟨some d, .build t ps, ty, pos, af, none⟩ s = .ok (.val (v)) s := (by rw [eop_build, K.parts hp, hb]; rfl)
theorem e_buildSlice {t : TypeId} {n : Nat} {ps : Array (Nat × Operand)} {vs : List (Nat × Value)} {v : Value} (K : Kn nt df pk l a)  (hp : lookP l ps.toList = some vs) (hb : eBuildSlice P t n vs s = .ok v s1) :
    eop P X (evalO a.tm) ⟨some d, .buildSlice t n ps, ty, pos, af, none⟩ s = .ok (.val (v)) s1 := (by rw [eop_buildSlice, K.parts hp]; unfold vl; rw [bnd_ok' hb]; rfl)
theorem e_load1 {t : TypeId} {x : Operand} {b off z : Nat} {c : List Value} {e : TypeId} {v : Value} (K : Kn nt df pk l a)  (hx : lookO l x = some (.pointer (some ⟨b, off, none⟩)))
    (ha : aggT P t = some false) (hs : siz P t = some z) (hg : st.get b = some (.cells c e)) (hv : nth c off = some v) :
    eop P X (evalO a.tm) ⟨some d, .load t x, ty, pos, af, none⟩ ⟨st, n, lg⟩ = .ok (.val (v)) ⟨st, n, lg⟩ := (by rw [eop_load, K.op hx, sureA_some, bnd_ret]; unfold vl; rw [bnd_ok' (rd_one ha hs hg hv)]; rfl)
theorem e_loadA {t : TypeId} {x : Operand} {b off z : Nat} {c c' : List Value} {e : TypeId} (K : Kn nt df pk l a)  (hx : lookO l x = some (.pointer (some ⟨b, off, none⟩)))
    (ha : aggT P t = some true) (hs : siz P t = some z) (hg : st.get b = some (.cells c e)) (hl : (Nat.add off z).ble c.length = true) (hc : cut c off z = c') :
    eop P X (evalO a.tm) ⟨some d, .load t x, ty, pos, af, none⟩ ⟨st, n, lg⟩ = .ok (.val (.agg ⟨c'⟩)) ⟨st, n, lg⟩ := (by rw [eop_load, K.op hx, sureA_some, bnd_ret]; unfold vl; rw [bnd_ok' (rd_agg ha hs hg hl), hc]; rfl)
theorem e_store {t : TypeId} {x y : Operand} {b off z : Nat} {c c' : List Value} {e : TypeId} {v : Value} (K : Kn nt df pk l a) (hx : lookO l x = some (.pointer (some ⟨b, off, none⟩))) (hy : lookO l y = some v)
    (hs : siz P t = some z) (hn : z.beq v.cells.size = true) (hg : st.get b = some (.cells c e)) (hl : ((Nat.add off v.cells.toList.length).ble c.length && v.cells.toList.all okCell) = true)
    (hc : c.take off ++ v.cells.toList ++ c.drop (Nat.add off v.cells.toList.length) = c') :
    eop P X (evalO a.tm) ⟨none, .store t x y, ty, pos, af, none⟩ ⟨st, n, lg⟩ = .ok .skip ⟨st.upd b (some (.cells c' e)), n, b :: lg⟩ := (by rw [eop_store, K.op hx, K.op hy, sureA_some, bnd_ret, bnd_ok' (wr_ok hs hn hg hl), hc]; rfl)
theorem e_nilCheck {x : Operand} {ad : Addr} (K : Kn nt df pk l a)  (hx : lookO l x = some (.pointer (some ad))) :
    eop P X (evalO a.tm) ⟨some d, .nilCheck x, ty, pos, af, none⟩ s = .ok (.val (.pointer (some ad))) s := (by rw [eop_nilCheck _ _ _ _ _ _ _ (K.op hx)]; rfl)
theorem e_fieldAddr {t : TypeId} {x : Operand} {f : Nat} {vx v : Value} (K : Kn nt df pk l a)  (hx : lookO l x = some vx) (he : eFieldAddr P t vx f = some v) :
    eop P X (evalO a.tm) ⟨some d, .fieldAddr t x f, ty, pos, af, none⟩ s = .ok (.val (v)) s := (by rw [eop_fieldAddr, K.op hx, he]; rfl)
theorem e_field {t : TypeId} {x : Operand} {f : Nat} {vx v : Value} (K : Kn nt df pk l a)  (hx : lookO l x = some vx) (he : eField P t vx f = some v) :
    eop P X (evalO a.tm) ⟨some d, .field t x f, ty, pos, af, none⟩ s = .ok (.val (v)) s := (by rw [eop_field, K.op hx, he]; rfl)
theorem e_indexAddr {t : TypeId} {x y : Operand} {vx vy v : Value} (K : Kn nt df pk l a)  (hx : lookO l x = some vx) (hy : lookO l y = some vy) (he : eIndexAddr P t vx vy = some v) :
    eop P X (evalO a.tm) ⟨some d, .indexAddr t x y, ty, pos, af, none⟩ s = .ok (.val (v)) s := (by rw [eop_indexAddr, K.op hx, K.op hy, he]; rfl)
theorem e_index {t : TypeId} {x y : Operand} {vx vy v : Value} (K : Kn nt df pk l a)  (hx : lookO l x = some vx) (hy : lookO l y = some vy) (he : eIndex P t vx vy = some v) :
    eop P X (evalO a.tm) ⟨some d, .index t x y, ty, pos, af, none⟩ s = .ok (.val (v)) s := (by rw [eop_index, K.op hx, K.op hy, he]; rfl)
theorem e_binOp {op : BinOp} {t u : TypeId} {x y : Operand} {vx vy v : Value} (K : Kn nt df pk l a)  (hx : lookO l x = some vx) (hy : lookO l y = some vy) (he : eBin P op t x y vx vy = some v) :
    eop P X (evalO a.tm) ⟨some d, .binOp op t x y u, ty, pos, af, none⟩ s = .ok (.val (v)) s := (by rw [eop_binOp, K.op hx, K.op hy, he]; rfl)
theorem e_unOp {op : UnOp} {t : TypeId} {x : Operand} {vx v : Value} (K : Kn nt df pk l a)  (hx : lookO l x = some vx) (he : eUn op vx = some v) :
    eop P X (evalO a.tm) ⟨some d, .unOp op t x, ty, pos, af, none⟩ s = .ok (.val (v)) s := (by rw [eop_unOp, K.op hx, he]; rfl)
theorem e_convert {t u : TypeId} {x : Operand} {vx v : Value} (K : Kn nt df pk l a)  (hx : lookO l x = some vx) (he : eConvert P t u vx s = .ok v s1) :
    eop P X (evalO a.tm) ⟨some d, .convert t u x, ty, pos, af, none⟩ s = .ok (.val (v)) s1 := (by rw [eop_convert, K.op hx]; unfold vl; rw [bnd_ok' he]; rfl)
theorem e_lookup {t : TypeId} {x y : Operand} {c : Bool} {vx vy v : Value} (K : Kn nt df pk l a)  (hx : lookO l x = some vx) (hy : lookO l y = some vy) (he : eLookup P t vx vy c s = .ok v s1) :
    eop P X (evalO a.tm) ⟨some d, .lookup t x y c, ty, pos, af, none⟩ s = .ok (.val (v)) s1 := (by rw [eop_lookup, K.op hx, K.op hy]; unfold vl; rw [bnd_ok' he]; rfl)
theorem e_mapUpdate {t : TypeId} {x y z : Operand} {vx vy vz : Value} (K : Kn nt df pk l a) (hx : lookO l x = some vx) (hy : lookO l y = some vy) (hz : lookO l z = some vz) (he : eMapUpdate P t vx vy vz s = .ok () s1) :
    eop P X (evalO a.tm) ⟨none, .mapUpdate t x y z, ty, pos, af, none⟩ s = .ok .skip s1 := (by rw [eop_mapUpdate, K.op hx, K.op hy, K.op hz, bnd_ok' he]; rfl)
theorem e_makeFunc {f : FuncId} {first cap : Array Operand} {vf vc : List Value} (K : Kn nt df pk l a)  (hf : lookL l first.toList = some vf) (hc : lookL l cap.toList = some vc) :
    eop P X (evalO a.tm) ⟨some d, .makeFunc (.func f) first cap, ty, pos, af, none⟩ s = .ok (.val (.func (.func f) ⟨vf⟩ ⟨vc⟩)) s := (by rw [eop_makeFunc, K.args hf, K.args hc]; rfl)
theorem e_makeInterface {t : TypeId} {x : Operand} {v : Value} (K : Kn nt df pk l a)  (hx : lookO l x = some v) (hu : (match und P t with | some (.interface _) | none => false | some _ => true) = true) :
    eop P X (evalO a.tm) ⟨some d, .makeInterface t x, ty, pos, af, none⟩ s = .ok (.val (.iface t v)) s := (by rw [eop_makeInterface _ _ _ _ _ _ _ _ hu, K.op hx]; rfl)
theorem e_typeAssert {x : Operand} {u t : TypeId} {c : Bool} {vx v : Value} (K : Kn nt df pk l a)  (hx : lookO l x = some vx) (he : eTypeAssert P vx t c = some v) :
    eop P X (evalO a.tm) ⟨some d, .typeAssert x u t c, ty, pos, af, none⟩ s = .ok (.val (v)) s := (by rw [eop_typeAssert, K.op hx, he]; rfl)
theorem e_extract {t : Operand} {i : Nat} {vs : Array Value} {v : Value} (K : Kn nt df pk l a)  (hx : lookO l t = some (.tuple vs)) (hi : nth vs.toList i = some v) (hv : notTup v = true) :
    eop P X (evalO a.tm) ⟨some d, .extract t i, ty, pos, af, none⟩ s = .ok (.val (v)) s := (by rw [eop_extract _ _ _ _ _ _ _ _ (K.op hx) hi hv]; rfl)
theorem e_slice {t : TypeId} {x : Operand} {lo hi mx : Option Operand} {vx v : Value} (K : Kn nt df pk l a)  (hx : lookO l x = some vx) {vl0 vh0 vm0 : Option Value} (h1 : lo.map (evalO a.tm) = vl0) (h2 : hi.map (evalO a.tm) = vh0) (h3 : mx.map (evalO a.tm) = vm0)
    (he : eSlice P t vx vl0 vh0 vm0 s = .ok v s1) :
    eop P X (evalO a.tm) ⟨some d, .slice t x lo hi mx, ty, pos, af, none⟩ s = .ok (.val (v)) s1 := (by rw [eop_slice, K.op hx, h1, h2, h3]; unfold vl; rw [bnd_ok' he]; rfl)
theorem e_builtin {b : Builtin} {args : Array Operand} {ts : Array TypeId} {vs : List Value} {v : Value} (K : Kn nt df pk l a)  (ha : lookL l args.toList = some vs) (he : eBuiltin P b ts ⟨vs⟩ s = .ok (.val v) s1) :
    eop P X (evalO a.tm) ⟨some d, .call ⟨.builtin b, args, ts⟩, ty, pos, af, none⟩ s = .ok (.val (v)) s1 := (by rw [eop_callB, K.args ha, he])
theorem e_callx {f : Operand} {args : Array Operand} {ts : Array TypeId} {vs : List Value} {k : FuncId} {first cap : Array Value} {v : Value} (K : Kn nt df pk l a)  (hf : lookO l f = some (.func (.func k) first cap)) (ha : lookL l args.toList = some vs)
    (he : eCallFunc P X k ((first.toList ++ vs) ++ cap.toList) s = .ok (.val v) s1) :
    eop P X (evalO a.tm) ⟨some d, .call ⟨.value f, args, ts⟩, ty, pos, af, none⟩ s = .ok (.val (v)) s1 := (by rw [eop_callF _ _ _ _ _ _ _ _ _ (K.op hf), K.args ha]; exact he)
theorem n_load {t : TypeId} {x : Operand} {b off : Nat} (K : Kn nt df pk l a) (hx : lookO l x = some (.pointer (some ⟨b, off, none⟩))) : readsOf (evalO a.tm) (.load t x) = [b] := by
  unfold readsOf; simp only [K.op hx]; rfl
theorem n_lookup {t : TypeId} {x y : Operand} {c : Bool} {r : Nat} (K : Kn nt df pk l a) (hx : lookO l x = some (.map (some r))) : readsOf (evalO a.tm) (.lookup t x y c) = [r] := by
  unfold readsOf; simp only [K.op hx]; rfl
end
end Go.E

namespace Go.E

/-! ### maps, for the walks -/
section
variable {P : Program} {X : Ctx} {st : Tr EObj} {n : Nat} {lg : List Nat}
theorem lookup_ok {t kt et : TypeId} {r c : Nat} {es : List MapEntry} {k v : Value} {ok : Bool} (hu : und P t = some (.map kt et)) (hg : st.get r = some (.map es c)) (hk : keyV P 10 kt k = true) (hf : eFound P kt et k ok es = some v) :
    eLookup P t (.map (some r)) k ok ⟨st, n, lg⟩ = .ok v ⟨st, n, lg⟩ := by
  unfold eLookup
  rw [hu]
  simp only
  have : mapOf (.map (some r)) ⟨st, n, lg⟩ = .ok (es, c) ⟨st, n, lg⟩ := by
    unfold mapOf; simp only; rw [bnd_ok' (eget_ok hg)]; rfl
  rw [bnd_ok' this, hk]
  simp only [cond_true]
  rw [hf]; rfl
theorem found_none {kt et : TypeId} {k z : Value} {es : List MapEntry} {ok : Bool} (h : findE P kt k es 0 = some none) (hz : zer P et = some z) : eFound P kt et k ok es = some (bif ok then .tuple #[z, .bool false] else z) := by
  unfold eFound; rw [h, hz]; rfl
theorem found_some {kt et : TypeId} {k : Value} {es : List MapEntry} {ok : Bool} {i : Nat} {e : MapEntry} (h : findE P kt k es 0 = some (some (i, e))) : eFound P kt et k ok es = some (bif ok then .tuple #[e.val, .bool true] else e.val) := by
  unfold eFound; rw [h]
theorem update_new {t kt et : TypeId} {r c : Nat} {es : List MapEntry} {k v : Value} (hu : und P t = some (.map kt et)) (hg : st.get r = some (.map es c)) (hk : keyV P 10 kt k = true) (hf : findE P kt k es 0 = some none) :
    eMapUpdate P t (.map (some r)) k v ⟨st, n, lg⟩ = .ok () ⟨st.upd r (some (.map (es ++ [{ key := k, val := v, born := c }]) (c + 1))), n, r :: lg⟩ := by
  unfold eMapUpdate
  rw [hu]
  simp only [hk, cond_true]
  unfold eMapUpdate1
  rw [bnd_ok' (eget_ok hg)]
  simp only [hf]
  exact eset_ok hg
theorem update_old {t kt et : TypeId} {r c i : Nat} {es : List MapEntry} {e : MapEntry} {k v : Value} (hu : und P t = some (.map kt et)) (hg : st.get r = some (.map es c)) (hk : keyV P 10 kt k = true) (hf : findE P kt k es 0 = some (some (i, e))) (hs : sameE e.key k = true) :
    eMapUpdate P t (.map (some r)) k v ⟨st, n, lg⟩ = .ok () ⟨st.upd r (some (.map (putAt es i { e with key := k, val := v }) c)), n, r :: lg⟩ := by
  unfold eMapUpdate
  rw [hu]
  simp only [hk, cond_true]
  unfold eMapUpdate1
  rw [bnd_ok' (eget_ok hg)]
  simp only [hf, hs, cond_true]
  exact eset_ok hg
theorem eqB_refl : ∀ l : List UInt8, eqB l l = true
  | [] => rfl
  | a :: l => by
    simp only [eqB, eqB_refl l, Bool.and_true]
    unfold beq8; rw [Nat.beq_refl]
theorem seq_refl (s : ByteArray) : seq s s = true := eqB_refl _
theorem find_str {kt : TypeId} {s : ByteArray} {v : Value} {b : Nat} {es : List MapEntry} (hu : und P kt = some .string) : findE P kt (.string s) (⟨.string s, v, b⟩ :: es) 0 = some (some (0, ⟨.string s, v, b⟩)) := by
  unfold findE
  have : eeq P 100 kt (.string s) (.string s) = some true := by
    unfold eeq; rw [hu]; simp only; rw [seq_refl]
  simp only [this]
end
end Go.E

namespace Go.E
theorem nbeq_ne {x y : Nat} (h : x ≠ y) : Nat.beq x y = false := by rw [← Bool.not_eq_true, Nat.beq_eq]; exact h
theorem made_f {lo hi m : Nat} (h : ¬ (lo ≤ m ∧ m < hi)) : (Nat.ble lo m && Nat.blt m hi) = false := by
  rw [← Bool.not_eq_true, Bool.and_eq_true, Nat.ble_eq, Nat.blt_eq]; exact h
theorem rec_ff {ns ms : List Nat} {lo hi lo' hi' : Nat} : recOk ⟨false, ns, lo, hi⟩ ⟨false, ms, lo', hi'⟩ = !(made ms lo hi) := rfl
theorem rec_ft {ns ms : List Nat} {lo hi lo' hi' : Nat} : recOk ⟨false, ns, lo, hi⟩ ⟨true, ms, lo', hi'⟩ = !(meets ns ms) := rfl
theorem rec_tf {ns ms : List Nat} {lo hi lo' hi' : Nat} : recOk ⟨true, ns, lo, hi⟩ ⟨false, ms, lo', hi'⟩ = (!(meets ms ns) && !(made ms lo hi)) := rfl
theorem rec_tt {ns ms : List Nat} {lo hi lo' hi' : Nat} : recOk ⟨true, ns, lo, hi⟩ ⟨true, ms, lo', hi'⟩ = false := rfl
theorem hist_nil {b : Array Nat} {j i : Nat} {y : DRec} : histOk b j y i [] = true := by unfold histOk; rfl
theorem hist_cons {b : Array Nat} {j i : Nat} {y x : DRec} {l : List DRec} : histOk b j y (Nat.succ i) (x :: l) = ((recOk x y || ordB b i j) && histOk b j y i l) := rfl
theorem hist_ord {b : Array Nat} {j i : Nat} {y x : DRec} {l : List DRec} (h : ordB b i j = true) (h2 : histOk b j y i l = true) : histOk b j y (Nat.succ i) (x :: l) = true := by
  rw [hist_cons, h, h2, Bool.or_true]; rfl
theorem hist_rec {b : Array Nat} {j i : Nat} {y x : DRec} {l : List DRec} (h : recOk x y = true) (h2 : histOk b j y i l = true) : histOk b j y (Nat.succ i) (x :: l) = true := by
  rw [hist_cons, h, h2]; rfl
theorem made_nil {lo hi : Nat} : made [] lo hi = false := rfl
theorem made_cons {m : Nat} {l : List Nat} {lo hi : Nat} : made (m :: l) lo hi = ((Nat.ble lo m && Nat.blt m hi) || made l lo hi) := rfl
theorem meets_nil {l : List Nat} : meets [] l = false := rfl
theorem meets_cons {m : Nat} {l k : List Nat} : meets (m :: l) k = (hasN m k || meets l k) := rfl
theorem hasN_nil {m : Nat} : hasN m [] = false := rfl
theorem hasN_cons {m k : Nat} {l : List Nat} : hasN m (k :: l) = (Nat.beq m k || hasN m l) := rfl
end Go.E

