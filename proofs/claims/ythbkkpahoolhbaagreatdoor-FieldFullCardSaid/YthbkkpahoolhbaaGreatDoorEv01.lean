import Derived.AtR
import GoSem.Core.Utf8
set_option linter.unusedSimpArgs false
set_option linter.unusedVariables false
set_option linter.unusedSectionVars false
namespace Go.E

/-! ### a map from numbers -/
inductive Tr (α : Type) where
  | nil
  | node (v : Option α) (l r : Tr α)
  deriving Inhabited

/-- the way to a number's node -/
def pathF : Nat → Nat → List Bool
  | 0, _ => []
  | f + 1, n => bif n.beq 0 then [] else bif (Nat.mod n 2).beq 1 then true :: pathF f (Nat.div n 2) else false :: pathF f (Nat.pred (Nat.div n 2))
def path (n : Nat) : List Bool := pathF n n

noncomputable def Tr.getP {α : Type} (t : Tr α) : List Bool → Option α :=
  @Tr.rec α (fun _ => List Bool → Option α) (fun _ => none)
    (fun v _ _ gl gr p => @List.rec Bool (fun _ => Option α) v (fun b p' _ => @Bool.rec (fun _ => Option α) (gr p') (gl p') b) p) t
noncomputable def Tr.get {α : Type} (t : Tr α) (n : Nat) : Option α := t.getP (path n)
noncomputable def Tr.updP {α : Type} (p : List Bool) : Tr α → Option α → Tr α :=
  @List.rec Bool (fun _ => Tr α → Option α → Tr α)
    (fun t o => @Tr.rec α (fun _ => Tr α) (.node o .nil .nil) (fun _ l r _ _ => .node o l r) t)
    (fun b _ ih t o => @Tr.rec α (fun _ => Tr α) (@Bool.rec (fun _ => Tr α) (.node none .nil (ih .nil o)) (.node none (ih .nil o) .nil) b)
      (fun v l r _ _ => @Bool.rec (fun _ => Tr α) (.node v l (ih r o)) (.node v (ih l o) r) b) t) p
noncomputable def Tr.upd {α : Type} (t : Tr α) (n : Nat) (o : Option α) : Tr α := Tr.updP (path n) t o

noncomputable section
/-! ### the objects and the state -/
inductive EObj where
  | cells (c : List Value) (elem : TypeId)
  | map (es : List MapEntry) (clock : Nat)
  | siter (s : ByteArray) (pos : Nat)
  | miter (m : Option Nat) (since : Nat) (seen : List Nat) (last : Nat)
  | loop (state : LoopState) (pending : Option Code) (nt : Nat) (tm : Tr Value) (params : Array Tmp) (assign body : Code) (defers : Nat)
  | dfr (calls : Option (List Deferred))
  | kcell (m : Value)
  deriving Inhabited

structure ES where
  st : Tr EObj
  nx : Nat
  lg : List Nat

inductive Res (α : Type) where
  | ok (a : α) (s : ES)
  | bad (why : String)
  deriving Inhabited

abbrev EM (α : Type) : Type := ES → Res α

@[inline] def EM.ret {α : Type} (a : α) : EM α := fun s => .ok a s
@[inline] def EM.bnd {α β : Type} (m : EM α) (f : α → EM β) : EM β := fun s =>
  match m s with
  | .ok a s' => f a s'
  | .bad w => .bad w

def bad {α : Type} (w : String) : EM α := fun _ => .bad w

def eget (n : Nat) : EM EObj := fun s =>
  match s.st.get n with
  | some o => .ok o s
  | none => .bad "get"
def eset (n : Nat) (o : EObj) : EM Unit := fun s =>
  match s.st.get n with
  | some _ => .ok () { s with st := s.st.upd n (some o), lg := n :: s.lg }
  | none => .bad "set"
def edel (n : Nat) : EM Unit := fun s =>
  match s.st.get n with
  | some _ => .ok () { s with st := s.st.upd n none, lg := n :: s.lg }
  | none => .bad "del"
def enew (o : EObj) : EM Nat := fun s => .ok s.nx { s with st := s.st.upd s.nx (some o), nx := s.nx + 1 }

def lift {α : Type} (w : String) : Option α → EM α
  | some a => EM.ret a
  | none => bad w

/-! ### plain values -/
/-- 'junk' stands for a value that the evaluator doesn't follow; 'undef' for the model's own undefined slot. -/
abbrev undef : Value := .tuple #[]
def junk : Value := .tuple #[.tuple #[]]

mutual
def plain : Value → Bool
  | .bool _ => true
  | .int .. => true
  | .string _ => true
  | .nilFunc => true
  | .nilIface => true
  | .pointer none => true
  | .slice none 0 0 => true
  | .map none => true
  | .func (.func _) ⟨a⟩ ⟨b⟩ => plainL a && plainL b
  | .iface _ v => plain v
  | .agg ⟨c⟩ => plainL c
  | .tuple ⟨[]⟩ => true
  | .tuple ⟨v :: w :: l⟩ => plain v && plain w && plainL l
  | _ => false
def plainL : List Value → Bool
  | [] => true
  | v :: l => plain v && plainL l
end

def getv (tm : Tr Value) (t : Nat) : Value :=
  match tm.get t with
  | some v => v
  | none => undef

def evalO (tm : Tr Value) : Operand → Value
  | .tmp t => getv tm t
  | .const v => bif plain v then v else junk
  | .global _ => junk
  | .func f => .func (.func f) #[] #[]

/-! ### numbers -/
def lo : IntKind → Int
  | .i8 => -128 | .i16 => -32768 | .i32 => -2147483648 | .i64 => -9223372036854775808 | _ => 0
def hi : IntKind → Int
  | .i8 => 127 | .i16 => 32767 | .i32 => 2147483647 | .i64 => 9223372036854775807
  | .u8 => 255 | .u16 => 65535 | .u32 => 4294967295 | .u64 => 18446744073709551615
def ile : Int → Int → Bool
  | .ofNat m, .ofNat n => m.ble n
  | .negSucc _, .ofNat _ => true
  | .ofNat _, .negSucc _ => false
  | .negSucc m, .negSucc n => n.ble m
def ieq : Int → Int → Bool
  | .ofNat m, .ofNat n => m.beq n
  | .negSucc m, .negSucc n => m.beq n
  | _, _ => false
def ewrap (k : IntKind) (n : Int) : Int := bif ile (lo k) n && ile n (hi k) then n else k.wrap n

def eBits (k : IntKind) (a b : Int) (f : Nat → Nat → Int) : Option Value :=
  bif ile 0 a && ile 0 b && ile a (hi k) && ile b (hi k) then some (.int k (f a.toNat b.toNat)) else none

def eInt (op : BinOp) (k : IntKind) (a b : Int) : Option Value :=
  match op with
  | .add => some (.int k (ewrap k (Int.add a b)))
  | .sub => some (.int k (ewrap k (Int.sub a b)))
  | .mul => some (.int k (ewrap k (Int.mul a b)))
  | .quo => bif ieq b 0 then none else some (.int k (ewrap k (a.tdiv b)))
  | .rem => bif ieq b 0 then none else some (.int k (a.tmod b))
  | .and => eBits k a b fun a b => .ofNat (Nat.land a b)
  | .or => eBits k a b fun a b => .ofNat (Nat.lor a b)
  | .xor => eBits k a b fun a b => .ofNat (Nat.xor a b)

  | .eql => some (.bool (ieq a b))
  | .neq => some (.bool !(ieq a b))
  | .lss => some (.bool !(ile b a))
  | .leq => some (.bool (ile a b))
  | .gtr => some (.bool !(ile a b))
  | .geq => some (.bool (ile b a))
  | _ => none

def eShift (op : BinOp) (k : IntKind) (a b : Int) : Option Value :=
  bif !(ile 0 b) then none else
  match op with
  | .shl => some (.int k (ewrap k (Int.mul a (.ofNat (Nat.pow 2 (min b.toNat k.bits))))))
  | .shr => some (.int k (a.fdiv (.ofNat (Nat.pow 2 (min b.toNat k.bits)))))
  | _ => none

/-! ### strings -/
def bytes (s : ByteArray) : List UInt8 := s.data.toList
def ofBytes (l : List UInt8) : ByteArray := ⟨⟨l⟩⟩
def beq8 (a b : UInt8) : Bool := a.toNat.beq b.toNat
def eqB : List UInt8 → List UInt8 → Bool
  | [], [] => true
  | a :: x, b :: y => beq8 a b && eqB x y
  | _, _ => false
def ltB : List UInt8 → List UInt8 → Bool
  | _, [] => false
  | [], _ :: _ => true
  | a :: x, b :: y => bif beq8 a b then ltB x y else a.toNat.blt b.toNat
def seq (a b : ByteArray) : Bool := eqB (bytes a) (bytes b)
def slt (a b : ByteArray) : Bool := ltB (bytes a) (bytes b)
def cat (a b : ByteArray) : ByteArray := ofBytes (bytes a ++ bytes b)
def sub (a : ByteArray) (l h : Nat) : ByteArray := ofBytes (((bytes a).drop l).take (h - l))

def eStr (op : BinOp) (x y : ByteArray) : Option Value :=
  match op with
  | .add => bif (Nat.add (bytes x).length (bytes y).length).ble 4611686018427387904 then some (.string (cat x y)) else none
  | .eql => some (.bool (seq x y))
  | .neq => some (.bool !(seq x y))
  | .lss => some (.bool (slt x y))
  | .leq => some (.bool (slt x y || seq x y))
  | .gtr => some (.bool !(slt x y || seq x y))
  | .geq => some (.bool !(slt x y))
  | _ => none

/-! ### types -/
def und (P : Program) (t : TypeId) : Option TypeDesc := P.underlying t
def siz (P : Program) (t : TypeId) : Option Nat := (P.info? t).map (·.size)
def zer (P : Program) (t : TypeId) : Option Value :=
  match (P.info? t).bind (·.zero) with
  | some z => bif plain z then some z else none
  | none => none
def byt (P : Program) (t : TypeId) : Option Nat := (P.info? t).map (·.bytes)
def aggT (P : Program) (t : TypeId) : Option Bool :=
  match und P t with
  | some (.struct _) | some (.array _ _) => some true
  | some _ => some false
  | none => none

def nth {α : Type} : List α → Nat → Option α
  | [], _ => none
  | x :: _, 0 => some x
  | _ :: l, n + 1 => nth l n
def adda (a : Addr) (n : Nat) : Addr := ⟨a.block, Nat.add a.off n, none⟩
def cut (l : List Value) (off n : Nat) : List Value := (l.drop off).take n
def partL (P : Program) (t : TypeId) (cs : List Value) (off : Nat) : Option Value :=
  match aggT P t, siz P t with
  | some true, some n => some (.agg ⟨cut cs off n⟩)
  | some false, some _ => nth cs off
  | _, _ => none

/-! ### equality -/
def eqL (f : Field → Option Bool) : List Field → Option Bool
  | [] => some true
  | x :: l =>
    bif x.name == "_" then eqL f l else
    match f x with
    | some true => eqL f l
    | some false => some false
    | none => none
def eeq (P : Program) : Nat → TypeId → Value → Value → Option Bool
  | 0, _, _, _ => none
  | d + 1, t, x, y =>
    match und P t, x, y with
    | some .bool, .bool a, .bool b => some (a == b)
    | some (.int _), .int k a, .int k' b => bif decide (k = k') then some (ieq a b) else none
    | some .string, .string a, .string b => some (seq a b)
    | some (.pointer _), .pointer none, .pointer b => some b.isNone
    | some (.pointer _), .pointer (some _), .pointer none => some false
    | some (.pointer e), .pointer (some a), .pointer (some b) =>
      match siz P e, a.spot, b.spot with
      | some n, none, none => bif n.beq 0 then none else bif a.block.beq b.block then some (a.off.beq b.off) else none
      | _, _, _ => none
    | some (.interface _), .nilIface, .nilIface => some true
    | some (.interface _), .nilIface, .iface _ _ => some false
    | some (.interface _), .iface _ _, .nilIface => some false
    | some (.interface _), .iface tx vx, .iface ty vy =>
      bif tx.beq ty then
        match P.info? tx with
        | some i => bif i.comparable then eeq P d tx vx vy else none
        | none => none
      else some false
    | some (.struct fs), .agg xs, .agg ys =>
      bif P.stoodInHeld t then none else
      eqL (fun f => match partL P f.type xs.toList f.offset, partL P f.type ys.toList f.offset with
        | some a, some b => eeq P d f.type a b
        | _, _ => none) fs.toList
    | some (.slice _), .slice none _ _, .slice b _ _ => some b.isNone
    | some (.slice _), .slice (some _) _ _, .slice none _ _ => some false
    | some (.map _ _), .map none, .map b => some b.isNone
    | some (.map _ _), .map (some _), .map none => some false
    | some (.func _ _ _), .nilFunc, .nilFunc => some true
    | some (.func _ _ _), .nilFunc, .func _ _ _ => some false
    | some (.func _ _ _), .func _ _ _, .nilFunc => some false
    | _, _, _ => none

def guardOk (P : Program) (x y : Operand) (t : TypeId) (a b : Value) : Bool :=
  match a, b with
  | .nilIface, .nilIface => (match x with | .const _ => true | _ => false) || (match y with | .const _ => true | _ => false)
  | .agg _, .agg _ => !(P.eqGuardType P.depth t)
  | _, _ => true

def eBin (P : Program) (op : BinOp) (t : TypeId) (x y : Operand) (a b : Value) : Option Value :=
  match op, a, b with
  | .shl, .int k a, .int _ b => eShift .shl k a b
  | .shr, .int k a, .int _ b => eShift .shr k a b
  | op, .int k a, .int k' b => bif decide (k = k') then eInt op k a b else none
  | op, .string a, .string b => eStr op a b
  | .eql, a, b => bif guardOk P x y t a b then (eeq P 100 t a b).map .bool else none
  | .neq, a, b => bif guardOk P x y t a b then (eeq P 100 t a b).map fun r => .bool !r else none
  | _, _, _ => none

def eUn (op : UnOp) (x : Value) : Option Value :=
  match op, x with
  | .neg, .int k n => eInt .sub k 0 n
  | .xor, .int k n => eInt .xor k (if k.signed then -1 else k.max) n
  | .not, .bool b => some (.bool !b)
  | _, _ => none

/-! ### memory -/
def rd (P : Program) (t : TypeId) (a : Addr) : EM Value :=
  match a.spot with
  | some _ => bad "spot"
  | none => (eget a.block).bnd fun o =>
    match o with
    | .cells c _ =>
      match aggT P t, siz P t with
      | some true, some n => bif (Nat.add a.off n).ble c.length then EM.ret (.agg ⟨cut c a.off n⟩) else bad "rd"
      | some false, some _ => lift "rd1" (nth c a.off)
      | _, _ => bad "rdT"
    | _ => bad "rd: no cells"

def okCell : Value → Bool
  | .agg _ => false
  | .tuple _ => false
  | _ => true

def wrL (a : Addr) (vs : List Value) : EM Unit :=
  match a.spot with
  | some _ => bad "spot"
  | none => (eget a.block).bnd fun o =>
    match o with
    | .cells c e =>
      bif (Nat.add a.off vs.length).ble c.length && vs.all okCell then eset a.block (.cells (c.take a.off ++ vs ++ c.drop (Nat.add a.off vs.length)) e) else bad "wr"
    | _ => bad "wr: no cells"

def wr (P : Program) (t : TypeId) (a : Addr) (v : Value) : EM Unit :=
  match siz P t with
  | some n => bif n.beq v.cells.size then wrL a v.cells.toList else bad "wr size"
  | none => bad "wrT"

def sureA : Value → EM Addr
  | .pointer (some a) => EM.ret a
  | _ => bad "addr"

def rdCells (a : Addr) (n : Nat) : EM (List Value) :=
  match a.spot with
  | some _ => bad "spot"
  | none => (eget a.block).bnd fun o =>
    match o with
    | .cells c _ => bif (Nat.add a.off n).ble c.length then EM.ret (cut c a.off n) else bad "rdCells"
    | _ => bad "rdCells"

def notTup : Value → Bool
  | .tuple _ => false
  | _ => true
def fillL (place : Nat → Option (Nat × Nat)) (cells : List Value) : List (Nat × Value) → Option (List Value)
  | [] => some cells
  | (i, v) :: rest =>
    match place i with
    | none => none
    | some (off, size) =>
      bif notTup v && v.cells.size.beq size && (Nat.add off size).ble cells.length then fillL place (cells.take off ++ v.cells.toList ++ cells.drop (Nat.add off size)) rest else none

def placesL (P : Program) : List Field → Option (List (Nat × Nat))
  | [] => some []
  | f :: fs => match siz P f.type, placesL P fs with
    | some n, some l => some ((f.offset, n) :: l)
    | _, _ => none

def repL (z : List Value) : Nat → List Value
  | 0 => []
  | n + 1 => z ++ repL z n

def eBuild (P : Program) (t : TypeId) (parts : List (Nat × Value)) : Option Value :=
  match und P t, zer P t with
  | some (.struct fs), some z =>
    match placesL P fs.toList with
    | some pl => (fillL (nth pl) z.cells.toList parts).map fun c => .agg ⟨c⟩
    | none => none
  | some (.array _ e), some z =>
    match siz P e with
    | some n => (fillL (fun i => some (Nat.mul i n, n)) z.cells.toList parts).map fun c => .agg ⟨c⟩
    | none => none
  | _, _ => none

def eBuildSlice (P : Program) (t : TypeId) (len : Nat) (parts : List (Nat × Value)) : EM Value :=
  match und P t with
  | some (.slice e) =>
    match siz P e, zer P e with
    | some n, some z =>
      bif n.beq 0 || !(z.cells.size.beq n) || !((Nat.mul len n).ble 1048576) then bad "buildSlice" else
      match fillL (fun i => some (Nat.mul i n, n)) (repL z.cells.toList len) parts with
      | some c => (enew (.cells c e)).bnd fun r => EM.ret (.slice (some ⟨r, 0, none⟩) len (Nat.succ len))
      | none => bad "buildSlice fill"
    | _, _ => bad "buildSliceT"
  | _ => bad "buildSliceT"

def asI : Value → Option (IntKind × Int)
  | .int k n => some (k, n)
  | _ => none

def eMakeSlice (P : Program) (t : TypeId) (len cap : Value) : EM Value :=
  match und P t, asI len, asI cap with
  | some (.slice e), some (_, l), some (_, c) =>
    match siz P e, zer P e, byt P e with
    | some n, some z, some b =>
      bif n.beq 0 || !(z.cells.size.beq n) || !(ile 0 l) || !(ile l c) || !((Nat.mul c.toNat b).ble 1099511627776) || !(c.toNat.ble 1099511627776) then bad "makeSlice" else
      (enew (.cells (repL z.cells.toList c.toNat) e)).bnd fun r => EM.ret (.slice (some ⟨r, 0, none⟩) l.toNat (Nat.succ c.toNat))
    | _, _, _ => bad "makeSliceT"
  | _, _, _ => bad "makeSliceT"

def bnd (x : Option Value) (d y : Nat) : Option Nat :=
  match x with
  | none => some d
  | some (.int _ i) => bif ile 0 i && i.toNat.ble y then some i.toNat else none
  | some _ => none

def noGap (high max : Option Value) : Bool :=
  match high, max with
  | none, some _ => false
  | _, _ => true

/-- a slice of unknown capacity (at least len): what is cut lies before len -/
def eSliceU (n : Nat) (a : Addr) (len : Nat) (low high max : Option Value) : EM Value :=
  match bnd max len len with
  | none => bad "slice max"
  | some m =>
    match bnd high len m with
    | none => bad "slice hi"
    | some h =>
      match bnd low 0 h with
      | none => bad "slice lo"
      | some l =>
        bif !(h.ble m) then bad "slice" else
        match max with
        | none => bif l.blt len then EM.ret (.slice (some (adda a (Nat.mul l n))) (Nat.sub h l) 0) else bad "slice at the end"
        | some _ => EM.ret (.slice (some (bif m.beq l then a else adda a (Nat.mul l n))) (Nat.sub h l) (Nat.succ (Nat.sub m l)))

/-- a slice of known capacity, or an array -/
def eSliceK (n : Nat) (a : Addr) (len k : Nat) (low high max : Option Value) : EM Value :=
  match bnd max k k with
  | none => bad "slice max"
  | some m =>
    match bnd high len m with
    | none => bad "slice hi"
    | some h =>
      match bnd low 0 h with
      | none => bad "slice lo"
      | some l => bif !(h.ble m) then bad "slice" else EM.ret (.slice (some (bif m.beq l then a else adda a (Nat.mul l n))) (Nat.sub h l) (Nat.succ (Nat.sub m l)))

def eSlStr (s : ByteArray) (low high max : Option Value) : EM Value :=
  match max, bnd high (bytes s).length (bytes s).length with
  | none, some h =>
    match bnd low 0 h with
    | some l => EM.ret (.string (sub s l h))
    | none => bad "slice lo"
  | _, _ => bad "slice hi"
def eSlNil (low high max : Option Value) : EM Value :=
  match bnd max 0 0, bnd high 0 0, bnd low 0 0 with
  | some _, some _, some _ => EM.ret (.slice none 0 0)
  | _, _, _ => bad "slice nil"
def eSlU (e : TypeId) (n : Nat) (a : Addr) (len : Nat) (low high max : Option Value) : EM Value := (eget a.block).bnd fun o =>
  match o with
  | .cells _ e' => bif e.beq e' then eSliceU n a len low high max else bad "slice: another type"
  | _ => bad "slice"
def eSlCap (e : TypeId) (n : Nat) (a : Addr) (len cap : Nat) (low high max : Option Value) : EM Value :=
  match cap with
  | 0 => eSlU e n a len low high max
  | k + 1 => eSliceK n a len k low high max
def eSlice1 (P : Program) (t : TypeId) (x : Value) (low high max : Option Value) : EM Value :=
  match und P t, x with
  | some .string, .string s => eSlStr s low high max
  | some (.slice e), .slice none _ _ =>
    match siz P e with
    | some _ => eSlNil low high max
    | none => bad "sliceT"
  | some (.slice e), .slice (some a) len cap =>
    match siz P e with
    | some n => eSlCap e n a len cap low high max
    | none => bad "sliceT"
  | some (.array k e), .pointer (some a) =>
    match siz P e with
    | some n => eSliceK n a k k low high max
    | none => bad "sliceT"
  | _, _ => bad "slice"
def eSlice (P : Program) (t : TypeId) (x : Value) (low high max : Option Value) : EM Value :=
  bif noGap high max then eSlice1 P t x low high max else bad "slice: max without high"

def eFieldAddr (P : Program) (t : TypeId) (x : Value) (i : Nat) : Option Value :=
  match und P t, x with
  | some (.struct fs), .pointer (some a) =>
    match nth fs.toList i with
    | some f =>
      match siz P f.type, a.spot with
      | some n, none => bif n.beq 0 then none else some (.pointer (some (adda a f.offset)))
      | _, _ => none
    | none => none
  | _, _ => none

def eField (P : Program) (t : TypeId) (x : Value) (i : Nat) : Option Value :=
  match und P t, x with
  | some (.struct fs), .agg cs =>
    match nth fs.toList i with
    | some f => partL P f.type cs.toList f.offset
    | none => none
  | _, _ => none

def eIndexAddr (P : Program) (t : TypeId) (x ix : Value) : Option Value :=
  match und P t, x, asI ix with
  | some (.slice e), .slice (some a) len _, some (_, i) =>
    match siz P e with
    | some n => bif ile 0 i && i.toNat.blt len then some (.pointer (some (adda a (Nat.mul i.toNat n)))) else none
    | none => none
  | some (.array len e), .pointer (some a), some (_, i) =>
    match siz P e with
    | some n => bif ile 0 i && i.toNat.blt len then some (.pointer (some (adda a (Nat.mul i.toNat n)))) else none
    | none => none
  | _, _, _ => none

def eIndex (P : Program) (t : TypeId) (x ix : Value) : Option Value :=
  match und P t, x, asI ix with
  | some (.array len e), .agg cs, some (_, i) =>
    match siz P e with
    | some n => bif ile 0 i && i.toNat.blt len then partL P e cs.toList (Nat.mul i.toNat n) else none
    | none => none
  | some .string, .string s, some (_, i) =>
    bif ile 0 i then (match nth (bytes s) i.toNat with | some b => some (.int .u8 (Int.ofNat b.toNat)) | none => none) else none
  | _, _, _ => none

/-! ### maps -/
def keyV (P : Program) : Nat → TypeId → Value → Bool
  | 0, _, _ => false
  | d + 1, t, v => match und P t, v with
    | some .bool, _ | some (.int _), _ | some .string, _ | some (.pointer _), _ => true
    | some (.struct fs), .agg cs => fs.toList.all fun f => match partL P f.type cs.toList f.offset with
      | some x => keyV P d f.type x
      | none => false
    | _, _ => false

def findE (P : Program) (t : TypeId) (k : Value) : List MapEntry → Nat → Option (Option (Nat × MapEntry))
  | [], _ => some none
  | e :: es, i =>
    match eeq P 100 t k e.key with
    | some true => some (some (i, e))
    | some false => findE P t k es (Nat.succ i)
    | none => none

def mapOf (x : Value) : EM (List MapEntry × Nat) :=
  match x with
  | .map none => EM.ret ([], 0)
  | .map (some r) => (eget r).bnd fun o =>
    match o with
    | .map es c => EM.ret (es, c)
    | _ => bad "map"
  | _ => bad "map"

def eFound (P : Program) (kt et : TypeId) (ix : Value) (ok : Bool) (es : List MapEntry) : Option Value :=
  match findE P kt ix es 0 with
  | some (some (_, e)) => some (bif ok then .tuple #[e.val, .bool true] else e.val)
  | some none => (zer P et).map fun z => bif ok then .tuple #[z, .bool false] else z
  | none => none

def eLookup (P : Program) (t : TypeId) (x ix : Value) (ok : Bool) : EM Value :=
  match und P t with
  | some (.map kt et) => (mapOf x).bnd fun m =>
    bif keyV P 10 kt ix then lift "find" (eFound P kt et ix ok m.1) else bad "key type"
  | _ => bad "lookupT"

def sameC : Value → Value → Bool
  | .bool a, .bool b => a == b
  | .int j a, .int k b => decide (j = k) && ieq a b
  | .string a, .string b => seq a b
  | _, _ => false
def sameL : List Value → List Value → Bool
  | [], [] => true
  | x :: a, y :: b => sameC x y && sameL a b
  | _, _ => false
def sameE : Value → Value → Bool
  | .agg a, .agg b => sameL a.toList b.toList
  | x, y => sameC x y

def putAt (es : List MapEntry) (i : Nat) (e : MapEntry) : List MapEntry := es.take i ++ e :: es.drop (Nat.succ i)
def eMapUpdate1 (P : Program) (kt : TypeId) (r : Nat) (k v : Value) : EM Unit := (eget r).bnd fun o =>
  match o with
  | .map es c =>
    match findE P kt k es 0 with
    | some (some (i, e)) => bif sameE e.key k then eset r (.map (putAt es i { e with key := k, val := v }) c) else bad "map key"
    | some none => eset r (.map (es ++ [{ key := k, val := v, born := c }]) (Nat.succ c))
    | none => bad "find"
  | _ => bad "map"
def eMapUpdate (P : Program) (t : TypeId) (m k v : Value) : EM Unit :=
  match und P t, m with
  | some (.map kt _), .map (some r) => bif keyV P 10 kt k then eMapUpdate1 P kt r k v else bad "key type"
  | _, _ => bad "mapUpdate"

def eMapEntry1 (P : Program) (kt et : TypeId) (r : Nat) (k : Value) : EM Value := (eget r).bnd fun o =>
  match o with
  | .map es c =>
    match findE P kt k es 0 with
    | some (some (i, e)) => bif sameE e.key k then (eset r (.map (putAt es i { e with key := k }) c)).bnd fun _ => EM.ret (.tuple #[e.val, goInt e.born]) else bad "map key"
    | some none => match zer P et with
      | some z => (eset r (.map (es ++ [{ key := k, val := z, born := c }]) (Nat.succ c))).bnd fun _ => EM.ret (.tuple #[z, goInt c])
      | none => bad "zero"
    | none => bad "find"
  | _ => bad "map"
def eMapEntry (P : Program) (t : TypeId) (m k : Value) : EM Value :=
  match und P t, m with
  | some (.map kt et), .map (some r) => bif keyV P 10 kt k then eMapEntry1 P kt et r k else bad "key type"
  | _, _ => bad "mapEntry"

def atBorn (b : Int) (v : Value) : List MapEntry → Option (List MapEntry)
  | [] => none
  | e :: es => bif decide ((e.born : Int) = b) then some ({ e with val := v } :: es) else (atBorn b v es).map (e :: ·)

def eEntryStore (m stamp v : Value) : EM Unit :=
  match m, asI stamp with
  | .map (some r), some (_, b) => (eget r).bnd fun o =>
    match o with
    | .map es c =>
      match atBorn b v es with
      | some es' => eset r (.map es' c)
      | none => bad "entryStore"
    | _ => bad "map"
  | _, _ => bad "entryStore"

def eDelete1 (P : Program) (kt : TypeId) (r : Nat) (k : Value) : EM Unit := (eget r).bnd fun o =>
  match o with
  | .map es c =>
    match findE P kt k es 0 with
    | some (some (i, _)) => eset r (.map (es.take i ++ es.drop (Nat.succ i)) c)
    | some none => eset r (.map es c)
    | none => bad "find"
  | _ => bad "map"
def eDelete (P : Program) (t : TypeId) (m k : Value) : EM Unit :=
  match und P t, m with
  | some (.map kt _), .map (some r) => bif keyV P 10 kt k then eDelete1 P kt r k else bad "key type"
  | some (.map kt _), .map none => bif keyV P 10 kt k then EM.ret () else bad "key type"
  | _, _ => bad "delete"

/-! ### iterators -/
def mkPtr (r : Nat) : Value := .pointer (some ⟨r, 0, none⟩)
def eRange (P : Program) (t : TypeId) (x : Value) : EM Value :=
  match und P t, x with
  | some .string, .string s => (enew (.siter s 0)).bnd fun r => EM.ret (mkPtr r)
  | some (.map _ _), .map none => (enew (.miter none 0 [] 0)).bnd fun r => EM.ret (mkPtr r)
  | some (.map _ _), .map (some m) => (eget m).bnd fun o =>
    match o with
    | .map _ c => (enew (.miter (some m) c [] c)).bnd fun r => EM.ret (mkPtr r)
    | _ => bad "range"
  | _, _ => bad "range"

def eNextS (r : Nat) (s : ByteArray) (pos : Nat) : EM Value :=
  bif pos.blt s.size then
    (eset r (.siter s (pos + (Utf8.decode s pos).2))).bnd fun _ => EM.ret (.tuple #[.bool true, goInt pos, .int .i32 (Utf8.decode s pos).1])
  else EM.ret (.tuple #[.bool false])
def leftOf (seen : List Nat) (es : List MapEntry) : List MapEntry := es.filter fun e => !(seen.any fun b => b.beq e.born)
def eNextL (r m since : Nat) (seen : List Nat) (c : Nat) : List MapEntry → EM Value
  | [] => EM.ret (.tuple #[.bool false])
  | [e] => bif since.ble e.born then bad "next: new entries" else (eset r (.miter (some m) since (seen ++ [e.born]) c)).bnd fun _ => EM.ret (.tuple #[.bool true, e.key, e.val])
  | _ => bad "next: an open order"
def eNextM (r m since : Nat) (seen : List Nat) (last : Nat) : EM Value := (eget m).bnd fun o =>
  match o with
  | .map es c =>
    bif !seen.isEmpty && !es.isEmpty && es.all (fun e => last.ble e.born) then bad "next: all new" else eNextL r m since seen c (leftOf seen es)
  | _ => bad "next"
def eNext (it : Value) (isString : Bool) : EM Value :=
  match it with
  | .pointer (some ⟨r, 0, none⟩) => (eget r).bnd fun o =>
    match o, isString with
    | .siter s pos, true => eNextS r s pos
    | .miter none _ _ _, false => EM.ret (.tuple #[.bool false])
    | .miter (some m) since seen last, false => eNextM r m since seen last
    | _, _ => bad "next"
  | _ => bad "next"

def bornAt (b : Nat) : List MapEntry → Option MapEntry
  | [] => none
  | e :: es => bif e.born.beq b then some e else bornAt b es
def eEntryM (m : Nat) (b stepped : Nat) : EM Value := (eget m).bnd fun o =>
  match o with
  | .map es c =>
    bif c.beq stepped then
      match bornAt b es with
      | some e => EM.ret (.tuple #[e.key, e.val])
      | none => bad "entry"
    else bad "entry"
  | _ => bad "entry"
def eEntry (it : Value) : EM Value :=
  match it with
  | .pointer (some ⟨r, 0, none⟩) => (eget r).bnd fun o =>
    match o with
    | .miter (some m) _ seen stepped =>
      match seen.getLast? with
      | some b => eEntryM m b stepped
      | none => bad "entry"
    | _ => bad "entry"
  | _ => bad "entry"

/-! ### builtins -/
def intsOf (l : List UInt8) : List Value := l.map fun b => .int .u8 (Int.ofNat b.toNat)

def srcCells (n : Nat) (x : Value) : EM (Nat × List Value) :=
  match x with
  | .slice none _ _ => EM.ret (0, [])
  | .slice (some a) len _ => (rdCells a (Nat.mul len n)).bnd fun l => EM.ret (len, l)
  | .string s => bif n.beq 1 then EM.ret ((bytes s).length, intsOf (bytes s)) else bad "src"
  | _ => bad "src"

def fits (b need : Nat) : Bool := (Nat.mul need b).ble 1099511627776 && need.ble 1099511627776
def eAppNil (e : TypeId) (b : Nat) (kn : Nat × List Value) : EM Value :=
  bif kn.1.beq 0 then EM.ret (.slice none 0 0) else
  bif fits b kn.1 then (enew (.cells kn.2 e)).bnd fun r => EM.ret (.slice (some ⟨r, 0, none⟩) kn.1 0) else bad "append: large"
def eAppMove (e : TypeId) (n : Nat) (a : Addr) (len : Nat) (kn : Nat × List Value) : EM Value := (eget a.block).bnd fun o =>
  match o with
  | .cells c e' =>
    bif e.beq e' && (Nat.add a.off (Nat.mul len n)).beq c.length && kn.2.all okCell then
      (edel a.block).bnd fun _ => (enew (.cells (c.drop a.off ++ kn.2) e)).bnd fun r => EM.ret (.slice (some ⟨r, 0, none⟩) (Nat.add len kn.1) 0)
    else bad "append: not at the end"
  | _ => bad "append"
def eAppU (e : TypeId) (n b : Nat) (a : Addr) (len : Nat) (kn : Nat × List Value) : EM Value :=
  bif kn.1.beq 0 then EM.ret (.slice (some a) len 0) else
  bif fits b (Nat.add len kn.1) then
    match a.spot with
    | some _ => bad "spot"
    | none => eAppMove e n a len kn
  else bad "append: large"
def eAppK (e : TypeId) (n b : Nat) (a : Addr) (len c : Nat) (kn : Nat × List Value) : EM Value :=
  bif (Nat.add len kn.1).ble c then (wrL (adda a (Nat.mul len n)) kn.2).bnd fun _ => EM.ret (.slice (some a) (Nat.add len kn.1) (Nat.succ c)) else
  bif fits b (Nat.add len kn.1) then
    (rdCells a (Nat.mul len n)).bnd fun old => (enew (.cells (old ++ kn.2) e)).bnd fun r => EM.ret (.slice (some ⟨r, 0, none⟩) (Nat.add len kn.1) 0)
  else bad "append: large"
def eApp (e : TypeId) (n b : Nat) (s0 : Value) (kn : Nat × List Value) : EM Value :=
  match s0 with
  | .slice none 0 0 => eAppNil e b kn
  | .slice (some a) len 0 => eAppU e n b a len kn
  | .slice (some a) len (c + 1) => eAppK e n b a len c kn
  | _ => bad "append"
def eAppend1 (P : Program) (e : TypeId) (s0 x : Value) : EM Value :=
  match siz P e, byt P e, zer P e with
  | some n, some b, some z => bif n.beq 0 || !(z.cells.size.beq n) then bad "append: size" else (srcCells n x).bnd fun kn => eApp e n b s0 kn
  | _, _, _ => bad "appendT"
def eAppend (P : Program) (ts : Array TypeId) (args : Array Value) : EM Value :=
  match ts.toList, args.toList with
  | t0 :: t1 :: _, s0 :: x :: _ =>
    match und P t0, und P t1 with
    | _, some (.int _) => bad "append: zeros"
    | some (.slice e), some _ => eAppend1 P e s0 x
    | _, _ => bad "appendT"
  | _, _ => bad "append args"

def eCopy1 (n : Nat) (base : Option Addr) (dLen : Nat) (ks : Nat × List Value) : EM Value :=
  match base with
  | some a => (wrL a (ks.2.take (Nat.mul (min ks.1 dLen) n))).bnd fun _ => EM.ret (goInt (Int.ofNat (min ks.1 dLen)))
  | none => EM.ret (goInt (Int.ofNat (min ks.1 dLen)))
def eCopy (P : Program) (ts : Array TypeId) (args : Array Value) : EM Value :=
  match ts.toList, args.toList with
  | t0 :: _, .slice base dLen _ :: x :: _ =>
    match und P t0 with
    | some (.slice e) =>
      match siz P e with
      | some n => (srcCells n x).bnd fun ks => eCopy1 n base dLen ks
      | none => bad "copyT"
    | _ => bad "copyT"
  | _, _ => bad "copy args"

def eLen (P : Program) (ts : Array TypeId) (args : Array Value) : EM Value :=
  match ts.toList, args.toList with
  | t :: _, x :: _ =>
    match und P t, x with
    | some .string, .string s => EM.ret (goInt (Int.ofNat (bytes s).length))
    | some (.array n _), _ => EM.ret (goInt (Int.ofNat n))
    | some (.slice _), .slice _ n _ => EM.ret (goInt (Int.ofNat n))
    | some (.map _ _), x => (mapOf x).bnd fun m => EM.ret (goInt (Int.ofNat m.1.length))
    | _, _ => bad "len"
  | _, _ => bad "len args"

def eClear (P : Program) (ts : Array TypeId) (args : Array Value) : EM Value :=
  match ts.toList, args.toList with
  | t :: _, x :: _ =>
    match und P t, x with
    | some (.slice _), .slice none _ _ => EM.ret undef
    | some (.slice _), .slice (some _) 0 _ => EM.ret undef
    | some (.slice _), .slice (some _) (_ + 1) _ => bad "clear"
    | some (.map _ _), .map none => EM.ret undef
    | some (.map _ _), .map (some r) => (eget r).bnd fun o =>
      match o with
      | .map _ c => (eset r (.map [] c)).bnd fun _ => EM.ret undef
      | _ => bad "clear"
    | _, _ => bad "clear"
  | _, _ => bad "clear args"

def eMM (mx : Bool) (k : IntKind) (acc : Int) : List Value → Option Value
  | [] => some (.int k acc)
  | .int k' y :: r => bif decide (k = k') then eMM mx k (bif mx then (bif ile y acc then acc else y) else (bif ile acc y then acc else y)) r else none
  | _ => none

def eMinMax (mx : Bool) : List Value → Option Value
  | .int k x :: rest => eMM mx k x rest
  | _ => none

def bytesOfCells : List Value → Option (List UInt8)
  | [] => some []
  | .int .u8 n :: l => (bytesOfCells l).map (UInt8.ofNat n.toNat :: ·)
  | _ => none

def eBytesOf (P : Program) (e : TypeId) (x : ByteArray) : EM Value :=
  match und P e, siz P e with
  | some (.int .u8), some 1 => (enew (.cells (intsOf (bytes x)) e)).bnd fun r => EM.ret (.slice (some ⟨r, 0, none⟩) (bytes x).length 0)
  | _, _ => bad "convert"
def eStringOf (P : Program) (e : TypeId) (a : Option Addr) (n : Nat) : EM Value :=
  match und P e with
  | some (.int .u8) =>
    match a with
    | none => EM.ret (.string (ofBytes []))
    | some a => (rdCells a n).bnd fun c =>
      match bytesOfCells c with
      | some l => EM.ret (.string (ofBytes l))
      | none => bad "convert"
  | _ => bad "convert"
def eConvert (P : Program) (src dst : TypeId) (x : Value) : EM Value :=
  match und P src, und P dst, x with
  | some _, some (.int k), .int _ n => EM.ret (.int k (ewrap k n))
  | some _, some .string, .string b => EM.ret (.string b)
  | some _, some (.slice e), .string s => eBytesOf P e s
  | some (.slice e), some .string, .slice a n _ => eStringOf P e a n
  | _, _, _ => bad "convert"

def eUSt (P : Program) (u : TypeId) (a : Addr) (n : Nat) : EM Value :=
  match siz P u with
  | some 1 => (eget a.block).bnd fun o =>
    match o with
    | .cells c e =>
      bif e.beq u && (Nat.add a.off n).ble c.length then
        match bytesOfCells (cut c a.off n) with
        | some l => (edel a.block).bnd fun _ => EM.ret (.string (ofBytes l))
        | none => bad "unsafeString"
      else bad "unsafeString"
    | _ => bad "unsafeString"
  | _ => bad "unsafeString"
def eUnsafeString (P : Program) (ts : Array TypeId) (args : Array Value) : EM Value :=
  match ts.toList, args.toList with
  | _ :: _, [.pointer none, .int _ n] => bif ieq n 0 then EM.ret (.string (ofBytes [])) else bad "unsafeString"
  | pt :: _, [.pointer (some a), .int _ n] =>
    match und P pt with
    | some (.pointer u) =>
      match und P u, a.spot with
      | some (.int .u8), none =>
        bif ile n 0 || !(ile n 9223372036854775807) then bad "unsafeString" else eUSt P u a n.toNat
      | _, _ => bad "unsafeString"
    | _ => bad "unsafeString"
  | _, _ => bad "unsafeString"

def eSliceData (args : Array Value) : EM Value :=
  match args.toList with
  | [.slice none _ _] => EM.ret (.pointer none)
  | [.slice (some a) n c] => bif (1 : Nat).ble n || (2 : Nat).ble c then EM.ret (.pointer (some a)) else bad "sliceData"
  | _ => bad "sliceData"

def eTypeAssert (P : Program) (x : Value) (asserted : TypeId) (ok : Bool) : Option Value :=
  match und P asserted with
  | some (.interface _) | none => none
  | some _ =>
    match x with
    | .nilIface => bif ok then (zer P asserted).map fun z => .tuple #[z, .bool false] else none
    | .iface t v => bif t.beq asserted then some (bif ok then .tuple #[v, .bool true] else v) else bif ok then (zer P asserted).map fun z => .tuple #[z, .bool false] else none
    | _ => none

/-! ### operations -/
/-- names below 'nx' that are not in the log, and names beyond, stay as they are -/
def Wf {α : Type} (e : EM α) : Prop := ∀ s a s', e s = .ok a s' →
  s.nx ≤ s'.nx ∧ ∃ L, s'.lg = L ++ s.lg ∧ ∀ n, (n < s.nx ∨ s'.nx ≤ n) → n ∉ L → s'.st.get n = s.st.get n
structure WM where
  run : EM Value
  wf : Wf run
inductive ENext where
  | val (v : Value)
  | skip
  | enter (f : FuncId) (args : List Value)
  | done (f : FuncId) (args : List Value) (v : Value)
  | keys (f g : FuncId) (a : Addr)
  | heap (f : FuncId) (args : List Value) (m : WM)
  | round (l : Nat) (nt : Nat) (tm : Tr Value) (assign body : Code)
  | defer (d : Deferred)
  | recover
  | panic (v : Value)
  deriving Inhabited

def setAll (nt : Nat) (tm : Tr Value) : List (Tmp × Value) → Tr Value
  | [] => tm
  | (t, v) :: l => setAll nt (bif t.blt nt then tm.upd t (some v) else tm) l

def c8 (c : Int) : Nat := Nat.mod c.toNat 256
def cnt8 (c : Nat) : List UInt8 → Nat → Nat
  | [], n => n
  | b :: l, n => cnt8 c l (bif b.toNat.beq c then Nat.succ n else n)
def idx8 (c : Nat) : List UInt8 → Nat → Option Nat
  | [], _ => none
  | b :: l, i => bif b.toNat.beq c then some i else idx8 c l (Nat.succ i)
def idxOf : Option Nat → Int
  | some i => Int.ofNat i
  | none => -1
def cmp8 : List UInt8 → List UInt8 → Int
  | [], [] => 0
  | [], _ :: _ => -1
  | _ :: _, [] => 1
  | a :: x, b :: y => bif a.toNat.blt b.toNat then -1 else bif b.toNat.blt a.toNat then 1 else cmp8 x y
def eClone (r : Nat) (t : TypeId) : EM Value := (eget r).bnd fun o =>
  match o with
  | .map es c => (enew (.map es c)).bnd fun r' => EM.ret (.iface t (.map (some r')))
  | _ => bad "clone"
/-- functions without a Go body: 1 CountString, 2 IndexByteString, 3 cmpstring, 4 maps.clone, 5 NoEscape -/
def eExtern (k : Nat) (args : List Value) : EM Value :=
  match k, args with
  | 1, [.string s, .int .u8 c] => EM.ret (goInt (Int.ofNat (cnt8 (c8 c) (bytes s) 0)))
  | 2, [.string s, .int .u8 c] => EM.ret (goInt (idxOf (idx8 (c8 c) (bytes s) 0)))
  | 3, [.string a, .string b] => EM.ret (goInt (cmp8 (bytes a) (bytes b)))
  | 4, [.iface t (.map (some r))] => eClone r t
  | 5, [x] => EM.ret x
  | _, _ => bad "extern"

def insB (x : List UInt8) : List (List UInt8) → List (List UInt8)
  | [] => [x]
  | y :: l => bif ltB y x then y :: insB x l else x :: y :: l
def sortB : List (List UInt8) → List (List UInt8)
  | [] => []
  | x :: l => insB x (sortB l)
def keyB : List MapEntry → Option (List (List UInt8))
  | [] => some []
  | e :: es => match e.key with
    | .string s => (keyB es).map (bytes s :: ·)
    | _ => none

/-- 'slices.Sorted(maps.Keys(m))': the keys of a map that a cell holds, sorted -/
structure Ctx where
  x : FuncId → Nat
  m : FuncId → List Value → Option Value
  h : FuncId → List Value → Option WM

/-- the entries' stamps: rising, below the clock -/
def stampB (c : Nat) : Nat → List MapEntry → Bool
  | _, [] => true
  | lo, e :: es => lo.ble e.born && e.born.blt c && stampB c (Nat.succ e.born) es
def strictB : List (List UInt8) → Bool
  | x :: y :: l => ltB x y && strictB (y :: l)
  | _ => true
def keysOk (l : List (List UInt8)) (c : Nat) (es : List MapEntry) : Bool := stampB c 0 es && l.length.ble 1048576 && (l.all fun x => x.length.ble 1048576) && strictB (sortB l)
def eSortedM (e : TypeId) (m : Value) : EM Value := (mapOf m).bnd fun ec =>
    match keyB ec.1 with
    | some [] => EM.ret (.slice none 0 0)
    | some l => bif keysOk l ec.2 ec.1 then (enew (.cells ((sortB l).map fun b => .string (ofBytes b)) e)).bnd fun r => EM.ret (.slice (some ⟨r, 0, none⟩) l.length 0) else bad "sorted keys"
    | none => bad "sorted keys"
def eSortedKeys (e : TypeId) (a : Addr) : EM Value :=
  match a with
  | ⟨r, 0, none⟩ => (eget r).bnd fun o =>
    match o with
    | .kcell m => eSortedM e m
    | _ => bad "sorted keys"
  | _ => bad "sorted keys"

def hasBody (P : Program) (f : FuncId) : Bool :=
  match P.funcs[f]? with
  | some fn => fn.body.isSome
  | none => false

def eKeysFn (X : Ctx) (f : FuncId) (args : List Value) : EM ENext :=
  match args with
  | [.func (.func g) ⟨[]⟩ ⟨[.pointer (some a)]⟩] =>
    match X.x g with
    | 7 => EM.ret (.keys f g a)
    | _ => bad "sorted"
  | _ => bad "sorted"

def eSumFn (X : Ctx) (f : FuncId) (args : List Value) : EM ENext :=
  match X.m f args with
  | some v => bif plainL args && plain v then EM.ret (.done f args v) else bad "summary"
  | none => EM.ret (.enter f args)

def eHeapFn (X : Ctx) (f : FuncId) (args : List Value) : EM ENext :=
  match X.h f args with
  | some m => EM.ret (.heap f args m)
  | none => EM.ret (.enter f args)

def eCallFunc (P : Program) (X : Ctx) (f : FuncId) (args : List Value) : EM ENext :=
  match X.x f with
  | 0 => bif hasBody P f then EM.ret (.enter f args) else bad "no body"
  | 6 => bif hasBody P f then eKeysFn X f args else bad "no body"
  | 8 => bif hasBody P f then eSumFn X f args else bad "no body"
  | 9 => bif hasBody P f then eHeapFn X f args else bad "no body"
  | k => (eExtern k args).bnd fun v => EM.ret (.val v)

def vl (m : EM Value) : EM ENext := m.bnd fun v => EM.ret (.val v)
def vo (w : String) (m : Option Value) : EM ENext :=
  match m with
  | some v => EM.ret (.val v)
  | none => bad w

def eBuiltin (P : Program) (b : Builtin) (ts : Array TypeId) (args : Array Value) : EM ENext :=
  match b with
  | .append => vl (eAppend P ts args)
  | .copy => vl (eCopy P ts args)
  | .len => vl (eLen P ts args)
  | .clear => vl (eClear P ts args)
  | .max => vo "max" (eMinMax true args.toList)
  | .min => vo "min" (eMinMax false args.toList)
  | .delete =>
    match ts.toList, args.toList with
    | t :: _, m :: k :: _ => (eDelete P t m k).bnd fun _ => EM.ret (.val undef)
    | _, _ => bad "delete"
  | .recover => EM.ret .recover
  | .unsafeString => vl (eUnsafeString P ts args)
  | .unsafeSliceData => vl (eSliceData args)
  | _ => bad "builtin"

def eInvoke (P : Program) (X : Ctx) (t : Target) (args : List Value) : EM ENext :=
  match t with
  | .builtin b ts _ _ => eBuiltin P b ts ⟨args⟩
  | .fn (.func f) captured => eCallFunc P X f (args ++ captured.toList)
  | .fn (.yield l) _ => (eget l).bnd fun o =>
    match o with
    | .loop _ _ nt tm params assign body _ =>
      bif args.length.beq params.size then EM.ret (.round l nt (setAll nt tm (params.toList.zip args)) assign body) else bad "yield"
    | _ => bad "yield"
  | _ => bad "invoke"

def mapA (ρ : Operand → Value) : List Operand → List Value
  | [] => []
  | x :: l => ρ x :: mapA ρ l

def eResolve (ρ : Operand → Value) (c : Call) (type : TypeId) : Option (Target × List Value) :=
  match c.callee with
  | .builtin b => some (.builtin b c.argTypes type #[], mapA ρ c.args.toList)
  | .invoke _ _ => none
  | .value f =>
    match ρ f with
    | .func fn first captured => some (.fn fn captured, first.toList ++ mapA ρ c.args.toList)
    | _ => none

def mapP (ρ : Operand → Value) : List (Nat × Operand) → List (Nat × Value)
  | [] => []
  | (i, x) :: l => (i, ρ x) :: mapP ρ l

def eExtract (vs : List Value) (i : Nat) : Option Value :=
  match nth vs i with
  | some v => bif notTup v then some v else none
  | none => none
def eop (P : Program) (X : Ctx) (ρ : Operand → Value) (o : Oper) : EM ENext :=
  match o.op with
  | .move x => EM.ret (.val (ρ x))
  | .assign x => EM.ret (.val (ρ x))
  | .pick c a b =>
    match ρ c with
    | .bool t => EM.ret (.val (bif t then ρ a else ρ b))
    | _ => bad "pick"
  | .alloc e =>
    match zer P e with
    | some z => (enew (.cells z.cells.toList e)).bnd fun r => EM.ret (.val (mkPtr r))
    | none => bad "alloc"
  | .box e x => bif notTup (ρ x) then (enew (.cells (ρ x).cells.toList e)).bnd fun r => EM.ret (.val (mkPtr r)) else bad "box"
  | .build t ps => vo "build" (eBuild P t (mapP ρ ps.toList))
  | .buildSlice t n ps => vl (eBuildSlice P t n (mapP ρ ps.toList))
  | .load t a => (sureA (ρ a)).bnd fun a => vl (rd P t a)
  | .store t a x => (sureA (ρ a)).bnd fun a => (wr P t a (ρ x)).bnd fun _ => EM.ret .skip
  | .nilCheck x =>
    match ρ x with
    | .pointer (some a) => EM.ret (.val (.pointer (some a)))
    | .func (.func f) a b => EM.ret (.val (.func (.func f) a b))
    | .func (.yield f) a b => EM.ret (.val (.func (.yield f) a b))
    | _ => bad "nilCheck"
  | .binOp op t x y _ => vo "binOp" (eBin P op t x y (ρ x) (ρ y))
  | .unOp op _ x => vo "unOp" (eUn op (ρ x))
  | .convert s d x => vl (eConvert P s d (ρ x))
  | .makeInterface t x =>
    match und P t with
    | some (.interface _) | none => bad "makeInterface"
    | some _ => EM.ret (.val (.iface t (ρ x)))
  | .makeFunc (.func f) first captured => EM.ret (.val (.func (.func f) ⟨mapA ρ first.toList⟩ ⟨mapA ρ captured.toList⟩))
  | .makeMap _ none => (enew (.map [] 0)).bnd fun r => EM.ret (.val (.map (some r)))
  | .makeMap t (some h) =>
    match und P t, ρ h with
    | some (.map _ _), .int _ _ => (enew (.map [] 0)).bnd fun r => EM.ret (.val (.map (some r)))
    | _, _ => bad "makeMap"
  | .makeSlice t l c => vl (eMakeSlice P t (ρ l) (ρ c))
  | .slice t x l h m => vl (eSlice P t (ρ x) (l.map ρ) (h.map ρ) (m.map ρ))
  | .fieldAddr t x f => vo "fieldAddr" (eFieldAddr P t (ρ x) f)
  | .field t x f => vo "field" (eField P t (ρ x) f)
  | .indexAddr t x i => vo "indexAddr" (eIndexAddr P t (ρ x) (ρ i))
  | .index t x i => vo "index" (eIndex P t (ρ x) (ρ i))
  | .lookup t x i ok => vl (eLookup P t (ρ x) (ρ i) ok)
  | .mapUpdate t m k v => (eMapUpdate P t (ρ m) (ρ k) (ρ v)).bnd fun _ => EM.ret .skip
  | .insert t m k v => (eMapUpdate P t (ρ m) (ρ k) (ρ v)).bnd fun _ => EM.ret .skip
  | .mapEntry t m k => vl (eMapEntry P t (ρ m) (ρ k))
  | .entryStore _ m s v => (eEntryStore (ρ m) (ρ s) (ρ v)).bnd fun _ => EM.ret .skip
  | .range t x => vl (eRange P t (ρ x))
  | .next i s => vl (eNext (ρ i) s)
  | .entry i => vl (eEntry (ρ i))
  | .typeAssert x _ t ok => vo "typeAssert" (eTypeAssert P (ρ x) t ok)
  | .extract t i =>
    match ρ t with
    | .tuple vs => vo "extract" (eExtract vs.toList i)
    | _ => bad "extract"
  | .call c =>
    match eResolve ρ c o.type with
    | some (t, as) => eInvoke P X t as
    | none => bad "resolve"
  | .defer c =>
    match eResolve ρ c o.type with
    | some (t, as) => EM.ret (.defer { target := t, args := ⟨as⟩ })
    | none => bad "resolve"
  | .panic x =>
    match ρ x with
    | .iface t v => EM.ret (.panic (.iface t v))
    | _ => bad "panic"
  | _ => bad "op"

/-! ### code -/
inductive PK where
  | no
  | yes (v : Value)
  | done
  deriving Inhabited

structure Fr where
  nt : Nat
  tm : Tr Value
  df : List Deferred
  pk : PK

inductive Md where
  | ret
  | pan (v : Value)
  deriving Inhabited

inductive Ex where
  | normal
  | exit (id : Nat)
  | ret
  | pan (v : Value)
  deriving Inhabited

inductive Task where
  | code (c : Code) (rd : Option Nat) (a : Fr)
  | ops (ops : List Oper) (l : List Oper) (rd : Option Nat) (a : Fr)
  | call (f : FuncId) (args : List Value) (pk : PK)
  | unw (fn : Func) (m : Md) (a : Fr)
  | rnd (l : Nat) (nt : Nat) (tm : Tr Value) (assign body : Code)

inductive Out where
  | code (e : Ex) (a : Fr) (s : ES)
  | ret (v : Value) (pk : PK) (s : ES)
  | pan (v : Value) (pk : PK) (s : ES)
  | bad (why : String)
  deriving Inhabited

def put (a : Fr) (dst : Option Tmp) (v : Value) : Fr :=
  match dst with
  | some d => bif d.blt a.nt then { a with tm := a.tm.upd d (some v) } else a
  | none => a

def dstOf (ops : List Oper) (j : Nat) : Option Tmp :=
  match nth ops j with
  | some o => o.dst
  | none => none
def wantE (ops : List Oper) (tm : Tr Value) (o : Oper) : Option Bool :=
  match o.guard with
  | none => some true
  | some (j, want) =>
    match dstOf ops j with
    | some d =>
      match getv tm d with
      | .bool b => some (b == want)
      | .tuple ⟨[]⟩ => some false
      | _ => none
    | none => some false

def setFrom (tm : Tr Value) : Nat → List Value → Tr Value
  | _, [] => tm
  | i, v :: l => setFrom (tm.upd i (some v)) (i + 1) l

def resL (P : Program) (tm : Tr Value) : List ResultVar → EM (List Value)
  | [] => EM.ret []
  | .tmp t :: l => (resL P tm l).bnd fun vs => EM.ret (evalO tm (.tmp t) :: vs)
  | .cell a t :: l => (sureA (evalO tm (.tmp a))).bnd fun a => (rd P t a).bnd fun v => (resL P tm l).bnd fun vs => EM.ret (v :: vs)

def eResults (P : Program) (fn : Func) (tm : Tr Value) : EM Value :=
  (resL P tm fn.results.toList).bnd fun vs =>
  match vs with
  | [v] => EM.ret v
  | vs => EM.ret (.tuple ⟨vs⟩)

def emptyFr (nt : Nat) (args : List Value) (pk : PK) : Fr := { nt := Nat.add args.length (Nat.sub nt args.length), tm := setFrom .nil 0 args, df := [], pk }

abbrev Rec : Type := Task → ES → Out

def cSeq (r : Rec) (x y : Code) (rd : Option Nat) (a : Fr) (s : ES) : Out :=
  match r (.code x rd a) s with
  | .code .normal a' s' => r (.code y rd a') s'
  | o => o
def cCond (r : Rec) (v : Value) (x y : Code) (rd : Option Nat) (a : Fr) (s : ES) : Out :=
  match v with
  | .bool t => r (.code (bif t then x else y) rd a) s
  | _ => .bad "cond"
def cBlock (r : Rec) (id : Nat) (c : Code) (rd : Option Nat) (a : Fr) (s : ES) : Out :=
  match r (.code c rd a) s with
  | .code (.exit i) a' s' => bif i.beq id then .code .normal a' s' else .code (.exit i) a' s'
  | o => o
def cLoop (r : Rec) (c : Code) (rd : Option Nat) (a : Fr) (s : ES) : Out :=
  match r (.code c rd a) s with
  | .code .normal a' s' => r (.code (.loop c) rd a') s'
  | o => o

def rfMark (rd : Option Nat) : EM (Nat × List Deferred) :=
  match rd with
  | none => (enew (.dfr (some []))).bnd fun r => EM.ret (r, [{ target := .collected r, args := #[] }])
  | some l => (eget l).bnd fun o =>
    match o with
    | .loop _ _ _ _ _ _ _ dr => EM.ret (dr, [])
    | _ => bad "loop"
def rfEnd (l : Nat) : EM (Option Code) := (eget l).bnd fun o =>
  match o with
  | .loop st jump nt tm0 ps as bo dr =>
    match st with
    | .busy => bad "busy"
    | _ => (eset l (.loop .exhausted jump nt tm0 ps as bo dr)).bnd fun _ => EM.ret jump
  | _ => bad "loop end"
def rfBack (r : Rec) (rd : Option Nat) (a : Fr) : Res (Option Code) → Out
  | .ok none s => .code .normal a s
  | .ok (some c) s => r (.code c rd a) s
  | .bad w => .bad w
def rfRan (r : Rec) (l : Nat) (rd : Option Nat) (a : Fr) : Out → Out
  | .ret _ _ s => rfBack r rd a (rfEnd l s)
  | .pan v _ s => .code (.pan v) a s
  | .bad w => .bad w
  | _ => .bad "rangeFunc"
def rfCall (r : Rec) (l : Nat) (rd : Option Nat) (a : Fr) : Res ENext → Out
  | .ok (.enter f args) s => rfRan r l rd a (r (.call f args .no) s)
  | .bad w => .bad w
  | _ => .bad "rangeFunc"
def rfInv (P : Program) (X : Ctx) (r : Rec) (l : Nat) (rd : Option Nat) (a : Fr) (s : ES) : Value → Out
  | .func fn first captured => rfCall r l rd a (eInvoke P X (.fn fn captured) (first.toList ++ [.func (.yield l) #[] #[]]) s)
  | _ => .bad "rangeFunc: no function"
def addDf (mark : List Deferred) (a : Fr) : Fr := { a with df := mark ++ a.df }
def rfNew (P : Program) (X : Ctx) (r : Rec) (g : Operand) (rd : Option Nat) (a : Fr) : Res Nat → Out
  | .ok l s => rfInv P X r l rd a s (evalO a.tm g)
  | .bad w => .bad w
def cRange (P : Program) (X : Ctx) (r : Rec) (g : Operand) (ps : Array Tmp) (assign body : Code) (rd : Option Nat) (a : Fr) : Res (Nat × List Deferred) → Out
  | .ok m s => rfNew P X r g rd (addDf m.2 a) (enew (.loop .ready none a.nt a.tm ps assign body m.1) s)
  | .bad w => .bad w

/-- what one operation comes to -/
inductive One where
  | go (a : Fr) (v : Value) (s : ES)
  | pan (v : Value) (s : ES)
  | bad (why : String)
  deriving Inhabited
def oCall (a : Fr) : Out → One
  | .ret v _ s => .go a v s
  | .pan v _ s => .pan v s
  | .bad w => .bad w
  | _ => .bad "call"
def oDefer (rd : Option Nat) (a : Fr) (d : Deferred) (s : ES) : One :=
  match rd with
  | none => .go { a with df := d :: a.df } undef s
  | some _ => .bad "defer in a round"
def oRecover (rd : Option Nat) (a : Fr) (s : ES) : One :=
  match rd with
  | none => match a.pk with
    | .yes v => .go { a with pk := .done } v s
    | _ => .go a .nilIface s
  | some _ => .bad "recover in a round"
def elemOf (P : Program) (f : FuncId) : Option TypeId :=
  match P.funcs[f]? with
  | some fn =>
    match fn.resultTypes.toList with
    | [t] => match und P t with
      | some (.slice e) => some e
      | _ => none
    | _ => none
  | none => none
def oVal (a : Fr) : Res Value → One
  | .ok v s => .go a v s
  | .bad w => .bad w
def oKeys (P : Program) (a : Fr) (f : FuncId) (m : Addr) (s : ES) : One :=
  match elemOf P f with
  | some e => oVal a (eSortedKeys e m s)
  | none => .bad "keys"
def one (P : Program) (r : Rec) (rd : Option Nat) (a : Fr) (o : Oper) : Res ENext → One
  | .bad w => .bad (w ++ " @ " ++ o.pos)
  | .ok nx s =>
    match nx with
    | .val v => .go a v s
    | .skip => .go a undef s
    | .enter f args => oCall a (r (.call f args .no) s)
    | .done _ _ v => .go a v s
    | .keys f _ m => oKeys P a f m s
    | .heap _ _ m => oVal a (m.run s)
    | .round l nt tm assign body => oCall a (r (.rnd l nt tm assign body) s)
    | .defer d => oDefer rd a d s
    | .recover => oRecover rd a s
    | .panic v => .pan v s
def oGo (r : Rec) (ops rest : List Oper) (rd : Option Nat) (a : Fr) (o : Oper) (v : Value) (s : ES) : Out := r (.ops ops rest rd (put a o.dst v)) s
def oNext (r : Rec) (ops rest : List Oper) (rd : Option Nat) (a : Fr) (o : Oper) : One → Out
  | .go a1 v s => oGo r ops rest rd a1 o v s
  | .pan v s => .code (.pan v) a s
  | .bad w => .bad w
def evOps (P : Program) (X : Ctx) (r : Rec) (ops : List Oper) (rd : Option Nat) (a : Fr) (s : ES) : List Oper → Out
  | [] => .code .normal a s
  | o :: rest =>
    match wantE ops a.tm o with
    | some true => oNext r ops rest rd a o (one P r rd a o (eop P X (evalO a.tm) o s))
    | some false => oGo r ops rest rd a o undef s
    | none => .bad "guard"

/-! ### regions whose order is drawn: run in the text's order; what is unordered must not touch the same -/
/-- what is no reading and no making: everything that may change memory -/
def bigOp : Op → Bool
  | .move _ | .assign _ | .pick .. | .build .. | .fieldAddr .. | .field .. | .unOp .. | .makeInterface .. | .makeFunc .. | .extract .. | .nilCheck _ | .binOp .. | .indexAddr .. | .index .. | .typeAssert .. => false
  | .alloc _ | .box .. | .buildSlice .. | .makeMap .. | .makeSlice .. => false
  | .load .. | .lookup .. | .slice .. | .convert .. => false
  | .call { callee := .builtin b, .. } => match b with
    | .len | .max | .min | .unsafeSliceData => false
    | _ => true
  | _ => true
def makesOp : Op → Bool
  | .alloc _ | .box .. | .buildSlice .. | .makeMap .. | .makeSlice .. | .convert .. => true
  | _ => false
def nameOf : Value → List Nat
  | .pointer (some a) => [a.block]
  | .slice (some a) _ _ => [a.block]
  | .map (some r) => [r]
  | _ => []
def readsOf (ρ : Operand → Value) : Op → List Nat
  | .load _ a => nameOf (ρ a)
  | .lookup _ m _ _ => nameOf (ρ m)
  | .slice _ x _ _ _ => nameOf (ρ x)
  | .convert _ _ x => nameOf (ρ x)
  | .call { callee := .builtin .len, args, .. } => match args.toList with
    | x :: _ => nameOf (ρ x)
    | [] => []
  | _ => []
def tmpsOf : List Operand → List Nat
  | [] => []
  | .tmp t :: l => t :: tmpsOf l
  | _ :: l => tmpsOf l
def hasN (n : Nat) : List Nat → Bool
  | [] => false
  | m :: l => n.beq m || hasN n l
def useOf (ops : List Oper) (o : Oper) : List Nat :=
  match o.guard with
  | none => tmpsOf o.op.operands.toList
  | some (j, _) => match dstOf ops j with
    | some d => d :: tmpsOf o.op.operands.toList
    | none => tmpsOf o.op.operands.toList
def apartO (ops : List Oper) (x y : Oper) : Bool :=
  (match x.dst with | some d => !(hasN d (useOf ops y)) | none => true) && (match y.dst with | some d => !(hasN d (useOf ops x)) | none => true) &&
  (match x.dst, y.dst with | some d, some e => !(d.beq e) | _, _ => true)
def ordB (b : Array Nat) (i j : Nat) : Bool := (b.getD j 0).testBit i
def noDR (o : Oper) : Bool :=
  match o.op with
  | .defer _ | .panic _ => false
  | .call { callee := .builtin .recover, .. } => false
  | _ => true
/-- x lies before y in the text, and the two are unordered -/
def freeOk (ops : List Oper) (x y : Oper) : Bool := apartO ops x y && !(bigOp x.op && bigOp y.op) && !(makesOp x.op && bigOp y.op)
def dOk1 (ops : List Oper) (b : Array Nat) (j : Nat) (y : Oper) : Nat → List Oper → Bool
  | _, [] => true
  | i, x :: l => bif i.beq j then true else (ordB b i j || freeOk ops x y) && dOk1 ops b j y (Nat.succ i) l
def dOk2 (ops : List Oper) (b : Array Nat) : Nat → List Oper → Bool
  | _, [] => true
  | j, y :: l => noDR y && dOk1 ops b j y 0 ops && dOk2 ops b (Nat.succ j) l
def backOk : Nat → List Oper → Bool
  | _, [] => true
  | i, o :: l => (o.after.toList.all fun e => match e.ground with | .gcOnly _ => true | _ => e.on.blt i) && backOk (Nat.succ i) l
def dOkAll (ops : Array Oper) : Bool :=
  backOk 0 ops.toList && (!(Region.departs ops) || (Region.linearise .gc ops 0).length.beq ops.size) && dOk2 ops.toList (Region.before ops) 0 ops.toList

structure DRec where
  big : Bool
  ns : List Nat
  lo : Nat
  hi : Nat
def meets : List Nat → List Nat → Bool
  | [], _ => false
  | n :: l, m => hasN n m || meets l m
def made (ns : List Nat) (lo hi : Nat) : Bool := ns.any fun n => lo.ble n && n.blt hi
/-- the new one against an earlier one -/
def recOk (x y : DRec) : Bool :=
  match x.big, y.big with
  | true, true => false
  | true, false => !(meets y.ns x.ns) && !(made y.ns x.lo x.hi)
  | false, true => !(meets x.ns y.ns)
  | false, false => !(made y.ns x.lo x.hi)
/-- 'hist': the earlier ones, the last first; 'i': the last one's place, plus one -/
def histOk (b : Array Nat) (j : Nat) (y : DRec) : Nat → List DRec → Bool
  | _, [] => true
  | 0, _ :: _ => false
  | i + 1, x :: l => (recOk x y || ordB b i j) && histOk b j y i l

def dNext (b : Array Nat) (j : Nat) (hist : List DRec) (y : DRec) (k : List DRec → Out) : Out :=
  bif histOk b j y j hist then k (y :: hist) else .bad "an open order of evaluation"
def dBig (b : Array Nat) (j : Nat) (hist : List DRec) (o : Oper) (lg : List Nat) (lo : Nat) (k : Fr → ES → List DRec → Out) : One → Out
  | .go a1 v s1 => dNext b j hist ⟨true, s1.lg, lo, s1.nx⟩ (k (put a1 o.dst v) { s1 with lg := s1.lg ++ lg })
  | .pan _ _ => .bad "a panic in a drawn order"
  | .bad w => .bad w
def dLoc (b : Array Nat) (j : Nat) (hist : List DRec) (o : Oper) (a : Fr) (ns : List Nat) (lo : Nat) (k : Fr → ES → List DRec → Out) : Res ENext → Out
  | .ok (.val v) s1 => dNext b j hist ⟨false, ns, lo, s1.nx⟩ (k (put a o.dst v) s1)
  | .ok _ _ => .bad "drawn"
  | .bad w => .bad (w ++ " @ " ++ o.pos)
def dGo (P : Program) (X : Ctx) (r : Rec) (ops : List Oper) (b : Array Nat) (rd : Option Nat) : List Oper → Nat → Fr → ES → List DRec → Out
  | [], _, a, s, _ => .code .normal a s
  | o :: rest, j, a, s, hist =>
    match wantE ops a.tm o with
    | none => .bad "guard"
    | some false => dNext b j hist ⟨false, [], s.nx, s.nx⟩ (dGo P X r ops b rd rest (Nat.succ j) (put a o.dst undef) s)
    | some true =>
      bif bigOp o.op then dBig b j hist o s.lg s.nx (dGo P X r ops b rd rest (Nat.succ j)) (one P r rd a o (eop P X (evalO a.tm) o { s with lg := [] }))
      else dLoc b j hist o a (readsOf (evalO a.tm) o.op) s.nx (dGo P X r ops b rd rest (Nat.succ j)) (eop P X (evalO a.tm) o s)
def dReg (P : Program) (X : Ctx) (r : Rec) (ops : Array Oper) (rd : Option Nat) (a : Fr) (s : ES) : Out :=
  bif dOkAll ops then dGo P X r ops.toList (Region.before ops) rd ops.toList 0 a s [] else .bad "a drawn region"

def evCode (P : Program) (X : Ctx) (r : Rec) (c : Code) (rd : Option Nat) (a : Fr) (s : ES) : Out :=
  match c with
  | .skip => .code .normal a s
  | .label _ => .code .normal a s
  | .seq x y => cSeq r x y rd a s
  | .cond c x y => cCond r (evalO a.tm c) x y rd a s
  | .block id c => cBlock r id c rd a s
  | .loop c => cLoop r c rd a s
  | .exit id => .code (.exit id) a s
  | .ret => .code .ret a s
  | .scope c => r (.code c rd a) s
  | .region _ ops d => bif d then dReg P X r ops rd a s else r (.ops ops.toList ops.toList rd a) s
  | .rangeFunc g ps assign body => cRange P X r g ps assign body rd a (rfMark rd s)
  | _ => .bad "code"

def evBody (r : Rec) (fn : Func) : Out → Out
  | .code .normal a s => r (.unw fn .ret a) s
  | .code .ret a s => r (.unw fn .ret a) s
  | .code (.pan v) a s => r (.unw fn (.pan v) a) s
  | .bad w => .bad w
  | _ => .bad "call: exit"
def evCall (P : Program) (r : Rec) (f : FuncId) (args : List Value) (pk : PK) (s : ES) : Out :=
  match P.funcs[f]? with
  | some fn =>
    match fn.body with
    | some c => evBody r fn (r (.code c none (emptyFr fn.ntmps args pk)) s)
    | none => .bad "call: no body"
  | none => .bad "call: no func"

def uRet (pk : PK) : Res Value → Out
  | .ok v s => .ret v pk s
  | .bad w => .bad w
def uEnd (P : Program) (fn : Func) (m : Md) (a : Fr) (s : ES) : Out :=
  match m with
  | .ret => uRet a.pk (eResults P fn a.tm s)
  | .pan v => .pan v a.pk s
def takeD (n : Nat) : EM (List Deferred) := (eget n).bnd fun o =>
  match o with
  | .dfr (some l) => (eset n (.dfr none)).bnd fun _ => EM.ret l
  | _ => bad "collected"
def uColl (r : Rec) (fn : Func) (m : Md) (a : Fr) (ds : List Deferred) : Res (List Deferred) → Out
  | .ok l s => r (.unw fn m { a with df := l ++ ds }) s
  | .bad w => .bad w
def pkOf : Md → PK
  | .ret => .no
  | .pan v => .yes v
def mdOf : Md → PK → Md
  | .ret, _ => .ret
  | .pan _, .done => .ret
  | .pan v, _ => .pan v
def uCalled (r : Rec) (fn : Func) (m : Md) (a : Fr) (ds : List Deferred) : Out → Out
  | .ret _ pk s => r (.unw fn (mdOf m pk) { a with df := ds }) s
  | .bad w => .bad w
  | _ => .bad "a panic in a deferred call"
def uInv (r : Rec) (fn : Func) (m : Md) (a : Fr) (ds : List Deferred) : Res ENext → Out
  | .ok (.enter f args) s => uCalled r fn m a ds (r (.call f args (pkOf m)) s)
  | .ok (.val _) s => r (.unw fn m { a with df := ds }) s
  | .ok _ _ => .bad "deferred"
  | .bad w => .bad w
def evUnw (P : Program) (X : Ctx) (r : Rec) (fn : Func) (m : Md) (a : Fr) (s : ES) : Out :=
  match a.df with
  | [] => uEnd P fn m a s
  | d :: ds =>
    match d.target with
    | .collected n => uColl r fn m a ds (takeD n s)
    | t => uInv r fn m a ds (eInvoke P X t d.args.toList s)

def rBegin (l : Nat) : EM Unit := (eget l).bnd fun o =>
  match o with
  | .loop .ready p fn tm0 ps as bo dr => eset l (.loop .busy p fn tm0 ps as bo dr)
  | _ => bad "begin round"
def rFin (l : Nat) (b : Bool) (jump : Option Code) : EM Value := (eget l).bnd fun o =>
  match o with
  | .loop _ _ fn tm0 ps as bo dr => (eset l (.loop (bif b then .ready else .done) jump fn tm0 ps as bo dr)).bnd fun _ => EM.ret (.bool b)
  | _ => bad "round end"
def rPan (v : Value) (a : Fr) (s : ES) : Out :=
  match a.df with
  | [] => .pan v .no s
  | _ => .bad "round: deferred calls"
def rDone (l : Nat) : Out → Out
  | .code .normal _ s => uRet .no (rFin l true none s)
  | .code .ret _ s => uRet .no (rFin l false (some .ret) s)
  | .code (.exit id) _ s => uRet .no (rFin l false (some (.exit id)) s)
  | .code (.pan v) a s => rPan v a s
  | .bad w => .bad w
  | _ => .bad "round"
def rBody (r : Rec) (l : Nat) (body : Code) (a : Fr) : Res Unit → Out
  | .ok _ s => rDone l (r (.code body (some l) a) s)
  | .bad w => .bad w
def rAssigned (r : Rec) (l : Nat) (body : Code) : Out → Out
  | .code .normal a s => rBody r l body a (rBegin l s)
  | .bad w => .bad w
  | _ => .bad "round: assign"
def evRnd (r : Rec) (l : Nat) (nt : Nat) (tm : Tr Value) (assign body : Code) (s : ES) : Out :=
  rAssigned r l body (r (.code assign (some l) { nt, tm, df := [], pk := .no }) s)

def evS (P : Program) (X : Ctx) (r : Rec) (t : Task) (s : ES) : Out :=
  match t with
  | .code c rd a => evCode P X r c rd a s
  | .ops ops l rd a => evOps P X r ops rd a s l
  | .call f args pk => evCall P r f args pk s
  | .unw fn m a => evUnw P X r fn m a s
  | .rnd l nt tm assign body => evRnd r l nt tm assign body s

def ev (P : Program) (X : Ctx) : Nat → Rec
  | 0 => fun _ _ => .bad "fuel"
  | n + 1 => evS P X (ev P X n)

end
end Go.E

