/- The symbolic runner: its data and its steps. No program in sight. -/
import GoSem.Dispatch
import GoSem.Machine.Return
namespace Go.Sx
open Go

/-- A trie keyed by numbers. -/
inductive Tr (α : Type) where
  | nil
  | node (l : Tr α) (v : Option α) (r : Tr α)
  deriving Inhabited

def Tr.get {α : Type} : Tr α → Nat → Option α
  | .nil, _ => none
  | .node l v r, n => cond (Nat.beq n 0) v (cond (Nat.beq (n % 2) 1) (l.get (n / 2)) (r.get (n / 2 - 1)))

def Tr.left {α : Type} : Tr α → Tr α | .nil => .nil | .node l _ _ => l
def Tr.right {α : Type} : Tr α → Tr α | .nil => .nil | .node _ _ r => r
def Tr.here {α : Type} : Tr α → Option α | .nil => none | .node _ v _ => v

def Tr.put {α : Type} (x : Option α) : (fuel : Nat) → Tr α → Nat → Tr α
  | 0, t, _ => t
  | f + 1, t, n => cond (Nat.beq n 0) (.node t.left x t.right) (cond (Nat.beq (n % 2) 1) (.node (Tr.put x f t.left (n / 2)) t.here t.right) (.node t.left t.here (Tr.put x f t.right (n / 2 - 1))))
def Tr.set {α : Type} (t : Tr α) (n : Nat) (x : α) : Tr α := Tr.put (some x) (Nat.log2 (n + 1) + 1) t n
def Tr.del {α : Type} (t : Tr α) (n : Nat) : Tr α := Tr.put none (Nat.log2 (n + 1) + 1) t n

/-- Whole numbers, told by a term. -/
inductive IE where
  | lit (n : Int)
  | var (i : Nat)
  | add (a b : IE) | sub (a b : IE) | mul (a b : IE)
  | tdiv (a b : IE) | tmod (a b : IE)
  | wrap (k : IntKind) (a : IE)
  | imin (a b : IE) | imax (a b : IE)
  /-- An unknown text's length; the byte at a place. -/
  | len (s : Nat)
  | at (s : Nat) (k : IE)
  deriving DecidableEq, Inhabited, Repr

/-- Texts: their bytes, or one that is not known; two behind one another; a part of one. -/
inductive SE where
  | lit (l : List Nat)
  | var (i : Nat)
  | cat (a b : SE)
  | sub (a : SE) (lo hi : IE)
  deriving DecidableEq, Inhabited, Repr

inductive BE where
  | lit (b : Bool)
  | eq (a b : IE) | lt (a b : IE) | le (a b : IE)
  | not (a : BE)
  | seq (a b : SE) | slt (a b : SE)
  deriving DecidableEq, Inhabited, Repr

/-- How much room a slice has: known, or not known (its elements' cells). -/
inductive Room where
  | known (c : Nat)
  | wide (size : Nat)
  deriving DecidableEq, Inhabited, Repr

inductive SV where
  | bool (b : BE)
  | int (k : IntKind) (e : IE)
  | str (s : SE)
  | nilPtr
  | ptr (id off : Nat)
  | nilSlice
  | slice (id off len : Nat) (room : Room)
  | nilMap
  | map (id : Nat)
  | func (fn : Fn) (first captured : List SV)
  | nilFunc
  | iface (t : TypeId) (v : SV)
  | nilIface
  | agg (cs : List SV)
  | tuple (vs : List SV)
  /-- A value of one cell that is told elsewhere. -/
  | dyn (id : Nat)
  deriving Inhabited, Repr

/-- Which of a block's cells may be frozen: none; the first so many; none, but a mark stands behind the last. -/
inductive Fz where
  | clean
  | head (f : Nat)
  | tail
  deriving DecidableEq, Inhabited, Repr

/-- A block: its cells (and, if 'more', some behind them that are not known), or something else. -/
inductive SB where
  | cells (cs : Tr SV) (n : Nat) (elem : TypeId) (more : Bool) (froz : Fz)
  | map (es : List (SV × SV))
  | siter (s : List Nat) (pos : Nat)
  | resv
  deriving Inhabited

/-- The memory: its blocks; the next number; what is known of the rest (by a number). -/
structure SH where
  blocks : Tr SB
  next : Nat
  inv : Nat := 0
  deriving Inhabited

structure St where
  tmps : Tr SV
  n : Nat
  defers : List (FuncId × List SV)
  h : SH
  deriving Inhabited

inductive Ex where
  | nrm
  | exit (id : Nat)
  | ret
  deriving Inhabited

inductive Res where
  | val (v : SV) (h : SH)
  | skip (h : SH)
  | enter (f : FuncId) (args : List SV) (h : SH)
  | defer (d : FuncId) (args : List SV) (h : SH)

end Go.Sx
namespace Go.Sx
open Go

/-- What is known of the program beside its text, and of the unknowns. -/
structure Cx where
  P : Program
  /-- How many package-level variables there are: their ids come first; ids below 'ro' are read alone. -/
  ng : Nat
  ro : Nat
  /-- Functions without a text: what they do. -/
  exts : List (FuncId × Nat)
  /-- Methods behind interface values: type, name, function (the receiver is handed on as it lies). -/
  meths : List (TypeId × String × FuncId)
  hintI : List (IE × IE)
  hintB : List (BE × Bool)
  hintS : List (SE × SE) := []
  /-- Terms, and the numbers that they lie between. -/
  rng : List (IE × Int × Int) := []
  /-- Calls that are not run, but told: function, arguments, memory. -/
  told : FuncId → List SV → SH → Option (SV × SH) := fun _ _ _ => none
  /-- Operations that are told: slots, memory, operation. -/
  toldV : Tr SV → SH → Op → Option Res := fun _ _ _ => none
  /-- Loops that are told: body, frame. -/
  toldL : Code → St → Option (Ex × St) := fun _ _ => none

/-! ### numbers -/
def IE.find (e : IE) : List (IE × IE) → IE
  | [] => e
  | (x, n) :: r => cond (decide (x = e)) n (IE.find e r)
def SE.find (e : SE) : List (SE × SE) → SE
  | [] => e
  | (x, n) :: r => cond (decide (x = e)) n (SE.find e r)
def rngOf (e : IE) : List (IE × Int × Int) → Option (Int × Int)
  | [] => none
  | (x, r) :: l => cond (decide (x = e)) (some r) (rngOf e l)
/-- Numbers that a term lies between. -/
def IE.iv (R : List (IE × Int × Int)) : IE → Option (Int × Int)
  | .lit n => some (n, n)
  | .add a b => match rngOf (.add a b) R, a.iv R, b.iv R with
    | some r, _, _ => some r
    | none, some (l, h), some (l', h') => some (l + l', h + h')
    | _, _, _ => none
  | .sub a b => match rngOf (.sub a b) R, a.iv R, b.iv R with
    | some r, _, _ => some r
    | none, some (l, h), some (l', h') => some (l - h', h - l')
    | _, _, _ => none
  | .at s k => match rngOf (.at s k) R with
    | some r => some r
    | none => some (0, 255)
  | e => rngOf e R
def BE.find (e : BE) : List (BE × Bool) → BE
  | [] => e
  | (x, b) :: r => cond (decide (x = e)) (.lit b) (BE.find e r)
def kLo : IntKind → Int
  | .i8 => -128 | .i16 => -32768 | .i32 => -2147483648 | .i64 => -9223372036854775808
  | _ => 0
def kHi : IntKind → Int
  | .i8 => 127 | .i16 => 32767 | .i32 => 2147483647 | .i64 => 9223372036854775807
  | .u8 => 255 | .u16 => 65535 | .u32 => 4294967295 | .u64 => 18446744073709551615
/-- A number that needs no wrapping is not wrapped. -/
def IE.bare (R : List (IE × Int × Int)) : IE → IE
  | .wrap k a => match a.iv R with
    | some (l, h) => cond (decide (kLo k ≤ l) && decide (h ≤ kHi k)) a (.wrap k a)
    | none => .wrap k a
  | e => e
def Cx.i (C : Cx) : IE → IE
  | .lit n => .lit n
  | e => ((e.find C.hintI).bare C.rng).find C.hintI
/-- What the bounds tell. -/
def BE.byIv (R : List (IE × Int × Int)) : BE → BE
  | .lt a b => match a.iv R, b.iv R with
    | some (l, h), some (l', h') => cond (decide (h < l')) (.lit true) (cond (decide (h' ≤ l)) (.lit false) (.lt a b))
    | _, _ => .lt a b
  | .le a b => match a.iv R, b.iv R with
    | some (l, h), some (l', h') => cond (decide (h ≤ l')) (.lit true) (cond (decide (h' < l)) (.lit false) (.le a b))
    | _, _ => .le a b
  | .eq a b => match a.iv R, b.iv R with
    | some (l, h), some (l', h') => cond (decide (h < l') || decide (h' < l)) (.lit false) (.eq a b)
    | _, _ => .eq a b
  | e => e
def Cx.b (C : Cx) : BE → BE
  | .lit n => .lit n
  | e => (e.byIv C.rng).find C.hintB
def Cx.s (C : Cx) : SE → SE
  | .lit n => .lit n
  | e => e.find C.hintS
def wrapE (k : IntKind) : IE → IE
  | .lit n => .lit (k.wrap n)
  | e => .wrap k e

def arith (C : Cx) (op : BinOp) (k : IntKind) (x y : IE) : Option IE :=
  match op, x, y with
  | .add, .lit a, .lit b => some (.lit (k.wrap (a + b)))
  | .sub, .lit a, .lit b => some (.lit (k.wrap (a - b)))
  | .mul, .lit a, .lit b => some (.lit (k.wrap (a * b)))
  | .quo, .lit a, .lit b => cond (b == 0) none (some (.lit (k.wrap (a.tdiv b))))
  | .rem, .lit a, .lit b => cond (b == 0) none (some (.lit (a.tmod b)))
  | .and, .lit a, .lit b => some (.lit (k.wrap (BitVec.ofInt k.bits a &&& BitVec.ofInt k.bits b).toNat))
  | .or, .lit a, .lit b => some (.lit (k.wrap (BitVec.ofInt k.bits a ||| BitVec.ofInt k.bits b).toNat))
  | .xor, .lit a, .lit b => some (.lit (k.wrap (BitVec.ofInt k.bits a ^^^ BitVec.ofInt k.bits b).toNat))
  | .andNot, .lit a, .lit b => some (.lit (k.wrap (BitVec.ofInt k.bits a &&& ~~~ BitVec.ofInt k.bits b).toNat))
  | .add, x, y => some (C.i (.wrap k (.add x y)))
  | .sub, x, y => some (C.i (.wrap k (.sub x y)))
  | .mul, x, y => some (C.i (.wrap k (.mul x y)))
  | .quo, x, .lit b => cond (b == 0) none (some (C.i (.wrap k (.tdiv x (.lit b)))))
  | .rem, x, .lit b => cond (b == 0) none (some (C.i (.tmod x (.lit b))))
  | _, _, _ => none

def shiftE (op : BinOp) (k : IntKind) (x y : IE) : Option IE :=
  match op, x, y with
  | .shl, .lit a, .lit b => cond (decide (b < 0)) none (some (.lit (k.wrap (a * 2 ^ min b.toNat k.bits))))
  | .shr, .lit a, .lit b => cond (decide (b < 0)) none (some (.lit (a.fdiv (2 ^ min b.toNat k.bits))))
  | _, _, _ => none

def cmpE (C : Cx) (op : BinOp) (x y : IE) : Option BE :=
  match op, x, y with
  | .eql, .lit a, .lit b => some (.lit (a == b))
  | .neq, .lit a, .lit b => some (.lit (a != b))
  | .lss, .lit a, .lit b => some (.lit (decide (a < b)))
  | .leq, .lit a, .lit b => some (.lit (decide (a ≤ b)))
  | .gtr, .lit a, .lit b => some (.lit (decide (b < a)))
  | .geq, .lit a, .lit b => some (.lit (decide (b ≤ a)))
  | .eql, x, y => cond (decide (x = y)) (some (.lit true)) (some (C.b (.eq x y)))
  | .neq, x, y => cond (decide (x = y)) (some (.lit false)) (some (C.b (.not (.eq x y))))
  | .lss, x, y => some (C.b (.lt x y))
  | .leq, x, y => some (C.b (.le x y))
  | .gtr, x, y => some (C.b (.lt y x))
  | .geq, x, y => some (C.b (.le y x))
  | _, _, _ => none

/-! ### texts -/
def lessL : List Nat → List Nat → Bool
  | _, [] => false
  | [], _ :: _ => true
  | a :: x, b :: y => Nat.blt a b || (Nat.beq a b && lessL x y)
def eqL : List Nat → List Nat → Bool
  | [], [] => true
  | a :: x, b :: y => cond (Nat.beq a b) (eqL x y) false
  | _, _ => false
def lenL {α : Type} : List α → Nat
  | [] => 0
  | _ :: r => Nat.succ (lenL r)

def lenE : SE → IE
  | .lit l => .lit (Int.ofNat (lenL l))
  | .var i => .len i
  | .cat a b => .add (lenE a) (lenE b)
  | .sub _ lo hi => .sub hi lo
def isTrue : BE → Bool
  | .lit true => true
  | _ => false
def strOp (C : Cx) (op : BinOp) (x y : SE) : Option SV :=
  match op, x, y with
  | .add, .lit a, .lit b => cond (Nat.ble (lenL a + lenL b) 16777216) (some (.str (.lit (a ++ b)))) none
  | .eql, .lit a, .lit b => some (.bool (.lit (eqL a b)))
  | .neq, .lit a, .lit b => some (.bool (.lit (!eqL a b)))
  | .lss, .lit a, .lit b => some (.bool (.lit (lessL a b)))
  | .leq, .lit a, .lit b => some (.bool (.lit (lessL a b || eqL a b)))
  | .gtr, .lit a, .lit b => some (.bool (.lit (!(lessL a b || eqL a b))))
  | .geq, .lit a, .lit b => some (.bool (.lit (!lessL a b)))
  | .add, x, y => cond (isTrue (C.b (.le (.add (lenE x) (lenE y)) (.lit 9223372036854775807)))) (some (.str (C.s (.cat x y)))) none
  | .eql, x, y => cond (decide (x = y)) (some (.bool (.lit true))) (some (.bool (C.b (.seq x y))))
  | .neq, x, y => cond (decide (x = y)) (some (.bool (.lit false))) (some (.bool (C.b (.not (.seq x y)))))
  | .lss, x, y => some (.bool (C.b (.slt x y)))
  | .gtr, x, y => some (.bool (C.b (.slt y x)))
  | .leq, x, y => some (.bool (C.b (.not (.slt y x))))
  | .geq, x, y => some (.bool (C.b (.not (.slt x y))))
  | _, _, _ => none

/-! ### constants -/
mutual
def ofVal : Value → Option SV
  | .bool b => some (.bool (.lit b))
  | .int k n => some (.int k (.lit n))
  | .string s => some (.str (.lit (s.data.toList.map UInt8.toNat)))
  | .pointer none => some .nilPtr
  | .slice none 0 0 => some .nilSlice
  | .map none => some .nilMap
  | .nilFunc => some .nilFunc
  | .nilIface => some .nilIface
  | .iface t v => (ofVal v).map (.iface t)
  | .agg cs => (ofVals cs.toList).map .agg
  | .tuple vs => (ofVals vs.toList).map .tuple
  | _ => none
def ofVals : List Value → Option (List SV)
  | [] => some []
  | v :: r => match ofVal v, ofVals r with
    | some x, some l => some (x :: l)
    | _, _ => none
end

/-! ### cells -/
def SV.cells : SV → List SV
  | .agg cs => cs
  | v => [v]
def SV.one : SV → Bool
  | .agg _ | .tuple _ => false
  | _ => true
def allOne : List SV → Bool
  | [] => true
  | v :: r => v.one && allOne r

def trOf (l : List SV) (i : Nat) (t : Tr SV) : Tr SV :=
  match l with
  | [] => t
  | v :: r => trOf r (i + 1) (t.set i v)
/-- The cells from 'i' on, so many. -/
def trList (t : Tr SV) (i : Nat) : Nat → Option (List SV)
  | 0 => some []
  | n + 1 => match t.get i, trList t (i + 1) n with
    | some v, some l => some (v :: l)
    | _, _ => none

def SH.bump (h : SH) : SH := { h with next := h.next + 1 }
def SH.new (h : SH) (id : Nat) (b : SB) : SH := { h with blocks := h.blocks.set id b }
/-- A block that is there already turns. -/
def SH.upd (ro : Nat) (h : SH) (id : Nat) (b : SB) : Option SH := cond (Nat.ble ro id) (some (h.new id b)) none
def newCells (h : SH) (id : Nat) (elem : TypeId) (l : List SV) : SH := h.new id (.cells (trOf l 0 .nil) (lenL l) elem false .clean)

def isAggP (P : Program) (t : TypeId) : Option Bool :=
  match P.underlying t with
  | some (.struct _) | some (.array _ _) => some true
  | some _ => some false
  | none => none
def sizeP (P : Program) (t : TypeId) : Option Nat := (P.info? t).map (·.size)
def zeroP (P : Program) (t : TypeId) : Option SV := ((P.info? t).bind (·.zero)).bind ofVal

def loadS (P : Program) (h : SH) (t : TypeId) (id off : Nat) : Option SV :=
  match h.blocks.get id with
  | some (.cells cs _ _ _ _) =>
    match isAggP P t with
    | some true => match sizeP P t with
      | some n => (trList cs off n).map .agg
      | none => none
    | some false => cs.get off
    | none => none
  | _ => none

/-- Stores go into cells that are known, and not frozen. -/
def frozLe : Fz → Nat → Bool
  | .head f, k => Nat.ble f k
  | _, _ => true
def mayPut (n : Nat) (froz : Fz) (off k : Nat) : Bool :=
  Nat.ble (off + k) n && frozLe froz off
def putCells (ro : Nat) (h : SH) (id off : Nat) (l : List SV) : Option SH :=
  match h.blocks.get id with
  | some (.cells cs n e m f) => cond (mayPut n f off (lenL l) && allOne l) (h.upd ro id (.cells (trOf l off cs) n e m f)) none
  | _ => none
def storeS (C : Cx) (h : SH) (t : TypeId) (id off : Nat) (v : SV) : Option SH :=
  match sizeP C.P t with
  | some n => cond (Nat.beq (lenL v.cells) n) (putCells C.ro h id off v.cells) none
  | none => none

def fieldP (P : Program) (s : TypeId) (f : Nat) : Option Field :=
  match P.underlying s with
  | some (.struct fs) => fs[f]?
  | _ => none

def takeL {α : Type} : Nat → List α → List α
  | 0, _ => []
  | _, [] => []
  | n + 1, a :: r => a :: takeL n r
def dropL {α : Type} : Nat → List α → List α
  | 0, l => l
  | _, [] => []
  | n + 1, _ :: r => dropL n r
def getL {α : Type} : List α → Nat → Option α
  | [], _ => none
  | a :: _, 0 => some a
  | _ :: r, n + 1 => getL r n

def partS (P : Program) (t : TypeId) (cs : List SV) (off : Nat) : Option SV :=
  match isAggP P t, sizeP P t with
  | some true, some n => cond (Nat.ble (off + n) (lenL cs)) (some (.agg (takeL n (dropL off cs)))) none
  | some false, _ => getL cs off
  | _, _ => none

/-- Lays parts over cells. -/
def fillS (place : Nat → Option (Nat × Nat)) (cells : List SV) : List (Nat × SV) → Option (List SV)
  | [] => some cells
  | (i, v) :: rest =>
    match place i with
    | none => none
    | some (off, size) => cond (Nat.beq (lenL v.cells) size && Nat.ble (off + size) (lenL cells))
        (fillS place (takeL off cells ++ v.cells ++ dropL (off + size) cells) rest) none

def rep (l : List SV) : Nat → List SV
  | 0 => []
  | n + 1 => l ++ rep l n

def asLit : SV → Option Nat
  | .int _ (.lit n) => cond (decide (0 ≤ n)) (some n.toNat) none
  | _ => none

def bounds (len top : Nat) (lo hi : Option SV) : Option (Nat × Nat) :=
  match (match hi with | none => some len | some v => (asLit v).bind fun h => cond (Nat.ble h top) (some h) none) with
  | none => none
  | some h => match (match lo with | none => some 0 | some v => asLit v) with
    | none => none
    | some l => cond (Nat.ble l h) (some (l, h)) none

def elemP (P : Program) (t : TypeId) : Option TypeId :=
  match P.underlying t with
  | some (.slice e) => some e
  | _ => none

def asIE : SV → Option IE
  | .int _ e => some e
  | _ => none
/-- A part of a text that is not known. -/
def subS (C : Cx) (x : SE) (lo hi : Option SV) : Option SV :=
  match (match lo with | none => some (.lit 0) | some v => asIE v), (match hi with | none => some (lenE x) | some v => asIE v) with
  | some l, some h => cond (isTrue (C.b (.le (.lit 0) l)) && isTrue (C.b (.le l h)) && isTrue (C.b (.le h (lenE x)))) (some (.str (C.s (.sub x l h)))) none
  | _, _ => none
def sliceS (C : Cx) (t : TypeId) (x : SV) (lo hi : Option SV) : Option SV :=
  match C.P.underlying t, x with
  | some .string, .str (.lit l) => (match bounds (lenL l) (lenL l) lo hi with
    | some (a, b) => some (.str (.lit (takeL (b - a) (dropL a l))))
    | none => subS C (.lit l) lo hi)
  | some .string, .str x => subS C x lo hi
  | some (.slice e), .slice id off len room =>
    match sizeP C.P e, room with
    | some s, .known c => (bounds len c lo hi).map fun (a, b) => .slice id (cond (Nat.beq a c) off (off + a * s)) (b - a) (.known (c - a))
    | some s, .wide s' => cond (Nat.beq s s') ((bounds len len lo hi).bind fun (a, b) => cond (Nat.beq a len && Nat.blt 0 a) none (some (.slice id (off + a * s) (b - a) (.wide s)))) none
    | none, _ => none
  | some (.slice e), .nilSlice => (match sizeP C.P e with | some _ => (bounds 0 0 lo hi).map fun _ => .nilSlice | none => none)
  | some (.array n e), .ptr id off =>
    match sizeP C.P e with
    | some s => (bounds n n lo hi).map fun (a, b) => .slice id (cond (Nat.beq a n) off (off + a * s)) (b - a) (.known (n - a))
    | none => none
  | _, _ => none

def indexAddrS (P : Program) (t : TypeId) (x i : SV) : Option SV :=
  match P.underlying t, x, asLit i with
  | some (.array n e), .ptr id off, some k => (sizeP P e).bind fun s => cond (Nat.blt k n) (some (.ptr id (off + k * s))) none
  | some (.slice e), .slice id off len _, some k => (sizeP P e).bind fun s => cond (Nat.blt k len) (some (.ptr id (off + k * s))) none
  | _, _, _ => none

def indexS (C : Cx) (t : TypeId) (x i : SV) : Option SV :=
  match C.P.underlying t, x with
  | some (.array n e), .agg cs => (asLit i).bind fun k => (sizeP C.P e).bind fun s => cond (Nat.blt k n) (partS C.P e cs (k * s)) none
  | some .string, .str (.lit l) => (asLit i).bind fun k => (getL l k).map fun (b : Nat) => SV.int .u8 (.lit (Int.ofNat b))
  | some .string, .str (.var s) => (asIE i).bind fun k => cond (isTrue (C.b (.le (.lit 0) k)) && isTrue (C.b (.lt k (.len s)))) (some (.int .u8 (C.i (.at s k)))) none
  | _, _ => none

/-- Are two keys the same? -/
def litB : BE → Option Bool
  | .lit b => some b
  | _ => none
def sameKey (C : Cx) : SV → SV → Option Bool
  | .int j (.lit a), .int k (.lit b) => cond (decide (j = k)) (some (a == b)) none
  | .str (.lit a), .str (.lit b) => some (eqL a b)
  | .bool (.lit a), .bool (.lit b) => some (a == b)
  | .int j a, .int k b => cond (decide (j = k)) (litB (C.b (.eq a b))) none
  | .str a, .str b => litB (C.b (.seq a b))
  | _, _ => none
/-- Does the key fit the map's key type? (told by their heads) -/
def keyFits (P : Program) (t : TypeId) (k : SV) : Bool :=
  match P.underlying t, k with
  | some (.int _), .int _ _ => true
  | some .string, .str _ => true
  | some .bool, .bool _ => true
  | _, _ => false
/-- Keys that are arrays of texts. -/
def allStr : List SV → Bool
  | [] => true
  | .str _ :: r => allStr r
  | _ => false
def arrayKey (P : Program) (t : TypeId) (cs : List SV) : Bool :=
  match P.underlying t with
  | some (.array n e) => (match P.underlying e, sizeP P e with
    | some .string, some 1 => Nat.beq n (lenL cs) && allStr cs
    | _, _ => false)
  | _ => false
def sameStrs (C : Cx) : List SV → List SV → Option Bool
  | [], [] => some true
  | .str a :: r, .str b :: s => match sameKey C (.str a) (.str b) with
    | some true => sameStrs C r s
    | some false => some false
    | none => none
  | _, _ => none
def findA (C : Cx) (k : List SV) : List (SV × SV) → Nat → Option (Option (Nat × SV))
  | [], _ => some none
  | (.agg x, v) :: r, i => match sameStrs C k x with
    | some true => some (some (i, v))
    | some false => findA C k r (i + 1)
    | none => none
  | _ :: _, _ => none
def findS (C : Cx) (k : SV) : List (SV × SV) → Nat → Option (Option (Nat × SV))
  | [], _ => some none
  | (x, v) :: r, i => match sameKey C k x with
    | some true => some (some (i, v))
    | some false => findS C k r (i + 1)
    | none => none
def setAt (l : List (SV × SV)) (i : Nat) (x : SV × SV) : List (SV × SV) :=
  match l, i with
  | [], _ => []
  | _ :: r, 0 => x :: r
  | a :: r, i + 1 => a :: setAt r i x
def dropAt (l : List (SV × SV)) (i : Nat) : List (SV × SV) :=
  match l, i with
  | [], _ => []
  | _ :: r, 0 => r
  | a :: r, i + 1 => a :: dropAt r i

/-- A map's entries. -/
def entriesS (h : SH) : SV → Option (List (SV × SV))
  | .nilMap => some []
  | .map id => match h.blocks.get id with
    | some (.map es) => some es
    | _ => none
  | _ => none
def okPair (ok : Bool) (v : SV) (b : Bool) : SV := cond ok (.tuple [v, .bool (.lit b)]) v
/-- Where a key stands among a map's entries. -/
def seekS (C : Cx) (kt : TypeId) (k : SV) (es : List (SV × SV)) : Option (Option (Nat × SV)) :=
  cond (keyFits C.P kt k) (findS C k es 0) (match k with
    | .agg ks => cond (arrayKey C.P kt ks) (findA C ks es 0) none
    | _ => none)
def lookupS (C : Cx) (h : SH) (t : TypeId) (m k : SV) (ok : Bool) : Option SV :=
  match C.P.underlying t with
  | some (.map kt et) =>
    match entriesS h m with
    | none => none
    | some es => match seekS C kt k es with
      | none => none
      | some (some (_, v)) => some (okPair ok v true)
      | some none => (zeroP C.P et).map fun z => okPair ok z false
  | _ => none

def updateS (C : Cx) (h : SH) (t : TypeId) (m k v : SV) : Option SH :=
  match C.P.underlying t, m with
  | some (.map kt _), .map id =>
    match h.blocks.get id with
    | some (.map es) => (match seekS C kt k es with
      | none => none
      | some (some (i, _)) => h.upd C.ro id (.map (setAt es i (k, v)))
      | some none => h.upd C.ro id (.map (es ++ [(k, v)])))
    | _ => none
  | _, _ => none

def deleteS (C : Cx) (h : SH) (t : TypeId) (m k : SV) : Option SH :=
  match C.P.underlying t, m with
  | some (.map kt _), .nilMap => (seekS C kt k []).map fun _ => h
  | some (.map kt _), .map id =>
    match h.blocks.get id with
    | some (.map es) => (match seekS C kt k es with
      | none => none
      | some (some (i, _)) => h.upd C.ro id (.map (dropAt es i))
      | some none => h.upd C.ro id (.map es))
    | _ => none
  | _, _ => none

/-- Equality that is told by the two values' heads. -/
def equalS (C : Cx) (h : SH) (t : TypeId) (x y : SV) : Option BE :=
  match C.P.underlying t, x, y with
  | some .bool, .bool (.lit a), .bool (.lit b) => some (.lit (a == b))
  | some (.pointer _), .nilPtr, .nilPtr => some (.lit true)
  | some (.pointer _), .nilPtr, .ptr _ _ => some (.lit false)
  | some (.pointer _), .ptr _ _, .nilPtr => some (.lit false)
  | some (.pointer e), .ptr i o, .ptr j p =>
    (match sizeP C.P e, h.blocks.get i, h.blocks.get j with
      | some (_ + 1), some (.cells _ _ _ _ .clean), some (.cells _ _ _ _ .clean) =>
        cond (Nat.beq i j) (some (.lit (Nat.beq o p))) (some (.lit false))
      | _, _, _ => none)
  | some (.slice _), .nilSlice, .nilSlice => some (.lit true)
  | some (.slice _), .nilSlice, .slice .. => some (.lit false)
  | some (.slice _), .slice .., .nilSlice => some (.lit false)
  | some (.map _ _), .nilMap, .nilMap => some (.lit true)
  | some (.map _ _), .nilMap, .map _ => some (.lit false)
  | some (.map _ _), .map _, .nilMap => some (.lit false)
  | some (.func ..), .nilFunc, .nilFunc => some (.lit true)
  | some (.func ..), .nilFunc, .func .. => some (.lit false)
  | some (.func ..), .func .., .nilFunc => some (.lit false)
  | some (.interface _), .nilIface, .iface .. => some (.lit false)
  | some (.interface _), .iface .., .nilIface => some (.lit false)
  | _, _, _ => none

def notB : BE → BE
  | .lit b => .lit (!b)
  | .not e => e
  | e => .not e

def binS (C : Cx) (h : SH) (op : BinOp) (t : TypeId) (x y : SV) : Option SV :=
  match op, x, y with
  | .shl, .int k a, .int _ b | .shr, .int k a, .int _ b => (shiftE op k a b).map (.int k)
  | .eql, .int j a, .int k b | .neq, .int j a, .int k b | .lss, .int j a, .int k b | .leq, .int j a, .int k b | .gtr, .int j a, .int k b | .geq, .int j a, .int k b =>
    cond (decide (j = k)) ((cmpE C op a b).map .bool) none
  | _, .int j a, .int k b => cond (decide (j = k)) ((arith C op j a b).map (.int j)) none
  | _, .str a, .str b => strOp C op a b
  | .eql, x, y => (equalS C h t x y).map .bool
  | .neq, x, y => (equalS C h t x y).map fun e => .bool (notB e)
  | _, _, _ => none

def unS (C : Cx) (op : UnOp) (x : SV) : Option SV :=
  match op, x with
  | .neg, .int k a => (arith C .sub k (.lit 0) a).map (.int k)
  | .xor, .int k a => (arith C .xor k (.lit (if k.signed then -1 else k.max)) a).map (.int k)
  | .not, .bool e => some (.bool (notB e))
  | _, _ => none

def isU8 (P : Program) (t : TypeId) : Bool := match P.underlying t with | some (.int .u8) => true | _ => false
def bytesAt (t : Tr SV) (i : Nat) : Nat → Option (List Nat)
  | 0 => some []
  | n + 1 => match t.get i, bytesAt t (i + 1) n with
    | some (.int .u8 (.lit b)), some l => cond (decide (0 ≤ b) && decide (b < 256)) (some (b.toNat :: l)) none
    | _, _ => none

def bytesOfS (h : SH) : SV → Option (List Nat)
  | .str (.lit l) => some l
  | .nilSlice => some []
  | .slice id off len _ => match h.blocks.get id with
    | some (.cells cs _ _ _ _) => bytesAt cs off len
    | _ => none
  | _ => none

def convS (C : Cx) (h : SH) (id : Nat) (src dst : TypeId) (x : SV) : Option (SV × SH) :=
  match C.P.underlying src, C.P.underlying dst, x with
  | some _, some (.int k), .int _ e => some (.int k (match e with | .lit n => .lit (k.wrap n) | e => C.i (.wrap k e)), h)
  | some _, some .string, .str s => some (.str s, h)
  | some _, some (.slice e), .str (.lit l) =>
    cond (isU8 C.P e && Nat.ble (lenL l) 16777216) (some (.slice id 0 (lenL l) (.wide 1), (h.new id (.cells (trOf (l.map fun b => SV.int .u8 (.lit (Int.ofNat b))) 0 .nil) (lenL l) e true .tail)).bump)) none
  | some (.slice e), some .string, .nilSlice => cond (isU8 C.P e) (some (.str (.lit []), h)) none
  | some (.slice e), some .string, .slice i o n r => cond (isU8 C.P e) ((bytesOfS h (.slice i o n r)).map fun l => (.str (.lit l), h)) none
  | some (.pointer t), some .unsafePointer, .ptr i o =>
    match h.blocks.get i, sizeP C.P t with
    | some (.cells _ n _ _ _), some (_ + 1) => cond (Nat.blt o n) (some (.ptr i o, h)) none
    | _, _ => none
  | some .unsafePointer, some (.pointer u), .ptr i o =>
    match h.blocks.get i, sizeP C.P u with
    | some (.cells _ n e false _), some (_ + 1) => cond (liesAt C.P C.P.depth e (n / C.P.cellsOf e) o u 1) (some (.ptr i o, h)) none
    | _, _ => none
  | _, _, _ => none

def lenS (C : Cx) (h : SH) (t : TypeId) (x : SV) : Option Nat :=
  match C.P.underlying t, x with
  | some .string, .str (.lit l) => some (lenL l)
  | some (.array n _), _ => some n
  | some (.pointer a), _ => (match C.P.underlying a with | some (.array n _) => some n | _ => none)
  | some (.slice _), .nilSlice => some 0
  | some (.slice _), .slice _ _ n _ => some n
  | some (.map _ _), .nilMap => some 0
  | some (.map _ _), .map id => (match h.blocks.get id with | some (.map es) => some (lenL es) | _ => none)
  | _, _ => none

/-- What is appended: its cells. -/
def sourceS (h : SH) (size : Nat) : SV → Option (Nat × List SV)
  | .nilSlice => some (0, [])
  | .str (.lit l) => some (lenL l, l.map fun b => SV.int .u8 (.lit (Int.ofNat b)))
  | .slice id off len _ => match h.blocks.get id with
    | some (.cells cs _ _ _ _) => (trList cs off (len * size)).map fun l => (len, l)
    | _ => none
  | _ => none

def sliceLen : SV → Nat
  | .slice _ _ len _ => len
  | _ => 0

/-- 'make' behind an append: so many zeros. -/
def zerosS (z : SV) : SV → Option (Nat × List SV)
  | .int .i64 (.lit n) => cond (decide (0 ≤ n)) (some (n.toNat, rep z.cells n.toNat)) none
  | _ => none
def appendS (C : Cx) (h : SH) (id : Nat) (t : TypeId) (zs : Bool) (s x : SV) : Option (SV × SH) :=
  match elemP C.P t with
  | none => none
  | some e => match sizeP C.P e, (C.P.info? e).map (·.bytes), zeroP C.P e with
    | some size, some by', some z =>
      cond (!(Nat.blt 0 size && Nat.blt 0 by' && Nat.beq (lenL z.cells) size)) none <|
      match cond zs (zerosS z x) (sourceS h size x) with
      | none => none
      | some (n, new) =>
        cond (!(Nat.beq (lenL new) (n * size) && Nat.ble ((2 * (sliceLen s + n) + 768) * by') 281474976710656)) none <|
        match s with
        | .nilSlice => cond (Nat.beq n 0) (some (.nilSlice, h))
            (some (.slice id 0 n (.wide size), h.new id (.cells (trOf new 0 .nil) (lenL new) e true .clean)))
        | .slice i off len room =>
          match h.blocks.get i with
          | some (.cells cs m e' more f) =>
            match room with
            | .known c =>
              cond (Nat.ble (len + n) c)
                ((putCells C.ro h i (off + len * size) new).map fun h => (.slice i off (len + n) (.known c), h))
                ((trList cs off (len * size)).map fun old => (.slice id 0 (len + n) (.wide size), h.new id (.cells (trOf new (len * size) (trOf old 0 .nil)) (lenL old + lenL new) e true .clean)))
            | .wide s' =>
              cond (Nat.ble C.ro i && Nat.beq s' size && Nat.beq off 0 && more && Nat.ble (len * size) m && decide (e' = e) && frozLe f (len * size) && allOne new)
                ((cond (Nat.beq m (len * size)) (some cs) ((trList cs off (len * size)).map fun old => trOf old 0 .nil)).map fun old =>
                  (.slice id 0 (len + n) (.wide size), { h with blocks := (h.blocks.del i).set id (.cells (trOf new (len * size) old) (len * size + lenL new) e true f) }))
                none
          | _ => none
        | _ => none
    | _, _, _ => none

def copyS (C : Cx) (h : SH) (t : TypeId) (d s : SV) : Option (Nat × SH) :=
  match elemP C.P t with
  | none => none
  | some e => match sizeP C.P e with
    | none => none
    | some size => match sourceS h size s, d with
      | some (n, l), .nilSlice => cond (Nat.beq (lenL l) (n * size)) (some (0, h)) none
      | some (n, l), .slice i off len _ => cond (Nat.beq (lenL l) (n * size)) ((putCells C.ro h i off (takeL (Nat.min n len * size) l)).map fun h => (Nat.min n len, h)) none
      | _, _ => none

def minS (C : Cx) : SV → SV → Option SV
  | .int k (.lit a), .int _ (.lit b) => some (.int k (.lit (if b < a then b else a)))
  | .int k a, .int _ b => some (.int k (C.i (.imin a b)))
  | _, _ => none
def maxS (C : Cx) : SV → SV → Option SV
  | .int k (.lit a), .int _ (.lit b) => some (.int k (.lit (if b > a then b else a)))
  | .int k a, .int _ b => some (.int k (C.i (.imax a b)))
  | _, _ => none
def foldS (f : SV → SV → Option SV) (x : SV) : List SV → Option SV
  | [] => some x
  | y :: r => (f x y).bind fun z => foldS f z r

end Go.Sx
namespace Go.Sx
open Go

/-! ### one operation -/
def allSized (P : Program) : List Field → Bool
  | [] => true
  | f :: r => (match sizeP P f.type with | some _ => true | none => false) && allSized P r


def undefS : SV := .tuple []
def St.get (s : St) (t : Nat) : SV := (s.tmps.get t).getD undefS
def evS (ng : Nat) (t : Tr SV) : Operand → Option SV
  | .tmp i => some ((t.get i).getD undefS)
  | .const v => ofVal v
  | .global g => cond (Nat.blt g ng) (some (.ptr g 0)) none
  | .func f => some (.func (.func f) [] [])

def evAll (ng : Nat) (t : Tr SV) : List Operand → Option (List SV)
  | [] => some []
  | x :: r => match evS ng t x, evAll ng t r with
    | some v, some l => some (v :: l)
    | _, _ => none
def evParts (ng : Nat) (t : Tr SV) : List (Nat × Operand) → Option (List (Nat × SV))
  | [] => some []
  | (i, x) :: r => match evS ng t x, evParts ng t r with
    | some v, some l => some ((i, v) :: l)
    | _, _ => none
def evOpt (ng : Nat) (t : Tr SV) : Option Operand → Option (Option SV)
  | none => some none
  | some x => (evS ng t x).map some


def lookE : List (FuncId × Nat) → FuncId → Option Nat
  | [], _ => none
  | (g, x) :: r, f => cond (Nat.beq g f) (some x) (lookE r f)
def lookM : List (TypeId × String × FuncId) → TypeId → String → Option FuncId
  | [], _, _ => none
  | (t, n, f) :: r, u, m => cond (Nat.beq t u && decide (n = m)) (some f) (lookM r u m)

/-- Functions without a text: 0: what is handed in; 1: the place of a byte in a text; 2: nothing; 3: an atomic load of a uint32; 4: an atomic store; 5: an atomic compare and swap of an int32; 6: an atomic add to an int32; 7: how often a byte stands in a text; 8: nothing, of an address. -/
def placeL (c : Nat) : List Nat → Nat → Int
  | [], _ => -1
  | b :: r, i => cond (Nat.beq b c) (Int.ofNat i) (placeL c r (i + 1))
def countL (c : Nat) : List Nat → Nat
  | [] => 0
  | b :: r => cond (Nat.beq b c) (Nat.succ (countL c r)) (countL c r)
def extS (ro : Nat) (h : SH) : Nat → List SV → Option (SV × SH)
  | 0, [v] => some (v, h)
  | 1, [.str (.lit l), .int .u8 (.lit c)] => cond (decide (0 ≤ c) && decide (c < 256)) (some (.int .i64 (.lit (placeL c.toNat l 0)), h)) none
  | 2, _ => some (undefS, h)
  | 3, [.ptr i o] => match h.blocks.get i with
    | some (.cells cs _ _ _ _) => match cs.get o with
      | some (.int .u32 e) => some (.int .u32 e, h)
      | _ => none
    | _ => none
  | 4, [.ptr i o, v] => (putCells ro h i o [v]).map fun h => (undefS, h)
  | 5, [.ptr i o, .int .i32 (.lit old), .int .i32 (.lit new)] => match h.blocks.get i with
    | some (.cells cs _ _ _ .clean) => match cs.get o with
      | some (.int .i32 (.lit e)) => cond (e == old) ((putCells ro h i o [.int .i32 (.lit new)]).map fun h => (.bool (.lit true), h)) (some (.bool (.lit false), h))
      | _ => none
    | _ => none
  | 6, [.ptr i o, .int .i32 (.lit y)] => match h.blocks.get i with
    | some (.cells cs _ _ _ _) => match cs.get o with
      | some (.int .i32 (.lit e)) =>
        (putCells ro h i o [.int .i32 (.lit (IntKind.i32.wrap (e + y)))]).map fun h => (.int .i32 (.lit (IntKind.i32.wrap (e + y))), h)
      | _ => none
    | _ => none
  | 8, [.ptr _ _] => some (undefS, h)
  | 7, [.str (.lit l), .int .u8 (.lit c)] => cond (decide (0 ≤ c) && decide (c < 256)) (some (.int .i64 (.lit (Int.ofNat (countL c.toNat l))), h)) none
  | _, _ => none

def callS (C : Cx) (h : SH) (f : FuncId) (args : List SV) : Option Res :=
  match C.P.funcs[f]? with
  | some fn => match fn.body with
    | some _ => some (.enter f args h)
    | none => match lookE C.exts f with
      | some x => (extS C.ro h x args).map fun (v, h) => .val v h
      | none => none
  | none => none

/-- A function's value, and the arguments: the function, and all that it is handed. -/
def targetS (C : Cx) (f : SV) (args : List SV) : Option (FuncId × List SV) :=
  match f with
  | .func (.func g) first captured => some (g, first ++ args ++ captured)
  | .func (.method name) first captured => match first ++ args, captured with
    | .iface t (.ptr i o) :: r, [] => (lookM C.meths t name).map fun g => (g, .ptr i o :: r)
    | _, _ => none
  | _ => none

def headFz : Fz → Nat → Option Fz
  | .clean, n => some (.head n)
  | .head f, n => some (.head (Nat.max f n))
  | .tail, _ => none
/-- A text that shares its bytes with memory. -/
def stringS (C : Cx) (h : SH) (t : TypeId) (i o : Nat) (n : Int) : Option Res :=
  cond (n == 0) (some (.val (.str (.lit [])) h))
    (cond (decide (n < 0)) none (match h.blocks.get i with
      | some (.cells cs m e more f) => (match bytesAt cs o n.toNat, C.P.underlying t, headFz f n.toNat with
        | some l, some (.pointer u), some f' => cond (Nat.beq o 0 && Nat.beq e u && Nat.beq (C.P.cellsOf u) 1 && Nat.ble n.toNat 16777216)
          ((h.upd C.ro i (.cells cs m e more f')).map fun h => .val (.str (.lit l)) h) none
        | _, _, _ => none)
      | _ => none))
def builtinS (C : Cx) (h : SH) (b : Builtin) (argTypes : List TypeId) (args : List SV) : Option Res :=
  match b, argTypes, args with
  | .append, t :: u :: _, [s, x] => (match C.P.underlying u with
    | some (.int _) => (appendS C h h.next t true s x).map fun (v, h) => .val v h.bump
    | some _ => (appendS C h h.next t false s x).map fun (v, h) => .val v h.bump
    | none => none)
  | .len, t :: _, [x] => (match lenS C h t x, C.P.underlying t, x with
    | some n, _, _ => some (.val (.int .i64 (.lit (Int.ofNat n))) h)
    | none, some .string, .str s => some (.val (.int .i64 (C.i (lenE s))) h)
    | _, _, _ => none)
  | .cap, t :: _, [.slice _ _ _ (.known c)] => (match C.P.underlying t with | some (.slice _) => some (.val (.int .i64 (.lit (Int.ofNat c))) h) | _ => none)
  | .cap, t :: _, [.nilSlice] => (match C.P.underlying t with | some (.slice _) => some (.val (.int .i64 (.lit 0)) h) | _ => none)
  | .copy, t :: _, [d, s] => (copyS C h t d s).map fun (n, h) => .val (.int .i64 (.lit (Int.ofNat n))) h
  | .delete, t :: _, [m, k] => (deleteS C h t m k).map fun h => .val undefS h
  | .min, _, x :: r => (foldS (minS C) x r).map fun v => .val v h
  | .max, _, x :: r => (foldS (maxS C) x r).map fun v => .val v h
  | .unsafeSliceData, _, [.nilSlice] => some (.val .nilPtr h)
  | .unsafeSliceData, _, [.slice i o (_ + 1) (.wide _)] => some (.val (.ptr i o) h)
  | .unsafeSliceData, _, [.slice i o _ (.known (_ + 1))] => some (.val (.ptr i o) h)
  | .unsafeString, [_, _], [.nilPtr, .int .i64 (.lit 0)] => some (.val (.str (.lit [])) h)
  | .unsafeString, [t, _], [.ptr i o, .int .i64 (.lit n)] => stringS C h t i o n
  | .clear, t :: _, [m] => (match C.P.underlying t, m with
    | some (.map _ _), .nilMap => some (.val undefS h)
    | some (.map _ _), .map id => (match h.blocks.get id with
      | some (.map _) => (h.upd C.ro id (.map [])).map fun h => .val undefS h
      | _ => none)
    | _, _ => none)
  | _, _, _ => none

end Go.Sx
namespace Go.Sx
open Go

def callArgs (C : Cx) (t : Tr SV) (h : SH) (c : Call) : Option Res :=
  match evAll C.ng t c.args.toList with
  | none => none
  | some args => match c.callee with
    | .builtin b => builtinS C h b c.argTypes.toList args
    | .value x => match evS C.ng t x with
      | none => none
      | some f => match targetS C f args with
        | none => none
        | some (g, args) => callS C h g args
    | .invoke x name => match evS C.ng t x with
      | some (.iface ty (.ptr i o)) => (match lookM C.meths ty name with
        | none => none
        | some g => callS C h g (.ptr i o :: args))
      | _ => none

def nextS (ro : Nat) (h : SH) (id : Nat) : Option (SV × SH) :=
  match h.blocks.get id with
  | some (.siter s pos) =>
    cond (Nat.blt pos (lenL s))
      (let r := Utf8.decode ⟨(s.map UInt8.ofNat).toArray⟩ pos
       (h.upd ro id (.siter s (pos + r.2))).map fun h => (.tuple [.bool (.lit true), .int .i64 (.lit (Int.ofNat pos)), .int .i32 (.lit r.1)], h))
      (some (.tuple [.bool (.lit false)], h))
  | _ => none

def deferS (C : Cx) (t : Tr SV) (h : SH) (c : Call) : Option Res :=
  match evAll C.ng t c.args.toList with
  | none => none
  | some args => match c.callee with
    | .value x => match evS C.ng t x with
      | none => none
      | some f => match targetS C f args with
        | none => none
        | some (g, args) => match C.P.funcs[g]? with
          | some fn => (match fn.body with
            | some _ => some (.defer g args h)
            | none => none)
          | none => none
    | _ => none

def op (C : Cx) (t : Tr SV) (h : SH) (o : Op) : Option Res :=
  match o with
  | .move x | .assign x => (evS C.ng t x).map fun v => .val v h
  | .pick c a b => (match evS C.ng t c with
    | some (.bool (.lit true)) => (evS C.ng t a).map fun v => .val v h
    | some (.bool (.lit false)) => (evS C.ng t b).map fun v => .val v h
    | _ => none)
  | .alloc e => (match zeroP C.P e with
    | some z => some (.val (.ptr h.next 0) (newCells h h.next e z.cells).bump)
    | none => none)
  | .box e x => (match evS C.ng t x with
    | some v => some (.val (.ptr h.next 0) (newCells h h.next e v.cells).bump)
    | none => none)
  | .build ty parts => (match zeroP C.P ty, evParts C.ng t parts.toList with
    | some z, some ps => (match C.P.underlying ty with
      | some (.struct fs) => cond (!allSized C.P fs.toList) none ((fillS (fun i => (fs[i]?).bind fun f => (sizeP C.P f.type).map fun s => (f.offset, s)) z.cells ps).map fun cs => .val (.agg cs) h)
      | some (.array _ e) => (match sizeP C.P e with
        | some s => (fillS (fun i => some (i * s, s)) z.cells ps).map fun cs => .val (.agg cs) h
        | none => none)
      | _ => none)
    | _, _ => none)
  | .buildSlice ty n parts => (match elemP C.P ty, evParts C.ng t parts.toList with
    | some e, some ps => (match sizeP C.P e, zeroP C.P e with
      | some s, some z => cond (Nat.ble (n * s) 16777216 && Nat.beq (lenL z.cells) s)
        ((fillS (fun i => some (i * s, s)) (rep z.cells n) ps).map fun cs => .val (.slice h.next 0 n (.known n)) (newCells h h.next e cs).bump) none
      | _, _ => none)
    | _, _ => none)
  | .load ty a => (match evS C.ng t a with
    | some (.ptr id off) => (loadS C.P h ty id off).map fun v => .val v h
    | _ => none)
  | .store ty a x => (match evS C.ng t a, evS C.ng t x with
    | some (.ptr id off), some v => (storeS C h ty id off v).map .skip
    | _, _ => none)
  | .nilCheck x => (match evS C.ng t x with
    | some (.ptr i o) => some (.val (.ptr i o) h)
    | some (.func (.func f) a b) => some (.val (.func (.func f) a b) h)
    | some (.iface ty (.ptr i o)) => some (.val (.iface ty (.ptr i o)) h)
    | _ => none)
  | .binOp b ty x y _ => (match evS C.ng t x, evS C.ng t y with
    | some v, some w => (binS C h b ty v w).map fun r => .val r h
    | _, _ => none)
  | .unOp u _ x => (match evS C.ng t x with
    | some v => (unS C u v).map fun r => .val r h
    | _ => none)
  | .convert s d x => (match evS C.ng t x with
    | some v => (convS C h h.next s d v).map fun (r, h) => .val r h
    | _ => none)
  | .makeInterface ty x => (match C.P.underlying ty, evS C.ng t x with
    | some (.interface _), _ => none
    | some _, some v => some (.val (.iface ty v) h)
    | _, _ => none)
  | .makeFunc fn first captured => (match evAll C.ng t first.toList, evAll C.ng t captured.toList with
    | some a, some b => some (.val (.func fn a b) h)
    | _, _ => none)
  | .makeMap ty none => (match C.P.underlying ty with
    | some (.map _ _) => some (.val (.map h.next) (h.new h.next (.map [])).bump)
    | _ => none)
  | .makeSlice ty l c => (match elemP C.P ty, evS C.ng t l, evS C.ng t c with
    | some e, some l, some c => (match asLit l, asLit c, sizeP C.P e, zeroP C.P e, (C.P.info? e).map (·.bytes) with
      | some l, some c, some s, some z, some b => cond (Nat.ble l c && Nat.ble (c * b) 16777216 && Nat.ble (c * s) 16777216 && Nat.ble c 16777216 && Nat.beq (lenL z.cells) s && Nat.blt 0 s)
        (some (.val (.slice h.next 0 l (.known c)) (newCells h h.next e (rep z.cells c)).bump)) none
      | _, _, _, _, _ => none)
    | _, _, _ => none)
  | .slice ty x lo hi none => (match evS C.ng t x, evOpt C.ng t lo, evOpt C.ng t hi with
    | some v, some lo, some hi => (sliceS C ty v lo hi).map fun r => .val r h
    | _, _, _ => none)
  | .fieldAddr ty x f => (match evS C.ng t x, fieldP C.P ty f with
    | some (.ptr id off), some fd => (match sizeP C.P fd.type with
      | some (_ + 1) => some (.val (.ptr id (off + fd.offset)) h)
      | _ => none)
    | _, _ => none)
  | .field ty x f => (match evS C.ng t x, fieldP C.P ty f with
    | some (.agg cs), some fd => (partS C.P fd.type cs fd.offset).map fun v => .val v h
    | _, _ => none)
  | .indexAddr ty x i => (match evS C.ng t x, evS C.ng t i with
    | some v, some i => (indexAddrS C.P ty v i).map fun r => .val r h
    | _, _ => none)
  | .index ty x i => (match evS C.ng t x, evS C.ng t i with
    | some v, some i => (indexS C ty v i).map fun r => .val r h
    | _, _ => none)
  | .lookup ty m k ok => (match evS C.ng t m, evS C.ng t k with
    | some m, some k => (lookupS C h ty m k ok).map fun r => .val r h
    | _, _ => none)
  | .mapUpdate ty m k v | .insert ty m k v => (match evS C.ng t m, evS C.ng t k, evS C.ng t v with
    | some m, some k, some v => (updateS C h ty m k v).map .skip
    | _, _, _ => none)
  | .range ty x => (match C.P.underlying ty, evS C.ng t x with
    | some .string, some (.str (.lit l)) => some (.val (.ptr h.next 0) (h.new h.next (.siter l 0)).bump)
    | _, _ => none)
  | .next x true => (match evS C.ng t x with
    | some (.ptr id 0) => (nextS C.ro h id).map fun (v, h) => .val v h
    | _ => none)
  | .extract x i => (match evS C.ng t x with
    | some (.tuple vs) => (getL vs i).map fun v => .val v h
    | _ => none)
  | .call c => callArgs C t h c
  | .defer c => deferS C t h c
  | _ => none

/-- An operation that is told, or run. -/
def opT (C : Cx) (t : Tr SV) (h : SH) (o : Op) : Option Res :=
  match C.toldV t h o with
  | some r => some r
  | none => op C t h o

def putT (t : Tr SV) (n : Nat) (dst : Option Tmp) (v : SV) : Option (Tr SV) :=
  match dst with
  | none => some t
  | some d => cond (Nat.blt d n) (some (t.set d v)) none

def resultS (P : Program) (t : Tr SV) (h : SH) : List ResultVar → Option (List SV)
  | [] => some []
  | .tmp i :: r => (resultS P t h r).map fun l => (t.get i).getD undefS :: l
  | .cell a ty :: r => match (t.get a).getD undefS, resultS P t h r with
    | .ptr id off, some l => (loadS P h ty id off).map fun v => v :: l
    | _, _ => none
def oneOr : List SV → SV
  | [v] => v
  | l => .tuple l

def argTr (l : List SV) (i : Nat) (t : Tr SV) : Tr SV := trOf l i t

/-! ### regions that draw their order -/
/-- Does an operation turn the memory? -/
def changer (P : Program) : Op → Bool
  | .alloc _ | .box .. | .buildSlice .. | .store .. | .makeMap .. | .makeSlice .. | .mapUpdate .. | .insert .. | .range .. | .next .. | .defer _ => true
  | .convert _ d _ => (match P.underlying d with | some (.slice _) => true | _ => false)
  | .call c => (match c.callee with
    | .builtin .len | .builtin .min | .builtin .max | .builtin .cap | .builtin .unsafeSliceData => false
    | _ => true)
  | _ => false

def binding (o : Oper) : List Nat := (o.after.toList.filter fun e => Region.binds .any e).map (·.on)
def memN (n : Nat) : List Nat → Bool
  | [] => false
  | m :: r => Nat.beq n m || memN n r

def tmpsOf : List Operand → List Nat
  | [] => []
  | .tmp i :: r => i :: tmpsOf r
  | _ :: r => tmpsOf r
/-- The slots that an operation looks at. -/
def readsOf (all : List Oper) (o : Oper) : List Nat :=
  tmpsOf o.op.operands.toList ++ (match o.guard with
    | none => []
    | some (j, _) => match (getL all j).bind (·.dst) with
      | some d => [d]
      | none => [])

/-- All that must stand ahead of an operation: a number whose bits are the operations. -/
def ancOf (acc : List Nat) : List Nat → Nat
  | [] => 0
  | e :: r => (2 ^ e ||| (getL acc e).getD 0) ||| ancOf acc r
def ancs : List Oper → List Nat → List Nat
  | [], acc => acc
  | o :: r, acc => ancs r (acc ++ [ancOf acc (binding o)])
def edgesDown : List Oper → Nat → Bool
  | [], _ => true
  | o :: r, i => (binding o).all (fun e => Nat.blt e i) && edgesDown r (i + 1)

/-- Operation i (that reads 'rs' and writes 'di'; 'ai' is ahead of it) and all others that write what it reads or writes: ordered. -/
def orderRow (i : Nat) (rs : List Nat) (di : Option Tmp) (ai : Nat) : List Oper → List Nat → Nat → Bool
  | o :: r, aj :: as, j =>
    (match o.dst with
      | none => true
      | some d => Nat.beq i j || !(memN d rs || (match di with | some e => Nat.beq d e | none => false)) || cond (Nat.blt j i) (Nat.testBit ai j) (Nat.testBit aj i)) && orderRow i rs di ai r as (j + 1)
  | _, _, _ => true
def orderOk (all : List Oper) (anc : List Nat) : List Oper → List Nat → Nat → Bool
  | o :: r, ai :: as, i => orderRow i (readsOf all o) o.dst ai all anc 0 && orderOk all anc r as (i + 1)
  | _, _, _ => true

/-- Which operations turn the memory. -/
def changers (P : Program) : List Oper → List Bool
  | [] => []
  | o :: r => changer P o.op :: changers P r
/-- A changer stands behind all changers ahead of it. -/
def chainRow (ai : Nat) : List Bool → Nat → Nat → Bool
  | _, _, 0 => true
  | c :: cs, j, k + 1 => (!c || Nat.testBit ai j) && chainRow ai cs (j + 1) k
  | [], _, _ => true
def chainOk (all : List Bool) : List Bool → List Nat → Nat → Bool
  | c :: cs, ai :: as, i => (!c || chainRow ai all 0 i) && chainOk all cs as (i + 1)
  | _, _, _ => true
def regular (P : Program) (ops : List Oper) : Bool := let ch := changers P ops; chainOk ch ch (ancs ops []) 0
/-- How many changers stand ahead of i. -/
def kappa : List Bool → Nat → Nat
  | _, 0 => 0
  | [], _ => 0
  | c :: cs, i + 1 => cond c (Nat.succ (kappa cs i)) (kappa cs i)
/-- The least and the most changers that may have run when operation i runs. -/
def lowK (all : List Bool) (ai : Nat) : List Bool → Nat → Nat
  | [], _ => 0
  | c :: cs, j => Nat.max (cond (c && Nat.testBit ai j) (kappa all j + 1) 0) (lowK all ai cs (j + 1))
def highK (all : List Bool) (i top : Nat) : List Bool → List Nat → Nat → Nat
  | c :: cs, aj :: as, j => Nat.min (cond (c && Nat.testBit aj i) (kappa all j) top) (highK all i top cs as (j + 1))
  | _, _, _ => top

/-! ### are two values the same? -/
mutual
def svEq : SV → SV → Bool
  | .bool a, .bool b => decide (a = b)
  | .int j a, .int k b => decide (j = k) && decide (a = b)
  | .str a, .str b => decide (a = b)
  | .nilPtr, .nilPtr => true
  | .ptr i o, .ptr j p => Nat.beq i j && Nat.beq o p
  | .nilSlice, .nilSlice => true
  | .slice i o l r, .slice j p m s => Nat.beq i j && Nat.beq o p && Nat.beq l m && decide (r = s)
  | .nilMap, .nilMap => true
  | .map i, .map j => Nat.beq i j
  | .func f a b, .func g c d => decide (f = g) && svsEq a c && svsEq b d
  | .nilFunc, .nilFunc => true
  | .iface t v, .iface u w => Nat.beq t u && svEq v w
  | .nilIface, .nilIface => true
  | .agg a, .agg b => svsEq a b
  | .tuple a, .tuple b => svsEq a b
  | .dyn i, .dyn j => Nat.beq i j
  | _, _ => false
def svsEq : List SV → List SV → Bool
  | [], [] => true
  | a :: r, b :: s => svEq a b && svsEq r s
  | _, _ => false
end

/-! ### are two memories the same? -/
def trEq {α : Type} (e : α → α → Bool) : Tr α → Tr α → Bool
  | .nil, .nil => true
  | .node a x b, .node c y d => (match x, y with
    | none, none => true
    | some v, some w => e v w
    | _, _ => false) && (trEq e a c && trEq e b d)
  | _, _ => false
def pairsEq : List (SV × SV) → List (SV × SV) → Bool
  | [], [] => true
  | (a, b) :: r, (c, d) :: s => svEq a c && (svEq b d && pairsEq r s)
  | _, _ => false
def sbEq : SB → SB → Bool
  | .cells a n e m f, .cells b n' e' m' f' => trEq svEq a b && (Nat.beq n n' && (Nat.beq e e' && (m == m' && decide (f = f'))))
  | .map a, .map b => pairsEq a b
  | .siter a n, .siter b m => eqL a b && Nat.beq n m
  | .resv, .resv => true
  | _, _ => false
def shEq (a b : SH) : Bool := (Nat.beq a.next b.next && Nat.beq a.inv b.inv) && trEq sbEq a.blocks b.blocks

/-! ### an allocation whose place in the order is free -/
def isFree (o : Oper) : Bool :=
  match o.op, o.guard, binding o with
  | .alloc _, none, [] => true
  | _, _, _ => false
/-- Where the one free allocation stands: none where there is none, or more than one. -/
def freeAt : List Oper → Nat → Option Nat
  | [], _ => none
  | o :: r, i => cond (isFree o) (some i) (freeAt r (i + 1))
def allocAt (C : Cx) (r : Nat) (o : Oper) (h : SH) : Option (SV × SH) :=
  match o.op with
  | .alloc e => match h.blocks.get r, zeroP C.P e with
    | some .resv, some z => some (.ptr r 0, newCells h r e z.cells)
    | _, _ => none
  | _ => none
/-- The operations that turn the memory, but for that one. -/
def chainFlags (P : Program) (ia : Nat) : List Oper → Nat → List Bool
  | [], _ => []
  | o :: r, i => (changer P o.op && !Nat.beq i ia) :: chainFlags P ia r (i + 1)

/-- Is an operation wanted? -/
def guardS (all : List Oper) (o : Oper) (t : Tr SV) : Option Bool :=
  match o.guard with
  | none => some true
  | some (j, want) => match (getL all j).bind (·.dst) with
    | some d => (match t.get d with
      | some (.bool (.lit b)) => some (b == want)
      | some (.bool _) => none
      | some (.dyn _) => none
      | _ => some false)
    | none => some false

/-- What was seen of an operation: the slots ahead of it, its value. -/
structure Rec where
  t : Tr SV
  v : SV

/-- All that is run, at one depth. -/
structure Fns where
  exec : Code → St → Option (Ex × St)
  loops : Code → St → Option (Ex × St)
  valOp : List Oper → Oper → Tr SV → SH → Option (SV × SH)
  runOps : List Oper → List Oper → St → Option St
  runRec : List Oper → List Oper → Nat → Tr SV → SH → Option (List Rec × List SH × Tr SV × SH)
  sameAt : List Oper → Oper → Rec → List SH → Bool
  sameAll : List Oper → List Bool → List Nat → List SH → List Oper → List Rec → List Nat → Nat → Bool
  runRecB : List Oper → Nat → Nat → List Oper → List Bool → Nat → Tr SV → SH → Nat → Option (List Rec × List SH × Tr SV × SH)
  runA : List Oper → Nat → List Oper → List Bool → List Nat → List Rec → SH → Option (List SH)
  sameAllA : List Oper → Nat → List Bool → List Nat → List SH → List Oper → List Rec → List Nat → Nat → Bool
  joins : Nat → Oper → List SH → List SH → Bool
  drawnA : List Oper → St → Option St
  drawn : List Oper → St → Option St
  call : FuncId → List SV → SH → Option (SV × SH)
  callD : FuncId → List SV → SH → Option SH
  defers : List (FuncId × List SV) → SH → Option SH

/-- Runs code. -/
def execF (C : Cx) (F : Fns) : Code → St → Option (Ex × St)
  | c, s =>
    match c with
    | .skip => some (.nrm, s)
    | .label _ => some (.nrm, s)
    | .ret => some (.ret, s)
    | .exit id => some (.exit id, s)
    | .seq a b => match F.exec a s with
      | some (.nrm, s) => F.exec b s
      | r => r
    | .cond c a b => match evS C.ng s.tmps c with
      | some (.bool (.lit true)) => F.exec a s
      | some (.bool (.lit false)) => F.exec b s
      | _ => none
    | .block id b => match F.exec b s with
      | some (.exit j, s) => cond (Nat.beq j id) (some (.nrm, s)) (some (.exit j, s))
      | r => r
    | .loop b => match C.toldL b s with
      | some r => some r
      | none => F.loops b s
    | .scope b => F.exec b s
    | .region _ ops false => (F.runOps ops.toList ops.toList s).map fun s => (.nrm, s)
    | .region _ ops true => (cond (regular C.P ops.toList) (F.drawn ops.toList s) (F.drawnA ops.toList s)).map fun s => (.nrm, s)
    | _ => none

/-- Runs a loop's rounds. -/
def loopsF (F : Fns) : Code → St → Option (Ex × St)
  | b, s => match F.exec b s with
    | some (.nrm, s) => F.loops b s
    | r => r

/-- An operation's value, and the memory behind it. -/
def valOpF (C : Cx) (F : Fns) : List Oper → Oper → Tr SV → SH → Option (SV × SH)
  | all, o, t, h =>
    match guardS all o t with
    | none => none
    | some false => some (undefS, h)
    | some true => match opT C t h o.op with
      | some (.val v h) => some (v, h)
      | some (.skip h) => some (undefS, h)
      | some (.enter g args h) => F.call g args h
      | _ => none

/-- Runs operations in the text's order. -/
def runOpsF (C : Cx) (F : Fns) : List Oper → List Oper → St → Option St
  | _, [], s => some s
  | all, o :: rest, s =>
    match o.op with
    | .defer c => match o.guard, deferS C s.tmps s.h c with
      | none, some (.defer d args h) => (putT s.tmps s.n o.dst undefS).bind fun t => F.runOps all rest { s with tmps := t, h := h, defers := (d, args) :: s.defers }
      | _, _ => none
    | _ => match F.valOp all o s.tmps s.h with
      | some (v, h) => (putT s.tmps s.n o.dst v).bind fun t => F.runOps all rest { s with tmps := t, h := h }
      | none => none

/-- Runs operations in the text's order, and keeps what it saw: of each its slots and value; the memory behind each changer. -/
def runRecF (C : Cx) (F : Fns) : List Oper → List Oper → Nat → Tr SV → SH → Option (List Rec × List SH × Tr SV × SH)
  | _, [], _, t, h => some ([], [], t, h)
  | all, o :: rest, n, t, h =>
    match F.valOp all o t h with
    | none => none
    | some (v, h') => match putT t n o.dst v with
      | none => none
      | some t' => match F.runRec all rest n t' h' with
        | none => none
        | some (rs, hs, u, g) => some (⟨t, v⟩ :: rs, cond (changer C.P o.op) (h' :: hs) hs, u, g)

/-- An operation tells the same over other memories. -/
def sameAtF (F : Fns) : List Oper → Oper → Rec → List SH → Bool
  | _, _, _, [] => true
  | all, o, r, h :: hs => (match F.valOp all o r.t h with
    | some (v, _) => svEq v r.v
    | none => false) && F.sameAt all o r hs

/-- Each operation that doesn't turn the memory tells the same over all memories that it may meet. -/
def sameAllF (C : Cx) (F : Fns) : List Oper → List Bool → List Nat → List SH → List Oper → List Rec → List Nat → Nat → Bool
  | all, ch, anc, hs, o :: rest, r :: rs, ai :: as, i =>
    (changer C.P o.op || (let lo := lowK ch ai ch 0; F.sameAt all o r (takeL (highK ch i (lenL hs - 1) ch anc 0 + 1 - lo) (dropL lo hs)))) && F.sameAll all ch anc hs rest rs as (i + 1)
  | _, _, _, _, [], _, _, _ => true
  | _, _, _, _, _, _, _, _ => false

/-- Runs operations in the text's order, where the allocation is made already: as 'runRec'. -/
def runRecBF (F : Fns) : List Oper → Nat → Nat → List Oper → List Bool → Nat → Tr SV → SH → Nat → Option (List Rec × List SH × Tr SV × SH)
  | _, _, _, [], _, _, t, h, _ => some ([], [], t, h)
  | all, ia, id, o :: rest, c :: cs, n, t, h, i =>
    match cond (Nat.beq i ia) (some (SV.ptr id 0, h)) (F.valOp all o t h) with
    | none => none
    | some (v, h') => match putT t n o.dst v with
      | none => none
      | some t' => match F.runRecB all ia id rest cs n t' h' (i + 1) with
        | none => none
        | some (rs, hs, u, g) => some (⟨t, v⟩ :: rs, cond c (h' :: hs) hs, u, g)
  | _, _, _, _ :: _, [], _, _, _, _ => none

/-- .. where it isn't made yet: the operations that turn the memory, up to the first that needs it. -/
def runAF (F : Fns) : List Oper → Nat → List Oper → List Bool → List Nat → List Rec → SH → Option (List SH)
  | all, ia, o :: rest, c :: cs, a :: as, r :: rs, h =>
    cond c (cond (Nat.testBit a ia) (some []) (match F.valOp all o r.t h with
      | some (v, h') => cond (svEq v r.v) ((F.runA all ia rest cs as rs h').map fun l => h' :: l) none
      | none => none)) (F.runA all ia rest cs as rs h)
  | _, _, _, _, _, _, _ => some []

/-- Each operation that doesn't turn the memory, and doesn't need the allocation, tells the same over all memories that it may meet ahead of it. -/
def sameAllAF (C : Cx) (F : Fns) : List Oper → Nat → List Bool → List Nat → List SH → List Oper → List Rec → List Nat → Nat → Bool
  | all, ia, cc, anc, hs, o :: rest, r :: rs, ai :: as, i =>
    (changer C.P o.op || Nat.testBit ai ia || (let lo := lowK cc ai cc 0; F.sameAt all o r (takeL (highK cc i (lenL hs - 1) cc anc 0 + 1 - lo) (dropL lo hs)))) && F.sameAllA all ia cc anc hs rest rs as (i + 1)
  | _, _, _, _, _, [], _, _, _ => true
  | _, _, _, _, _, _, _, _, _ => false

/-- The allocation leads from each memory without it to the one with it. -/
def joinsF (C : Cx) (F : Fns) : Nat → Oper → List SH → List SH → Bool
  | _, _, [], _ => true
  | id, o, a :: as, b :: bs => (match allocAt C id o a with
    | some (_, h) => shEq h b
    | none => false) && F.joins id o as bs
  | _, _, _ :: _, [] => false

/-- Runs operations whose order is drawn: one allocation among them is free. -/
def drawnAF (C : Cx) (F : Fns) : List Oper → St → Option St
  | ops, s =>
    match freeAt ops 0 with
    | none => none
    | some ia => match getL ops ia with
      | none => none
      | some oa =>
         let anc := ancs ops []
         let cc := chainFlags C.P ia ops 0
         let h0 := (s.h.new s.h.next .resv).bump
         cond (edgesDown ops 0 && orderOk ops anc ops anc 0 && chainOk cc cc anc 0)
           (match allocAt C s.h.next oa h0 with
             | none => none
             | some (_, b0) => match F.runRecB ops ia s.h.next ops cc s.n s.tmps b0 0 with
               | none => none
               | some (rs, hs, u, g) => match F.runA ops ia ops cc anc rs h0 with
                 | none => none
                 | some has => cond (F.sameAll ops cc anc (b0 :: hs) ops rs anc 0 && F.sameAllA ops ia cc anc (h0 :: has) ops rs anc 0 && F.joins s.h.next oa (h0 :: has) (b0 :: hs))
                   (some { s with tmps := u, h := g }) none) none

/-- Runs operations whose order is drawn: in the text's order; all that another order could turn is looked at. -/
def drawnF (C : Cx) (F : Fns) : List Oper → St → Option St
  | ops, s =>
    let anc := ancs ops []
    let ch := changers C.P ops
    cond (edgesDown ops 0 && orderOk ops anc ops anc 0 && chainOk ch ch anc 0)
      (match F.runRec ops ops s.n s.tmps s.h with
        | none => none
        | some (rs, hs, u, g) => cond (F.sameAll ops ch anc (s.h :: hs) ops rs anc 0) (some { s with tmps := u, h := g }) none) none

/-- Calls a function. -/
def callF (C : Cx) (F : Fns) : FuncId → List SV → SH → Option (SV × SH)
  | g, args, h =>
    match C.told g args h with
    | some r => some r
    | none =>
    match C.P.funcs[g]? with
    | none => none
    | some fn => match fn.body with
      | none => none
      | some c => cond (Nat.ble (lenL args) fn.ntmps) (match F.exec c { tmps := trOf args 0 .nil, n := fn.ntmps, defers := [], h := h } with
        | some (.nrm, s) => (F.defers s.defers s.h).bind fun h => (resultS C.P s.tmps h fn.results.toList).map fun l => (oneOr l, h)
        | some (.ret, s) => (F.defers s.defers s.h).bind fun h => (resultS C.P s.tmps h fn.results.toList).map fun l => (oneOr l, h)
        | _ => none) none

/-- Calls a function that defers nothing itself. -/
def callDF (C : Cx) (F : Fns) : FuncId → List SV → SH → Option SH
  | g, args, h =>
    match C.P.funcs[g]? with
    | none => none
    | some fn => match fn.body with
      | none => none
      | some c => cond (Nat.ble (lenL args) fn.ntmps) (match F.exec c { tmps := trOf args 0 .nil, n := fn.ntmps, defers := [], h := h } with
        | some (.nrm, s) => (match s.defers with | [] => (resultS C.P s.tmps s.h fn.results.toList).map fun _ => s.h | _ => none)
        | some (.ret, s) => (match s.defers with | [] => (resultS C.P s.tmps s.h fn.results.toList).map fun _ => s.h | _ => none)
        | _ => none) none

/-- The deferred calls. -/
def defersF (F : Fns) : List (FuncId × List SV) → SH → Option SH
  | [], h => some h
  | (g, args) :: r, h => match F.callD g args h with
    | some h => F.defers r h
    | none => none

def fns (C : Cx) : Nat → Fns
  | 0 => { exec := fun _ _ => none, loops := fun _ _ => none, valOp := fun _ _ _ _ => none, runOps := fun _ _ _ => none, runRec := fun _ _ _ _ _ => none, sameAt := fun _ _ _ _ => false, sameAll := fun _ _ _ _ _ _ _ _ => false, runRecB := fun _ _ _ _ _ _ _ _ _ => none, runA := fun _ _ _ _ _ _ _ => none, sameAllA := fun _ _ _ _ _ _ _ _ _ => false, joins := fun _ _ _ _ => false, drawnA := fun _ _ => none, drawn := fun _ _ => none, call := fun _ _ _ => none, callD := fun _ _ _ => none, defers := fun _ _ => none }
  | f + 1 => { exec := execF C (fns C f), loops := loopsF (fns C f), valOp := valOpF C (fns C f), runOps := runOpsF C (fns C f), runRec := runRecF C (fns C f), sameAt := sameAtF (fns C f), sameAll := sameAllF C (fns C f), runRecB := runRecBF (fns C f), runA := runAF (fns C f), sameAllA := sameAllAF C (fns C f), joins := joinsF C (fns C f), drawnA := drawnAF C (fns C f), drawn := drawnF C (fns C f), call := callF C (fns C f), callD := callDF C (fns C f), defers := defersF (fns C f) }
def exec (C : Cx) (f : Nat) : Code → St → Option (Ex × St) := (fns C f).exec
theorem exec_succ (C : Cx) (f : Nat) : exec C (f + 1) = execF C (fns C f) := rfl
theorem fns_exec (C : Cx) (f : Nat) : (fns C f).exec = exec C f := rfl
def loops (C : Cx) (f : Nat) : Code → St → Option (Ex × St) := (fns C f).loops
theorem loops_succ (C : Cx) (f : Nat) : loops C (f + 1) = loopsF (fns C f) := rfl
theorem fns_loops (C : Cx) (f : Nat) : (fns C f).loops = loops C f := rfl
def valOp (C : Cx) (f : Nat) : List Oper → Oper → Tr SV → SH → Option (SV × SH) := (fns C f).valOp
theorem valOp_succ (C : Cx) (f : Nat) : valOp C (f + 1) = valOpF C (fns C f) := rfl
theorem fns_valOp (C : Cx) (f : Nat) : (fns C f).valOp = valOp C f := rfl
def runOps (C : Cx) (f : Nat) : List Oper → List Oper → St → Option St := (fns C f).runOps
theorem runOps_succ (C : Cx) (f : Nat) : runOps C (f + 1) = runOpsF C (fns C f) := rfl
theorem fns_runOps (C : Cx) (f : Nat) : (fns C f).runOps = runOps C f := rfl
def runRec (C : Cx) (f : Nat) : List Oper → List Oper → Nat → Tr SV → SH → Option (List Rec × List SH × Tr SV × SH) := (fns C f).runRec
theorem runRec_succ (C : Cx) (f : Nat) : runRec C (f + 1) = runRecF C (fns C f) := rfl
theorem fns_runRec (C : Cx) (f : Nat) : (fns C f).runRec = runRec C f := rfl
def sameAt (C : Cx) (f : Nat) : List Oper → Oper → Rec → List SH → Bool := (fns C f).sameAt
theorem sameAt_succ (C : Cx) (f : Nat) : sameAt C (f + 1) = sameAtF (fns C f) := rfl
theorem fns_sameAt (C : Cx) (f : Nat) : (fns C f).sameAt = sameAt C f := rfl
def sameAll (C : Cx) (f : Nat) : List Oper → List Bool → List Nat → List SH → List Oper → List Rec → List Nat → Nat → Bool := (fns C f).sameAll
theorem sameAll_succ (C : Cx) (f : Nat) : sameAll C (f + 1) = sameAllF C (fns C f) := rfl
theorem fns_sameAll (C : Cx) (f : Nat) : (fns C f).sameAll = sameAll C f := rfl
def runRecB (C : Cx) (f : Nat) : List Oper → Nat → Nat → List Oper → List Bool → Nat → Tr SV → SH → Nat → Option (List Rec × List SH × Tr SV × SH) := (fns C f).runRecB
theorem runRecB_succ (C : Cx) (f : Nat) : runRecB C (f + 1) = runRecBF (fns C f) := rfl
theorem fns_runRecB (C : Cx) (f : Nat) : (fns C f).runRecB = runRecB C f := rfl
def runA (C : Cx) (f : Nat) : List Oper → Nat → List Oper → List Bool → List Nat → List Rec → SH → Option (List SH) := (fns C f).runA
theorem runA_succ (C : Cx) (f : Nat) : runA C (f + 1) = runAF (fns C f) := rfl
theorem fns_runA (C : Cx) (f : Nat) : (fns C f).runA = runA C f := rfl
def sameAllA (C : Cx) (f : Nat) : List Oper → Nat → List Bool → List Nat → List SH → List Oper → List Rec → List Nat → Nat → Bool := (fns C f).sameAllA
theorem sameAllA_succ (C : Cx) (f : Nat) : sameAllA C (f + 1) = sameAllAF C (fns C f) := rfl
theorem fns_sameAllA (C : Cx) (f : Nat) : (fns C f).sameAllA = sameAllA C f := rfl
def joins (C : Cx) (f : Nat) : Nat → Oper → List SH → List SH → Bool := (fns C f).joins
theorem joins_succ (C : Cx) (f : Nat) : joins C (f + 1) = joinsF C (fns C f) := rfl
theorem fns_joins (C : Cx) (f : Nat) : (fns C f).joins = joins C f := rfl
def drawnA (C : Cx) (f : Nat) : List Oper → St → Option St := (fns C f).drawnA
theorem drawnA_succ (C : Cx) (f : Nat) : drawnA C (f + 1) = drawnAF C (fns C f) := rfl
theorem fns_drawnA (C : Cx) (f : Nat) : (fns C f).drawnA = drawnA C f := rfl
def drawn (C : Cx) (f : Nat) : List Oper → St → Option St := (fns C f).drawn
theorem drawn_succ (C : Cx) (f : Nat) : drawn C (f + 1) = drawnF C (fns C f) := rfl
theorem fns_drawn (C : Cx) (f : Nat) : (fns C f).drawn = drawn C f := rfl
def call (C : Cx) (f : Nat) : FuncId → List SV → SH → Option (SV × SH) := (fns C f).call
theorem call_succ (C : Cx) (f : Nat) : call C (f + 1) = callF C (fns C f) := rfl
theorem fns_call (C : Cx) (f : Nat) : (fns C f).call = call C f := rfl
def callD (C : Cx) (f : Nat) : FuncId → List SV → SH → Option SH := (fns C f).callD
theorem callD_succ (C : Cx) (f : Nat) : callD C (f + 1) = callDF C (fns C f) := rfl
theorem fns_callD (C : Cx) (f : Nat) : (fns C f).callD = callD C f := rfl
def defers (C : Cx) (f : Nat) : List (FuncId × List SV) → SH → Option SH := (fns C f).defers
theorem defers_succ (C : Cx) (f : Nat) : defers C (f + 1) = defersF (fns C f) := rfl
theorem fns_defers (C : Cx) (f : Nat) : (fns C f).defers = defers C f := rfl

end Go.Sx
