/-
  A shadow interpreter for the model's operations, over a heap of names: definitions. (No program in it.)
-/
import Derived.WalkKit
namespace Go.Sh
open Go

/-! ### tries over Nat -/
inductive Tr (α : Type) where
  | leaf
  | node (l : Tr α) (v : Option α) (r : Tr α)

def Tr.get {α : Type} : Tr α → Nat → Option α
  | .leaf, _ => none
  | .node l v r, n => cond (Nat.beq n 0) v (cond (Nat.beq (n % 2) 1) (l.get (n / 2)) (r.get (n / 2 - 1)))

def Tr.one {α : Type} : Nat → Nat → α → Tr α
  | 0, _, a => .node .leaf (some a) .leaf
  | f + 1, n, a => cond (Nat.beq n 0) (.node .leaf (some a) .leaf)
      (cond (Nat.beq (n % 2) 1) (.node (Tr.one f (n / 2) a) none .leaf) (.node .leaf none (Tr.one f (n / 2 - 1) a)))

def Tr.set {α : Type} : Tr α → Nat → α → Tr α
  | .leaf, n, a => .one n n a
  | .node l v r, n, a => cond (Nat.beq n 0) (.node l (some a) r)
      (cond (Nat.beq (n % 2) 1) (.node (l.set (n / 2) a) v r) (.node l v (r.set (n / 2 - 1) a)))

def Tr.del {α : Type} : Tr α → Nat → Tr α
  | .leaf, _ => .leaf
  | .node l v r, n => cond (Nat.beq n 0) (.node l none r)
      (cond (Nat.beq (n % 2) 1) (.node (l.del (n / 2)) v r) (.node l v (r.del (n / 2 - 1))))

/-! ### values -/
def allV (p : Value → Bool) : List Value → Bool
  | [] => true
  | v :: vs => p v && allV p vs

/-- A value in which no address stands. -/
def plainN : Nat → Value → Bool
  | _, .bool _ => true
  | _, .int _ _ => true
  | _, .string _ => true
  | _, .pointer none => true
  | _, .slice none 0 0 => true
  | _, .map none => true
  | _, .chan none => true
  | _, .nilFunc => true
  | _, .nilIface => true
  | n + 1, .func _ first captured => allV (plainN n) first.toList && allV (plainN n) captured.toList
  | n + 1, .iface _ v => plainN n v
  | n + 1, .agg cs => allV (plainN n) cs.toList
  | n + 1, .tuple cs => allV (plainN n) cs.toList
  | _, _ => false

def plainV (v : Value) : Bool := plainN 6 v

/-- One cell may hold it, and it is no truth. -/
def isWord : Value → Bool
  | .agg _ => false
  | .tuple _ => false
  | .bool _ => false
  | _ => true

/-- One cell may hold it. -/
def isCell : Value → Bool
  | .agg _ => false
  | .tuple _ => false
  | _ => true

def sameBytes (a b : ByteArray) : Bool := a.data.toList == b.data.toList

def sameL (p : Value → Value → Bool) : List Value → List Value → Bool
  | [], [] => true
  | x :: xs, y :: ys => p x y && sameL p xs ys
  | _, _ => false

def sameA : Option Addr → Option Addr → Bool
  | none, none => true
  | some a, some b => Nat.beq a.block b.block && Nat.beq a.off b.off && a.spot.isNone && b.spot.isNone
  | _, _ => false

def sameO : Option Nat → Option Nat → Bool
  | none, none => true
  | some a, some b => Nat.beq a b
  | _, _ => false

/-- Surely the same value. -/
def sameN : Nat → Value → Value → Bool
  | _, .bool a, .bool b => a == b
  | _, .int j a, .int k b => decide (j = k) && decide (a = b)
  | _, .complex j a b, .complex k c d => decide (j = k) && (Nat.beq a c && Nat.beq b d)
  | _, .float j a, .float k b => decide (j = k) && Nat.beq a b
  | _, .string a, .string b => sameBytes a b
  | _, .pointer a, .pointer b => sameA a b
  | _, .slice a l c, .slice b m d => sameA a b && Nat.beq l m && Nat.beq c d
  | _, .map a, .map b => sameO a b
  | _, .chan a, .chan b => sameO a b
  | _, .nilFunc, .nilFunc => true
  | _, .nilIface, .nilIface => true
  | n + 1, .func f xs ys, .func g us vs => decide (f = g) && sameL (sameN n) xs.toList us.toList && sameL (sameN n) ys.toList vs.toList
  | n + 1, .iface t v, .iface u w => Nat.beq t u && sameN n v w
  | n + 1, .agg xs, .agg ys => sameL (sameN n) xs.toList ys.toList
  | n + 1, .tuple xs, .tuple ys => sameL (sameN n) xs.toList ys.toList
  | _, _, _ => false

def sameV (x y : Value) : Bool := sameN 6 x y

/-! ### objects, states -/
inductive AObj where
  /-- A row of cells. esz: 'some k': it came of an append, elements of k cells: what its slices may grow to is not known. ro: it came in, and is not written. -/
  | cells (cs : List Value) (esz : Option Nat) (ro : Bool)
  | map (es : List MapEntry) (clock : Nat)
  | iter (m : Option Nat) (since : Nat) (seen : List Nat) (stepped : Nat)
  | chan (cap : Nat) (buf : List Value) (closed : Bool)

structure St where
  heap : Tr AObj
  next : Nat

structure TI where
  und : TypeDesc
  size : Nat
  bytes : Nat
  zero : List Value

structure AA where
  tm : Tr Value
  n : Nat
  df : List Deferred

structure PStep where
  i : Nat
  again : List Nat

structure Env where
  ty : Tr TI
  fn : Tr Func
  prim : Nat → Option (List Value → St → Option (Value × St))
  plan : Nat → Nat → Option (List PStep)
  /-- What is known of an operation on values that stand for others. -/
  orc : BinOp → Value → Value → Option Value
  /-- Which of these are lengths. -/
  room : Nat → Bool

/-- A value that stands for another one, by its number. -/
def isSym : Value → Bool
  | .complex _ _ _ => true
  | _ => false

def AA.look (a : AA) (t : Nat) : Value := (a.tm.get t).getD undef

def AA.eval (a : AA) : Operand → Option Value
  | .tmp t => some (a.look t)
  | .const v => cond (plainV v) (some v) none
  | .global _ => none
  | .func f => some (.func (.func f) #[] #[])

def AA.put (a : AA) (dst : Option Tmp) (v : Value) : Option AA :=
  match dst with
  | none => some a
  | some d => cond (Nat.blt d a.n) (some { a with tm := a.tm.set d v }) none

def evalL (ρ : Operand → Option Value) : List Operand → Option (List Value)
  | [] => some []
  | x :: xs => match ρ x with
    | some v => match evalL ρ xs with
      | some vs => some (v :: vs)
      | none => none
    | none => none

def evalP (ρ : Operand → Option Value) : List (Nat × Operand) → Option (List (Nat × Value))
  | [] => some []
  | (i, x) :: xs => match ρ x with
    | some v => match evalP ρ xs with
      | some vs => some ((i, v) :: vs)
      | none => none
    | none => none

/-! ### rows of cells -/
def takeN : Nat → List Value → Option (List Value)
  | 0, _ => some []
  | _ + 1, [] => none
  | n + 1, v :: vs => match takeN n vs with
    | some r => some (v :: r)
    | none => none

def setN : List Value → Nat → List Value → Option (List Value)
  | cs, 0, [] => some cs
  | [], 0, _ :: _ => none
  | _ :: cs, 0, v :: vs => match setN cs 0 vs with
    | some r => some (v :: r)
    | none => none
  | [], _ + 1, _ => none
  | c :: cs, off + 1, vs => match setN cs off vs with
    | some r => some (c :: r)
    | none => none

def repN : Nat → List Value → List Value
  | 0, _ => []
  | n + 1, z => z ++ repN n z

def isAgg : TypeDesc → Bool
  | .struct _ => true
  | .array _ _ => true
  | _ => false

/-- A part of a row, as a value of a type. -/
def partAt (ti : TI) (cs : List Value) (off : Nat) : Option Value :=
  cond (isAgg ti.und)
    (match takeN ti.size (cs.drop off) with
     | some r => some (.agg r.toArray)
     | none => none)
    (cs.drop off).head?

def cellsOf (v : Value) : List Value :=
  match v with
  | .agg cs => cs.toList
  | v => [v]

def sizeIs : Nat → List Value → Bool
  | 0, [] => true
  | n + 1, _ :: vs => sizeIs n vs
  | _, _ => false

/-! ### integers -/
def aint (op : BinOp) (k : IntKind) (a b : Int) : Option Value :=
  match op with
  | .add => some (.int k (k.wrap (a + b)))
  | .sub => some (.int k (k.wrap (a - b)))
  | .mul => some (.int k (k.wrap (a * b)))
  | .quo => if b = 0 then none else some (.int k (k.wrap (a.tdiv b)))
  | .rem => if b = 0 then none else some (.int k (a.tmod b))
  | .and => some (.int k (k.wrap (BitVec.ofInt k.bits a &&& BitVec.ofInt k.bits b).toNat))
  | .or => some (.int k (k.wrap (BitVec.ofInt k.bits a ||| BitVec.ofInt k.bits b).toNat))
  | .xor => some (.int k (k.wrap (BitVec.ofInt k.bits a ^^^ BitVec.ofInt k.bits b).toNat))
  | .andNot => some (.int k (k.wrap (BitVec.ofInt k.bits a &&& ~~~ (BitVec.ofInt k.bits b)).toNat))
  | .eql => some (.bool (a == b))
  | .neq => some (.bool (a != b))
  | .lss => some (.bool (decide (a < b)))
  | .leq => some (.bool (decide (a ≤ b)))
  | .gtr => some (.bool (decide (a > b)))
  | .geq => some (.bool (decide (a ≥ b)))
  | _ => none

def ashift (op : BinOp) (k : IntKind) (a b : Int) : Option Value :=
  if b < 0 then none else
    match op with
    | .shl => some (.int k (k.wrap (a * 2 ^ (min b.toNat k.bits))))
    | .shr => some (.int k (a.fdiv (2 ^ (min b.toNat k.bits))))
    | _ => none

def astr (op : BinOp) (x y : ByteArray) : Option Value :=
  match op with
  | .add => if ((x.size + y.size : Nat) : Int) > IntKind.i64.max then none else some (.string (x ++ y))
  | .eql => some (.bool (x.data.toList == y.data.toList))
  | .neq => some (.bool (!(x.data.toList == y.data.toList)))
  | .lss => some (.bool (Op.bytesLess x.data.toList y.data.toList))
  | _ => none

/-! ### equality -/
/-- A name that is there, whose row is of the call's own making at a length that stays. -/
def liveExact (s : St) (a : Addr) : Bool :=
  match s.heap.get a.block with
  | some (.cells _ none false) => a.spot.isNone
  | _ => false

def aeqF (E : Env) (go : Nat → Value → Value → Option Bool) (xs ys : List Value) : List Field → Option Bool
  | [] => some true
  | f :: fs =>
    if f.name = "_" then aeqF E go xs ys fs else
    match E.ty.get f.type with
    | none => none
    | some tf => match partAt tf xs f.offset, partAt tf ys f.offset with
      | some a, some b => match go f.type a b with
        | some true => aeqF E go xs ys fs
        | some false => some false
        | none => none
      | _, _ => none

def aeqA (go : Value → Value → Option Bool) (te : TI) : Nat → Nat → List Value → List Value → Option Bool
  | 0, _, _, _ => some true
  | n + 1, off, xs, ys => match partAt te xs off, partAt te ys off with
    | some a, some b => match go a b with
      | some true => aeqA go te n (off + te.size) xs ys
      | some false => some false
      | none => none
    | _, _ => none

/-- '==' at a type. -/
def aeq (E : Env) (s : St) : Nat → Nat → Value → Value → Option Bool
  | 0, _, _, _ => none
  | d + 1, t, x, y => match E.ty.get t with
    | none => none
    | some ti => match ti.und, x, y with
      | .bool, .bool a, .bool b => some (a == b)
      | .int _, .int k a, .int k' b => if k = k' then some (a == b) else none
      | .string, .string a, .string b => some (a.data.toList == b.data.toList)
      | .pointer _, .pointer none, .pointer b => some b.isNone
      | .pointer _, .pointer (some _), .pointer none => some false
      | .pointer e, .pointer (some a), .pointer (some b) => match E.ty.get e with
        | none => none
        | some te => cond (Nat.beq te.size 0) none
            (cond (liveExact s a && liveExact s b) (some (Nat.beq a.block b.block && Nat.beq a.off b.off)) none)
      | .slice _, .slice none _ _, .slice b _ _ => some b.isNone
      | .slice _, .slice (some _) _ _, .slice none _ _ => some false
      | .map _ _, .map none, .map b => some b.isNone
      | .map _ _, .map (some _), .map none => some false
      | .func _ _ _, .nilFunc, .nilFunc => some true
      | .func _ _ _, .nilFunc, .func _ _ _ => some false
      | .func _ _ _, .func _ _ _, .nilFunc => some false
      | .interface _, .nilIface, .iface _ _ => some false
      | .interface _, .iface _ _, .nilIface => some false
      | .struct fs, .agg xs, .agg ys => aeqF E (aeq E s d) xs.toList ys.toList fs.toList
      | .array n e, .agg xs, .agg ys => match E.ty.get e with
        | none => none
        | some te => aeqA (aeq E s d e) te n 0 xs.toList ys.toList
      | _, _, _ => none

end Go.Sh
