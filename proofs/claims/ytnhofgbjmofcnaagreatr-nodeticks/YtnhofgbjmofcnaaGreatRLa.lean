/-
  The shadow interpreter. A shadow interpreter for the model's operations, over a heap of names: definitions. (No program in it.) A shadow interpreter for the model's operations: the operations, and the run. (No program in it.)
-/
import Derived.WalkKit

namespace Go.Sh
open Go

/-! ### tries over Nat -/
inductive Tr (α : Type) where
  | leaf
  | node (l : Tr α) (v : Option α) (r : Tr α)

def Tr.get {α : Type} : Tr α → Nat → Option α
  | .leaf, _ => none
  | .node l v r, n => cond (Nat.beq n 0) v (cond (Nat.beq (n % 2) 1) (l.get (n / 2)) (r.get (n / 2 - 1)))

def Tr.one {α : Type} : Nat → Nat → α → Tr α
  | 0, _, a => .node .leaf (some a) .leaf
  | f + 1, n, a => cond (Nat.beq n 0) (.node .leaf (some a) .leaf)
      (cond (Nat.beq (n % 2) 1) (.node (Tr.one f (n / 2) a) none .leaf) (.node .leaf none (Tr.one f (n / 2 - 1) a)))

def Tr.set {α : Type} : Tr α → Nat → α → Tr α
  | .leaf, n, a => .one n n a
  | .node l v r, n, a => cond (Nat.beq n 0) (.node l (some a) r)
      (cond (Nat.beq (n % 2) 1) (.node (l.set (n / 2) a) v r) (.node l v (r.set (n / 2 - 1) a)))

def Tr.del {α : Type} : Tr α → Nat → Tr α
  | .leaf, _ => .leaf
  | .node l v r, n => cond (Nat.beq n 0) (.node l none r)
      (cond (Nat.beq (n % 2) 1) (.node (l.del (n / 2)) v r) (.node l v (r.del (n / 2 - 1))))

/-! ### values -/
def allV (p : Value → Bool) : List Value → Bool
  | [] => true
  | v :: vs => p v && allV p vs

/-- A value in which no address stands. -/
def plainN : Nat → Value → Bool
  | _, .bool _ => true
  | _, .int _ _ => true
  | _, .string _ => true
  | _, .pointer none => true
  | _, .slice none 0 0 => true
  | _, .map none => true
  | _, .chan none => true
  | _, .nilFunc => true
  | _, .nilIface => true
  | n + 1, .func _ first captured => allV (plainN n) first.toList && allV (plainN n) captured.toList
  | n + 1, .iface _ v => plainN n v
  | n + 1, .agg cs => allV (plainN n) cs.toList
  | n + 1, .tuple cs => allV (plainN n) cs.toList
  | _, _ => false

def plainV (v : Value) : Bool := plainN 6 v

/-- One cell may hold it, and it is no truth. -/
def isWord : Value → Bool
  | .agg _ => false
  | .tuple _ => false
  | .bool _ => false
  | _ => true

/-- One cell may hold it. -/
def isCell : Value → Bool
  | .agg _ => false
  | .tuple _ => false
  | _ => true

def sameBytes (a b : ByteArray) : Bool := a.data.toList == b.data.toList

def sameL (p : Value → Value → Bool) : List Value → List Value → Bool
  | [], [] => true
  | x :: xs, y :: ys => p x y && sameL p xs ys
  | _, _ => false

def sameA : Option Addr → Option Addr → Bool
  | none, none => true
  | some a, some b => Nat.beq a.block b.block && Nat.beq a.off b.off && a.spot.isNone && b.spot.isNone
  | _, _ => false

def sameO : Option Nat → Option Nat → Bool
  | none, none => true
  | some a, some b => Nat.beq a b
  | _, _ => false

/-- Surely the same value. -/
def sameN : Nat → Value → Value → Bool
  | _, .bool a, .bool b => a == b
  | _, .int j a, .int k b => decide (j = k) && decide (a = b)
  | _, .complex j a b, .complex k c d => decide (j = k) && (Nat.beq a c && Nat.beq b d)
  | _, .float j a, .float k b => decide (j = k) && Nat.beq a b
  | _, .string a, .string b => sameBytes a b
  | _, .pointer a, .pointer b => sameA a b
  | _, .slice a l c, .slice b m d => sameA a b && Nat.beq l m && Nat.beq c d
  | _, .map a, .map b => sameO a b
  | _, .chan a, .chan b => sameO a b
  | _, .nilFunc, .nilFunc => true
  | _, .nilIface, .nilIface => true
  | n + 1, .func f xs ys, .func g us vs => decide (f = g) && sameL (sameN n) xs.toList us.toList && sameL (sameN n) ys.toList vs.toList
  | n + 1, .iface t v, .iface u w => Nat.beq t u && sameN n v w
  | n + 1, .agg xs, .agg ys => sameL (sameN n) xs.toList ys.toList
  | n + 1, .tuple xs, .tuple ys => sameL (sameN n) xs.toList ys.toList
  | _, _, _ => false

def sameV (x y : Value) : Bool := sameN 6 x y

/-! ### objects, states -/
inductive AObj where
  /-- A row of cells. esz: 'some k': it came of an append, elements of k cells: what its slices may grow to is not known. ro: it came in, and is not written. -/
  | cells (cs : List Value) (esz : Option Nat) (ro : Bool)
  | map (es : List MapEntry) (clock : Nat)
  | iter (m : Option Nat) (since : Nat) (seen : List Nat) (stepped : Nat)
  | chan (cap : Nat) (buf : List Value) (closed : Bool)

structure St where
  heap : Tr AObj
  next : Nat

structure TI where
  und : TypeDesc
  size : Nat
  bytes : Nat
  zero : List Value

structure AA where
  tm : Tr Value
  n : Nat
  df : List Deferred

structure PStep where
  i : Nat
  again : List Nat

structure Env where
  ty : Tr TI
  fn : Tr Func
  prim : Nat → Option (List Value → St → Option (Value × St))
  plan : Nat → Nat → Option (List PStep)
  /-- What is known of an operation on values that stand for others. -/
  orc : BinOp → Value → Value → Option Value
  /-- Which of these are lengths. -/
  room : Nat → Bool

/-- A value that stands for another one, by its number. -/
def isSym : Value → Bool
  | .complex _ _ _ => true
  | _ => false

def AA.look (a : AA) (t : Nat) : Value := (a.tm.get t).getD undef

def AA.eval (a : AA) : Operand → Option Value
  | .tmp t => some (a.look t)
  | .const v => cond (plainV v) (some v) none
  | .global _ => none
  | .func f => some (.func (.func f) #[] #[])

def AA.put (a : AA) (dst : Option Tmp) (v : Value) : Option AA :=
  match dst with
  | none => some a
  | some d => cond (Nat.blt d a.n) (some { a with tm := a.tm.set d v }) none

def evalL (ρ : Operand → Option Value) : List Operand → Option (List Value)
  | [] => some []
  | x :: xs => match ρ x with
    | some v => match evalL ρ xs with
      | some vs => some (v :: vs)
      | none => none
    | none => none

def evalP (ρ : Operand → Option Value) : List (Nat × Operand) → Option (List (Nat × Value))
  | [] => some []
  | (i, x) :: xs => match ρ x with
    | some v => match evalP ρ xs with
      | some vs => some ((i, v) :: vs)
      | none => none
    | none => none

/-! ### rows of cells -/
def takeN : Nat → List Value → Option (List Value)
  | 0, _ => some []
  | _ + 1, [] => none
  | n + 1, v :: vs => match takeN n vs with
    | some r => some (v :: r)
    | none => none

def setN : List Value → Nat → List Value → Option (List Value)
  | cs, 0, [] => some cs
  | [], 0, _ :: _ => none
  | _ :: cs, 0, v :: vs => match setN cs 0 vs with
    | some r => some (v :: r)
    | none => none
  | [], _ + 1, _ => none
  | c :: cs, off + 1, vs => match setN cs off vs with
    | some r => some (c :: r)
    | none => none

def repN : Nat → List Value → List Value
  | 0, _ => []
  | n + 1, z => z ++ repN n z

def isAgg : TypeDesc → Bool
  | .struct _ => true
  | .array _ _ => true
  | _ => false

/-- A part of a row, as a value of a type. -/
def partAt (ti : TI) (cs : List Value) (off : Nat) : Option Value :=
  cond (isAgg ti.und)
    (match takeN ti.size (cs.drop off) with
     | some r => some (.agg r.toArray)
     | none => none)
    (cs.drop off).head?

def cellsOf (v : Value) : List Value :=
  match v with
  | .agg cs => cs.toList
  | v => [v]

def sizeIs : Nat → List Value → Bool
  | 0, [] => true
  | n + 1, _ :: vs => sizeIs n vs
  | _, _ => false

/-! ### integers -/
def aint (op : BinOp) (k : IntKind) (a b : Int) : Option Value :=
  match op with
  | .add => some (.int k (k.wrap (a + b)))
  | .sub => some (.int k (k.wrap (a - b)))
  | .mul => some (.int k (k.wrap (a * b)))
  | .quo => if b = 0 then none else some (.int k (k.wrap (a.tdiv b)))
  | .rem => if b = 0 then none else some (.int k (a.tmod b))
  | .and => some (.int k (k.wrap (BitVec.ofInt k.bits a &&& BitVec.ofInt k.bits b).toNat))
  | .or => some (.int k (k.wrap (BitVec.ofInt k.bits a ||| BitVec.ofInt k.bits b).toNat))
  | .xor => some (.int k (k.wrap (BitVec.ofInt k.bits a ^^^ BitVec.ofInt k.bits b).toNat))
  | .andNot => some (.int k (k.wrap (BitVec.ofInt k.bits a &&& ~~~ (BitVec.ofInt k.bits b)).toNat))
  | .eql => some (.bool (a == b))
  | .neq => some (.bool (a != b))
  | .lss => some (.bool (decide (a < b)))
  | .leq => some (.bool (decide (a ≤ b)))
  | .gtr => some (.bool (decide (a > b)))
  | .geq => some (.bool (decide (a ≥ b)))
  | _ => none

def ashift (op : BinOp) (k : IntKind) (a b : Int) : Option Value :=
  if b < 0 then none else
    match op with
    | .shl => some (.int k (k.wrap (a * 2 ^ (min b.toNat k.bits))))
    | .shr => some (.int k (a.fdiv (2 ^ (min b.toNat k.bits))))
    | _ => none

def astr (op : BinOp) (x y : ByteArray) : Option Value :=
  match op with
  | .add => if ((x.size + y.size : Nat) : Int) > IntKind.i64.max then none else some (.string (x ++ y))
  | .eql => some (.bool (x.data.toList == y.data.toList))
  | .neq => some (.bool (!(x.data.toList == y.data.toList)))
  | .lss => some (.bool (Op.bytesLess x.data.toList y.data.toList))
  | _ => none

/-! ### equality -/
/-- A name that is there, whose row is of the call's own making at a length that stays. -/
def liveExact (s : St) (a : Addr) : Bool :=
  match s.heap.get a.block with
  | some (.cells _ none false) => a.spot.isNone
  | _ => false

def aeqF (E : Env) (go : Nat → Value → Value → Option Bool) (xs ys : List Value) : List Field → Option Bool
  | [] => some true
  | f :: fs =>
    if f.name = "_" then aeqF E go xs ys fs else
    match E.ty.get f.type with
    | none => none
    | some tf => match partAt tf xs f.offset, partAt tf ys f.offset with
      | some a, some b => match go f.type a b with
        | some true => aeqF E go xs ys fs
        | some false => some false
        | none => none
      | _, _ => none

def aeqA (go : Value → Value → Option Bool) (te : TI) : Nat → Nat → List Value → List Value → Option Bool
  | 0, _, _, _ => some true
  | n + 1, off, xs, ys => match partAt te xs off, partAt te ys off with
    | some a, some b => match go a b with
      | some true => aeqA go te n (off + te.size) xs ys
      | some false => some false
      | none => none
    | _, _ => none

/-- '==' at a type. -/
def aeq (E : Env) (s : St) : Nat → Nat → Value → Value → Option Bool
  | 0, _, _, _ => none
  | d + 1, t, x, y => match E.ty.get t with
    | none => none
    | some ti => match ti.und, x, y with
      | .bool, .bool a, .bool b => some (a == b)
      | .int _, .int k a, .int k' b => if k = k' then some (a == b) else none
      | .string, .string a, .string b => some (a.data.toList == b.data.toList)
      | .pointer _, .pointer none, .pointer b => some b.isNone
      | .pointer _, .pointer (some _), .pointer none => some false
      | .pointer e, .pointer (some a), .pointer (some b) => match E.ty.get e with
        | none => none
        | some te => cond (Nat.beq te.size 0) none
            (cond (liveExact s a && liveExact s b) (some (Nat.beq a.block b.block && Nat.beq a.off b.off)) none)
      | .slice _, .slice none _ _, .slice b _ _ => some b.isNone
      | .slice _, .slice (some _) _ _, .slice none _ _ => some false
      | .map _ _, .map none, .map b => some b.isNone
      | .map _ _, .map (some _), .map none => some false
      | .func _ _ _, .nilFunc, .nilFunc => some true
      | .func _ _ _, .nilFunc, .func _ _ _ => some false
      | .func _ _ _, .func _ _ _, .nilFunc => some false
      | .interface _, .nilIface, .iface _ _ => some false
      | .interface _, .iface _ _, .nilIface => some false
      | .struct fs, .agg xs, .agg ys => aeqF E (aeq E s d) xs.toList ys.toList fs.toList
      | .array n e, .agg xs, .agg ys => match E.ty.get e with
        | none => none
        | some te => aeqA (aeq E s d e) te n 0 xs.toList ys.toList
      | _, _, _ => none

end Go.Sh

namespace Go.Sh
open Go

inductive Cls where
  | pure | read | alloc | chain | call | dfr | bad

def isInt : TypeDesc → Bool
  | .int _ => true
  | .string => true
  | .bool => true
  | _ => false

def isNum : TypeDesc → Bool
  | .int _ => true
  | _ => false

def clsB : Builtin → Cls
  | .len => .read
  | .cap => .read
  | .max => .pure
  | .min => .pure
  | .append => .chain
  | .copy => .chain
  | .clear => .chain
  | .delete => .chain
  | _ => .bad

/-- What an operation may do: by its form, and the types that it names. -/
def cls (E : Env) (op : Op) : Cls :=
  match op with
  | .move _ => .pure
  | .assign _ => .pure
  | .pick _ _ _ => .pure
  | .alloc _ => .alloc
  | .box _ _ => .alloc
  | .build _ _ => .pure
  | .buildSlice _ _ _ => .alloc
  | .insert _ _ _ _ => .chain
  | .load _ _ => .read
  | .store _ _ _ => .chain
  | .nilCheck _ => .pure
  | .binOp _ t _ _ _ => match E.ty.get t with
    | some ti => cond (isInt ti.und) .pure .read
    | none => .bad
  | .unOp _ _ _ => .pure
  | .convert s d _ => match E.ty.get s, E.ty.get d with
    | some ts, some td => match ts.und, td.und with
      | .int _, .int _ => .pure
      | .string, .string => .pure
      | .slice _, .string => .read
      | .string, .slice _ => .alloc
      | _, _ => .bad
    | _, _ => .bad
  | .makeInterface _ _ => .pure
  | .makeFunc _ _ _ => .pure
  | .makeMap _ _ => .alloc
  | .makeChan _ _ => .alloc
  | .makeSlice _ _ _ => .alloc
  | .slice _ _ _ _ _ => .read
  | .fieldAddr _ _ _ => .pure
  | .field _ _ _ => .pure
  | .indexAddr _ _ _ => .pure
  | .index _ _ _ => .pure
  | .lookup _ _ _ _ => .read
  | .mapUpdate _ _ _ _ => .chain
  | .range _ _ => .chain
  | .next _ _ => .chain
  | .entry _ => .read
  | .extract _ _ => .pure
  | .call c => match c.callee with
    | .builtin b => clsB b
    | .value _ => .call
    | .invoke _ _ => .bad
  | .defer _ => .dfr
  | _ => .bad

def fillS (E : Env) (fs : List Field) : List (Nat × Value) → List Value → Option (List Value)
  | [], cells => some cells
  | (i, v) :: rest, cells => match fs[i]? with
    | none => none
    | some f => match E.ty.get f.type with
      | none => none
      | some tf => cond (sizeIs tf.size (cellsOf v))
        (match setN cells f.offset (cellsOf v) with
         | some c => fillS E fs rest c
         | none => none) none

def fillA (size : Nat) : List (Nat × Value) → List Value → Option (List Value)
  | [], cells => some cells
  | (i, v) :: rest, cells => cond (sizeIs size (cellsOf v))
      (match setN cells (i * size) (cellsOf v) with
       | some c => fillA size rest c
       | none => none) none

def known (E : Env) : List Field → Bool
  | [] => true
  | f :: fs => (E.ty.get f.type).isSome && known E fs

/-- How far a bound may go that no machine's memory comes to. -/
def most : Nat := 1099511627776

def asI : Value → Option Int
  | .int _ n => some n
  | _ => none

/-- A slice's bound, 0 to y. -/
def bnd (v : Value) (y : Nat) : Option Nat :=
  match v with
  | .int _ i => if 0 ≤ i ∧ i ≤ y then some i.toNat else none
  | _ => none

def obnd (v : Option Value) (dflt y : Nat) : Option Nat :=
  match v with
  | none => some dflt
  | some v => bnd v y

/-- low, high, max of a slice expression over a length and a capacity. -/
def bounds (len cap : Nat) (lo hi mx : Option Value) : Option (Nat × Nat × Nat) :=
  match obnd mx cap cap with
  | none => none
  | some m => match hi, mx with
    | none, some _ => none
    | _, _ => match obnd hi len m with
      | none => none
      | some h => cond (Nat.ble h m) (match obnd lo 0 h with
        | none => none
        | some l => some (l, h, m)) none

def oev (ρ : Operand → Option Value) : Option Operand → Option (Option Value)
  | none => some none
  | some x => match ρ x with
    | some v => some (some v)
    | none => none

def max2 (more : Bool) : Value → List Value → Option Value
  | v, [] => some v
  | .int k x, .int _ y :: rest => max2 more (.int k (cond more (if y > x then y else x) (if y < x then y else x))) rest
  | _, _ :: _ => none

def apure (E : Env) (ρ : Operand → Option Value) (o : Oper) : Option Value :=
  match o.op with
  | .move x => ρ x
  | .assign x => ρ x
  | .pick c a b => match ρ c, ρ a, ρ b with
    | some (.bool t), some va, some vb => some (cond t va vb)
    | _, _, _ => none
  | .nilCheck x => match ρ x with
    | some (.pointer (some a)) => some (.pointer (some a))
    | some (.func (.func f) u v) => some (.func (.func f) u v)
    | some (.iface t v) => some (.iface t v)
    | _ => none
  | .unOp op _ x => match op, ρ x with
    | .not, some (.bool b) => some (.bool (!b))
    | .neg, some (.int k n) => some (.int k (k.wrap (0 - n)))
    | .xor, some (.int k n) => aint .xor k (if k.signed then -1 else k.max) n
    | _, _ => none
  | .binOp op t x y _ => match ρ x, ρ y with
    | some (.int k a), some (.int k' b) => match op with
      | .shl => ashift .shl k a b
      | .shr => ashift .shr k a b
      | op => if k = k' then aint op k a b else none
    | some (.string a), some (.string b) => astr op a b
    | some (.bool a), some (.bool b) => match E.ty.get t with
      | some ti => match ti.und, op with
        | .bool, .eql => some (.bool (a == b))
        | .bool, .neq => some (.bool (!(a == b)))
        | _, _ => none
      | none => none
    | some u, some v => cond (isSym u || isSym v) (E.orc op u v) none
    | _, _ => none
  | .convert _ d x => match E.ty.get d with
    | some td => match td.und, ρ x with
      | .int k, some (.int _ n) => some (.int k (k.wrap n))
      | .string, some (.string b) => some (.string b)
      | _, _ => none
    | none => none
  | .makeInterface t x => match E.ty.get t, ρ x with
    | some ti, some v => match ti.und with
      | .interface _ => none
      | _ => some (.iface t v)
    | _, _ => none
  | .makeFunc fn first captured => match evalL ρ first.toList, evalL ρ captured.toList with
    | some u, some v => some (.func fn u.toArray v.toArray)
    | _, _ => none
  | .fieldAddr t x i => match ρ x, E.ty.get t with
    | some (.pointer (some a)), some ti => match ti.und with
      | .struct fs => match fs.toList[i]? with
        | some f => match E.ty.get f.type with
          | some tf => cond (Nat.beq tf.size 0 || a.spot.isSome) none (some (.pointer (some ⟨a.block, a.off + f.offset, none⟩)))
          | none => none
        | none => none
      | _ => none
    | _, _ => none
  | .field t x i => match ρ x, E.ty.get t with
    | some (.agg cs), some ti => match ti.und with
      | .struct fs => match fs.toList[i]? with
        | some f => match E.ty.get f.type with
          | some tf => partAt tf cs.toList f.offset
          | none => none
        | none => none
      | _ => none
    | _, _ => none
  | .indexAddr t x i => match ρ x, ρ i, E.ty.get t with
    | some v, some (.int _ n), some ti => match ti.und, v with
      | .array len e, .pointer (some a) => match E.ty.get e with
        | some te => if 0 ≤ n ∧ n < len ∧ a.spot = none then some (.pointer (some ⟨a.block, a.off + n.toNat * te.size, none⟩)) else none
        | none => none
      | .slice e, .slice (some a) len _ => match E.ty.get e with
        | some te => if 0 ≤ n ∧ n < len ∧ a.spot = none then some (.pointer (some ⟨a.block, a.off + n.toNat * te.size, none⟩)) else none
        | none => none
      | _, _ => none
    | _, _, _ => none
  | .index t x i => match ρ x, ρ i, E.ty.get t with
    | some v, some (.int _ n), some ti => match ti.und, v with
      | .array len e, .agg cs => match E.ty.get e with
        | some te => if 0 ≤ n ∧ n < len then partAt te cs.toList (n.toNat * te.size) else none
        | none => none
      | .string, .string b => if 0 ≤ n then (match b.data.toList[n.toNat]? with | some c => some (.int .u8 c.toNat) | none => none) else none
      | _, _ => none
    | _, _, _ => none
  | .extract x i => match ρ x with
    | some (.tuple vs) => vs.toList[i]?
    | _ => none
  | .build t parts => match evalP ρ parts.toList, E.ty.get t with
    | some vs, some ti => match ti.und with
      | .struct fs => cond (known E fs.toList)
        (match fillS E fs.toList vs ti.zero with
         | some c => some (.agg c.toArray)
         | none => none) none
      | .array _ e => match E.ty.get e with
        | some te => match fillA te.size vs ti.zero with
          | some c => some (.agg c.toArray)
          | none => none
        | none => none
      | _ => none
    | _, _ => none
  | .call c => match c.callee with
    | .builtin .max => match evalL ρ c.args.toList with
      | some (v :: vs) => max2 true v vs
      | _ => none
    | .builtin .min => match evalL ρ c.args.toList with
      | some (v :: vs) => max2 false v vs
      | _ => none
    | _ => none
  | _ => none

/-! ### reading -/
def aload (E : Env) (s : St) (t : Nat) (a : Addr) : Option Value :=
  match E.ty.get t, s.heap.get a.block with
  | some ti, some (.cells cs _ _) => cond a.spot.isSome none (partAt ti cs a.off)
  | _, _ => none

/-- The place of the first entry with a key. -/
def findI (E : Env) (s : St) (kt : Nat) (k : Value) : List MapEntry → Nat → Option (Option Nat)
  | [], _ => some none
  | e :: es, i => match aeq E s 8 kt k e.key with
    | some true => some (some i)
    | some false => findI E s kt k es (i + 1)
    | none => none

/-- Is a value one that a key of such a type may be, in which no address stands? -/
def keyF (E : Env) (go : Nat → Value → Bool) (xs : List Value) : List Field → Bool
  | [] => true
  | f :: fs => (if f.name = "_" then true else match E.ty.get f.type with
    | none => false
    | some tf => match partAt tf xs f.offset with
      | some a => go f.type a
      | none => false) && keyF E go xs fs

def keyA (go : Value → Bool) (te : TI) : Nat → Nat → List Value → Bool
  | 0, _, _ => true
  | n + 1, off, xs => (match partAt te xs off with
      | some a => go a
      | none => false) && keyA go te n (off + te.size) xs

def keyOk (E : Env) : Nat → Nat → Value → Bool
  | 0, _, _ => false
  | d + 1, t, v => match E.ty.get t with
    | none => false
    | some ti => match ti.und, v with
      | .int _, .int _ _ => true
      | .string, .string _ => true
      | .bool, .bool _ => true
      | .struct fs, .agg cs => keyF E (keyOk E d) cs.toList fs.toList
      | .array n e, .agg cs => match E.ty.get e with
        | none => false
        | some te => keyA (keyOk E d e) te n 0 cs.toList
      | _, _ => false

def mapOf (s : St) (m : Value) : Option (List MapEntry) :=
  match m with
  | .map none => some []
  | .map (some n) => match s.heap.get n with
    | some (.map es _) => some es
    | _ => none
  | _ => none

def zeroOf (ti : TI) : Option Value :=
  cond (isAgg ti.und) (some (.agg ti.zero.toArray)) (match ti.zero with | [v] => some v | _ => none)

def bytesAt : List Value → Option (List UInt8)
  | [] => some []
  | .int .u8 n :: vs => match bytesAt vs with
    | some r => some (UInt8.ofNat n.toNat :: r)
    | none => none
  | _ :: _ => none

/-- A type of slices of bytes. -/
def ofBytes (E : Env) (t : Nat) : Bool :=
  match E.ty.get t with
  | some ti => match ti.und with
    | .slice e => match E.ty.get e with
      | some te => match te.und with
        | .int .u8 => true
        | _ => false
      | none => false
    | _ => false
  | none => false

/-- Elements of k cells, or a row whose length stays. -/
def eszOk (esz : Option Nat) (k : Nat) : Bool :=
  match esz with
  | none => true
  | some j => Nat.beq j k

def aslice (E : Env) (s : St) (t : Nat) (x : Value) (lo hi mx : Option Value) : Option Value :=
  match E.ty.get t with
  | none => none
  | some ti => match ti.und, x with
    | .string, .string b => cond mx.isSome none
      (match bounds b.size b.size lo hi none with
       | some (l, h, _) => some (.string ⟨((b.data.toList.take h).drop l).toArray⟩)
       | none => none)
    | .slice e, .slice none len cap => match E.ty.get e, bounds len cap lo hi mx with
      | some _, some (l, h, m) => some (.slice none (h - l) (m - l))
      | _, _ => none
    | .slice e, .slice (some a) len cap => match E.ty.get e, s.heap.get a.block, bounds len cap lo hi mx with
      | some te, some (.cells _ esz _), some (l, h, m) =>
        cond (eszOk esz te.size && a.spot.isNone)
          (some (.slice (some ⟨a.block, a.off + l * te.size, none⟩) (h - l) (m - l))) none
      | _, _, _ => none
    | .array n e, .pointer (some a) => match E.ty.get e, s.heap.get a.block, bounds n n lo hi mx with
      | some te, some (.cells _ none _), some (l, h, m) =>
        cond a.spot.isNone (some (.slice (some ⟨a.block, a.off + l * te.size, none⟩) (h - l) (m - l))) none
      | _, _, _ => none
    | _, _ => none

def aread (E : Env) (ρ : Operand → Option Value) (o : Oper) (s : St) : Option Value :=
  match o.op with
  | .load t x => match ρ x with
    | some (.pointer (some a)) => aload E s t a
    | _ => none
  | .slice t x lo hi mx => match ρ x, oev ρ lo, oev ρ hi, oev ρ mx with
    | some v, some l, some h, some m => aslice E s t v l h m
    | _, _, _, _ => none
  | .binOp .eql t x y _ => match ρ x, ρ y with
    | some (.int _ _), _ => none
    | some (.string _), _ => none
    | some (.nilIface), some (.nilIface) => none
    | some a, some b => match aeq E s 8 t a b with
      | some r => some (.bool r)
      | none => none
    | _, _ => none
  | .binOp .neq t x y _ => match ρ x, ρ y with
    | some (.int _ _), _ => none
    | some (.string _), _ => none
    | some (.nilIface), some (.nilIface) => none
    | some a, some b => match aeq E s 8 t a b with
      | some r => some (.bool (!r))
      | none => none
    | _, _ => none
  | .convert t _ x => cond (ofBytes E t) (match ρ x with
    | some (.slice none _ _) => some (.string ⟨#[]⟩)
    | some (.slice (some a) len _) => match s.heap.get a.block with
      | some (.cells cs _ _) => cond a.spot.isSome none (match takeN len (cs.drop a.off) with
        | some r => match bytesAt r with
          | some b => some (.string ⟨b.toArray⟩)
          | none => none
        | none => none)
      | _ => none
    | _ => none) none
  | .lookup t x i ok => match E.ty.get t, ρ x, ρ i with
    | some ti, some m, some k => match ti.und with
      | .map kt et => match mapOf s m, E.ty.get et with
        | some es, some te => cond (keyOk E 6 kt k)
          (match findI E s kt k es 0 with
           | some (some i) => match es[i]? with
             | some e => some (cond ok (.tuple #[e.val, .bool true]) e.val)
             | none => none
           | some none => match zeroOf te with
             | some z => some (cond ok (.tuple #[z, .bool false]) z)
             | none => none
           | none => none) none
        | _, _ => none
      | _ => none
    | _, _, _ => none
  | .entry x => match ρ x with
    | some (.pointer (some a)) => match s.heap.get a.block with
      | some (.iter (some m) _ seen stepped) => match s.heap.get m, seen.getLast? with
        | some (.map es clock), some stamp => cond (Nat.beq clock stepped && Nat.beq a.off 0)
          (match es.find? (fun e => Nat.beq e.born stamp) with
           | some e => some (.tuple #[e.key, e.val])
           | none => none) none
        | _, _ => none
      | _ => none
    | _ => none
  | .call c => match c.callee, evalL ρ c.args.toList, c.argTypes.toList with
    | .builtin .len, some (x :: _), t :: _ => match E.ty.get t with
      | some ti => match ti.und, x with
        | .string, .string b => some (.int .i64 b.size)
        | .array n _, _ => some (.int .i64 n)
        | .slice _, .slice _ n _ => some (.int .i64 n)
        | .map _ _, .map none => some (.int .i64 0)
        | .map _ _, .map (some r) => match s.heap.get r with
          | some (.map es _) => some (.int .i64 es.length)
          | _ => none
        | .chan _ _, .chan (some r) => match s.heap.get r with
          | some (.chan _ buf _) => some (.int .i64 buf.length)
          | _ => none
        | _, _ => none
      | none => none
    | .builtin .cap, some (x :: _), t :: _ => match E.ty.get t with
      | some ti => match ti.und, x with
        | .slice _, .slice none _ n => some (.int .i64 n)
        | .slice _, .slice (some a) _ n => match s.heap.get a.block with
          | some (.cells _ none _) => cond (Nat.beq n 0) none (some (.int .i64 n))
          | _ => none
        | .chan _ _, .chan (some r) => match s.heap.get r with
          | some (.chan n _ _) => some (.int .i64 n)
          | _ => none
        | _, _ => none
      | none => none
    | _, _, _ => none
  | _ => none

/-! ### making -/
def aalloc (E : Env) (ρ : Operand → Option Value) (o : Oper) : Option (AObj × (Nat → Value)) :=
  match o.op with
  | .alloc t => match E.ty.get t with
    | some ti => some (.cells ti.zero none false, fun n => .pointer (some ⟨n, 0, none⟩))
    | none => none
  | .box _ x => match ρ x with
    | some v => some (.cells (cellsOf v) none false, fun n => .pointer (some ⟨n, 0, none⟩))
    | none => none
  | .buildSlice t len parts => match E.ty.get t, evalP ρ parts.toList with
    | some ti, some vs => match ti.und with
      | .slice e => match E.ty.get e with
        | some te => cond (Nat.blt 0 te.size && Nat.ble (len * te.size) 16777216 && sizeIs te.size te.zero)
          (match fillA te.size vs (repN len te.zero) with
           | some c => some (.cells c none false, fun n => .slice (some ⟨n, 0, none⟩) len len)
           | none => none) none
        | none => none
      | _ => none
    | _, _ => none
  | .makeSlice t l c => match E.ty.get t, ρ l, ρ c with
    | some ti, some (.int _ ln), some (.int _ cn) => match ti.und with
      | .slice e => match E.ty.get e with
        | some te => if 0 ≤ ln ∧ ln ≤ cn ∧ cn.toNat ≤ most ∧ cn.toNat * te.bytes ≤ most ∧ 0 < te.size ∧ sizeIs te.size te.zero = true then
            some (.cells (repN cn.toNat te.zero) none false, fun n => .slice (some ⟨n, 0, none⟩) ln.toNat cn.toNat) else none
        | none => none
      | _ => none
    | some ti, some (.complex _ ln _), some (.complex _ cn _) => match ti.und with
      | .slice e => match E.ty.get e with
        | some te => cond (Nat.beq ln cn && E.room ln && Nat.ble te.bytes 1000 && Nat.blt 0 te.size && sizeIs te.size te.zero)
            (some (.cells [] none true, fun _ => .float .f64 0)) none
        | none => none
      | _ => none
    | _, _, _ => none
  | .makeMap t r => match E.ty.get t, oev ρ r with
    | some ti, some v => match ti.und with
      | .map _ _ => match v with
        | none => some (.map [] 0, fun n => .map (some n))
        | some (.int _ _) => some (.map [] 0, fun n => .map (some n))
        | _ => none
      | _ => none
    | _, _ => none
  | .makeChan t x => match E.ty.get t, ρ x with
    | some ti, some (.int _ n) => match ti.und with
      | .chan _ e => match E.ty.get e with
        | some te => if 0 ≤ n ∧ n.toNat ≤ most ∧ n.toNat * te.bytes ≤ most then some (.chan n.toNat [] false, fun n => .chan (some n)) else none
        | none => none
      | _ => none
    | _, _ => none
  | _ => none

/-! ### writing -/
def writable (s : St) (n : Nat) : Option (List Value × Option Nat) :=
  match s.heap.get n with
  | some (.cells cs esz false) => some (cs, esz)
  | _ => none

def astore (E : Env) (s : St) (t : Nat) (a : Addr) (v : Value) : Option St :=
  match E.ty.get t, writable s a.block with
  | some ti, some (cs, esz) => cond (sizeIs ti.size (cellsOf v) && allV isCell (cellsOf v) && a.spot.isNone)
    (match setN cs a.off (cellsOf v) with
     | some c => some { s with heap := s.heap.set a.block (.cells c esz false) }
     | none => none) none
  | _, _ => none

/-- The cells of the first n elements. -/
def firstN (s : St) (size n : Nat) : Value → Option (List Value)
  | .slice (some a) _ _ => match s.heap.get a.block with
    | some (.cells cs _ _) => cond a.spot.isSome none (takeN (n * size) (cs.drop a.off))
    | _ => none
  | .slice none _ _ => some []
  | .string b => some ((b.data.toList.take n).map fun c => .int .u8 c.toNat)
  | _ => none

def lenOf : Value → Option Nat
  | .slice _ n _ => some n
  | .string b => some b.size
  | _ => none

/-- An append of so many zero values, that makes a new row. -/
def aappendZ (E : Env) (s : St) (ti : TI) (base : Option Addr) (sLen sCap : Nat) (x : Value) : Option (Value × St) :=
  match ti.und, x with
  | .slice e, .int _ l => match E.ty.get e, firstN s (match E.ty.get e with | some te => te.size | none => 0) sLen (.slice base sLen sCap) with
    | some te, some old => cond (decide (0 ≤ l) && Nat.blt sCap (sLen + l.toNat) && Nat.blt 0 te.size && Nat.ble ((sLen + l.toNat) * te.bytes) most && Nat.ble (sLen + l.toNat) most && sizeIs te.size te.zero && allV isCell te.zero && allV isCell old && Nat.beq old.length (sLen * te.size))
      (match base with
       | none => none
       | some a => match s.heap.get a.block with
         | some (.cells _ none _) => some (.slice (some ⟨s.next, 0, none⟩) (sLen + l.toNat) (sLen + l.toNat), { heap := s.heap.set s.next (.cells (old ++ repN l.toNat te.zero) (some te.size) false), next := s.next + 1 })
         | _ => none) none
    | _, _ => none
  | _, _ => none

def aappend (E : Env) (s : St) (argTypes : List Nat) (args : List Value) : Option (Value × St) :=
  match argTypes, args with
  | st :: xt :: _, [.slice base sLen sCap, x] => match E.ty.get st, E.ty.get xt with
    | some ti, some tx => cond (isNum tx.und) (aappendZ E s ti base sLen sCap x) (match ti.und with
      | .slice e => match E.ty.get e, lenOf x with
        | some te, some n => match firstN s te.size n x with
          | some new => cond (Nat.ble (sLen + n) sCap)
            (match base with
             | none => match new with
               | [] => some (.slice none (sLen + n) sCap, s)
               | _ => none
             | some a => match new with
               | [] => some (.slice (some a) (sLen + n) sCap, s)
               | _ => match writable s a.block with
                 | some (cs, esz) => cond (allV isCell new && a.spot.isNone)
                   (match setN cs (a.off + sLen * te.size) new with
                    | some c => some (.slice (some a) (sLen + n) sCap, { s with heap := s.heap.set a.block (.cells c esz false) })
                    | none => none) none
                 | none => none)
            (match firstN s te.size sLen (.slice base sLen sCap) with
             | some old => cond (Nat.blt 0 te.size && Nat.ble ((sLen + n) * te.bytes) most && Nat.ble (sLen + n) most && sizeIs te.size te.zero && allV isCell new && Nat.beq (old.length + new.length) ((sLen + n) * te.size) && allV isCell te.zero)
               (match base with
                | none => some (.slice (some ⟨s.next, 0, none⟩) (sLen + n) (sLen + n), { heap := s.heap.set s.next (.cells (old ++ new) (some te.size) false), next := s.next + 1 })
                | some a => match s.heap.get a.block with
                  | some (.cells _ none _) => cond (allV isCell old) (some (.slice (some ⟨s.next, 0, none⟩) (sLen + n) (sLen + n), { heap := s.heap.set s.next (.cells (old ++ new) (some te.size) false), next := s.next + 1 })) none
                  | some (.cells _ (some k) false) => cond (Nat.beq k te.size)
                    (some (.slice (some ⟨s.next, 0, none⟩) (sLen + n) (sLen + n), { heap := (s.heap.del a.block).set s.next (.cells (old ++ new) (some te.size) false), next := s.next + 1 })) none
                  | _ => none) none
             | none => none)
          | none => none
        | _, _ => none
      | _ => none)
    | _, _ => none
  | _, _ => none

def acopy (E : Env) (s : St) (argTypes : List Nat) (args : List Value) : Option (Value × St) :=
  match argTypes, args with
  | dt :: _, [.slice base dLen _, src] => match E.ty.get dt with
    | some ti => match ti.und with
      | .slice e => match E.ty.get e, lenOf src with
        | some te, some n => match firstN s te.size (Nat.min n dLen) src with
          | some new => match base, new with
            | none, _ => some (.int .i64 (Nat.min n dLen), s)
            | some _, [] => some (.int .i64 (Nat.min n dLen), s)
            | some a, _ => match writable s a.block with
              | some (cs, esz) => cond (allV isCell new && a.spot.isNone)
                (match setN cs a.off new with
                 | some c => some (.int .i64 (Nat.min n dLen), { s with heap := s.heap.set a.block (.cells c esz false) })
                 | none => none) none
              | none => none
          | none => none
        | _, _ => none
      | _ => none
    | none => none
  | _, _ => none

def aclear (E : Env) (s : St) (argTypes : List Nat) (args : List Value) : Option (Value × St) :=
  match argTypes, args with
  | t :: _, [x] => match E.ty.get t with
    | some ti => match ti.und, x with
      | .map _ _, .map none => some (.tuple #[], s)
      | .map _ _, .map (some r) => match s.heap.get r with
        | some (.map _ clock) => some (.tuple #[], { s with heap := s.heap.set r (.map [] clock) })
        | _ => none
      | .slice _, .slice none _ _ => some (.tuple #[], s)
      | .slice _, .slice (some _) 0 _ => some (.tuple #[], s)
      | .slice e, .slice (some a) (n + 1) _ => match E.ty.get e, writable s a.block with
        | some te, some (cs, esz) => cond (Nat.blt 0 te.size && sizeIs te.size te.zero && allV isCell te.zero && a.spot.isNone)
          (match setN cs a.off (repN (n + 1) te.zero) with
           | some c => some (.tuple #[], { s with heap := s.heap.set a.block (.cells c esz false) })
           | none => none) none
        | _, _ => none
      | _, _ => none
    | none => none
  | _, _ => none

/-- Numbers, texts, truth, and rows of these. -/
def keyPlain : Nat → Value → Bool
  | _, .int _ _ => true
  | _, .string _ => true
  | _, .bool _ => true
  | n + 1, .agg cs => allV (keyPlain n) cs.toList
  | _, _ => false

def setI (v : Value) : List MapEntry → Nat → List MapEntry
  | [], _ => []
  | e :: es, 0 => { e with val := v } :: es
  | e :: es, i + 1 => e :: setI v es i

def delI : List MapEntry → Nat → List MapEntry
  | [], _ => []
  | _ :: es, 0 => es
  | e :: es, i + 1 => e :: delI es i

def adelete (E : Env) (s : St) (argTypes : List Nat) (args : List Value) : Option (Value × St) :=
  match argTypes, args with
  | t :: _, [m, k] => match E.ty.get t with
    | some ti => match ti.und, m with
      | .map kt _, .map none => cond (keyOk E 6 kt k) (some (.tuple #[], s)) none
      | .map kt _, .map (some r) => match s.heap.get r with
        | some (.map es clock) => cond (keyOk E 6 kt k) (match findI E s kt k es 0 with
          | some (some i) => some (.tuple #[], { s with heap := s.heap.set r (.map (delI es i) clock) })
          | some none => some (.tuple #[], s)
          | none => none) none
        | _ => none
      | _, _ => none
    | none => none
  | _, _ => none

def amapset (E : Env) (s : St) (t : Nat) (m k v : Value) : Option St :=
  match E.ty.get t with
  | some ti => match ti.und, m with
    | .map kt _, .map (some r) => match s.heap.get r with
      | some (.map es clock) => cond (keyOk E 6 kt k) (match findI E s kt k es 0 with
        | some (some i) => match es[i]? with
          | some e => cond (keyPlain 6 k && sameV e.key k) (some { s with heap := s.heap.set r (.map (setI v es i) clock) }) none
          | none => none
        | some none => some { s with heap := s.heap.set r (.map (es ++ [{ key := k, val := v, born := clock }]) (clock + 1)) }
        | none => none) none
      | _ => none
    | _, _ => none
  | none => none

def achain (E : Env) (ρ : Operand → Option Value) (o : Oper) (s : St) : Option (Value × St) :=
  match o.op with
  | .store t x v => match ρ x, ρ v with
    | some (.pointer (some a)), some u => match astore E s t a u with
      | some s' => some (undef, s')
      | none => none
    | _, _ => none
  | .mapUpdate t m k v => match ρ m, ρ k, ρ v with
    | some vm, some vk, some vv => match amapset E s t vm vk vv with
      | some s' => some (undef, s')
      | none => none
    | _, _, _ => none
  | .insert t m k v => match ρ m, ρ k, ρ v with
    | some vm, some vk, some vv => match amapset E s t vm vk vv with
      | some s' => some (undef, s')
      | none => none
    | _, _, _ => none
  | .range t x => match E.ty.get t, ρ x with
    | some ti, some v => match ti.und, v with
      | .map _ _, .map none => some (.pointer (some ⟨s.next, 0, none⟩), { heap := s.heap.set s.next (.iter none 0 [] 0), next := s.next + 1 })
      | .map _ _, .map (some m) => match s.heap.get m with
        | some (.map _ clock) => some (.pointer (some ⟨s.next, 0, none⟩), { heap := s.heap.set s.next (.iter (some m) clock [] clock), next := s.next + 1 })
        | _ => none
      | _, _ => none
    | _, _ => none
  | .next x false => match ρ x with
    | some (.pointer (some a)) => cond (Nat.beq a.off 0) (match s.heap.get a.block with
      | some (.iter none _ _ _) => some (.tuple #[.bool false], s)
      | some (.iter (some m) since seen last) => match s.heap.get m with
        | some (.map es clock) =>
          cond (!seen.isEmpty && !es.isEmpty && es.all (fun e => Nat.ble last e.born)) none
            (match es.filter (fun e => !seen.contains e.born) with
             | [] => some (.tuple #[.bool false], s)
             | [e] => cond (Nat.blt e.born since)
                (some (.tuple #[.bool true, e.key, e.val], { s with heap := s.heap.set a.block (.iter (some m) since (seen ++ [e.born]) clock) })) none
             | _ => none)
        | _ => none
      | _ => none) none
    | _ => none
  | .call c => match c.callee, evalL ρ c.args.toList with
    | .builtin .append, some vs => aappend E s c.argTypes.toList vs
    | .builtin .copy, some vs => acopy E s c.argTypes.toList vs
    | .builtin .clear, some vs => aclear E s c.argTypes.toList vs
    | .builtin .delete, some vs => adelete E s c.argTypes.toList vs
    | _, _ => none
  | _ => none

/-! ### the run -/
inductive Ex where
  | normal
  | exit (id : Nat)
  | ret

def wantedA (ops : List Oper) (o : Oper) (a : AA) : Bool :=
  match o.guard with
  | none => true
  | some (j, want) => match ops[j]? with
    | some oj => match oj.dst with
      | some d => cond (Nat.blt d a.n) (match a.look d with
        | .bool b => b == want
        | _ => false) false
      | none => false
    | none => false

def callee (ρ : Operand → Option Value) (c : Call) : Option (FuncId × List Value) :=
  match c.callee with
  | .value f => match ρ f, evalL ρ c.args.toList with
    | some (.func (.func g) first captured), some args => some (g, first.toList ++ args ++ captured.toList)
    | _, _ => none
  | _ => none

def deferredA (ρ : Operand → Option Value) (c : Call) : Option Deferred :=
  match c.callee with
  | .value f => match ρ f, evalL ρ c.args.toList with
    | some (.func (.func g) first captured), some args => some { target := .fn (.func g) captured, args := (first.toList ++ args).toArray }
    | _, _ => none
  | _ => none

/-- One operation. nm: the name of what it makes. -/
def step1 (E : Env) (callK : FuncId → List Value → St → Option (Value × St)) (ops : List Oper) (o : Oper) (nm : Option Nat) (a : AA) (s : St) : Option (AA × St) :=
  cond (wantedA ops o a)
    (match cls E o.op with
     | .pure => match apure E a.eval o with
       | some v => match a.put o.dst v with
         | some a' => some (a', s)
         | none => none
       | none => none
     | .read => match aread E a.eval o s with
       | some v => match a.put o.dst v with
         | some a' => some (a', s)
         | none => none
       | none => none
     | .alloc => match aalloc E a.eval o with
       | some (ob, f) => match nm with
         | some n => match a.put o.dst (f n) with
           | some a' => some (a', { s with heap := s.heap.set n ob })
           | none => none
         | none => match a.put o.dst (f s.next) with
           | some a' => some (a', { heap := s.heap.set s.next ob, next := s.next + 1 })
           | none => none
       | none => none
     | .chain => match achain E a.eval o s with
       | some (v, s') => match a.put o.dst v with
         | some a' => some (a', s')
         | none => none
       | none => none
     | .call => match o.op with
       | .call c => match callee a.eval c with
         | some (g, args) => match callK g args s with
           | some (v, s') => match a.put o.dst v with
             | some a' => some (a', s')
             | none => none
           | none => none
         | none => none
       | _ => none
     | .dfr => match o.op with
       | .defer c => match deferredA a.eval c with
         | some d => match ({ a with df := d :: a.df } : AA).put o.dst undef with
           | some a' => some (a', s)
           | none => none
         | none => none
       | _ => none
     | .bad => none)
    (match a.put o.dst undef with
     | some a' => some (a', s)
     | none => none)

def runOps (E : Env) (callK : FuncId → List Value → St → Option (Value × St)) (ops : List Oper) : List Oper → AA → St → Option (AA × St)
  | [], a, s => some (a, s)
  | o :: rest, a, s => match step1 E callK ops o none a s with
    | some (a', s') => runOps E callK ops rest a' s'
    | none => none

def againOk (E : Env) (ops : List Oper) (a : AA) (s : St) : List Nat → Bool
  | [] => true
  | r :: rest => (match ops[r]? with
    | none => false
    | some o => cond (wantedA ops o a)
      (match aread E a.eval o s, o.dst with
       | some v, some d => sameV v (a.look d)
       | _, _ => false) true) && againOk E ops a s rest

def runPlan (E : Env) (callK : FuncId → List Value → St → Option (Value × St)) (ops : List Oper) (base : Nat) : List PStep → AA → St → Option (AA × St)
  | [], a, s => some (a, s)
  | p :: rest, a, s => match ops[p.i]? with
    | none => none
    | some o => match step1 E callK ops o (some (base + p.i)) a s with
      | some (a', s') => cond (againOk E ops a' s' p.again) (runPlan E callK ops base rest a' s') none
      | none => none

def ofArgs : Nat → List Value → Tr Value → Tr Value
  | _, [], t => t
  | i, v :: vs, t => ofArgs (i + 1) vs (t.set i v)

def lenIs (n : Nat) : List Value → Bool
  | [] => true
  | _ :: vs => match n with
    | 0 => false
    | n + 1 => lenIs n vs

def aresults (E : Env) (a : AA) (s : St) : List ResultVar → Option (List Value)
  | [] => some []
  | .tmp t :: rest => match aresults E a s rest with
    | some vs => some (a.look t :: vs)
    | none => none
  | .cell x t :: rest => match a.look x with
    | .pointer (some p) => match aload E s t p, aresults E a s rest with
      | some v, some vs => some (v :: vs)
      | _, _ => none
    | _ => none

def oneOr : List Value → Value
  | [v] => v
  | vs => .tuple vs.toArray

def runDf (call : FuncId → List Value → St → Option St) : List Deferred → St → Option St
  | [], s => some s
  | d :: ds, s => match d.target with
    | .fn (.func g) captured => match call g (d.args.toList ++ captured.toList) s with
      | some s' => runDf call ds s'
      | none => none
    | _ => none

/-- A call, by a run of bodies. -/
def callBy (E : Env) (ex : FuncId → Code → AA → St → Option (Ex × AA × St)) (deferred : Bool) (g : FuncId) (args : List Value) (s : St) : Option (Value × St) :=
  match E.fn.get g with
  | none => none
  | some fn => match fn.body with
    | none => none
    | some body => cond (lenIs fn.ntmps args)
      (match ex g body { tm := ofArgs 0 args .leaf, n := fn.ntmps, df := [] } s with
       | some (.exit _, _, _) => none
       | some (_, a, s1) => match (cond deferred (match a.df with | [] => some s1 | _ => none)
            (runDf (fun f as s => match E.fn.get f with
              | none => none
              | some fn' => match fn'.body with
                | none => none
                | some body' => cond (lenIs fn'.ntmps as)
                  (match ex f body' { tm := ofArgs 0 as .leaf, n := fn'.ntmps, df := [] } s with
                   | some (.exit _, _, _) => none
                   | some (_, a', s') => match a'.df, aresults E a' s' fn'.results.toList with
                     | [], some _ => some s'
                     | _, _ => none
                   | none => none) none) a.df s1)) with
         | some s2 => match aresults E a s2 fn.results.toList with
           | some vs => some (oneOr vs, s2)
           | none => none
         | none => none
       | none => none) none

def callOf (E : Env) (ex : FuncId → Code → AA → St → Option (Ex × AA × St)) (g : FuncId) (args : List Value) (s : St) : Option (Value × St) :=
  match E.prim g with
  | some p => p args s
  | none => callBy E ex true g args s

def exec (E : Env) : Nat → FuncId → Code → AA → St → Option (Ex × AA × St)
  | 0, _, _, _, _ => none
  | k + 1, f, c, a, s => match c with
    | .skip => some (.normal, a, s)
    | .label _ => some (.normal, a, s)
    | .seq x y => match exec E k f x a s with
      | some (.normal, a', s') => exec E k f y a' s'
      | r => r
    | .cond c x y => match a.eval c with
      | some (.bool true) => exec E k f x a s
      | some (.bool false) => exec E k f y a s
      | _ => none
    | .block id c => match exec E k f c a s with
      | some (.exit j, a', s') => cond (Nat.beq j id) (some (.normal, a', s')) (some (.exit j, a', s'))
      | r => r
    | .loop c => match exec E k f c a s with
      | some (.normal, a', s') => exec E k f (.loop c) a' s'
      | r => r
    | .exit id => some (.exit id, a, s)
    | .ret => some (.ret, a, s)
    | .region id ops draw => cond draw
      (match E.plan f id with
       | some pl => match runPlan E (callOf E (exec E k)) ops.toList s.next pl a { s with next := s.next + ops.toList.length } with
         | some (a', s') => some (.normal, a', s')
         | none => none
       | none => none)
      (match runOps E (callOf E (exec E k)) ops.toList ops.toList a s with
       | some (a', s') => some (.normal, a', s')
       | none => none)
    | _ => none

/-- A call, with so much fuel. -/
def calls (E : Env) (k : Nat) : FuncId → List Value → St → Option (Value × St) := callOf E (exec E k)

end Go.Sh
