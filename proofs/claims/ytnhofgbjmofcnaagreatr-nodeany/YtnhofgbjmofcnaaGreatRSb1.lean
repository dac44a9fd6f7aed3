/-
  NodeAny: what May says of a config that may not be: the tests, in groups, and the runs.
-/
import Derived.Test.YtnhofgbjmofcnaaGreatRSa2
namespace Go.Sh
open Go
open Go.Proofs

/-- A test of May. -/
inductive Tst where
  | inn (i : Nat) (m : Int)
  | cmp (op : BinOp) (u v : Value)

def ySym (n : Nat) : Value := .complex .f64 n 0

def tstA : List Tst := [.inn 0 64, .inn 1 4, .inn 2 8, .inn 3 4096, .cmp .eql (ySym 30) (.int .i64 0)]
def tstB : List Tst := [.inn 4 64, .inn 5 64, .inn 6 16, .inn 7 8, .inn 8 64, .inn 9 256, .inn 10 16]
def tstD : List Tst := [.cmp .geq (ySym 11) (.int .u64 1), .cmp .leq (ySym 11) (.int .u64 1048576), .cmp .lss (ySym 12) (ySym 11), .cmp .leq (ySym 13) (.int .u64 4294967295), .cmp .geq (ySym 32) (ySym 35)]
def tstE : List Tst := [.cmp .geq (ySym 14) (.int .u64 1), .cmp .leq (ySym 14) (ySym 15), .cmp .leq (ySym 15) (.int .u64 4294967295), .cmp .geq (ySym 16) (.int .u64 1), .cmp .leq (ySym 16) (.int .u64 4294967295)]
def tstL : List Tst := [.inn 17 38, .cmp .gtr (ySym 18) (ySym 17), .cmp .lss (ySym 18) (.int .i64 40), .inn 19 64, .cmp .leq (ySym 20) (.int .u64 4611686018427387904), .cmp .leq (ySym 21) (.int .u64 72057594037927935)]

/-- What is known where the first of a group that fails is the i-th. -/
def knownT : List Tst → Nat → List (Tst × Bool)
  | [], _ => []
  | t :: _, 0 => [(t, false)]
  | t :: r, i + 1 => (t, true) :: knownT r i

def arith : List Ent := [(.rem, ySym 3, .int .i64 16, ySym 30), (.sub, ySym 11, ySym 12, ySym 31), (.mul, ySym 13, ySym 31, ySym 32), (.add, ySym 11, ySym 12, ySym 33), (.mul, .int .u64 8, ySym 33, ySym 35)]

def cmps : List (Tst × Bool) → List Ent
  | [] => arith
  | (.cmp op u v, b) :: r => (op, u, v, .bool b) :: cmps r
  | (.inn _ _, _) :: r => cmps r

def kIn (b : Bool) : Kept := ⟨[.bool b], [], 0⟩

def primIn : List (Tst × Bool) → List Value → St → Option (Value × St)
  | [], _, _ => none
  | (.inn i m, b) :: r, ys, s => match (kIn b).prim [ySym i, .int .i64 m] ys s with
    | some x => some x
    | none => primIn r ys s
  | (.cmp _ _ _, _) :: r, ys, s => primIn r ys s

def primF (l : List (Tst × Bool)) : Nat → Option (List Value → St → Option (Value × St)) := fun f => cond (Nat.beq f 25) (some (primIn l)) none

noncomputable def envF (l : List (Tst × Bool)) : Env := seatEnv (primF l) (orcOf (cmps l)) noRoom

def kMayF : Kept := ⟨[.bool false], [], 1⟩

/-- Of the first four groups. -/
def known4 (a b d e : Nat) : List (Tst × Bool) := knownT tstA a ++ knownT tstB b ++ knownT tstD d ++ knownT tstE e

/-- Of the last group, where the others hold. -/
def known5 (l : Nat) : List (Tst × Bool) := known4 5 7 5 5 ++ knownT tstL l

noncomputable def falseOk (l : List (Tst × Bool)) : Bool := keptOk noAl kMayF (calls (envF l) 400 7 [cfgS] ⟨.leaf, 0⟩)

/-- All the ways of the last two groups. -/
def ways : List (Nat × Nat) := (List.range 6).flatMap fun d => (List.range 6).map fun e => (d, e)

noncomputable def falseAll (a b : Nat) : Bool := ways.all fun p => cond (Nat.beq a 5 && Nat.beq b 7 && Nat.beq p.1 5 && Nat.beq p.2 5) true (falseOk (known4 a b p.1 p.2))

end Go.Sh
