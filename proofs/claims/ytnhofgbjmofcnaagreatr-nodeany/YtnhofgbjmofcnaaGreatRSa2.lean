/-
  NodeAny: contracts of what it calls. (The program's parts are named by their numbers.)
-/
import Derived.Test.YtnhofgbjmofcnaaGreatRSa1
import Derived.Test.YtnhofgbjmofcnaaGreatRSe2
namespace Go.Sh
open Go
open Go.Proofs

def noPrim : Nat → Option (List Value → St → Option (Value × St)) := fun _ => none

theorem noPrim_ok [Sg : Sig] : ∀ f p, noPrim f = some p → PrimOk Tryz.prog f p ∧ ∀ args w, (callFunc f args).run Tryz.prog w = .ok (.enter f args) w := by
  intro f p h; cases h

def noRoom : Nat → Bool := fun _ => false

theorem noRoom_ok [Sg : Sig] : ∀ n, noRoom n = true → ∃ k m, Sg.sym n = .int k m ∧ 0 ≤ m ∧ m.toNat ≤ 5000 := by
  intro n h; cases h

def noAl : Nat → Value → Bool := fun _ _ => false

theorem noAl_ok [Sg : Sig] : AlOk noAl := by intro n v h; cases h

def symsTo : Nat → List Value → List Value
  | 0, l => l
  | n + 1, l => symsTo n (.complex .f64 n 0 :: l)

/-- The config, all of it standing for other values. -/
def cfgS : Value := .agg ⟨symsTo 22 []⟩

/-- With the number of nodes as it is. -/
def cfgN (N : Int) : Value := .agg ⟨.int .i64 N :: (symsTo 22 []).tail⟩

/-- With the numbers of mutators and slots as they are. -/
def cfgMS (m s : Int) : Value := .agg ⟨.complex .f64 0 0 :: .int .i64 m :: .int .i64 s :: ((symsTo 22 []).drop 3)⟩

/-! ### May -/
def kMay : Kept := ⟨[.bool true], [], 1⟩

noncomputable def envMay : Env := seatEnv noPrim (orcOf tabMay) noRoom

theorem may_run : keptOk noAl kMay (calls envMay 400 7 [cfgS] ⟨.leaf, 0⟩) = true := by kernel_rfl

/-! ### known -/
def kKnown : Kept := ⟨[.bool true], [], 557⟩

noncomputable def envPlain : Env := seatEnv noPrim (orcOf []) noRoom

theorem known_run : keptOk noAl kKnown (calls envPlain 2000 6 [] ⟨.leaf, 0⟩) = true := by kernel_rfl

/-! ### the tables -/
def primN (N : Int) : Nat → Option (List Value → St → Option (Value × St)) := fun f => cond (Nat.beq f 7) (some (kMay.prim [cfgN N])) none

noncomputable def envN (N : Int) : Env := seatEnv (primN N) (orcOf (tabN N)) noRoom

def kCaller : Kept := ⟨[.pointer (some ⟨12, 0, none⟩), .int .i64 0], [(2, [.slice none 0 0, .slice none 0 0, .complex .f64 6 0]),
  (12, symsTo 22 [.complex .f64 22 0, .complex .f64 21 0, .float .f64 0, .pointer (some ⟨2, 0, none⟩), .int .u64 0])], 14⟩

def kOpen : Kept := ⟨[.pointer (some ⟨11, 0, none⟩), .int .i64 0], [(2, [.slice none 0 0, .slice none 0 0, .int .i64 512]),
  (11, symsTo 22 [.complex .f64 22 0, .float .f64 0, .pointer (some ⟨2, 0, none⟩), .int .u64 0])], 13⟩

def alN (N : Int) (n : Nat) (v : Value) : Bool := Nat.beq n 0 && sameV v (.int .i64 N)

def upTo : Nat → List Nat
  | 0 => []
  | n + 1 => (n + 1) :: upTo n

end Go.Sh
