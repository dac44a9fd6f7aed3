/-
  NodeAny: what may not be: the runs.
-/
import Derived.Test.YtnhofgbjmofcnaaGreatRSb1
import Derived.Test.YtnhofgbjmofcnaaGreatRSa4
namespace Go.Sh
open Go
open Go.Proofs

def primNot (k : Kept) : Nat → Option (List Value → St → Option (Value × St)) := fun f =>
  cond (Nat.beq f 6) (some (kKnown.prim [])) (cond (Nat.beq f 7) (some (k.prim [cfgS])) none)

noncomputable def envNot (k : Kept) (tab : List Ent) : Env := seatEnv (primNot k) (orcOf tab) noRoom

def tabLow : List Ent := [(.lss, ySym 22, .int .i64 1, .bool true)]
def tabHigh : List Ent := [(.lss, ySym 22, .int .i64 1, .bool false), (.gtr, ySym 22, ySym 0, .bool true)]

noncomputable def notOk (k : Kept) (tab : List Ent) : Bool := okRun (calls (envNot k tab) 400 3 [cfgS, ySym 22] ⟨.leaf, 0⟩)

theorem not_may : notOk kMayF [] = true := by kernel_rfl
theorem not_low : notOk kMay tabLow = true := by kernel_rfl
theorem not_high : notOk kMay tabHigh = true := by kernel_rfl

end Go.Sh
