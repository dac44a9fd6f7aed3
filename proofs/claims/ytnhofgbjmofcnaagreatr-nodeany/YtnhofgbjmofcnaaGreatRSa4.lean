/-
  NodeAny: the run, at given numbers of mutators and slots.
-/
import Derived.Test.YtnhofgbjmofcnaaGreatRSa2
namespace Go.Sh
open Go
open Go.Proofs

def primMain (m s : Int) : Nat → Option (List Value → St → Option (Value × St)) := fun f =>
  cond (Nat.beq f 6) (some (kKnown.prim [])) (cond (Nat.beq f 7) (some (kMay.prim [cfgMS m s]))
    (cond (Nat.beq f 22) (some (kCaller.prim [cfgMS m s, .complex .f64 22 0, .complex .f64 21 0])) (cond (Nat.beq f 23) (some (kOpen.prim [cfgMS m s, .complex .f64 22 0])) none)))

noncomputable def envMain (m s : Int) : Env := seatEnv (primMain m s) (orcOf tabMain) roomOf

def okRun (r : Option (Value × St)) : Bool := match r with
  | some (.bool true, _) => true
  | _ => false

noncomputable def mainOk (m s : Nat) : Bool := okRun (calls (envMain m s) 400 3 [cfgMS m s, .complex .f64 22 0] ⟨.leaf, 0⟩)

end Go.Sh
