/-
  The seat's environment, looked over. PRINTED BY PROGRAM (wip/tools/Gen.lean).
-/
import Derived.Test.YtnhofgbjmofcnaaGreatREa
import Derived.KernelRfl

namespace Go.Sh
open Go
open Go.Proofs

theorem look0 (prim : Nat → Option (List Value → St → Option (Value × St))) (orc : BinOp → Value → Value → Option Value) (room : Nat → Bool) : fnL0.all (lookOk (seatEnv prim orc room)) = true := by kernel_rfl
theorem look1 (prim : Nat → Option (List Value → St → Option (Value × St))) (orc : BinOp → Value → Value → Option Value) (room : Nat → Bool) : fnL1.all (lookOk (seatEnv prim orc room)) = true := by kernel_rfl
theorem look2 (prim : Nat → Option (List Value → St → Option (Value × St))) (orc : BinOp → Value → Value → Option Value) (room : Nat → Bool) : fnL2.all (lookOk (seatEnv prim orc room)) = true := by kernel_rfl
theorem look3 (prim : Nat → Option (List Value → St → Option (Value × St))) (orc : BinOp → Value → Value → Option Value) (room : Nat → Bool) : fnL3.all (lookOk (seatEnv prim orc room)) = true := by kernel_rfl
theorem look4 (prim : Nat → Option (List Value → St → Option (Value × St))) (orc : BinOp → Value → Value → Option Value) (room : Nat → Bool) : fnL4.all (lookOk (seatEnv prim orc room)) = true := by kernel_rfl

variable [Sg : Sig]

theorem seat_good (prim : Nat → Option (List Value → St → Option (Value × St))) (orc : BinOp → Value → Value → Option Value) (room : Nat → Bool) (h : ∀ f p, prim f = some p → PrimDone Tryz.prog f p) (horc : ∀ op u v r, orc op u v = some r → ∀ (ι : Inj) u' v' t w, VR ι u u' → VR ι v v' → ¬ (u' = .nilIface ∧ v' = .nilIface) ∧ (∀ xs, u' ≠ .agg xs) ∧ ∃ r', (binOp op t u' v').run Tryz.prog w = .ok r' w ∧ VR ι r r') (hroom : ∀ n, room n = true → ∃ k m, Sg.sym n = .int k m ∧ 0 ≤ m ∧ m.toNat ≤ 5000) : (seatEnv prim orc room).Good Tryz.prog :=
  Env.Good.of tyT_of tyA fnT_of fnA h horc hroom (by kernel_rfl) (by simp only [fnL, List.all_append, Bool.and_eq_true]; exact ⟨⟨⟨⟨(look0 prim orc room), (look1 prim orc room)⟩, (look2 prim orc room)⟩, (look3 prim orc room)⟩, (look4 prim orc room)⟩)

end Go.Sh
