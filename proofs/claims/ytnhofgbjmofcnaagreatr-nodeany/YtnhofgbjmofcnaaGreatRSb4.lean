/-
  NodeAny: May of what may not be, the runs (3 of 3).
-/
import Derived.Test.YtnhofgbjmofcnaaGreatRSb1
namespace Go.Sh
open Go
open Go.Proofs

theorem false4_0 : falseAll 4 0 = true := by kernel_rfl
theorem false4_1 : falseAll 4 1 = true := by kernel_rfl
theorem false4_2 : falseAll 4 2 = true := by kernel_rfl
theorem false4_3 : falseAll 4 3 = true := by kernel_rfl
theorem false4_4 : falseAll 4 4 = true := by kernel_rfl
theorem false4_5 : falseAll 4 5 = true := by kernel_rfl
theorem false4_6 : falseAll 4 6 = true := by kernel_rfl
theorem false4_7 : falseAll 4 7 = true := by kernel_rfl
theorem false5_0 : falseAll 5 0 = true := by kernel_rfl
theorem false5_1 : falseAll 5 1 = true := by kernel_rfl
theorem false5_2 : falseAll 5 2 = true := by kernel_rfl
theorem false5_3 : falseAll 5 3 = true := by kernel_rfl
theorem false5_4 : falseAll 5 4 = true := by kernel_rfl
theorem false5_5 : falseAll 5 5 = true := by kernel_rfl
theorem false5_6 : falseAll 5 6 = true := by kernel_rfl
theorem false5_7 : falseAll 5 7 = true := by kernel_rfl
theorem falseL : (List.range 6).all (fun l => falseOk (known5 l)) = true := by kernel_rfl

end Go.Sh
