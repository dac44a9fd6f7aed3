/-
  NodeAny: May of what may not be, the runs (2 of 3).
-/
import Derived.Test.YtnhofgbjmofcnaaGreatRSb1
namespace Go.Sh
open Go
open Go.Proofs

theorem false2_0 : falseAll 2 0 = true := by kernel_rfl
theorem false2_1 : falseAll 2 1 = true := by kernel_rfl
theorem false2_2 : falseAll 2 2 = true := by kernel_rfl
theorem false2_3 : falseAll 2 3 = true := by kernel_rfl
theorem false2_4 : falseAll 2 4 = true := by kernel_rfl
theorem false2_5 : falseAll 2 5 = true := by kernel_rfl
theorem false2_6 : falseAll 2 6 = true := by kernel_rfl
theorem false2_7 : falseAll 2 7 = true := by kernel_rfl
theorem false3_0 : falseAll 3 0 = true := by kernel_rfl
theorem false3_1 : falseAll 3 1 = true := by kernel_rfl
theorem false3_2 : falseAll 3 2 = true := by kernel_rfl
theorem false3_3 : falseAll 3 3 = true := by kernel_rfl
theorem false3_4 : falseAll 3 4 = true := by kernel_rfl
theorem false3_5 : falseAll 3 5 = true := by kernel_rfl
theorem false3_6 : falseAll 3 6 = true := by kernel_rfl
theorem false3_7 : falseAll 3 7 = true := by kernel_rfl

end Go.Sh
