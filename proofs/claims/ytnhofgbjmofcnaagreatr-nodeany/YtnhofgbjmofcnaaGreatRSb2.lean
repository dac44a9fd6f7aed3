/-
  NodeAny: May of what may not be, the runs (1 of 3).
-/
import Derived.Test.YtnhofgbjmofcnaaGreatRSb1
namespace Go.Sh
open Go
open Go.Proofs

theorem false0_0 : falseAll 0 0 = true := by kernel_rfl
theorem false0_1 : falseAll 0 1 = true := by kernel_rfl
theorem false0_2 : falseAll 0 2 = true := by kernel_rfl
theorem false0_3 : falseAll 0 3 = true := by kernel_rfl
theorem false0_4 : falseAll 0 4 = true := by kernel_rfl
theorem false0_5 : falseAll 0 5 = true := by kernel_rfl
theorem false0_6 : falseAll 0 6 = true := by kernel_rfl
theorem false0_7 : falseAll 0 7 = true := by kernel_rfl
theorem false1_0 : falseAll 1 0 = true := by kernel_rfl
theorem false1_1 : falseAll 1 1 = true := by kernel_rfl
theorem false1_2 : falseAll 1 2 = true := by kernel_rfl
theorem false1_3 : falseAll 1 3 = true := by kernel_rfl
theorem false1_4 : falseAll 1 4 = true := by kernel_rfl
theorem false1_5 : falseAll 1 5 = true := by kernel_rfl
theorem false1_6 : falseAll 1 6 = true := by kernel_rfl
theorem false1_7 : falseAll 1 7 = true := by kernel_rfl

end Go.Sh
