/-
  NodeAny: the runs with 4 mutators.
-/
import Derived.Test.YtnhofgbjmofcnaaGreatRSa4
namespace Go.Sh
open Go
open Go.Proofs

theorem main4_1 : mainOk 4 1 = true := by kernel_rfl
theorem main4_2 : mainOk 4 2 = true := by kernel_rfl
theorem main4_3 : mainOk 4 3 = true := by kernel_rfl
theorem main4_4 : mainOk 4 4 = true := by kernel_rfl
theorem main4_5 : mainOk 4 5 = true := by kernel_rfl
theorem main4_6 : mainOk 4 6 = true := by kernel_rfl
theorem main4_7 : mainOk 4 7 = true := by kernel_rfl
theorem main4_8 : mainOk 4 8 = true := by kernel_rfl

theorem main4 (s : Nat) (h1 : 1 ≤ s) (h2 : s ≤ 8) : mainOk 4 s = true := by
  by_cases e1 : s = 1
  · subst e1; exact main4_1
  by_cases e2 : s = 2
  · subst e2; exact main4_2
  by_cases e3 : s = 3
  · subst e3; exact main4_3
  by_cases e4 : s = 4
  · subst e4; exact main4_4
  by_cases e5 : s = 5
  · subst e5; exact main4_5
  by_cases e6 : s = 6
  · subst e6; exact main4_6
  by_cases e7 : s = 7
  · subst e7; exact main4_7
  by_cases e8 : s = 8
  · subst e8; exact main4_8
  omega

end Go.Sh
