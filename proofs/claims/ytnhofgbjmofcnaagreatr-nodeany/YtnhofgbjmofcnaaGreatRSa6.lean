/-
  NodeAny: the runs with 2 mutators.
-/
import Derived.Test.YtnhofgbjmofcnaaGreatRSa4
namespace Go.Sh
open Go
open Go.Proofs

theorem main2_1 : mainOk 2 1 = true := by kernel_rfl
theorem main2_2 : mainOk 2 2 = true := by kernel_rfl
theorem main2_3 : mainOk 2 3 = true := by kernel_rfl
theorem main2_4 : mainOk 2 4 = true := by kernel_rfl
theorem main2_5 : mainOk 2 5 = true := by kernel_rfl
theorem main2_6 : mainOk 2 6 = true := by kernel_rfl
theorem main2_7 : mainOk 2 7 = true := by kernel_rfl
theorem main2_8 : mainOk 2 8 = true := by kernel_rfl

theorem main2 (s : Nat) (h1 : 1 ≤ s) (h2 : s ≤ 8) : mainOk 2 s = true := by
  by_cases e1 : s = 1
  · subst e1; exact main2_1
  by_cases e2 : s = 2
  · subst e2; exact main2_2
  by_cases e3 : s = 3
  · subst e3; exact main2_3
  by_cases e4 : s = 4
  · subst e4; exact main2_4
  by_cases e5 : s = 5
  · subst e5; exact main2_5
  by_cases e6 : s = 6
  · subst e6; exact main2_6
  by_cases e7 : s = 7
  · subst e7; exact main2_7
  by_cases e8 : s = 8
  · subst e8; exact main2_8
  omega

end Go.Sh
