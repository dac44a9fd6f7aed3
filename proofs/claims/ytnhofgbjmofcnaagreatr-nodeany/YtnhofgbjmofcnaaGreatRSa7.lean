/-
  NodeAny: the runs with 3 mutators.
-/
import Derived.Test.YtnhofgbjmofcnaaGreatRSa4
namespace Go.Sh
open Go
open Go.Proofs

theorem main3_1 : mainOk 3 1 = true := by kernel_rfl
theorem main3_2 : mainOk 3 2 = true := by kernel_rfl
theorem main3_3 : mainOk 3 3 = true := by kernel_rfl
theorem main3_4 : mainOk 3 4 = true := by kernel_rfl
theorem main3_5 : mainOk 3 5 = true := by kernel_rfl
theorem main3_6 : mainOk 3 6 = true := by kernel_rfl
theorem main3_7 : mainOk 3 7 = true := by kernel_rfl
theorem main3_8 : mainOk 3 8 = true := by kernel_rfl

theorem main3 (s : Nat) (h1 : 1 ≤ s) (h2 : s ≤ 8) : mainOk 3 s = true := by
  by_cases e1 : s = 1
  · subst e1; exact main3_1
  by_cases e2 : s = 2
  · subst e2; exact main3_2
  by_cases e3 : s = 3
  · subst e3; exact main3_3
  by_cases e4 : s = 4
  · subst e4; exact main3_4
  by_cases e5 : s = 5
  · subst e5; exact main3_5
  by_cases e6 : s = 6
  · subst e6; exact main3_6
  by_cases e7 : s = 7
  · subst e7; exact main3_7
  by_cases e8 : s = 8
  · subst e8; exact main3_8
  omega

end Go.Sh
