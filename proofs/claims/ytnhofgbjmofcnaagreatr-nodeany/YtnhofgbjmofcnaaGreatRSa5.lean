/-
  NodeAny: the runs with 1 mutators.
-/
import Derived.Test.YtnhofgbjmofcnaaGreatRSa4
namespace Go.Sh
open Go
open Go.Proofs

theorem main1_1 : mainOk 1 1 = true := by kernel_rfl
theorem main1_2 : mainOk 1 2 = true := by kernel_rfl
theorem main1_3 : mainOk 1 3 = true := by kernel_rfl
theorem main1_4 : mainOk 1 4 = true := by kernel_rfl
theorem main1_5 : mainOk 1 5 = true := by kernel_rfl
theorem main1_6 : mainOk 1 6 = true := by kernel_rfl
theorem main1_7 : mainOk 1 7 = true := by kernel_rfl
theorem main1_8 : mainOk 1 8 = true := by kernel_rfl

theorem main1 (s : Nat) (h1 : 1 ≤ s) (h2 : s ≤ 8) : mainOk 1 s = true := by
  by_cases e1 : s = 1
  · subst e1; exact main1_1
  by_cases e2 : s = 2
  · subst e2; exact main1_2
  by_cases e3 : s = 3
  · subst e3; exact main1_3
  by_cases e4 : s = 4
  · subst e4; exact main1_4
  by_cases e5 : s = 5
  · subst e5; exact main1_5
  by_cases e6 : s = 6
  · subst e6; exact main1_6
  by_cases e7 : s = 7
  · subst e7; exact main1_7
  by_cases e8 : s = 8
  · subst e8; exact main1_8
  omega

end Go.Sh
