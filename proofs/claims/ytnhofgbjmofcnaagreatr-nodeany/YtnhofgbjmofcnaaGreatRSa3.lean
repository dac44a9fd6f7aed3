/-
  NodeAny: the runs of caller.New and server.Open, for each number of nodes.
-/
import Derived.Test.YtnhofgbjmofcnaaGreatRSa2
namespace Go.Sh
open Go
open Go.Proofs

noncomputable def callerOk (N : Nat) : Bool := keptOk (alN N) kCaller (calls (envN N) 400 22 [cfgN N, .complex .f64 22 0, .complex .f64 21 0] ⟨.leaf, 0⟩)

noncomputable def openOk (N : Nat) : Bool := keptOk (alN N) kOpen (calls (envN N) 400 23 [cfgN N, .complex .f64 22 0] ⟨.leaf, 0⟩)

theorem caller_run0 : List.all [1, 2, 3, 4] callerOk = true := by kernel_rfl
theorem caller_run1 : List.all [5, 6, 7, 8] callerOk = true := by kernel_rfl
theorem caller_run2 : List.all [9, 10, 11, 12] callerOk = true := by kernel_rfl
theorem caller_run3 : List.all [13, 14, 15, 16] callerOk = true := by kernel_rfl
theorem caller_run4 : List.all [17, 18, 19, 20] callerOk = true := by kernel_rfl
theorem caller_run5 : List.all [21, 22, 23, 24] callerOk = true := by kernel_rfl
theorem caller_run6 : List.all [25, 26, 27, 28] callerOk = true := by kernel_rfl
theorem caller_run7 : List.all [29, 30, 31, 32] callerOk = true := by kernel_rfl
theorem caller_run8 : List.all [33, 34, 35, 36] callerOk = true := by kernel_rfl
theorem caller_run9 : List.all [37, 38, 39, 40] callerOk = true := by kernel_rfl
theorem caller_run10 : List.all [41, 42, 43, 44] callerOk = true := by kernel_rfl
theorem caller_run11 : List.all [45, 46, 47, 48] callerOk = true := by kernel_rfl
theorem caller_run12 : List.all [49, 50, 51, 52] callerOk = true := by kernel_rfl
theorem caller_run13 : List.all [53, 54, 55, 56] callerOk = true := by kernel_rfl
theorem caller_run14 : List.all [57, 58, 59, 60] callerOk = true := by kernel_rfl
theorem caller_run15 : List.all [61, 62, 63, 64] callerOk = true := by kernel_rfl

theorem caller_all (N : Nat) (h1 : 1 ≤ N) (h2 : N ≤ 64) : callerOk N = true := by
  by_cases e0 : N ≤ 4
  · exact List.all_eq_true.1 caller_run0 N (by simp; omega)
  by_cases e1 : N ≤ 8
  · exact List.all_eq_true.1 caller_run1 N (by simp; omega)
  by_cases e2 : N ≤ 12
  · exact List.all_eq_true.1 caller_run2 N (by simp; omega)
  by_cases e3 : N ≤ 16
  · exact List.all_eq_true.1 caller_run3 N (by simp; omega)
  by_cases e4 : N ≤ 20
  · exact List.all_eq_true.1 caller_run4 N (by simp; omega)
  by_cases e5 : N ≤ 24
  · exact List.all_eq_true.1 caller_run5 N (by simp; omega)
  by_cases e6 : N ≤ 28
  · exact List.all_eq_true.1 caller_run6 N (by simp; omega)
  by_cases e7 : N ≤ 32
  · exact List.all_eq_true.1 caller_run7 N (by simp; omega)
  by_cases e8 : N ≤ 36
  · exact List.all_eq_true.1 caller_run8 N (by simp; omega)
  by_cases e9 : N ≤ 40
  · exact List.all_eq_true.1 caller_run9 N (by simp; omega)
  by_cases e10 : N ≤ 44
  · exact List.all_eq_true.1 caller_run10 N (by simp; omega)
  by_cases e11 : N ≤ 48
  · exact List.all_eq_true.1 caller_run11 N (by simp; omega)
  by_cases e12 : N ≤ 52
  · exact List.all_eq_true.1 caller_run12 N (by simp; omega)
  by_cases e13 : N ≤ 56
  · exact List.all_eq_true.1 caller_run13 N (by simp; omega)
  by_cases e14 : N ≤ 60
  · exact List.all_eq_true.1 caller_run14 N (by simp; omega)
  by_cases e15 : N ≤ 64
  · exact List.all_eq_true.1 caller_run15 N (by simp; omega)
  omega

theorem open_run0 : List.all [1, 2, 3, 4] openOk = true := by kernel_rfl
theorem open_run1 : List.all [5, 6, 7, 8] openOk = true := by kernel_rfl
theorem open_run2 : List.all [9, 10, 11, 12] openOk = true := by kernel_rfl
theorem open_run3 : List.all [13, 14, 15, 16] openOk = true := by kernel_rfl
theorem open_run4 : List.all [17, 18, 19, 20] openOk = true := by kernel_rfl
theorem open_run5 : List.all [21, 22, 23, 24] openOk = true := by kernel_rfl
theorem open_run6 : List.all [25, 26, 27, 28] openOk = true := by kernel_rfl
theorem open_run7 : List.all [29, 30, 31, 32] openOk = true := by kernel_rfl
theorem open_run8 : List.all [33, 34, 35, 36] openOk = true := by kernel_rfl
theorem open_run9 : List.all [37, 38, 39, 40] openOk = true := by kernel_rfl
theorem open_run10 : List.all [41, 42, 43, 44] openOk = true := by kernel_rfl
theorem open_run11 : List.all [45, 46, 47, 48] openOk = true := by kernel_rfl
theorem open_run12 : List.all [49, 50, 51, 52] openOk = true := by kernel_rfl
theorem open_run13 : List.all [53, 54, 55, 56] openOk = true := by kernel_rfl
theorem open_run14 : List.all [57, 58, 59, 60] openOk = true := by kernel_rfl
theorem open_run15 : List.all [61, 62, 63, 64] openOk = true := by kernel_rfl

theorem open_all (N : Nat) (h1 : 1 ≤ N) (h2 : N ≤ 64) : openOk N = true := by
  by_cases e0 : N ≤ 4
  · exact List.all_eq_true.1 open_run0 N (by simp; omega)
  by_cases e1 : N ≤ 8
  · exact List.all_eq_true.1 open_run1 N (by simp; omega)
  by_cases e2 : N ≤ 12
  · exact List.all_eq_true.1 open_run2 N (by simp; omega)
  by_cases e3 : N ≤ 16
  · exact List.all_eq_true.1 open_run3 N (by simp; omega)
  by_cases e4 : N ≤ 20
  · exact List.all_eq_true.1 open_run4 N (by simp; omega)
  by_cases e5 : N ≤ 24
  · exact List.all_eq_true.1 open_run5 N (by simp; omega)
  by_cases e6 : N ≤ 28
  · exact List.all_eq_true.1 open_run6 N (by simp; omega)
  by_cases e7 : N ≤ 32
  · exact List.all_eq_true.1 open_run7 N (by simp; omega)
  by_cases e8 : N ≤ 36
  · exact List.all_eq_true.1 open_run8 N (by simp; omega)
  by_cases e9 : N ≤ 40
  · exact List.all_eq_true.1 open_run9 N (by simp; omega)
  by_cases e10 : N ≤ 44
  · exact List.all_eq_true.1 open_run10 N (by simp; omega)
  by_cases e11 : N ≤ 48
  · exact List.all_eq_true.1 open_run11 N (by simp; omega)
  by_cases e12 : N ≤ 52
  · exact List.all_eq_true.1 open_run12 N (by simp; omega)
  by_cases e13 : N ≤ 56
  · exact List.all_eq_true.1 open_run13 N (by simp; omega)
  by_cases e14 : N ≤ 60
  · exact List.all_eq_true.1 open_run14 N (by simp; omega)
  by_cases e15 : N ≤ 64
  · exact List.all_eq_true.1 open_run15 N (by simp; omega)
  omega

end Go.Sh
