/-
  These functions are the program's (printed by a program).
-/
import Derived.Test.YtebfimcapoekjaaGreatProg
import Derived.Test.YtebfimcapoekjaaGreatVt
import Derived.Test.YtebfimcapoekjaaGreatFa
import Derived.KernelRfl
namespace Go.Vm
set_option maxRecDepth 100000
theorem F_4_ok : trFunc Go.Proofs.Tryz.prog 4 [0, 2, 3, 4, 5, 7, 9, 10, 19, 62, 72] [(6, [0, 0, 0, 0, 0, 0, 0, 0, 0, 0, 0, 0, 0, 0, 0, 1, 0, 0]), (7, [0, 0, 0, 0, 0, 0, 0, 0, 0, 0, 0, 0, 1, 0, 0])] [] = some F_4 := by kernel_rfl
theorem F_7_ok : trFunc Go.Proofs.Tryz.prog 7 [0, 1, 4] [] [] = some F_7 := by kernel_rfl
theorem F_8_ok : trFunc Go.Proofs.Tryz.prog 8 [0, 2] [(0, [1])] [] = some F_8 := by kernel_rfl
theorem F_9_ok : trFunc Go.Proofs.Tryz.prog 9 [0, 1, 2, 6, 7, 8, 9, 10, 50, 58] [(0, [1, 0]), (1, [0, 0, 1, 0, 0, 0, 0, 0]), (4, [0, 1, 0]), (5, [0, 0, 0, 1, 0]), (7, [0, 0, 1, 0, 0, 0, 0])] [] = some F_9 := by kernel_rfl
theorem F_11_ok : trFunc Go.Proofs.Tryz.prog 11 [0, 2] [] [] = some F_11 := by kernel_rfl
theorem F_13_ok : trFunc Go.Proofs.Tryz.prog 13 [0, 1, 2, 3, 4, 5, 6, 7, 10, 27, 46] [(0, [1, 1, 1]), (3, [0, 0, 0, 0, 0, 0, 0, 1, 0])] [] = some F_13 := by kernel_rfl
theorem F_14_ok : trFunc Go.Proofs.Tryz.prog 14 [0, 1, 2, 3, 5] [(1, [0, 0, 0, 0, 1, 0]), (2, [0, 0, 0, 0, 0, 0, 0, 0, 0, 0, 0, 0, 1, 0, 0]), (3, [0, 0, 0, 0, 0, 0, 0, 0, 0, 0, 1, 0, 0])] [] = some F_14 := by kernel_rfl
theorem F_15_ok : trFunc Go.Proofs.Tryz.prog 15 [0, 1, 2, 3, 4] [(0, [1, 1, 1])] [] = some F_15 := by kernel_rfl
theorem F_16_ok : trFunc Go.Proofs.Tryz.prog 16 [0, 2] [(0, [1])] [] = some F_16 := by kernel_rfl
theorem F_17_ok : trFunc Go.Proofs.Tryz.prog 17 [0, 1, 2] [(0, [1, 0])] [] = some F_17 := by kernel_rfl
theorem F_18_ok : trFunc Go.Proofs.Tryz.prog 18 [0, 2] [(0, [1])] [] = some F_18 := by kernel_rfl
theorem F_23_ok : trFunc Go.Proofs.Tryz.prog 23 [0, 1, 2, 3, 4] [(0, [1, 1, 0])] [] = some F_23 := by kernel_rfl
theorem F_26_ok : trFunc Go.Proofs.Tryz.prog 26 [0, 1, 4, 5, 6, 8, 10, 11, 12, 14, 22, 26, 27, 28, 29, 36, 37, 38, 39, 44, 58, 59, 60, 61, 73] [(3, [0, 0, 1, 0]), (6, [0, 0, 1, 0]), (9, [0, 0, 1, 0]), (13, [0, 0, 1]), (14, [0, 0, 1]), (19, [0, 0, 1, 0]), (22, [0, 0, 0, 0, 1]), (23, [0, 0, 0, 0, 1]), (25, [0, 0, 0, 0, 1]), (26, [0, 0, 0, 0, 1])] [] = some F_26 := by kernel_rfl
theorem F_27_ok : trFunc Go.Proofs.Tryz.prog 27 [0, 2, 3, 5, 7, 8, 18, 19, 20, 21, 37, 38, 39, 40] [(1, [0, 0, 1, 0, 1, 0]), (5, [0, 0, 0, 0, 0, 0, 0, 0, 1, 0]), (10, [0, 0, 0, 0, 1, 0, 0, 0, 0, 0, 0, 0])] [] = some F_27 := by kernel_rfl
end Go.Vm
