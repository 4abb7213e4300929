/-
  These functions are the program's (printed by a program).
-/
import Derived.Test.YtebfimcapoekjaaGreatProg
import Derived.Test.YtebfimcapoekjaaGreatVt
import Derived.Test.YtebfimcapoekjaaGreatFb
import Derived.KernelRfl
namespace Go.Vm
set_option maxRecDepth 100000
theorem F_28_ok : trFunc Go.Proofs.Tryz.prog 28 [0, 1, 2, 3, 6, 7, 9, 10, 11, 13, 15, 16, 17, 18, 19, 38, 49, 50, 51, 52, 64, 66, 67, 68, 69] [(0, [1, 0]), (4, [0, 0, 1, 0]), (5, [0, 0, 0, 0, 0, 0, 1, 0, 0, 0, 1, 1, 0, 0, 0, 0, 0]), (13, [0, 0, 0, 0, 0, 0, 0, 0, 0, 1]), (18, [0, 0, 1, 0]), (19, [0, 0, 0, 0, 1, 0, 0, 0, 1, 0, 0, 0, 0]), (21, [0, 0, 1, 0, 0])] [] = some F_28 := by kernel_rfl
theorem F_29_ok : trFunc Go.Proofs.Tryz.prog 29 [0, 1, 2, 4, 5, 6, 7, 8, 10, 11, 13, 14, 16, 17, 18, 23, 24, 25, 26, 27, 28, 41, 42, 43, 44, 64, 76, 77, 78, 79, 111, 118, 142, 143, 144, 145, 161] [(0, [1, 1, 0]), (1, [0, 0, 1, 1, 0]), (3, [0, 1, 0]), (7, [0, 0, 0, 0, 0, 0, 0, 0, 0, 1, 0]), (16, [0, 0, 0, 0, 0, 0, 0, 0, 0, 1, 0]), (17, [0, 0, 0, 0, 1, 0, 0, 0, 0, 0, 0, 0, 0, 0, 0, 0]), (19, [0, 0, 0, 0, 0, 1, 0]), (21, [0, 0, 0, 0, 0, 0, 1, 1, 0]), (22, [0, 0, 0, 0, 0, 1, 0, 0, 0]), (30, [0, 0, 0, 0, 0, 1, 0, 0, 0])] [] = some F_29 := by kernel_rfl
theorem F_32_ok : trFunc Go.Proofs.Tryz.prog 32 [0, 1, 4, 5, 9, 18] [(0, [1])] [] = some F_32 := by kernel_rfl
theorem F_34_ok : trFunc Go.Proofs.Tryz.prog 34 [0, 2] [(0, [1])] [] = some F_34 := by kernel_rfl
theorem F_35_ok : trFunc Go.Proofs.Tryz.prog 35 [0, 1, 2, 3, 4, 6] [(0, [1, 1, 0])] [] = some F_35 := by kernel_rfl
theorem F_36_ok : trFunc Go.Proofs.Tryz.prog 36 [0, 2] [(0, [1])] [] = some F_36 := by kernel_rfl
theorem F_48_ok : trFunc Go.Proofs.Tryz.prog 48 [0, 1, 4, 5, 10, 14, 26] [] [] = some F_48 := by kernel_rfl
theorem F_49_ok : trFunc Go.Proofs.Tryz.prog 49 [0, 1, 4, 5, 10, 14, 26] [] [] = some F_49 := by kernel_rfl
theorem F_51_ok : trFunc Go.Proofs.Tryz.prog 51 [0, 1, 4, 5] [] [] = some F_51 := by kernel_rfl
theorem F_56_ok : trFunc Go.Proofs.Tryz.prog 56 [0, 2, 3] [(1, [0, 1, 0, 0]), (2, [0, 0, 1]), (3, [0, 0, 1]), (4, [0, 1, 0])] [100, 205] = some F_56 := by kernel_rfl
theorem F_57_ok : trFunc Go.Proofs.Tryz.prog 57 [0, 1, 4, 5, 6, 7, 8, 10, 11, 13, 14, 15, 17, 19, 21, 24, 31, 38, 39, 40, 41, 48, 100, 101] [(2, [0, 0, 0, 0, 0, 1, 0, 0]), (10, [0, 0, 1, 0]), (13, [0, 0, 0, 0, 0, 0, 0, 0, 0, 1, 1, 0, 0, 0]), (27, [0, 0, 0, 0, 0, 1, 0]), (28, [0, 0, 0, 0, 0, 1])] [] = some F_57 := by kernel_rfl
end Go.Vm
