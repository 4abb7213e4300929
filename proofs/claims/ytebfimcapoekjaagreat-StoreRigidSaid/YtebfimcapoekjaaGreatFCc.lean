/-
  These functions are the program's (printed by a program).
-/
import Derived.Test.YtebfimcapoekjaaGreatProg
import Derived.Test.YtebfimcapoekjaaGreatVt
import Derived.Test.YtebfimcapoekjaaGreatFc
import Derived.KernelRfl
namespace Go.Vm
set_option maxRecDepth 100000
theorem F_62_ok : trFunc Go.Proofs.Tryz.prog 62 [0, 1, 2, 4] [(0, [1, 0]), (1, [0, 1])] [] = some F_62 := by kernel_rfl
theorem F_63_ok : trFunc Go.Proofs.Tryz.prog 63 [0, 1, 2, 3, 4, 7] [(0, [1, 0, 0]), (1, [0, 1, 0]), (3, [0, 1, 0]), (4, [0, 0, 0, 1]), (5, [0, 0, 0, 0, 1]), (6, [0, 0, 0, 0, 1]), (7, [0, 0, 0, 0, 1, 0, 0, 0, 0, 1, 0, 0])] [] = some F_63 := by kernel_rfl
theorem F_64_ok : trFunc Go.Proofs.Tryz.prog 64 [0, 1, 2, 7, 8, 9, 10, 11, 33, 35] [] [] = some F_64 := by kernel_rfl
theorem F_65_ok : trFunc Go.Proofs.Tryz.prog 65 [0, 2] [] [] = some F_65 := by kernel_rfl
theorem F_66_ok : trFunc Go.Proofs.Tryz.prog 66 [0, 2, 3, 5, 8, 9, 10, 11, 12, 18] [(6, [0, 0, 1, 0])] [] = some F_66 := by kernel_rfl
theorem F_67_ok : trFunc Go.Proofs.Tryz.prog 67 [0, 2] [(1, [0, 0, 0, 0, 0, 1])] [] = some F_67 := by kernel_rfl
theorem F_68_ok : trFunc Go.Proofs.Tryz.prog 68 [0, 2] [(1, [0, 0, 0, 0, 1, 0])] [] = some F_68 := by kernel_rfl
theorem F_69_ok : trFunc Go.Proofs.Tryz.prog 69 [0, 2] [(1, [0, 1, 0])] [] = some F_69 := by kernel_rfl
theorem F_72_ok : trFunc Go.Proofs.Tryz.prog 72 [0, 1, 2, 6, 7, 8, 10, 11, 12, 13, 14, 15, 24, 44, 59, 71, 83, 135, 136, 137, 154, 155, 156] [(1, [0, 0, 0, 1]), (2, [0, 0, 0, 1, 0]), (3, [0, 0, 0, 0, 1, 0, 0, 0, 0, 1, 0, 0]), (4, [0, 0, 0, 1, 0, 0, 0, 1, 0, 0]), (6, [0, 0, 0, 0, 0, 0, 0, 0, 0, 0, 0, 0, 0, 0, 1, 1, 0, 0]), (18, [0, 0, 0, 0, 0, 0, 0, 0, 0, 0, 0, 1])] [] = some F_72 := by kernel_rfl
theorem F_73_ok : trFunc Go.Proofs.Tryz.prog 73 [0, 1, 2, 3, 4] [(0, [1, 1, 0]), (1, [0, 0, 0, 0, 0, 0, 0, 1, 0])] [] = some F_73 := by kernel_rfl
theorem F_74_ok : trFunc Go.Proofs.Tryz.prog 74 [0, 1, 4] [(1, [0, 0, 0, 1, 0])] [] = some F_74 := by kernel_rfl
theorem F_75_ok : trFunc Go.Proofs.Tryz.prog 75 [0, 1, 4, 5] [] [] = some F_75 := by kernel_rfl
theorem F_76_ok : trFunc Go.Proofs.Tryz.prog 76 [0, 1, 4] [(1, [0, 0, 1, 0, 0])] [] = some F_76 := by kernel_rfl
theorem F_77_ok : trFunc Go.Proofs.Tryz.prog 77 [0, 1, 2, 3] [(0, [1, 0]), (1, [0, 0, 0, 0, 0, 0, 0, 0, 1, 0, 0])] [] = some F_77 := by kernel_rfl
theorem F_78_ok : trFunc Go.Proofs.Tryz.prog 78 [0, 1, 2, 6, 7, 9, 10, 11, 13, 14, 15, 17, 39, 40, 41, 42, 43, 69, 71, 86, 87, 88, 89] [(1, [0, 0, 1, 0, 0, 1, 0, 0, 0, 0, 0, 0]), (8, [0, 0, 0, 0, 0, 0, 0, 0, 0, 0, 1, 0]), (17, [0, 0, 1, 0])] [] = some F_78 := by kernel_rfl
theorem F_79_ok : trFunc Go.Proofs.Tryz.prog 79 [0, 1, 4, 5, 6, 7, 8, 10, 11, 13, 14, 22, 23, 24, 25, 49, 50, 51, 69, 70, 71, 72, 84] [(14, [0, 1]), (15, [0, 1, 0, 0])] [] = some F_79 := by kernel_rfl
end Go.Vm
