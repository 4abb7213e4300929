/-
  These functions are the program's (printed by a program).
-/
import Derived.Test.YtebfimcapoekjaaGreatProg
import Derived.Test.YtebfimcapoekjaaGreatVt
import Derived.Test.YtebfimcapoekjaaGreatFd
import Derived.KernelRfl
namespace Go.Vm
set_option maxRecDepth 100000
theorem F_80_ok : trFunc Go.Proofs.Tryz.prog 80 [0, 1, 2, 4, 5] [(1, [0, 0, 0, 0, 0, 1, 0, 0, 0, 0, 0, 0, 0])] [] = some F_80 := by kernel_rfl
theorem F_81_ok : trFunc Go.Proofs.Tryz.prog 81 [0, 1, 4, 5, 6, 10] [] [] = some F_81 := by kernel_rfl
theorem F_82_ok : trFunc Go.Proofs.Tryz.prog 82 [0, 1, 4, 5, 7, 8, 9, 10, 13, 14, 15, 16, 28] [] [] = some F_82 := by kernel_rfl
theorem F_83_ok : trFunc Go.Proofs.Tryz.prog 83 [0, 1, 4, 14] [] [] = some F_83 := by kernel_rfl
theorem F_84_ok : trFunc Go.Proofs.Tryz.prog 84 [0, 1, 4, 5, 6, 7, 8, 9, 10] [(1, [0, 0, 1, 0]), (2, [0, 0, 0, 0, 0, 0, 0, 1, 0])] [] = some F_84 := by kernel_rfl
theorem F_85_ok : trFunc Go.Proofs.Tryz.prog 85 [0, 1, 2, 6, 7, 8, 9, 11, 12, 22, 42, 43, 44, 45] [(0, [1]), (1, [0, 0, 1, 0]), (2, [0, 0, 0, 0, 0, 0, 1, 0, 0]), (5, [0, 0, 0, 0, 0, 0, 0, 0, 0, 0, 0, 1, 0]), (9, [0, 0, 0, 1, 1, 0])] [] = some F_85 := by kernel_rfl
theorem F_86_ok : trFunc Go.Proofs.Tryz.prog 86 [0, 1, 2] [(0, [1, 0])] [] = some F_86 := by kernel_rfl
theorem F_87_ok : trFunc Go.Proofs.Tryz.prog 87 [0, 1, 2, 3, 8, 9, 10, 12, 14, 27, 39, 40, 41, 42, 57, 58, 59, 60] [(0, [1]), (1, [0, 0, 1, 0]), (2, [0, 0, 0, 0, 0, 0, 0, 1, 0]), (4, [0, 0, 1, 0]), (5, [0, 0, 0, 0, 0, 0, 0, 1, 0]), (9, [0, 0, 0, 0, 0, 0, 1, 0, 0, 0, 0]), (14, [0, 0, 0, 0, 1, 0, 0, 0, 0])] [] = some F_87 := by kernel_rfl
theorem F_92_ok : trFunc Go.Proofs.Tryz.prog 92 [0, 1, 2] [(0, [1, 0])] [] = some F_92 := by kernel_rfl
theorem F_93_ok : trFunc Go.Proofs.Tryz.prog 93 [0, 1, 4] [(0, [1])] [] = some F_93 := by kernel_rfl
theorem F_94_ok : trFunc Go.Proofs.Tryz.prog 94 [0, 2] [] [] = some F_94 := by kernel_rfl
theorem F_95_ok : trFunc Go.Proofs.Tryz.prog 95 [0, 2, 4] [] [] = some F_95 := by kernel_rfl
theorem F_104_ok : trFunc Go.Proofs.Tryz.prog 104 [0, 1, 4, 5, 10, 14, 26] [] [] = some F_104 := by kernel_rfl
theorem F_107_ok : trFunc Go.Proofs.Tryz.prog 107 [0, 1, 2, 6, 7, 15] [(3, [0, 0, 0, 1, 0, 0])] [] = some F_107 := by kernel_rfl
theorem F_108_ok : trFunc Go.Proofs.Tryz.prog 108 [0, 1, 4] [] [] = some F_108 := by kernel_rfl
theorem F_109_ok : trFunc Go.Proofs.Tryz.prog 109 [0, 1, 2, 6, 7, 8, 9, 10, 21, 33, 39] [(6, [0, 0, 0, 0, 0, 0, 0, 1, 0]), (8, [0, 0, 0, 1, 0]), (9, [0, 0, 0, 1])] [100, 205] = some F_109 := by kernel_rfl
theorem F_110_ok : trFunc Go.Proofs.Tryz.prog 110 [0, 2, 3, 5, 6, 7, 8, 9, 31] [(0, [1, 0]), (3, [0, 0, 1, 0])] [] = some F_110 := by kernel_rfl
theorem F_112_ok : trFunc Go.Proofs.Tryz.prog 112 [0, 1, 2, 3, 13] [(0, [1, 0])] [] = some F_112 := by kernel_rfl
theorem F_117_ok : trFunc Go.Proofs.Tryz.prog 117 [0, 1, 2, 3, 4] [(0, [1, 0]), (1, [0, 1, 0]), (2, [0, 0, 1, 0]), (3, [0, 0, 1, 0])] [] = some F_117 := by kernel_rfl
theorem F_118_ok : trFunc Go.Proofs.Tryz.prog 118 [0, 1, 2, 3, 4, 5] [(0, [1, 1, 0]), (1, [1]), (3, [0, 0, 1, 0])] [] = some F_118 := by kernel_rfl
theorem F_119_ok : trFunc Go.Proofs.Tryz.prog 119 [0, 1, 3, 4, 6, 9, 22, 23, 24, 25] [(0, [1, 0])] [] = some F_119 := by kernel_rfl
end Go.Vm
