/-
  These functions are the program's (printed by a program).
-/
import Derived.Test.YtebfimcapoekjaaGreatProg
import Derived.Test.YtebfimcapoekjaaGreatVt
import Derived.Test.YtebfimcapoekjaaGreatFe
import Derived.KernelRfl
namespace Go.Vm
set_option maxRecDepth 100000
theorem F_120_ok : trFunc Go.Proofs.Tryz.prog 120 [0, 2, 3, 4, 5, 8, 13, 25, 32, 44] [] [] = some F_120 := by kernel_rfl
theorem F_121_ok : trFunc Go.Proofs.Tryz.prog 121 [0, 2, 4] [] [] = some F_121 := by kernel_rfl
theorem F_122_ok : trFunc Go.Proofs.Tryz.prog 122 [0, 1, 4] [] [] = some F_122 := by kernel_rfl
theorem F_123_ok : trFunc Go.Proofs.Tryz.prog 123 [0, 1, 2] [(0, [1, 0])] [] = some F_123 := by kernel_rfl
theorem F_124_ok : trFunc Go.Proofs.Tryz.prog 124 [0, 2, 3, 4, 5, 6, 7, 8, 43] [(3, [0, 0, 0, 1, 0, 0])] [] = some F_124 := by kernel_rfl
theorem F_125_ok : trFunc Go.Proofs.Tryz.prog 125 [0, 1, 2, 3, 8, 9, 10, 11, 12, 13, 14, 15, 16, 17, 18, 23, 29, 35, 50, 68, 72, 87, 113] [(4, [0, 0, 0, 1]), (6, [0, 0, 0, 1]), (8, [0, 0, 0, 1]), (10, [0, 0, 0, 1, 0, 0, 0, 0, 0]), (12, [0, 0, 0, 1]), (16, [0, 0, 0, 1]), (18, [0, 0, 0, 0, 1, 0]), (20, [0, 0, 0, 0, 1, 0, 0, 0, 0, 0]), (26, [0, 0, 0, 0, 1]), (29, [0, 0, 0, 0, 0, 1])] [] = some F_125 := by kernel_rfl
theorem F_126_ok : trFunc Go.Proofs.Tryz.prog 126 [0, 2] [] [] = some F_126 := by kernel_rfl
theorem F_127_ok : trFunc Go.Proofs.Tryz.prog 127 [0, 1, 2, 3, 4, 5, 12] [(1, [0, 0, 0, 0, 0, 0, 0, 0, 0, 0, 0, 0, 0, 0, 0, 0, 1, 0, 0, 0, 0])] [] = some F_127 := by kernel_rfl
theorem F_128_ok : trFunc Go.Proofs.Tryz.prog 128 [0, 1, 2, 4, 5, 16, 26] [(0, [1, 0])] [] = some F_128 := by kernel_rfl
theorem F_129_ok : trFunc Go.Proofs.Tryz.prog 129 [0, 2, 4] [(0, [1])] [] = some F_129 := by kernel_rfl
theorem F_130_ok : trFunc Go.Proofs.Tryz.prog 130 [0, 1, 2] [(0, [0, 0, 0, 0, 0, 0, 0, 0, 0, 0, 0, 0, 0, 1])] [] = some F_130 := by kernel_rfl
theorem F_131_ok : trFunc Go.Proofs.Tryz.prog 131 [0, 2] [] [] = some F_131 := by kernel_rfl
theorem F_132_ok : trFunc Go.Proofs.Tryz.prog 132 [0, 1, 2, 3, 5, 8, 9, 11, 12, 14, 22, 27, 28, 29, 30, 43, 44, 45, 46] [(0, [1, 0]), (2, [0, 0, 1, 0]), (6, [0, 0, 1, 0]), (7, [0, 0, 0, 0, 0, 1, 0, 0, 0]), (13, [0, 0, 0, 1, 0, 0, 0]), (15, [0, 0, 0, 0, 0, 0, 0, 0, 0, 1, 0])] [] = some F_132 := by kernel_rfl
theorem F_133_ok : trFunc Go.Proofs.Tryz.prog 133 [0, 1, 2, 3] [(0, [1, 0])] [] = some F_133 := by kernel_rfl
theorem F_134_ok : trFunc Go.Proofs.Tryz.prog 134 [0, 1, 2, 3, 5, 6, 13, 29] [(0, [1, 1, 0]), (1, [0, 0, 1, 0]), (5, [0, 0, 0, 0, 0, 0, 0, 0, 0, 1])] [] = some F_134 := by kernel_rfl
theorem F_135_ok : trFunc Go.Proofs.Tryz.prog 135 [0, 1, 4, 5, 7, 8, 9, 16] [(4, [0, 0, 0, 0, 0, 1])] [] = some F_135 := by kernel_rfl
theorem F_136_ok : trFunc Go.Proofs.Tryz.prog 136 [0, 1, 4, 5, 6, 7, 8, 22] [(1, [0, 0, 0, 1, 0]), (2, [0, 0, 1, 0])] [] = some F_136 := by kernel_rfl
end Go.Vm
