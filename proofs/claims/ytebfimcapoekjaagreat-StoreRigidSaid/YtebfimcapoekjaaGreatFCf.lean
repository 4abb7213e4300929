/-
  These functions are the program's (printed by a program).
-/
import Derived.Test.YtebfimcapoekjaaGreatProg
import Derived.Test.YtebfimcapoekjaaGreatVt
import Derived.Test.YtebfimcapoekjaaGreatFf
import Derived.KernelRfl
namespace Go.Vm
set_option maxRecDepth 100000
theorem F_138_ok : trFunc Go.Proofs.Tryz.prog 138 [0, 2, 3, 4, 5, 6, 7, 8, 36] [(3, [0, 0, 0, 1, 0, 0])] [] = some F_138 := by kernel_rfl
theorem F_139_ok : trFunc Go.Proofs.Tryz.prog 139 [0, 1, 4, 5, 7, 8, 9, 10, 11, 12, 13, 14, 33] [(4, [0, 0, 1, 0])] [] = some F_139 := by kernel_rfl
theorem F_145_ok : trFunc Go.Proofs.Tryz.prog 145 [0, 2, 3, 15] [] [] = some F_145 := by kernel_rfl
theorem F_153_ok : trFunc Go.Proofs.Tryz.prog 153 [0, 1, 2, 3, 4] [(0, [1, 1, 0])] [] = some F_153 := by kernel_rfl
theorem F_156_ok : trFunc Go.Proofs.Tryz.prog 156 [0, 1, 4, 5, 6, 22, 36, 45, 81] [(2, [0, 0, 0, 0, 0, 0, 0, 0, 0, 0, 0, 0, 1, 0, 0])] [] = some F_156 := by kernel_rfl
theorem F_157_ok : trFunc Go.Proofs.Tryz.prog 157 [0, 1, 3, 4, 5, 7, 8, 10, 11, 12, 13, 25] [(0, [1, 0]), (4, [0, 0, 1, 0]), (5, [0, 0, 0, 0, 0, 0, 0, 1, 0, 0])] [] = some F_157 := by kernel_rfl
theorem F_159_ok : trFunc Go.Proofs.Tryz.prog 159 [0, 1, 2] [(0, [1, 0])] [] = some F_159 := by kernel_rfl
theorem F_161_ok : trFunc Go.Proofs.Tryz.prog 161 [0, 1, 2, 4] [(0, [1, 0])] [] = some F_161 := by kernel_rfl
theorem F_163_ok : trFunc Go.Proofs.Tryz.prog 163 [0, 1, 3, 4] [(0, [1, 0])] [] = some F_163 := by kernel_rfl
theorem F_164_ok : trFunc Go.Proofs.Tryz.prog 164 [0, 1, 2, 3] [(0, [1, 0]), (1, [0, 0, 0, 0, 0, 1, 0, 0, 0, 0, 1, 0, 0, 0])] [] = some F_164 := by kernel_rfl
theorem F_165_ok : trFunc Go.Proofs.Tryz.prog 165 [0, 1, 2, 3, 4, 12, 13, 32, 51, 69, 87] [(0, [1, 0])] [] = some F_165 := by kernel_rfl
theorem F_166_ok : trFunc Go.Proofs.Tryz.prog 166 [0, 1, 4] [(1, [0, 0, 1, 0, 0])] [] = some F_166 := by kernel_rfl
theorem F_167_ok : trFunc Go.Proofs.Tryz.prog 167 [0, 2] [] [] = some F_167 := by kernel_rfl
theorem F_168_ok : trFunc Go.Proofs.Tryz.prog 168 [0, 2] [] [] = some F_168 := by kernel_rfl
theorem F_169_ok : trFunc Go.Proofs.Tryz.prog 169 [0, 1, 2, 3, 4] [(0, [1, 0]), (1, [0, 0, 1, 0, 0, 0, 0, 1, 0, 0, 0])] [] = some F_169 := by kernel_rfl
theorem F_170_ok : trFunc Go.Proofs.Tryz.prog 170 [0, 1, 4] [(1, [0, 0, 1, 0, 0])] [] = some F_170 := by kernel_rfl
theorem F_171_ok : trFunc Go.Proofs.Tryz.prog 171 [0, 1, 2, 3] [(0, [1, 0]), (1, [0, 0, 1, 0, 0])] [] = some F_171 := by kernel_rfl
theorem F_172_ok : trFunc Go.Proofs.Tryz.prog 172 [0, 1, 4, 5, 7, 8, 9, 16] [(4, [0, 0, 0, 0, 0, 1])] [] = some F_172 := by kernel_rfl
theorem F_173_ok : trFunc Go.Proofs.Tryz.prog 173 [0, 1, 2, 3, 4] [(0, [1, 1, 0])] [] = some F_173 := by kernel_rfl
end Go.Vm
