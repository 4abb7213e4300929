/-
  These functions are the program's (printed by a program).
-/
import Derived.Test.YtebfimcapoekjaaGreatProg
import Derived.Test.YtebfimcapoekjaaGreatVt
import Derived.Test.YtebfimcapoekjaaGreatFg
import Derived.KernelRfl
namespace Go.Vm
set_option maxRecDepth 100000
theorem F_174_ok : trFunc Go.Proofs.Tryz.prog 174 [0, 1, 2, 6, 7, 12, 30] [] [] = some F_174 := by kernel_rfl
theorem F_180_ok : trFunc Go.Proofs.Tryz.prog 180 [0, 1, 4] [] [] = some F_180 := by kernel_rfl
theorem F_184_ok : trFunc Go.Proofs.Tryz.prog 184 [0, 2, 4, 8, 14] [] [] = some F_184 := by kernel_rfl
theorem F_185_ok : trFunc Go.Proofs.Tryz.prog 185 [0, 2] [] [] = some F_185 := by kernel_rfl
theorem F_186_ok : trFunc Go.Proofs.Tryz.prog 186 [0, 2, 3, 20, 22, 23, 24, 30] [] [] = some F_186 := by kernel_rfl
theorem F_187_ok : trFunc Go.Proofs.Tryz.prog 187 [0, 2, 4] [] [] = some F_187 := by kernel_rfl
theorem F_188_ok : trFunc Go.Proofs.Tryz.prog 188 [0, 1] [(0, [0, 0, 1]), (1, [0, 0, 1, 0, 1])] [100, 205] = some F_188 := by kernel_rfl
theorem F_189_ok : trFunc Go.Proofs.Tryz.prog 189 [0, 1, 4] [(1, [0, 0, 1, 0, 0])] [] = some F_189 := by kernel_rfl
theorem F_190_ok : trFunc Go.Proofs.Tryz.prog 190 [0, 1, 2, 4] [(1, [0, 0, 0, 1, 0])] [] = some F_190 := by kernel_rfl
theorem F_191_ok : trFunc Go.Proofs.Tryz.prog 191 [0, 1, 4, 5] [] [] = some F_191 := by kernel_rfl
theorem F_202_ok : trFunc Go.Proofs.Tryz.prog 202 [0, 1, 2, 3, 4] [(0, [1, 1, 0])] [] = some F_202 := by kernel_rfl
theorem F_203_ok : trFunc Go.Proofs.Tryz.prog 203 [0, 1, 2] [(0, [1, 1]), (1, [0, 0, 0, 0, 1, 0, 0])] [] = some F_203 := by kernel_rfl
theorem F_204_ok : trFunc Go.Proofs.Tryz.prog 204 [0, 1, 2, 3, 4, 5] [(0, [1, 1, 1, 0])] [] = some F_204 := by kernel_rfl
theorem F_205_ok : trFunc Go.Proofs.Tryz.prog 205 [0, 1, 2, 3, 4, 5] [(0, [1, 1, 1, 0])] [] = some F_205 := by kernel_rfl
theorem F_207_ok : trFunc Go.Proofs.Tryz.prog 207 [0, 2, 4] [] [] = some F_207 := by kernel_rfl
theorem F_209_ok : trFunc Go.Proofs.Tryz.prog 209 [0, 1, 4] [(0, [1])] [] = some F_209 := by kernel_rfl
theorem F_210_ok : trFunc Go.Proofs.Tryz.prog 210 [0, 1, 2, 3, 4, 5, 7, 13, 31] [(0, [1, 1, 1])] [] = some F_210 := by kernel_rfl
theorem F_213_ok : trFunc Go.Proofs.Tryz.prog 213 [0, 1, 4, 5, 6, 11, 12, 13, 16, 19] [] [] = some F_213 := by kernel_rfl
theorem F_214_ok : trFunc Go.Proofs.Tryz.prog 214 [0, 2] [] [] = some F_214 := by kernel_rfl
theorem F_216_ok : trFunc Go.Proofs.Tryz.prog 216 [0, 1, 4, 5, 7, 8, 9, 16] [(4, [0, 0, 0, 0, 0, 1])] [] = some F_216 := by kernel_rfl
theorem F_217_ok : trFunc Go.Proofs.Tryz.prog 217 [0, 1, 2] [(0, [1, 0])] [] = some F_217 := by kernel_rfl
theorem F_218_ok : trFunc Go.Proofs.Tryz.prog 218 [0, 1, 4, 5, 7, 8, 9, 16] [(4, [0, 0, 0, 0, 0, 1])] [] = some F_218 := by kernel_rfl
theorem F_219_ok : trFunc Go.Proofs.Tryz.prog 219 [0, 2, 3, 5, 6, 7, 8, 9, 14] [] [] = some F_219 := by kernel_rfl
theorem F_220_ok : trFunc Go.Proofs.Tryz.prog 220 [0, 1, 4] [] [] = some F_220 := by kernel_rfl
theorem F_226_ok : trFunc Go.Proofs.Tryz.prog 226 [0, 2] [] [] = some F_226 := by kernel_rfl
theorem F_227_ok : trFunc Go.Proofs.Tryz.prog 227 [0, 2] [] [] = some F_227 := by kernel_rfl
theorem F_228_ok : trFunc Go.Proofs.Tryz.prog 228 [0, 2] [] [] = some F_228 := by kernel_rfl
theorem F_229_ok : trFunc Go.Proofs.Tryz.prog 229 [0, 1, 4, 17] [(1, [0, 0, 0, 0, 0, 0, 0, 1, 0, 0]), (2, [0, 0, 0, 1])] [100, 205] = some F_229 := by kernel_rfl
theorem F_230_ok : trFunc Go.Proofs.Tryz.prog 230 [0, 1, 4, 5, 7, 8, 9, 16] [(4, [0, 0, 0, 0, 0, 1])] [] = some F_230 := by kernel_rfl
theorem F_231_ok : trFunc Go.Proofs.Tryz.prog 231 [0, 1, 2, 6, 7, 8, 9, 10, 11, 17, 31] [(5, [0, 0, 0, 0, 0, 0, 1, 0]), (8, [0, 0, 0, 0, 0, 0, 0, 0, 0, 0, 0, 1, 0, 0, 0, 0])] [] = some F_231 := by kernel_rfl
theorem F_240_ok : trFunc Go.Proofs.Tryz.prog 240 [0, 1, 4, 5, 10, 14, 25] [] [] = some F_240 := by kernel_rfl
end Go.Vm
