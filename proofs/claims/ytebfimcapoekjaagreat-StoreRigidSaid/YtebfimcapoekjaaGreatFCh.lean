/-
  These functions are the program's (printed by a program).
-/
import Derived.Test.YtebfimcapoekjaaGreatProg
import Derived.Test.YtebfimcapoekjaaGreatVt
import Derived.Test.YtebfimcapoekjaaGreatFh
import Derived.KernelRfl
namespace Go.Vm
set_option maxRecDepth 100000
theorem F_241_ok : trFunc Go.Proofs.Tryz.prog 241 [0, 2, 4] [] [] = some F_241 := by kernel_rfl
theorem F_242_ok : trFunc Go.Proofs.Tryz.prog 242 [0, 1, 2, 4, 5, 6, 7, 15] [(0, [1, 1, 1, 0]), (3, [0, 0, 0, 0, 0, 0, 1, 0, 0])] [] = some F_242 := by kernel_rfl
theorem F_244_ok : trFunc Go.Proofs.Tryz.prog 244 [0, 2] [] [] = some F_244 := by kernel_rfl
theorem F_247_ok : trFunc Go.Proofs.Tryz.prog 247 [0, 1, 4, 12] [] [] = some F_247 := by kernel_rfl
theorem F_248_ok : trFunc Go.Proofs.Tryz.prog 248 [0, 1, 4, 5, 6, 15] [] [] = some F_248 := by kernel_rfl
theorem F_251_ok : trFunc Go.Proofs.Tryz.prog 251 [0, 1, 4] [] [] = some F_251 := by kernel_rfl
theorem F_254_ok : trFunc Go.Proofs.Tryz.prog 254 [0] [] [] = some F_254 := by kernel_rfl
theorem F_255_ok : trFunc Go.Proofs.Tryz.prog 255 [0, 1, 4, 5, 10, 15, 20, 23, 33] [] [] = some F_255 := by kernel_rfl
theorem F_260_ok : trFunc Go.Proofs.Tryz.prog 260 [0, 2, 3, 15] [] [] = some F_260 := by kernel_rfl
theorem F_263_ok : trFunc Go.Proofs.Tryz.prog 263 [0, 1, 4, 5, 6, 7, 8, 12, 13, 14, 20, 32, 38] [(1, [0, 1, 0]), (17, [0, 1, 0])] [] = some F_263 := by kernel_rfl
theorem F_275_ok : trFunc Go.Proofs.Tryz.prog 275 [0, 1, 2, 3, 4, 5] [(0, [1, 1, 1])] [] = some F_275 := by kernel_rfl
theorem F_277_ok : trFunc Go.Proofs.Tryz.prog 277 [0, 1, 4, 5, 6, 7, 8, 9, 10, 11, 12, 13] [] [] = some F_277 := by kernel_rfl
theorem F_283_ok : trFunc Go.Proofs.Tryz.prog 283 [0, 1, 4, 5, 13] [] [] = some F_283 := by kernel_rfl
theorem F_285_ok : trFunc Go.Proofs.Tryz.prog 285 [0, 1, 4, 5, 6, 7, 8, 9, 10, 11, 12, 13, 14, 21, 22, 23, 24, 41, 42, 43, 44] [(18, [0, 1, 0])] [] = some F_285 := by kernel_rfl
theorem F_305_ok : trFunc Go.Proofs.Tryz.prog 305 [0, 1, 2, 6] [] [] = some F_305 := by kernel_rfl
theorem F_306_ok : trFunc Go.Proofs.Tryz.prog 306 [0, 2, 3] [(1, [0, 0, 0, 0, 0, 0, 0, 0, 0, 0, 0, 0, 1, 0])] [] = some F_306 := by kernel_rfl
theorem F_307_ok : trFunc Go.Proofs.Tryz.prog 307 [0, 1, 4] [(0, [0, 0, 0, 0, 0, 1, 0, 0])] [] = some F_307 := by kernel_rfl
theorem F_308_ok : trFunc Go.Proofs.Tryz.prog 308 [0, 1, 2] [] [] = some F_308 := by kernel_rfl
end Go.Vm
