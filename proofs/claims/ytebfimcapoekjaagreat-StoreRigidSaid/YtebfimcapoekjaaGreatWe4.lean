/-
  StoreRigid: what Unify tells of two numbers.
-/
import Derived.Test.YtebfimcapoekjaaGreatWd
namespace Go.Vm
set_option maxRecDepth 100000
theorem pair_4_0 : bothTold 4 0 = true := by kernel_rfl
theorem pair_4_1 : bothTold 4 1 = true := by kernel_rfl
theorem pair_4_2 : bothTold 4 2 = true := by kernel_rfl
theorem pair_4_3 : bothTold 4 3 = true := by kernel_rfl
theorem pair_4_4 : bothTold 4 4 = true := by kernel_rfl
end Go.Vm
