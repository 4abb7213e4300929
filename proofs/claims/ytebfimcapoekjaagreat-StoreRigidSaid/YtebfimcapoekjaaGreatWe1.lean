/-
  StoreRigid: what Unify tells of two numbers.
-/
import Derived.Test.YtebfimcapoekjaaGreatWd
namespace Go.Vm
set_option maxRecDepth 100000
theorem pair_1_0 : bothTold 1 0 = true := by kernel_rfl
theorem pair_1_1 : bothTold 1 1 = true := by kernel_rfl
theorem pair_1_2 : bothTold 1 2 = true := by kernel_rfl
theorem pair_1_3 : bothTold 1 3 = true := by kernel_rfl
theorem pair_1_4 : bothTold 1 4 = true := by kernel_rfl
end Go.Vm
