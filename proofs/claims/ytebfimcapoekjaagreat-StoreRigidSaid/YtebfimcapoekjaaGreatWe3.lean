/-
  StoreRigid: what Unify tells of two numbers.
-/
import Derived.Test.YtebfimcapoekjaaGreatWd
namespace Go.Vm
set_option maxRecDepth 100000
theorem pair_3_0 : bothTold 3 0 = true := by kernel_rfl
theorem pair_3_1 : bothTold 3 1 = true := by kernel_rfl
theorem pair_3_2 : bothTold 3 2 = true := by kernel_rfl
theorem pair_3_3 : bothTold 3 3 = true := by kernel_rfl
theorem pair_3_4 : bothTold 3 4 = true := by kernel_rfl
end Go.Vm
