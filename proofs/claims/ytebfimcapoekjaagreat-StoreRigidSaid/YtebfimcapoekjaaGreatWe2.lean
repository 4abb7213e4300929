/-
  StoreRigid: what Unify tells of two numbers.
-/
import Derived.Test.YtebfimcapoekjaaGreatWd
namespace Go.Vm
set_option maxRecDepth 100000
theorem pair_2_0 : bothTold 2 0 = true := by kernel_rfl
theorem pair_2_1 : bothTold 2 1 = true := by kernel_rfl
theorem pair_2_2 : bothTold 2 2 = true := by kernel_rfl
theorem pair_2_3 : bothTold 2 3 = true := by kernel_rfl
theorem pair_2_4 : bothTold 2 4 = true := by kernel_rfl
end Go.Vm
