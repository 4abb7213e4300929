/-
  StoreRigid: what Unify tells of two numbers.
-/
import Derived.Test.YtebfimcapoekjaaGreatWd
namespace Go.Vm
set_option maxRecDepth 100000
theorem pair_0_0 : bothTold 0 0 = true := by kernel_rfl
theorem pair_0_1 : bothTold 0 1 = true := by kernel_rfl
theorem pair_0_2 : bothTold 0 2 = true := by kernel_rfl
theorem pair_0_3 : bothTold 0 3 = true := by kernel_rfl
theorem pair_0_4 : bothTold 0 4 = true := by kernel_rfl
end Go.Vm
