/-
  StoreRigid: two pairs of types.
-/
import Derived.Test.YtebfimcapoekjaaGreatWd
namespace Go.Vm
set_option maxRecDepth 100000
theorem wake_run : pureV rigidF 14 [] = some (.bool true) := by kernel_rfl
end Go.Vm
