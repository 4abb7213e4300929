/-
  StoreRigid: its calls.
-/
import Derived.Test.YtebfimcapoekjaaGreatFU
import Derived.Test.YtebfimcapoekjaaGreatWb
import Derived.KernelRfl
namespace Go.Vm
set_option maxRecDepth 100000

def rigidEnv : Env := ⟨fun f => F_tab.getD f none, fun f => if f = 272 then some extCmp else if f = 278 then some extAdd else none⟩
def rigidF : CallF := evalF rigidEnv 59

def tyR (a : Int) : List PV := [.int .i64 2, .int .i64 a, .str ⟨#[]⟩, .nils, .nils]
def tyV (a : Int) : List PV := [.int .i64 1, .int .i64 a, .str ⟨#[]⟩, .nils, .nils]
def tyF (x y : List PV) : List PV := [.int .i64 5, .int .i64 0, .str ⟨#[]⟩, .data 5 [x, y] .full, .nils]
def unitR (a : Int) : PV := .data 5 [[.int .i64 2, .int .i64 a, .str ⟨#[]⟩, .bool false, .data 1 [[.int .u64 1]] .full]] .full

theorem within_run (x : Int) : pureV rigidF 7 [.int .i64 x, .int .i64 5] = some (.int .i64 (IntKind.i64.wrap ((IntKind.u64.wrap x).tmod 5))) := by rfl
theorem rigid_run (a : Int) : pureV rigidF 16 [.int .i64 a] = some (.agg (tyR a)) := by rfl
theorem var_run (a : Int) : pureV rigidF 8 [.int .i64 a] = some (.agg (tyV a)) := by rfl
theorem fun_run (a : Int) : pureV rigidF 15 [.agg (tyR a), .agg (tyV 3)] = some (.agg (tyF (tyR a) (tyV 3))) := by rfl
theorem fun_run2 (a b : Int) : pureV rigidF 15 [.agg (tyR b), .agg (tyR a)] = some (.agg (tyF (tyR b) (tyR a))) := by rfl
theorem errno_run (a : Int) : pureV rigidF 11 [.int .i64 a] = some (.int .i64 a) := by rfl
theorem atom_run (a : Int) : pureV rigidF 18 [.int .i64 a] = some (.agg [.int .i64 2, .int .i64 a, .str ⟨#[]⟩]) := by rfl
theorem unit_run_0 : pureV rigidF 17 [.agg [.int .i64 2, .int .i64 0, .str ⟨#[]⟩]] = some (unitR 0) := by kernel_rfl
theorem unit_run_1 : pureV rigidF 17 [.agg [.int .i64 2, .int .i64 1, .str ⟨#[]⟩]] = some (unitR 1) := by kernel_rfl
theorem unit_run_2 : pureV rigidF 17 [.agg [.int .i64 2, .int .i64 2, .str ⟨#[]⟩]] = some (unitR 2) := by kernel_rfl
theorem unit_run_3 : pureV rigidF 17 [.agg [.int .i64 2, .int .i64 3, .str ⟨#[]⟩]] = some (unitR 3) := by kernel_rfl
theorem unit_run_4 : pureV rigidF 17 [.agg [.int .i64 2, .int .i64 4, .str ⟨#[]⟩]] = some (unitR 4) := by kernel_rfl
end Go.Vm
