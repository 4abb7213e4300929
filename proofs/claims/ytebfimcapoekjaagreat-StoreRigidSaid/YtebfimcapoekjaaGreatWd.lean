/-
  StoreRigid: its rounds.
-/
import Derived.Test.YtebfimcapoekjaaGreatWc
namespace Go.Vm
set_option maxRecDepth 100000

/-- what Unify comes to: an answer and a number -/
def toldIs (r : Option PV) (e : Int) : Bool :=
  match r with
  | some (.tup [.agg [_, _], .int .i64 e']) => e' == e
  | _ => false

theorem toldIs_spec {r : Option PV} {e : Int} (h : toldIs r e = true) : ∃ x y, r = some (.tup [.agg [x, y], .int .i64 e]) := by
  unfold toldIs at h
  split at h
  · rename_i x y e'
    have := eq_of_beq h
    subst this
    exact ⟨x, y, rfl⟩
  · cases h

/-- the two calls of Unify, for these two -/
def bothTold (a b : Int) : Bool :=
  toldIs (pureV rigidF 9 [.data 10 [tyF (tyR a) (tyV 3) ++ tyF (tyR b) (tyR a)] .full, .nils, .int .i64 0]) (if a = b then 0 else 121) &&
  toldIs (pureV rigidF 9 [.nils, .data 2 [[unitR a, unitR b]] .full, .int .i64 0]) (if a = b then 0 else 121)

end Go.Vm
