/-
  CALLS OF MEMORY ALONE: what they come to.
-/
import Derived.Test.YtebfimcapoekjaaGreatWa
namespace Go.Vm

/-- what a call of memory alone comes to -/
def pureV (cf : CallF) (f : FuncId) (as : List PV) : Option PV :=
  match cf f as [] 0 with
  | some (r, H, _) =>
    match thaw false H deep r with
    | some (r', _) => some r'
    | none => none
  | none => none

theorem callV_pure {cf : CallF} {f : FuncId} {args as : List PV} {is : List Nat} {H : Heap} {n : Nat} {r : PV} (h1 : thawL true H deep args = some (as, is)) (h2 : pureV cf f as = some r) :
    callV cf 0 f args H n = some ⟨r, H, n, ⟨is, [], false⟩⟩ := by
  unfold pureV at h2
  unfold callV
  simp only [h1]
  split at h2
  · rename_i r0 H' n' h3
    simp only [h3]
    split at h2
    · rename_i r' js h4
      simp only [h4]
      cases h2; rfl
    · cases h2
  · cases h2

theorem thawL_flat {t : Bool} {H : Heap} {l : List PV} (h : l.all flat = true) : thawL t H deep l = some (l, []) := by
  unfold deep thawL
  simp [h]

theorem callV_flat {cf : CallF} {f : FuncId} {args : List PV} {H : Heap} {n : Nat} {r : PV} (h1 : args.all flat = true) (h2 : pureV cf f args = some r) :
    callV cf 0 f args H n = some ⟨r, H, n, ⟨[], [], false⟩⟩ := callV_pure (thawL_flat h1) h2

end Go.Vm
