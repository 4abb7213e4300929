/-
  NARROWER THAN 'FOR EVERY INPUT', by the rows' own cells (each row's printed sentence says how): StoreSelf: loops · StoreUnits: loops.
  DERIVED. THE GIVEN ROWS OF THIS SEAT. 4 by the template 'for every input the law returns true; each argument reads behind the call as it read before'; 0 by the template 'total and deterministic' (their statements: YtebfimcapoekjaaGreatTotals.lean).
  GIVEN WITH THE SEED: the statements are not yours to turn. If you find one false, say at which input.
  Laid BY PROGRAM, IN A SANDBOX (cutbox-rows.mjs): the forced cells as the released guide's own fill.sh prints them over the translation 0a3b503a5a2c7cc6… (all of the seat's roots in one cut). By AI agents, Wed Nov 11 2026. No macro, syntax, notation, axiom, sorry.
-/
import Derived.Test.YtebfimcapoekjaaGreatChecked
import GoSem.Claim
import GoSem.ClaimJoined
import GoSem.ClaimMapViews
import Derived.JoinedTies
import Derived.KernelRfl
namespace Go.Proofs.YtebfimcapoekjaaGreat
/- THE CELL 'sum', in the pinned program and in every row, IS THE sha256 OF THE DUMP (.gsa) THAT YtebfimcapoekjaaGreatProg.lean LOADS. Nothing in Lean hashes anything: it is a label: what it is worth is what the hold of that sum in a sandbox is worth. -/
noncomputable def Tryz.pinned : Pinned := { name := "ytebfimcapoekjaagreat", sum := "0a3b503a5a2c7cc6fee577311fdcb8d26f793d4de2ce01f958f259e3310be96a", checked := Tryz.checked }
namespace Rows
def none {H : Type} : Left H := { results := [], args := [] }

/-- 'gaugelaw12.StoreDoubles': WHATEVER THE INPUT: true; the input reads as it did. -/
def storeDoublesSpec : ChangeSpec := { name := "storeDoubles", fn := fun _ => fun
  | [d] => { results := [.lit (.bool true)], args := [d] }
  | _ => none }
def storeDoublesRow : OpenClaim := { program := "ytebfimcapoekjaagreat", sum := "0a3b503a5a2c7cc6fee577311fdcb8d26f793d4de2ce01f958f259e3310be96a", func := "gauge/gaugelaw12.StoreDoubles", spec := "storeDoubles", inPlace := ["internal/bytealg.abigen_runtime_cmpstring", "math/bits.Add64", "math/bits.Sub64"], unfollowed := true, recurses := true, named := ["math/bits.divideError", "math/bits.overflowError"], plainKeys := false, apart := false }
def StoreDoublesSaid : Prop := storeDoublesRow.holds Tryz.pinned (OpenSpec.ofChange storeDoublesSpec)

/-- ITS FALSE NEIGHBOUR: 'it returns false'. Refute it at one input. -/
def storeDoublesWrong : ChangeSpec := { name := "storeDoubles", fn := fun _ => fun
  | [d] => { results := [.lit (.bool false)], args := [d] }
  | _ => none }
def StoreDoublesWrongFalsely : Prop := storeDoublesRow.holds Tryz.pinned (OpenSpec.ofChange storeDoublesWrong)

/-- 'gaugelaw12.StoreRigid': WHATEVER THE INPUT: true; the input reads as it did. -/
def storeRigidSpec : ChangeSpec := { name := "storeRigid", fn := fun _ => fun
  | [d] => { results := [.lit (.bool true)], args := [d] }
  | _ => none }
def storeRigidRow : OpenClaim := { program := "ytebfimcapoekjaagreat", sum := "0a3b503a5a2c7cc6fee577311fdcb8d26f793d4de2ce01f958f259e3310be96a", func := "gauge/gaugelaw12.StoreRigid", spec := "storeRigid", inPlace := ["internal/bytealg.abigen_runtime_cmpstring", "math/bits.Add64", "math/bits.Sub64"], unfollowed := true, recurses := true, named := ["math/bits.divideError", "math/bits.overflowError"], plainKeys := false, apart := false }
def StoreRigidSaid : Prop := storeRigidRow.holds Tryz.pinned (OpenSpec.ofChange storeRigidSpec)

/-- ITS FALSE NEIGHBOUR: 'it returns false'. Refute it at one input. -/
def storeRigidWrong : ChangeSpec := { name := "storeRigid", fn := fun _ => fun
  | [d] => { results := [.lit (.bool false)], args := [d] }
  | _ => none }
def StoreRigidWrongFalsely : Prop := storeRigidRow.holds Tryz.pinned (OpenSpec.ofChange storeRigidWrong)

/-- 'gaugelaw12.StoreSelf': WHATEVER THE INPUT: true; the input reads as it did. -/
def storeSelfSpec : ChangeSpec := { name := "storeSelf", fn := fun _ => fun
  | [d] => { results := [.lit (.bool true)], args := [d] }
  | _ => none }
def storeSelfRow : OpenClaim := { program := "ytebfimcapoekjaagreat", sum := "0a3b503a5a2c7cc6fee577311fdcb8d26f793d4de2ce01f958f259e3310be96a", func := "gauge/gaugelaw12.StoreSelf", spec := "storeSelf", inPlace := ["internal/bytealg.abigen_runtime_cmpstring", "math/bits.Add64", "math/bits.Sub64"], unfollowed := true, recurses := true, named := ["math/bits.divideError", "math/bits.overflowError"], loops := true, plainKeys := false, apart := false }
def StoreSelfSaid : Prop := storeSelfRow.holds Tryz.pinned (OpenSpec.ofChange storeSelfSpec)

/-- ITS FALSE NEIGHBOUR: 'it returns false'. Refute it at one input. -/
def storeSelfWrong : ChangeSpec := { name := "storeSelf", fn := fun _ => fun
  | [d] => { results := [.lit (.bool false)], args := [d] }
  | _ => none }
def StoreSelfWrongFalsely : Prop := storeSelfRow.holds Tryz.pinned (OpenSpec.ofChange storeSelfWrong)

/-- 'gaugelaw12.StoreUnits': WHATEVER THE INPUT: true; the input reads as it did. -/
def storeUnitsSpec : ChangeSpec := { name := "storeUnits", fn := fun _ => fun
  | [d] => { results := [.lit (.bool true)], args := [d] }
  | _ => none }
def storeUnitsRow : OpenClaim := { program := "ytebfimcapoekjaagreat", sum := "0a3b503a5a2c7cc6fee577311fdcb8d26f793d4de2ce01f958f259e3310be96a", func := "gauge/gaugelaw12.StoreUnits", spec := "storeUnits", inPlace := ["internal/bytealg.abigen_runtime_cmpstring", "math/bits.Add64", "math/bits.Sub64"], unfollowed := true, recurses := true, named := ["math/bits.divideError", "math/bits.overflowError"], loops := true, plainKeys := false, apart := false }
def StoreUnitsSaid : Prop := storeUnitsRow.holds Tryz.pinned (OpenSpec.ofChange storeUnitsSpec)

/-- ITS FALSE NEIGHBOUR: 'it returns false'. Refute it at one input. -/
def storeUnitsWrong : ChangeSpec := { name := "storeUnits", fn := fun _ => fun
  | [d] => { results := [.lit (.bool false)], args := [d] }
  | _ => none }
def StoreUnitsWrongFalsely : Prop := storeUnitsRow.holds Tryz.pinned (OpenSpec.ofChange storeUnitsWrong)

/- THE SECOND FORM. 'bulk': how many values and letters a reading holds, each counted each time it is reached (what is shared counts as often as it is met; a slice's spare places count too). A statement '..UptoSaid' is the law's where the arguments, and the package variables that the reading takes, are together of bulk at most 1048576: NARROWER than '..Said'. Prove '..Said' where nothing that the law and all that it calls make is longer than what came in: it says more and counts as full. Else prove '..UptoSaid'. A law counts once. -/
mutual
def uptoBulk {H : Type} : DataW H → Nat
  | .lit (.string bytes) => bytes.length + 1
  | .lit _ => 1
  | .nil => 1
  | .ptr d => uptoBulk d + 1
  | .slice elems spare => uptoBulkAll elems + uptoBulkAll spare + 1
  | .agg parts => uptoBulkAll parts + 1
  | .iface _ d => uptoBulk d + 1
  | .map entries => uptoBulkEntries entries + 1
  | .held _ => 1
def uptoBulkAll {H : Type} : List (DataW H) → Nat
  | [] => 0
  | d :: r => uptoBulk d + uptoBulkAll r
def uptoBulkEntries {H : Type} : List (Lit × DataW H) → Nat
  | [] => 0
  | x :: r => uptoBulkEntry x + uptoBulkEntries r
def uptoBulkEntry {H : Type} : Lit × DataW H → Nat
  | (.string bytes, d) => bytes.length + uptoBulk d + 1
  | (_, d) => uptoBulk d + 1
 end
def uptoSmall : (H : Type) → List (DataW H) → Bool := fun _ ds => decide (uptoBulkAll ds ≤ 1048576)
def OpenSpec.upto (s : _root_.Go.ChangeSpec) : _root_.Go.OpenSpec := { _root_.Go.OpenSpec.ofChange s with cond := some uptoSmall }

/-- 'gaugelaw12.StoreDoubles', WHERE WHAT IT READS IS OF BULK AT MOST 1048576: true; the input reads as it did. -/
def storeDoublesUptoRow : OpenClaim := { program := "ytebfimcapoekjaagreat", sum := "0a3b503a5a2c7cc6fee577311fdcb8d26f793d4de2ce01f958f259e3310be96a", func := "gauge/gaugelaw12.StoreDoubles", spec := "storeDoubles", inPlace := ["internal/bytealg.abigen_runtime_cmpstring", "math/bits.Add64", "math/bits.Sub64"], unfollowed := true, recurses := true, named := ["math/bits.divideError", "math/bits.overflowError"], plainKeys := false, apart := false, narrowed := true }
def StoreDoublesUptoSaid : Prop := storeDoublesUptoRow.holds Tryz.pinned (OpenSpec.upto storeDoublesSpec)

/-- 'gaugelaw12.StoreRigid', WHERE WHAT IT READS IS OF BULK AT MOST 1048576: true; the input reads as it did. -/
def storeRigidUptoRow : OpenClaim := { program := "ytebfimcapoekjaagreat", sum := "0a3b503a5a2c7cc6fee577311fdcb8d26f793d4de2ce01f958f259e3310be96a", func := "gauge/gaugelaw12.StoreRigid", spec := "storeRigid", inPlace := ["internal/bytealg.abigen_runtime_cmpstring", "math/bits.Add64", "math/bits.Sub64"], unfollowed := true, recurses := true, named := ["math/bits.divideError", "math/bits.overflowError"], plainKeys := false, apart := false, narrowed := true }
def StoreRigidUptoSaid : Prop := storeRigidUptoRow.holds Tryz.pinned (OpenSpec.upto storeRigidSpec)

/-- 'gaugelaw12.StoreSelf', WHERE WHAT IT READS IS OF BULK AT MOST 1048576: true; the input reads as it did. -/
def storeSelfUptoRow : OpenClaim := { program := "ytebfimcapoekjaagreat", sum := "0a3b503a5a2c7cc6fee577311fdcb8d26f793d4de2ce01f958f259e3310be96a", func := "gauge/gaugelaw12.StoreSelf", spec := "storeSelf", inPlace := ["internal/bytealg.abigen_runtime_cmpstring", "math/bits.Add64", "math/bits.Sub64"], unfollowed := true, recurses := true, named := ["math/bits.divideError", "math/bits.overflowError"], loops := true, plainKeys := false, apart := false, narrowed := true }
def StoreSelfUptoSaid : Prop := storeSelfUptoRow.holds Tryz.pinned (OpenSpec.upto storeSelfSpec)

/-- 'gaugelaw12.StoreUnits', WHERE WHAT IT READS IS OF BULK AT MOST 1048576: true; the input reads as it did. -/
def storeUnitsUptoRow : OpenClaim := { program := "ytebfimcapoekjaagreat", sum := "0a3b503a5a2c7cc6fee577311fdcb8d26f793d4de2ce01f958f259e3310be96a", func := "gauge/gaugelaw12.StoreUnits", spec := "storeUnits", inPlace := ["internal/bytealg.abigen_runtime_cmpstring", "math/bits.Add64", "math/bits.Sub64"], unfollowed := true, recurses := true, named := ["math/bits.divideError", "math/bits.overflowError"], loops := true, plainKeys := false, apart := false, narrowed := true }
def StoreUnitsUptoSaid : Prop := storeUnitsUptoRow.holds Tryz.pinned (OpenSpec.upto storeUnitsSpec)

end Rows
end Go.Proofs.YtebfimcapoekjaaGreat
