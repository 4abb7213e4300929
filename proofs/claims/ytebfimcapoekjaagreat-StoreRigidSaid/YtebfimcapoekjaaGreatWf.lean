/-
  StoreRigid: a round.
-/
import Derived.Test.YtebfimcapoekjaaGreatWd
namespace Go.Vm
set_option maxRecDepth 100000

def loopOf : ICode → ICode
  | .seq _ (.seq (.seq _ (.block _ (.loop b))) _) => b
  | _ => .bad

/-- where a round stands -/
def rigS (xs : List (List PV)) (fl : Fl) (i : Int) (c d e f o p q r : PV) : List PV := [.data 1 xs fl, .bool false, .int .i64 i, c, d, e, f, o, p, q, r]

theorem round_stop (k : Nat) (xs : List (List PV)) (fl : Fl) (i : Nat) (hi : ¬ (i + 1 < xs.length ∧ i < 12)) (hs : i < 100) (c d e f o p q r : PV) (H : Heap) (n : Nat) :
    ∃ p', evalC rigidF k (loopOf F_4.body) ⟨rigS xs fl i c d e f o p q r, H, n⟩ = some (.exit 0, ⟨rigS xs fl i c d e f o p' q r, H, n⟩) := by
  have hw : IntKind.i64.wrap ((i : Int) + 1) = (i : Int) + 1 := wrap64_small _ (by omega) (by omega)
  by_cases h1 : i + 1 < xs.length
  · have h2 : ¬ i < 12 := fun h => hi ⟨h1, h⟩
    have e1 : decide ((i : Int) + 1 < (xs.length : Int)) = true := by simp; omega
    have e2 : decide ((i : Int) < 12) = false := by simp; omega
    simp [F_4, loopOf, evalC, evalR, evalOps, evalOp, wants, rigS, Src.ev, setAll, binV, intV, hw, e1, e2]
  · have e1 : decide ((i : Int) + 1 < (xs.length : Int)) = false := by simp; omega
    simp [F_4, loopOf, evalC, evalR, evalOps, evalOp, wants, rigS, Src.ev, setAll, binV, intV, hw, e1]
theorem round_go (k : Nat) (xs : List (List PV)) (fl : Fl) (i : Nat) (h1 : i + 1 < xs.length) (h2 : i < 12) (c d e f o p q r : PV) (H : Heap) (n : Nat) (x y a b : Int) (hx : xs[i]? = some [.int .i64 x]) (hy : xs[i + 1]? = some [.int .i64 y])
    (ha : IntKind.i64.wrap ((IntKind.u64.wrap x).tmod 5) = a) (hb : IntKind.i64.wrap ((IntKind.u64.wrap y).tmod 5) = b)
    (hua : pureV rigidF 17 [.agg [.int .i64 2, .int .i64 a, .str ⟨#[]⟩]] = some (unitR a)) (hub : pureV rigidF 17 [.agg [.int .i64 2, .int .i64 b, .str ⟨#[]⟩]] = some (unitR b)) (hab : bothTold a b = true) :
    ∃ c' d' e' f' o' p' q' r' H' n', evalC rigidF k (loopOf F_4.body) ⟨rigS xs fl i c d e f o p q r, H, n⟩ = some (.normal, ⟨rigS xs fl (i + 1 : Nat) c' d' e' f' o' p' q' r', H', n'⟩) := by
  have hw : IntKind.i64.wrap ((i : Int) + 1) = (i : Int) + 1 := wrap64_small _ (by omega) (by omega)
  have e1 : decide ((i : Int) + 1 < (xs.length : Int)) = true := by simp; omega
  have e2 : decide ((i : Int) < 12) = true := by simp; omega
  have e3 : ((i : Int) + 1).toNat = i + 1 := by omega
  have e4 : (0 : Int) ≤ (i : Int) + 1 := by omega
  simp only [bothTold, Bool.and_eq_true] at hab
  obtain ⟨x1, y1, h9⟩ := toldIs_spec hab.1
  obtain ⟨x2, y2, h9'⟩ := toldIs_spec hab.2
  have c7 : ∀ H n, callV rigidF 0 7 [.int .i64 x, .int .i64 5] H n = some ⟨.int .i64 a, H, n, ⟨[], [], false⟩⟩ := fun H n => callV_flat rfl (by rw [within_run, ha])
  have c7' : ∀ H n, callV rigidF 0 7 [.int .i64 y, .int .i64 5] H n = some ⟨.int .i64 b, H, n, ⟨[], [], false⟩⟩ := fun H n => callV_flat rfl (by rw [within_run, hb])
  have c16 : ∀ z H n, callV rigidF 0 16 [.int .i64 z] H n = some ⟨.agg (tyR z), H, n, ⟨[], [], false⟩⟩ := fun z H n => callV_flat rfl (rigid_run z)
  have c8 : ∀ z H n, callV rigidF 0 8 [.int .i64 z] H n = some ⟨.agg (tyV z), H, n, ⟨[], [], false⟩⟩ := fun z H n => callV_flat rfl (var_run z)
  have c18 : ∀ z H n, callV rigidF 0 18 [.int .i64 z] H n = some ⟨.agg [.int .i64 2, .int .i64 z, .str ⟨#[]⟩], H, n, ⟨[], [], false⟩⟩ := fun z H n => callV_flat rfl (atom_run z)
  have c11 : ∀ z H n, callV rigidF 0 11 [.int .i64 z] H n = some ⟨.int .i64 z, H, n, ⟨[], [], false⟩⟩ := fun z H n => callV_flat rfl (errno_run z)
  have c15 : ∀ H n, callV rigidF 0 15 [.agg (tyR a), .agg (tyV 3)] H n = some ⟨.agg (tyF (tyR a) (tyV 3)), H, n, ⟨[], [], false⟩⟩ := fun H n => callV_pure (is := []) (by rfl) (fun_run a)
  have c15' : ∀ H n, callV rigidF 0 15 [.agg (tyR b), .agg (tyR a)] H n = some ⟨.agg (tyF (tyR b) (tyR a)), H, n, ⟨[], [], false⟩⟩ := fun H n => callV_pure (is := []) (by rfl) (fun_run2 a b)
  have c17 : ∀ H n, callV rigidF 0 17 [.agg [.int .i64 2, .int .i64 a, .str ⟨#[]⟩]] H n = some ⟨unitR a, H, n, ⟨[], [], false⟩⟩ := fun H n => callV_pure (is := []) (by rfl) hua
  have c17' : ∀ H n, callV rigidF 0 17 [.agg [.int .i64 2, .int .i64 b, .str ⟨#[]⟩]] H n = some ⟨unitR b, H, n, ⟨[], [], false⟩⟩ := fun H n => callV_pure (is := []) (by rfl) hub
  have c9 : ∀ H n, callV rigidF 0 9 [.data 10 [tyF (tyR a) (tyV 3) ++ tyF (tyR b) (tyR a)] .full, .nils, .int .i64 0] H n = some ⟨_, H, n, ⟨[], [], false⟩⟩ := fun H n => callV_flat rfl h9
  have c9' : ∀ H n, callV rigidF 0 9 [.nils, .data 2 [[unitR a, unitR b]] .full, .int .i64 0] H n = some ⟨_, H, n, ⟨[], [], false⟩⟩ := fun H n => callV_flat rfl h9'
  simp only [tyF, tyR, tyV, unitR, List.cons_append, List.nil_append] at c15 c15' c17 c17' c9 c9' c16 c8
  have hi0 : i < xs.length := by omega
  have hxd : xs[i] = [.int .i64 x] := by rw [List.getElem?_eq_getElem hi0] at hx; exact Option.some.inj hx
  have hyd : xs[i + 1] = [.int .i64 y] := by rw [List.getElem?_eq_getElem h1] at hy; exact Option.some.inj hy
  by_cases hEq : a = b
  · subst hEq
    simp [F_4, loopOf, evalC, evalR, evalOps, evalOp, wants, rigS, Src.ev, setAll, binV, intV, hw, e1, e2, e3, e4, h1, hi0, hxd, hyd, partAt, c7, c7', c16, c8, c18, c11, c15, c15', c17, c9, c9',
      fillP, fillS, PV.cells?, splice, flat, Fl.isTmp, storeAtV, Heap.get_set_eq]
  · simp [F_4, loopOf, evalC, evalR, evalOps, evalOp, wants, rigS, Src.ev, setAll, binV, intV, hw, e1, e2, e3, e4, h1, hi0, hxd, hyd, partAt, c7, c7', c16, c8, c18, c11, c15, c15', c17, c17', c9, c9',
      fillP, fillS, PV.cells?, splice, flat, Fl.isTmp, storeAtV, Heap.get_set_eq, hEq, show (a == b) = false by simpa using hEq]
end Go.Vm
