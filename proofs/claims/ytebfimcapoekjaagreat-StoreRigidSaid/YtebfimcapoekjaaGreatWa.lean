/-
  FUNCTIONS WITH NO BODY.
-/
import Derived.Test.YtebfimcapoekjaaGreatVu
import Derived.Laws.Externs
import Derived.Lib.Bytealg
namespace Go.Vm

def extCmp (args : List PV) (H : Heap) (n : Nat) : Option (PV × Heap × Nat) :=
  match args with
  | [.str a, .str b] => some (.int .i64 (Lib.compareBytes a.data.toList b.data.toList), H, n)
  | _ => none

def extAdd (args : List PV) (H : Heap) (n : Nat) : Option (PV × Heap × Nat) :=
  match args with
  | [.int .u64 x, .int .u64 y, .int .u64 c] =>
    if 0 ≤ x ∧ 0 ≤ y ∧ 0 ≤ c ∧ c ≤ 1 then some (.tup [.int .u64 ((x + y + c) % 18446744073709551616), .int .u64 ((x + y + c) / 18446744073709551616)], H, n) else none
  | _ => none

section
variable {P : Program} {f : FuncId} {fn : Func}

/-- a function with no body that only tells a value -/
theorem extOk_of {g : List PV → Heap → Nat → Option (PV × Heap × Nat)} {e : Array Value → Sem Value} (hf : P.funcs[f]? = some fn) (hname : (fn.name == "runtime.NumGoroutine") = false)
    (hb : fn.body.isNone = true) (hn : Extern.findNext fn = none) (he : Extern.find fn = some e)
    (h : ∀ args H n r H' n', g args H n = some (r, H', n') → H' = H ∧ n' = n ∧ ∀ (M : Mem) (φ : Places) (w : World) (vs : Array Value), RvL M φ args vs → ∃ v, (e vs).run P w = .ok v w ∧ Rv M φ r v) : ExtOk P f g := by
  refine ⟨fun f' args H n r H' n' hg M φ w vs hw hfr hv => ?_, fun args H n r H' n' hg => ?_⟩
  · simp only at hg
    split at hg
    · rename_i hff
      subst hff
      obtain ⟨rfl, rfl, h3⟩ := h _ _ _ _ _ _ hg
      obtain ⟨v, h4, h5⟩ := h3 M φ w vs hv
      refine OpSem.value (v := v) (w' := w) ?_ ⟨M, φ, h5, hw, .refl _ _ _ _ _, hfr, fun _ _ _ _ => rfl⟩
      rw [run_callFunc_extern hf hname hb hn he, h4]; rfl
    · cases hg
  · obtain ⟨rfl, rfl, _⟩ := h _ _ _ _ _ _ hg
    exact ⟨Nat.le_refl _, fun _ _ h => h⟩

theorem extCmp_ok (hf : P.funcs[f]? = some fn) (hname : (fn.name == "runtime.NumGoroutine") = false)
    (hb : fn.body.isNone = true) (hn : Extern.findNext fn = none) (he : Extern.find fn = some Extern.BytealgCompare.compare) : ExtOk P f extCmp := by
  refine extOk_of hf hname hb hn he (fun args H n r H' n' hg => ?_)
  unfold extCmp at hg
  split at hg
  · rename_i a b
    cases hg
    refine ⟨rfl, rfl, fun M φ w vs hv => ⟨_, ?_, .int _ _⟩⟩
    obtain ⟨h1, h2⟩ := hv
    obtain ⟨x, y, rfl⟩ : ∃ x y, vs = #[x, y] := by
      obtain ⟨l⟩ := vs
      match l, h1 with
      | [x, y], _ => exact ⟨x, y, rfl⟩
    have e1 := h2 0 (by simp)
    have e2 := h2 1 (by simp)
    simp at e1 e2
    cases e1; cases e2
    exact Lib.run_compareString a b w
  · cases hg

theorem extAdd_ok (hf : P.funcs[f]? = some fn) (hname : (fn.name == "runtime.NumGoroutine") = false)
    (hb : fn.body.isNone = true) (hn : Extern.findNext fn = none) (he : Extern.find fn = some add64Entry) : ExtOk P f extAdd := by
  refine extOk_of hf hname hb hn he (fun args H n r H' n' hg => ?_)
  unfold extAdd at hg
  split at hg
  · rename_i a b c
    split at hg
    · rename_i hc
      cases hg
      refine ⟨rfl, rfl, fun M φ w vs hv => ⟨.tuple #[.int .u64 ((a + b + c) % 18446744073709551616), .int .u64 ((a + b + c) / 18446744073709551616)], ?_, .tup _ _ rfl (fun j hj => ?_)⟩⟩
      rotate_left
      · match j, hj with
        | 0, _ => exact .int _ _
        | 1, _ => exact .int _ _
      obtain ⟨h1, h2⟩ := hv
      obtain ⟨x, y, z, rfl⟩ : ∃ x y z, vs = #[x, y, z] := by
        obtain ⟨l⟩ := vs
        match l, h1 with
        | [x, y, z], _ => exact ⟨x, y, z, rfl⟩
      have e1 := h2 0 (by simp)
      have e2 := h2 1 (by simp)
      have e3 := h2 2 (by simp)
      simp at e1 e2 e3
      cases e1; cases e2; cases e3
      exact run_add64 a b c hc.1 hc.2.1 hc.2.2.1 hc.2.2.2 w
    · cases hg
  · cases hg

/-- functions by their numbers -/
def AllOk (P : Program) : List (Option IFunc) → Nat → Prop
  | [], _ => True
  | none :: r, k => AllOk P r (k + 1)
  | some I :: r, k => (∃ live hs ts, trFunc P k live hs ts = some I) ∧ AllOk P r (k + 1)

theorem AllOk.none {r : List (Option IFunc)} {k : Nat} (h : AllOk P r (k + 1)) : AllOk P (Option.none :: r) k := h
theorem AllOk.some {I : IFunc} {r : List (Option IFunc)} {k : Nat} {live : List Nat} {hs : List (Nat × List Nat)} {ts : List TypeId} (h1 : trFunc P k live hs ts = Option.some I) (h : AllOk P r (k + 1)) : AllOk P (Option.some I :: r) k := ⟨⟨_, _, _, h1⟩, h⟩

theorem AllOk.at : ∀ {l : List (Option IFunc)} {k j : Nat} {I : IFunc}, AllOk P l k → l.getD j Option.none = Option.some I → ∃ live hs ts, trFunc P (k + j) live hs ts = Option.some I
  | [], k, j, I, _, h => by simp at h
  | Option.none :: r, k, 0, I, _, h => by simp at h
  | Option.some J :: r, k, 0, I, hk, h => by
    simp at h
    subst h
    exact hk.1
  | x :: r, k, j + 1, I, hk, h => by
    have h2 : AllOk P r (k + 1) := by cases x with | none => exact hk | some J => exact hk.2
    have := AllOk.at h2 (by simpa using h)
    rw [Nat.add_assoc, Nat.add_comm 1 j] at this
    exact this

end
end Go.Vm
