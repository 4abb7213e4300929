/-
  EACH OPERATION IS SOUND: all of them together.
-/
import Derived.Test.YtebfimcapoekjaaGreatVn
namespace Go.Vm

section
variable {P : Program} {M : Mem} {φ : Places} {G : Objs} {w : World} {H : Heap} {n : Nat} {tr : Operand → Option Src} {ρ : Src → PV} {σ : Operand → Value}

theorem map1 {xs : Array Operand} {x : Operand} (h : xs.toList = [x]) : xs = #[x] := by rw [← Array.toArray_toList (xs := xs), h]
theorem map2 {xs : Array Operand} {x y : Operand} (h : xs.toList = [x, y]) : xs = #[x, y] := by rw [← Array.toArray_toList (xs := xs), h]
theorem tmap1 {xs : Array TypeId} {x : TypeId} (h : xs.toList = [x]) : xs = #[x] := by rw [← Array.toArray_toList (xs := xs), h]
theorem tmap2 {xs : Array TypeId} {x y : TypeId} (h : xs.toList = [x, y]) : xs = #[x, y] := by rw [← Array.toArray_toList (xs := xs), h]

theorem OpSem.ofB {s : Sem Value} {K : Value → World → Prop} (h : ∃ v w', s.run P w = .ok v w' ∧ K v w') : OpSem P (do let x ← s; pure (.value x)) w K := OpSem.ofV h

theorem minmax_op {cf : CallF} (htr : ∀ x io, tr x = some io → Rv M φ (ρ io) (σ x)) {mx : Bool} {xs : Array Operand} {as : List Src} {r : Res} (has : trOs tr xs.toList = some as) (h : evalOp cf (.minmax mx as) ρ H n = some r) (hr : Ready M φ G w H n r) :
    ∃ v w', (match (xs.map σ).toList with | [] => stuck "" | x :: rest => rest.foldlM (if mx then Builtin.max2 else Builtin.min2) x : Sem Value).run P w = .ok v w' ∧ Post M φ G n w r v w' := by
  have hrv := trOs_rvl htr has
  simp only [evalOp] at h
  split at h
  · rename_i k a ps heq
    split at h
    · rename_i b hb
      cases h
      rw [heq] at hrv
      cases hl : (xs.map σ).toList with
      | nil => have := hrv.1; rw [← Array.length_toList, hl] at this; simp at this
      | cons v vs =>
        have hget : ∀ j, j < ps.length + 1 → Rv M φ ((PV.int k a :: ps).getD j .any) ((v :: vs).getD j undef) := by
          intro j hj
          have := hrv.2 j (by simpa using hj)
          rw [← getD_toList, hl] at this
          exact this
        have h0 := hget 0 (by omega)
        simp only [List.getD_cons_zero] at h0
        cases h0
        have hlen : vs.length = ps.length := by have := hrv.1; rw [← Array.length_toList, hl] at this; simpa using this
        refine ⟨_, w, minmax_run ps vs k a b hb (fun j hj => by simpa using hget (j + 1) (by omega)) hlen, Post.pure (rd := []) hr.wr (.int _ _)⟩
    · cases h
  · cases h

theorem builtin_op {cf : CallF} (htr : ∀ x io, tr x = some io → Rv M φ (ρ io) (σ x)) {b : Builtin} {c : Call} {ty : TypeId} {consts : Array Bool} {r : Res} (h : evalOp cf (trBuiltin P tr b c) ρ H n = some r) (hr : Ready M φ G w H n r) :
    OpSem P (builtin b c.argTypes ty consts (c.args.map σ)) w (Post M φ G n w r) := by
  unfold trBuiltin at h
  split at h
  · -- len
    rename_i x t hargs htys
    rw [map1 hargs, tmap1 htys, show (#[x] : Array Operand).map σ = #[σ x] by simp]
    split at h <;> first | (simp [evalOp] at h; done) | skip
    · rename_i a e ha hu
      exact OpSem.ofB (len_op (htr _ _ ha) hu rfl h hr)
    · rename_i a ha hu
      exact OpSem.ofB (len_op (htr _ _ ha) hu rfl h hr)
    · rename_i a k e ha hu
      exact OpSem.ofB (len_op (htr _ _ ha) hu rfl h hr)
  · -- cap
    rename_i x t hargs htys
    rw [map1 hargs, tmap1 htys, show (#[x] : Array Operand).map σ = #[σ x] by simp]
    split at h <;> first | (simp [evalOp] at h; done) | skip
    rename_i a e ha hu
    exact OpSem.ofB (cap_op (htr _ _ ha) hu h hr)
  · -- append
    rename_i s x t u hargs htys
    rw [map2 hargs, tmap2 htys, show (#[s, x] : Array Operand).map σ = #[σ s, σ x] by simp]
    split at h <;> first | (simp [evalOp] at h; done) | skip
    rename_i a b' e e' ha hb hu hu'
    split at h <;> first | (simp [evalOp] at h; done) | skip
    rename_i k bytes zero hk hbytes hz
    split at h <;> first | (simp [evalOp] at h; done) | skip
    rename_i hzl
    obtain ⟨i, z, e1, e2, e3⟩ := zeroCells_sound (M := M) (φ := φ) hz
    exact OpSem.ofB (append_op (htr _ _ ha) (htr _ _ hb) hu hu' e1 (tySize_sound hk e1) (tyBytes_sound hbytes e1) e2 (by rw [e3.1, hzl]) h hr)
  · -- clear
    rename_i x t hargs htys
    rw [map1 hargs, tmap1 htys, show (#[x] : Array Operand).map σ = #[σ x] by simp]
    split at h <;> first | (simp [evalOp] at h; done) | skip
    rename_i a e ha hu
    split at h <;> first | (simp [evalOp] at h; done) | skip
    rename_i k zero hk hz
    obtain ⟨i, z, e1, e2, e3⟩ := zeroCells_sound (M := M) (φ := φ) hz
    exact OpSem.ofB (clear_sound h hr hu e1 e2 e3 (htr _ _ ha))
  · -- max
    rename_i xs hxs
    split at h <;> first | (simp [evalOp] at h; done) | skip
    rename_i as has
    obtain ⟨v, w', e1, e2⟩ := minmax_op htr has h hr
    refine OpSem.ofB ⟨v, w', ?_, e2⟩
    simp only [Builtin.max_]
    cases hl : (c.args.map σ).toList with
    | nil => rw [hl] at e1; simp at e1
    | cons v vs => rw [hl] at e1; simpa using e1
  · -- min
    rename_i xs hxs
    split at h <;> first | (simp [evalOp] at h; done) | skip
    rename_i as has
    obtain ⟨v, w', e1, e2⟩ := minmax_op htr has h hr
    refine OpSem.ofB ⟨v, w', ?_, e2⟩
    simp only [Builtin.min_]
    cases hl : (c.args.map σ).toList with
    | nil => rw [hl] at e1; simp at e1
    | cons v vs => rw [hl] at e1; simpa using e1
  · simp [evalOp] at h

theorem methodsOf_sound {name : String} : ∀ {ts : List TypeId} {t : TypeId} {f : FuncId}, (methodsOf P name ts).find? (fun e => e.1 == t) = some (t, f) →
    ∃ i m e, P.info? t = some i ∧ P.underlying t = some (.pointer e) ∧ i.methods.find? (·.name == name) = some m ∧ m.path.isEmpty = true ∧ m.func = some (f, true)
  | [], t, f, h => by simp [methodsOf] at h
  | u :: ts, t, f, h => by
    simp only [methodsOf] at h
    split at h
    · rename_i i e hi hu
      split at h
      · rename_i m hm
        split at h
        · rename_i g hp hf
          simp only [List.find?_cons] at h
          split at h
          · rename_i hut
            cases h
            exact ⟨i, m, e, hi, hu, hm, hp, hf⟩
          · exact methodsOf_sound h
        · exact methodsOf_sound h
      · exact methodsOf_sound h
    · exact methodsOf_sound h

theorem find_fst {l : List (TypeId × FuncId)} {t : TypeId} {x : TypeId × FuncId} (h : l.find? (fun e => e.1 == t) = some x) : x.1 = t := by
  have := List.find?_some h
  simpa using this

theorem method_run {t : TypeId} {v : Value} {name : String} {i : TypeInfo} {m : Method} {e : TypeId} {f : FuncId} (hi : P.info? t = some i) (hu : P.underlying t = some (.pointer e)) (hm : i.methods.find? (·.name == name) = some m)
    (hp : m.path.isEmpty = true) (hf : m.func = some (f, true)) (fuel : Nat) : (method (fuel + 1) t v name).run P w = .ok (f, v) w := by
  have hpl : m.path.toList = [] := by
    have : m.path = #[] := by simpa using hp
    rw [this]
  simp only [method, Sem.run_bind, run_typeInfo' hi, Result.andThen_ok, hm, hpl, follow, Sem.run_pure, hf]
  simp [receiverAt, run_underlying' hu, Place.get]

theorem call_op {cf : CallF} (hcf : FSound P cf) (htr : ∀ x io, tr x = some io → Rv M φ (ρ io) (σ x)) {m : Nat} {ts : List TypeId} {c : Call} {ty : TypeId} {r : Res} (h : evalOp cf (trCall P tr m ts c) ρ H n = some r) (hr : Ready M φ G w H n r) :
    OpSem P (do let d ← resolve σ c ty; invoke d.target d.args) w (Post M φ G n w r) := by
  unfold trCall at h
  split at h
  · rename_i b hc
    have := builtin_op htr (ty := ty) (consts := c.args.map fun | .const _ => true | _ => false) h hr
    simp only [resolve, hc, pure_bind, invoke]
    exact this
  · rename_i f hc
    split at h <;> first | (simp [evalOp] at h; done) | skip
    rename_i g as hg has
    have hgv := htr f g hg
    have hav := trOs_rvl htr has
    simp only [evalOp] at h
    split at h
    · rename_i fid first caps hρ
      rw [hρ] at hgv
      simp only [resolve, hc]
      generalize σ f = vf at hgv ⊢
      cases hgv with
      | func _ _ _ fs cs h1 h2 h3 h4 =>
        simp only [Deferred.ofValue, pure_bind, invoke]
        refine call_sound hcf h hr ?_
        have hfirst : RvL M φ first fs := ⟨h1, h3⟩
        have hcaps : RvL M φ caps cs := ⟨h2, h4⟩
        exact (hfirst.append hav).append hcaps
    · cases h
  · rename_i recv name hc
    split at h <;> first | (simp [evalOp] at h; done) | skip
    rename_i a as ha has
    have hrv := htr recv a ha
    have hav := trOs_rvl htr has
    simp only [evalOp] at h
    split at h
    · rename_i t v hρ
      rw [hρ] at hrv
      split at h
      · rename_i u g hfind
        have hut : u = t := find_fst hfind
        subst hut
        obtain ⟨i, mm, e, g1, g2, g3, g4, g5⟩ := methodsOf_sound hfind
        simp only [resolve, hc, pure_bind, invoke]
        generalize σ recv = vr at hrv ⊢
        cases hrv with
        | iface _ _ vv hvv =>
          have e1 : (#[Value.iface u vv] ++ c.args.map σ)[0]? = some (.iface u vv) := by rw [Array.getElem?_append_left (by simp)]; rfl
          have e2 : (#[Value.iface u vv] ++ c.args.map σ).extract 1 (#[Value.iface u vv] ++ c.args.map σ).size = c.args.map σ := by
            apply Array.ext'
            simp
            exact List.take_of_length_le (by simp)
          have hcs := call_sound (args := v :: as.map ρ) (vs := #[vv] ++ c.args.map σ) hcf h hr (by
            have h0 : RvL M φ [v] #[vv] := ⟨rfl, fun j hj => by
              obtain rfl : j = 0 := by simpa using hj
              simpa using hvv⟩
            exact h0.append hav)
          simp only [e1, e2]
          unfold OpSem at hcs ⊢
          have hrun : (callMethod (.iface u vv) name (c.args.map σ)).run P w = (callFunc g (#[vv] ++ c.args.map σ)).run P w := by
            simp only [callMethod, Sem.run_bind, run_program, Result.andThen_ok]
            rw [show P.types.size + Made.depth = (P.types.size + 99) + 1 from rfl, method_run g1 g2 g3 g4 g5]
            rfl
          rw [hrun]
          exact hcs
      · cases h
    · cases h

end
end Go.Vm
