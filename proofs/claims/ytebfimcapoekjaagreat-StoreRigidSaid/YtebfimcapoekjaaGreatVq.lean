/-
  REGIONS: an operation leaves alone what it does not name; the run in the order of the text.
-/
import Derived.Test.YtebfimcapoekjaaGreatVp
namespace Go.Vm

/-- numbers of objects only rise -/
def Rising (cf : CallF) : Prop := ∀ f args H n r H' n', cf f args H n = some (r, H', n') → n ≤ n' ∧ ∀ id, id < n → H.get id = none → H'.get id = none

/-- what an operation leaves alone -/
def Leaves (H : Heap) (n : Nat) (r : Res) : Prop := (∀ id, ¬ r.fp.on id → r.H.get id = H.get id) ∧ n ≤ r.n ∧ ∀ id, id < n → H.get id = none → r.H.get id = none

theorem Leaves.same {H : Heap} {n : Nat} {v : PV} {fp : Fp} : Leaves H n ⟨v, H, n, fp⟩ := ⟨fun _ _ => rfl, Nat.le_refl _, fun _ _ h => h⟩

theorem Leaves.new {H : Heap} {n : Nat} {v : PV} {o : Obj} {rd : List Nat} : Leaves H n ⟨v, H.set n o, n + 1, ⟨rd, [n], false⟩⟩ :=
  ⟨fun id hid => by simp [Fp.on] at hid; rw [Heap.get_set_ne _ _ (Ne.symm hid)], Nat.le_succ _, fun id hid h => by rw [Heap.get_set_ne _ _ (by omega)]; exact h⟩

theorem Leaves.turn {H : Heap} {n id : Nat} {v : PV} {o o' : Obj} {rd : List Nat} (h : H.get id = some o') : Leaves H n ⟨v, H.set id o, n, ⟨rd, [id], false⟩⟩ := by
  refine ⟨fun j hj => by simp [Fp.on] at hj; rw [Heap.get_set_ne _ _ (Ne.symm hj)], Nat.le_refl _, fun j hj hn => ?_⟩
  rw [Heap.get_set]
  split
  · rename_i e; subst e; rw [h] at hn; cases hn
  · exact hn

theorem appendV_frame {k bytes : Nat} {s : PV} {m : List (List PV)} {rd : List Nat} {H : Heap} {n : Nat} {r : Res} (h : appendV k bytes s m rd H n = some r) : Leaves H n r := by
  unfold appendV at h
  repeat' (split at h)
  all_goals first
    | (cases h; done)
    | (cases h; exact .same)
    | (cases h; exact .new)
    | (rename_i hH _; cases h; exact .turn hH)
    | (rename_i hH _ _; cases h; exact .turn hH)
    | (rename_i hH _ _ _; cases h; exact .turn hH)
    | (rename_i hH _ _ _ _; cases h; exact .turn hH)
    | (rename_i hH _ _ _ _ _; cases h; exact .turn hH)
    | (rename_i hH _ _ _ _ _ _; cases h; exact .turn hH)
    | (rename_i hH _ _ _ _ _ _ _; cases h; exact .turn hH)

theorem callV_frame {cf : CallF} (hcf : Rising cf) {mode : Nat} {f : FuncId} {args : List PV} {H : Heap} {n : Nat} {r : Res} (h : callV cf mode f args H n = some r) : Leaves H n r := by
  unfold callV at h
  split at h
  · repeat' (split at h)
    all_goals first
      | (cases h; done)
      | (cases h; exact .same)
  · repeat' (split at h)
    all_goals first
      | (cases h; done)
      | (cases h; refine ⟨fun id hid => ?_, Nat.le_refl _, fun id hid hn => ?_⟩
         · simp [Fp.on] at hid; rw [get_dropIds, if_neg hid]
         · rw [get_dropIds, hn]; simp)
  · repeat' (split at h)
    all_goals first
      | (cases h; done)
      | (rename_i hc; cases h; refine ⟨fun id hid => by simp [Fp.on] at hid, (hcf _ _ _ _ _ _ _ hc).1, fun id hid hn => ?_⟩
         rw [Heap.get_append, (hcf _ _ _ _ _ _ _ hc).2 id hid rfl, get_dropIds, hn]; simp)
  · split at h
    · rename_i hc
      cases h
      exact ⟨fun id hid => by simp [Fp.on] at hid, (hcf _ _ _ _ _ _ _ hc).1, (hcf _ _ _ _ _ _ _ hc).2⟩
    · cases h

theorem evalOp_frame {cf : CallF} (hcf : Rising cf) {o : IOp} {ρ : Src → PV} {H : Heap} {n : Nat} {r : Res} (h : evalOp cf o ρ H n = some r) : Leaves H n r := by
  cases o <;> simp only [evalOp] at h
  case call mode f args =>
    split at h
    · exact callV_frame hcf h
    · cases h
  case invoke mode tbl recv args =>
    split at h
    · split at h
      · exact callV_frame hcf h
      · cases h
    · cases h
  case append k bytes s x =>
    split at h
    · cases h
    · split at h
      · exact appendV_frame h
      · split at h
        · split at h
          · exact appendV_frame h
          · cases h
        · cases h
  case store size a v =>
    unfold storeAtV at h
    split at h
    · split at h
      · rename_i hH
        split at h
        · cases h; exact .turn hH
        · cases h
      · cases h
    · cases h
  case mapSet ck m k v =>
    split at h
    · split at h
      · rename_i hH
        split at h
        · cases h; exact .turn hH
        · cases h; exact .turn hH
        · cases h
      · cases h
    · cases h
  case mapEntry ck z m k =>
    split at h
    · split at h
      · rename_i hH
        split at h
        · cases h; exact .turn hH
        · cases h; exact .turn hH
        · cases h
      · cases h
    · cases h
  case entrySet m s v =>
    split at h
    · split at h
      · rename_i hH
        split at h
        · cases h; exact .turn hH
        · cases h
      · cases h
    · cases h
  case clear k zero x =>
    split at h
    · cases h; exact .same
    · split at h
      · rename_i hH
        split at h
        · cases h; exact .turn hH
        · cases h
      · cases h
    · cases h
  case copy k d s =>
    split at h
    · cases h; exact .same
    · split at h
      · rename_i hH _
        split at h
        · cases h; exact .turn hH
        · cases h
      · cases h
    · cases h
  all_goals
    repeat' (split at h)
  all_goals first
    | (cases h; done)
    | (cases h; exact .same)
    | (cases h; exact .new)

/-- one operation of a region in the order of the text -/
def StepAt (cf : CallF) (S : List PV) (o : IOper) (Tp : List PV) (t : PV) (H H' : Heap) (n n' : Nat) (fp : Fp) : Prop :=
  (wants Tp o.guard = some true ∧ evalOp cf o.op (Src.ev S Tp) H n = some ⟨t, H', n', fp⟩) ∨ (wants Tp o.guard = some false ∧ t = .tup [] ∧ H' = H ∧ n' = n ∧ fp = .no)

theorem evalOps_log {cf : CallF} {S : List PV} : ∀ {ops : List IOper} {T₀ : List PV} {H : Heap} {n : Nat} {L₀ : List Fp} {T : List PV} {H' : Heap} {n' : Nat} {L : List Fp}, evalOps cf S ops T₀ H n L₀ = some (T, H', n', L) → ∃ L2, L = L₀ ++ L2
  | [], T₀, H, n, L₀, T, H', n', L, h => by simp only [evalOps] at h; cases h; exact ⟨[], by simp⟩
  | o :: r, T₀, H, n, L₀, T, H', n', L, h => by
    simp only [evalOps] at h
    split at h
    · split at h
      · obtain ⟨L2, h2⟩ := evalOps_log h; exact ⟨_, by rw [h2, List.append_assoc]⟩
      · cases h
    · obtain ⟨L2, h2⟩ := evalOps_log h; exact ⟨_, by rw [h2, List.append_assoc]⟩
    · cases h

theorem evalOps_steps {cf : CallF} {S : List PV} : ∀ {ops : List IOper} {T₀ : List PV} {H : Heap} {n : Nat} {L₀ : List Fp} {T : List PV} {H' : Heap} {n' : Nat} {L : List Fp}, evalOps cf S ops T₀ H n L₀ = some (T, H', n', L) → L₀.length = T₀.length →
    T.take T₀.length = T₀ ∧ T.length = T₀.length + ops.length ∧ L.length = T.length ∧ ∃ (Hs : Nat → Heap) (ns : Nat → Nat), Hs 0 = H ∧ ns 0 = n ∧ Hs ops.length = H' ∧ ns ops.length = n' ∧
      ∀ i, i < ops.length → StepAt cf S (ops.getD i default) (T.take (T₀.length + i)) (T.getD (T₀.length + i) .any) (Hs i) (Hs (i + 1)) (ns i) (ns (i + 1)) (L.getD (T₀.length + i) .no)
  | [], T₀, H, n, L₀, T, H', n', L, h, hl => by
    simp only [evalOps] at h
    cases h
    exact ⟨by simp, by simp, hl, fun _ => H, fun _ => n, rfl, rfl, rfl, rfl, fun i hi => by simp at hi⟩
  | o :: r, T₀, H, n, L₀, T, H', n', L, h, hl => by
    simp only [evalOps] at h
    have key : ∀ (t : PV) (H1 : Heap) (n1 : Nat) (fp : Fp), evalOps cf S r (T₀ ++ [t]) H1 n1 (L₀ ++ [fp]) = some (T, H', n', L) → StepAt cf S o T₀ t H H1 n n1 fp →
        T.take T₀.length = T₀ ∧ T.length = T₀.length + (o :: r).length ∧ L.length = T.length ∧ ∃ (Hs : Nat → Heap) (ns : Nat → Nat), Hs 0 = H ∧ ns 0 = n ∧ Hs (o :: r).length = H' ∧ ns (o :: r).length = n' ∧
          ∀ i, i < (o :: r).length → StepAt cf S ((o :: r).getD i default) (T.take (T₀.length + i)) (T.getD (T₀.length + i) .any) (Hs i) (Hs (i + 1)) (ns i) (ns (i + 1)) (L.getD (T₀.length + i) .no) := by
      intro t H1 n1 fp h1 hstep
      obtain ⟨e1, e2, e3, Hs, ns, f1, f2, f3, f4, f5⟩ := evalOps_steps h1 (by simp [hl])
      have hlen : (T₀ ++ [t]).length = T₀.length + 1 := by simp
      rw [hlen] at e1 e2
      have hT0 : T.take T₀.length = T₀ := by
        have := congrArg (List.take T₀.length) e1
        simpa [List.take_take] using this
      have htd : T.getD T₀.length .any = t := by
        have h2 : (T.take (T₀.length + 1)).getD T₀.length .any = t := by rw [e1]; simp [List.getD_eq_getElem?_getD]
        rw [← h2]
        simp [List.getD_eq_getElem?_getD]
      -- the prefix of L
      have hL : L.getD T₀.length .no = fp := by
        have := evalOps_log h1
        obtain ⟨L2, hL2⟩ := this
        rw [hL2, ← hl]
        simp [List.getD_eq_getElem?_getD]
      refine ⟨hT0, by rw [e2]; simp; omega, e3, fun i => match i with | 0 => H | i + 1 => Hs i, fun i => match i with | 0 => n | i + 1 => ns i, rfl, rfl, by simpa using f3, by simpa using f4, ?_⟩
      intro i hi
      cases i with
      | zero =>
        simp only [Nat.add_zero, List.getD_cons_zero, hT0, htd, hL, f1, f2]
        exact hstep
      | succ i =>
        have := f5 i (by simpa using hi)
        rw [hlen] at this
        have e : T₀.length + (i + 1) = T₀.length + 1 + i := by omega
        rw [e]
        simpa using this
    split at h
    · rename_i hw
      split at h
      · rename_i x hx
        exact key x.v x.H x.n x.fp h (.inl ⟨hw, hx⟩)
      · cases h
    · rename_i hw
      exact key _ _ _ _ h (.inr ⟨hw, rfl, rfl, rfl, rfl⟩)
    · cases h
theorem apart_spec {a b : Fp} (h : a.apart b = true) (id : Nat) : (a.on id → b.at id → False) ∧ (b.on id → a.at id → False) := by
  simp only [Fp.apart, Bool.and_eq_true, Bool.or_eq_true, Bool.not_eq_true', List.isEmpty_iff, List.all_eq_true] at h
  obtain ⟨⟨⟨h1, h2⟩, h3⟩, h4⟩ := h
  constructor
  · rintro (ha | ha) hb
    · rcases h1 with h1 | ⟨⟨h1, h1'⟩, h1''⟩
      · rw [h1] at ha; cases ha
      · rcases hb with hb | hb | hb
        · rw [h1''] at hb; cases hb
        · rw [h1] at hb; simp at hb
        · rw [h1'] at hb; simp at hb
    · have := h3 id ha
      rcases hb with hb | hb | hb
      · rcases h2 with h2 | ⟨h2, h2'⟩
        · rw [h2] at hb; cases hb
        · rw [h2'] at ha; simp at ha
      · simp [hb] at this
      · simp [hb] at this
  · rintro (hb | hb) ha
    · rcases h2 with h2 | ⟨h2, h2'⟩
      · rw [h2] at hb; cases hb
      · rcases ha with ha | ha | ha
        · rcases h1 with h1 | ⟨⟨h1, h1'⟩, h1''⟩
          · rw [h1] at ha; cases ha
          · rw [h1''] at hb; cases hb
        · rw [h2] at ha; simp at ha
        · rw [h2'] at ha; simp at ha
    · have h4' := h4 id hb
      rcases ha with ha | ha | ha
      · rcases h1 with h1 | ⟨⟨h1, h1'⟩, h1''⟩
        · rw [h1] at ha; cases ha
        · rw [h1'] at hb; simp at hb
      · simp [ha] at h4'
      · have := h3 id ha
        simp [hb] at this

end Go.Vm
