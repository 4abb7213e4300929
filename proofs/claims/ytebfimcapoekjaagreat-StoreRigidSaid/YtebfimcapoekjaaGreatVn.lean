/-
  EACH OPERATION IS SOUND: the rest, and all of them together.
-/
import Derived.Test.YtebfimcapoekjaaGreatVm
namespace Go.Vm

section
variable {P : Program} {M : Mem} {φ : Places} {G : Objs} {w : World} {H : Heap} {n : Nat} {tr : Operand → Option Src} {ρ : Src → PV} {σ : Operand → Value}

theorem trOpt_sound (htr : ∀ x io, tr x = some io → Rv M φ (ρ io) (σ x)) {x : Option Operand} {a : Option Src} (h : trOpt tr x = some a) :
    a = none ∧ x.map σ = none ∨ ∃ y u, a = some y ∧ x.map σ = some u ∧ Rv M φ (ρ y) u := by
  cases x with
  | none => simp [trOpt] at h; subst h; exact .inl ⟨rfl, rfl⟩
  | some x =>
    simp [trOpt] at h
    obtain ⟨y, h1, rfl⟩ := h
    exact .inr ⟨y, σ x, rfl, rfl, htr x y h1⟩

theorem slice_op {cf : CallF} (htr : ∀ x io, tr x = some io → Rv M φ (ρ io) (σ x)) {t : TypeId} {x : Operand} {lo hi mx : Option Operand} {r : Res} (h : evalOp cf (trSlice P tr t x lo hi mx) ρ H n = some r) (hr : Ready M φ G w H n r) :
    ∃ v w', (Instr.sliceAt t (σ x) (lo.map σ) (hi.map σ) (mx.map σ)).run P w = .ok v w' ∧ Post M φ G n w r v w' := by
  unfold trSlice at h
  split at h
  · rename_i a l hh m hx hl hhi hm
    have hv := htr x a hx
    have sl := trOpt_sound htr hl
    have sh := trOpt_sound htr hhi
    have sm := trOpt_sound htr hm
    split at h
    · simp [evalOp] at h
    · rename_i hnm
      have hh0 : hi.map σ = none → mx.map σ = none := by
        intro e
        cases hi with
        | none => cases mx with
          | none => rfl
          | some y => simp at hnm
        | some y => simp at e
      split at h
      · rename_i e hu
        split at h
        · rename_i k hk
          simp only [evalOp] at h
          split at h
          · rename_i len hlen
            split at h
            · rename_i b1 b2 b3 hb1 hb2 hb3
              split at h
              · rename_i v hs
                cases h
                have hmm : (mx.map σ).map (fun _ => b3) = m.map (fun _ => b3) := by
                  rcases sm with ⟨rfl, h2⟩ | ⟨y, u, rfl, h2, _⟩ <;> simp [h2]
                have hmx : mx.map σ = none ∨ BoundR 0 b3 (mx.map σ) := .inr (bound_sound hb3 sm)
                obtain ⟨u, e1, e2⟩ := slice_sound (P := P) (w := w) (mx := mx.map σ) (m0 := b3) hu hk hlen hv (by rw [hmm]; exact hs) (bound_sound hb1 sl) (bound_sound hb2 sh) hmx hh0
                exact ⟨u, w, e1, Post.pure (rd := []) hr.wr e2⟩
              · cases h
            · cases h
          · cases h
        · simp [evalOp] at h
      · rename_i hu
        split at h
        · simp [evalOp] at h
        · rename_i hmn
          have hm0 : mx.map σ = none := by cases mx with
            | none => rfl
            | some y => simp at hmn
          simp only [evalOp] at h
          split at h
          · rename_i s hs
            rw [hs] at hv
            split at h
            · rename_i b1 b2 hb1 hb2
              split at h
              · rename_i hc
                cases h
                generalize σ x = vx at hv ⊢
                cases hv
                rw [hm0]
                exact ⟨_, w, substr_run hu (bound_sound hb1 sl) (bound_sound hb2 sh) hc.1 hc.2, Post.pure (rd := []) hr.wr (.str _)⟩
              · cases h
            · cases h
          · cases h
      · simp [evalOp] at h
  · simp [evalOp] at h

/-- a type has lengths of this kind -/
def lkOf : LK → TypeDesc → Bool
  | .slice, .slice _ => true
  | .str, .string => true
  | .map, .map .. => true
  | _, _ => false

theorem len_op {cf : CallF} {t ty : TypeId} {k : LK} {a : Src} {v : Value} {d : TypeDesc} {r : Res} (hv : Rv M φ (ρ a) v) (hu : P.underlying t = some d) (hk : lkOf k d = true)
    (h : evalOp cf (.len k a) ρ H n = some r) (hr : Ready M φ G w H n r) : ∃ u w', (Builtin.len_ #[t] ty #[v]).run P w = .ok u w' ∧ Post M φ G n w r u w' := by
  simp only [evalOp] at h
  split at h
  · rename_i hρ
    rw [hρ] at hv
    cases hv
    cases h
    cases d <;> simp [lkOf] at hk
    exact ⟨_, w, by simp [Builtin.len_, run_underlying' hu, goInt], Post.pure (rd := []) hr.wr (.int _ _)⟩
  · rename_i id hρ
    rw [hρ] at hv
    split at h
    · rename_i es clock hH
      cases h
      have hG : G id = some (.map es clock) := by rw [hr.same id (.inr (.inl (by simp))), hH]
      cases d <;> simp [lkOf] at hk
      cases hv with
      | map _ l hl =>
        obtain ⟨l2, en, g1, g2, g3, g4⟩ := objr_map (hr.wr.obj id _ hG)
        obtain rfl : l = l2 := Option.some.inj (hl.symm.trans g1)
        have hs : en.size = es.length := by simpa using g4.1
        exact ⟨_, w, by simp [Builtin.len_, run_underlying' hu, getObj_map g3, goInt, hs], Post.pure (rd := [id]) hr.wr (.int _ _)⟩
    · cases h
  · rename_i hρ
    rw [hρ] at hv
    cases hv
    cases h
    cases d <;> simp [lkOf] at hk
    exact ⟨_, w, by simp [Builtin.len_, run_underlying' hu, goInt], Post.pure (rd := []) hr.wr (.int _ _)⟩
  · rename_i hρ
    rw [hρ] at hv
    cases hv
    cases h
    cases d <;> simp [lkOf] at hk
    exact ⟨_, w, by simp [Builtin.len_, run_underlying' hu, goInt], Post.pure (rd := []) hr.wr (.int _ _)⟩
  · rename_i hρ
    rw [hρ] at hv
    cases hv
    cases h
    cases d <;> simp [lkOf] at hk
    exact ⟨_, w, by simp [Builtin.len_, run_underlying' hu, goInt], Post.pure (rd := []) hr.wr (.int _ _)⟩
  · rename_i hρ
    rw [hρ] at hv
    cases hv
    cases h
    cases d <;> simp [lkOf] at hk
    exact ⟨_, w, by simp [Builtin.len_, run_underlying' hu, goInt], Post.pure (rd := []) hr.wr (.int _ _)⟩
  · cases h

theorem cap_op {cf : CallF} {t e ty : TypeId} {a : Src} {v : Value} {r : Res} (hv : Rv M φ (ρ a) v) (hu : P.underlying t = some (.slice e)) (h : evalOp cf (.capo a) ρ H n = some r) (hr : Ready M φ G w H n r) :
    ∃ u w', (Builtin.cap_ #[t] ty #[v]).run P w = .ok u w' ∧ Post M φ G n w r u w' := by
  simp only [evalOp] at h
  split at h
  · rename_i hρ
    rw [hρ] at hv
    cases hv
    cases h
    exact ⟨_, w, by simp [Builtin.cap_, run_underlying' hu, goInt], Post.pure (rd := []) hr.wr (.int _ _)⟩
  · rename_i k xs hρ
    rw [hρ] at hv
    cases h
    cases hv with
    | data _ _ _ b o cap vs h0 h1 h2 h3 h4 h5 h6 =>
      have := h2 rfl
      subst this
      exact ⟨_, w, by simp [Builtin.cap_, run_underlying' hu, goInt], Post.pure (rd := []) hr.wr (.int _ _)⟩
  · rename_i id ver k off len c hρ
    rw [hρ] at hv
    cases h
    cases hv with
    | view _ _ _ _ _ _ l a cv h1 h2 h3 h4 h5 h6 h7 h8 =>
      have := h4 c rfl
      subst this
      exact ⟨_, w, by simp [Builtin.cap_, run_underlying' hu, goInt], Post.pure (rd := []) hr.wr (.int _ _)⟩
  · cases h

theorem append_op {cf : CallF} {sT xT e e' ty : TypeId} {k bytes : Nat} {i : TypeInfo} {z : Value} {s x : Src} {vs vx : Value} {r : Res} (hs : Rv M φ (ρ s) vs) (hx : Rv M φ (ρ x) vx)
    (hu : P.underlying sT = some (.slice e)) (hu' : P.underlying xT = some (.slice e')) (hi : P.info? e = some i) (hsize : i.size = k) (hbytes : i.bytes = bytes) (hz : i.zero = some z) (hzs : z.cells.size = k)
    (h : evalOp cf (.append k bytes s x) ρ H n = some r) (hr : Ready M φ G w H n r) : ∃ u w', (Builtin.append_ #[sT, xT] ty #[vs, vx]).run P w = .ok u w' ∧ Post M φ G n w r u w' := by
  subst hbytes
  simp only [evalOp] at h
  split at h
  · cases h
  · rename_i hc
    have hk : 0 < k := by omega
    have hb : i.bytes ≠ 0 := by omega
    split at h
    · rename_i hρ
      exact append_sound hu hi hsize hz hzs hb hk ⟨e', hu'⟩ h hr hs (.inl ⟨hρ, rfl⟩) hx (fun id hid => by simp at hid)
    · split at h
      · rename_i k' m rd hel
        split at h
        · rename_i hkk
          subst hkk
          refine append_sound hu hi hsize hz hzs hb hk ⟨e', hu'⟩ h hr hs (.inr hel) hx (fun id hid => ?_)
          unfold appendV at h
          repeat' (split at h)
          all_goals first
            | (cases h; done)
            | (cases h; left; first | exact hid | (simp; exact .inr hid) | simpa using hid)
        · cases h
      · cases h

theorem minmax_run {mx : Bool} : ∀ (ps : List PV) (vs : List Value) (k : IntKind) (a b : Int), minmaxV mx a ps = some b → (∀ j, j < ps.length → Rv M φ (ps.getD j .any) (vs.getD j undef)) → vs.length = ps.length →
    (vs.foldlM (if mx then Builtin.max2 else Builtin.min2) (.int k a)).run P w = .ok (.int k b) w
  | [], vs, k, a, b, h, _, hl => by
    simp only [minmaxV] at h
    cases h
    have : vs = [] := List.eq_nil_of_length_eq_zero hl
    subst this
    rfl
  | p :: ps, [], k, a, b, h, _, hl => by simp at hl
  | p :: ps, v :: vs, k, a, b, h, hv, hl => by
    have h0 := hv 0 (by simp)
    simp only [List.getD_cons_zero] at h0
    cases p <;> simp only [minmaxV] at h <;> first | (cases h; done) | skip
    rename_i k' m
    cases h0
    have ih := minmax_run (mx := mx) ps vs k _ b h (fun j hj => by simpa using hv (j + 1) (by simpa using hj)) (by simpa using hl)
    cases mx with
    | true =>
      simp only [if_true, List.foldlM_cons, Sem.run_bind, Builtin.max2, Sem.run_pure, Result.andThen_ok] at ih ⊢
      exact ih
    | false =>
      simp only [Bool.false_eq_true, if_false, List.foldlM_cons, Sem.run_bind, Builtin.min2, Sem.run_pure, Result.andThen_ok] at ih ⊢
      exact ih

end
end Go.Vm
