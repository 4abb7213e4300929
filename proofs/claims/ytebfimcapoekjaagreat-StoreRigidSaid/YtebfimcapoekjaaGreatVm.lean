/-
  EACH OPERATION IS SOUND.
-/
import Derived.Test.YtebfimcapoekjaaGreatVl
namespace Go.Vm

section
variable {P : Program} {M : Mem} {φ : Places} {G : Objs} {w : World} {H : Heap} {n : Nat} {tr : Operand → Option Src} {ρ : Src → PV} {σ : Operand → Value}

theorem OpSem.ofV {s : Sem Value} {K : Value → World → Prop} (h : ∃ v w', s.run P w = .ok v w' ∧ K v w') : OpSem P (s >>= fun x => pure (.value x)) w K := by
  obtain ⟨v, w', h1, h2⟩ := h
  exact .value (v := v) (w' := w') (by simp [h1]) h2

theorem OpSem.ofU {s : Sem Unit} {K : Value → World → Prop} (h : ∃ w', s.run P w = .ok () w' ∧ K undef w') : OpSem P (s >>= fun _ => pure .skip) w K := by
  obtain ⟨w', h1, h2⟩ := h
  exact .skip (w' := w') (by simp [h1]) h2

theorem OpSem.ofP {v : Value} {K : Value → World → Prop} (h : K v w) : OpSem P (pure (.value v)) w K := .value (w' := w) rfl h

theorem trOs_sound (htr : ∀ x io, tr x = some io → Rv M φ (ρ io) (σ x)) : ∀ {xs : List Operand} {as : List Src}, trOs tr xs = some as → as.length = xs.length ∧ ∀ j, j < xs.length → Rv M φ ((as.map ρ).getD j .any) ((xs.map σ).getD j undef)
  | [], as, h => by simp only [trOs] at h; cases h; exact ⟨rfl, fun j hj => by simp at hj⟩
  | x :: r, as, h => by
    simp only [trOs] at h
    split at h
    · rename_i a bs h1 h2
      cases h
      obtain ⟨e1, e2⟩ := trOs_sound htr h2
      refine ⟨by simp [e1], fun j hj => ?_⟩
      cases j with
      | zero => simpa using htr x a h1
      | succ j => simpa using e2 j (by simpa using hj)
    · cases h

theorem trOs_rvl (htr : ∀ x io, tr x = some io → Rv M φ (ρ io) (σ x)) {xs : Array Operand} {as : List Src} (h : trOs tr xs.toList = some as) : RvL M φ (as.map ρ) (xs.map σ) := by
  obtain ⟨e1, e2⟩ := trOs_sound htr h
  refine ⟨by simpa using e1.symm, fun j hj => ?_⟩
  have := e2 j (by simpa [e1] using hj)
  rw [← getD_toList]
  simpa using this

theorem RvL.append {as bs : List PV} {vs us : Array Value} (h : RvL M φ as vs) (k : RvL M φ bs us) : RvL M φ (as ++ bs) (vs ++ us) := by
  refine ⟨by simp [h.1, k.1], fun j hj => ?_⟩
  simp only [List.length_append] at hj
  by_cases hjm : j < as.length
  · have e1 : (as ++ bs).getD j .any = as.getD j .any := by simp [List.getD_eq_getElem?_getD, List.getElem?_append_left hjm]
    have e2 : (vs ++ us).getD j undef = vs.getD j undef := by simp [Array.getD_eq_getD_getElem?, Array.getElem?_append_left (by rw [h.1]; exact hjm)]
    rw [e1, e2]; exact h.2 j hjm
  · have e1 : (as ++ bs).getD j .any = bs.getD (j - as.length) .any := by simp [List.getD_eq_getElem?_getD, List.getElem?_append_right (by omega : as.length ≤ j)]
    have e2 : (vs ++ us).getD j undef = us.getD (j - as.length) undef := by
      simp [Array.getD_eq_getD_getElem?, Array.getElem?_append_right (by rw [h.1]; omega : vs.size ≤ j), h.1]
    rw [e1, e2]; exact k.2 _ (by omega)

theorem tyZero_sound {t : TypeId} {p : PV} (h : tyZero P t = some p) : ∃ i z, P.info? t = some i ∧ i.zero = some z ∧ cvV z = some p := by
  unfold tyZero at h
  cases hi : P.info? t with
  | none => simp [hi] at h
  | some i =>
    simp [hi] at h
    obtain ⟨z, hz, hp⟩ := Option.bind_eq_some_iff.1 h
    exact ⟨i, z, rfl, hz, hp⟩

theorem zeroCells_sound {t : TypeId} {cs : List PV} (h : zeroCellsOf P t = some cs) : ∃ i z, P.info? t = some i ∧ i.zero = some z ∧ AggR M φ cs z.cells := by
  unfold zeroCellsOf at h
  obtain ⟨p, hp, hc⟩ := Option.bind_eq_some_iff.1 h
  obtain ⟨i, z, h1, h2, h3⟩ := tyZero_sound hp
  exact ⟨i, z, h1, h2, cells_sound hc (cvV_sound h3)⟩

theorem tySize_sound {t : TypeId} {s : Nat} {i : TypeInfo} (h : tySize P t = some s) (hi : P.info? t = some i) : i.size = s := by simpa [tySize, hi] using h
theorem tyBytes_sound {t : TypeId} {s : Nat} {i : TypeInfo} (h : tyBytes P t = some s) (hi : P.info? t = some i) : i.bytes = s := by simpa [tyBytes, hi] using h

theorem places_sound : ∀ {fs : List Field} {ps : List (Nat × Nat)}, places P fs = some ps → ∀ w, (fs.mapM fun f => do pure (f.offset, ← sizeOf f.type) : Sem (List (Nat × Nat))).run P w = .ok ps w
  | [], ps, h, w => by simp only [places] at h; cases h; rfl
  | f :: r, ps, h, w => by
    simp only [places] at h
    split at h
    · rename_i s qs h1 h2
      cases h
      have ih := places_sound h2 w
      simp only [List.mapM_cons, Sem.run_bind, run_sizeOf' h1, Result.andThen_ok, Sem.run_pure]
      rw [ih]
      rfl
    · cases h

theorem trParts_sound (htr : ∀ x io, tr x = some io → Rv M φ (ρ io) (σ x)) {ps : List (Nat × Nat)} : ∀ {parts : List (Nat × Operand)} {as : List (Nat × Nat × Src)}, trParts tr ps parts = some as →
    Al ρ M φ (ps.toArray[·]?) as (parts.map fun (i, x) => (i, σ x))
  | [], as, h => by simp only [trParts] at h; cases h; exact .nil
  | (i, x) :: r, as, h => by
    simp only [trParts] at h
    split at h
    · rename_i off size a bs h1 h2 h3
      cases h
      exact .cons off size i a (σ x) bs _ (by simpa using h1) (htr x a h2) (trParts_sound htr h3)
    · cases h

theorem trPartsS_sound (htr : ∀ x io, tr x = some io → Rv M φ (ρ io) (σ x)) : ∀ {parts : List (Nat × Operand)} {as : List (Nat × Src)}, trPartsS tr parts = some as →
    AlS ρ M φ as (parts.map fun (i, x) => (i, σ x))
  | [], as, h => by simp only [trPartsS] at h; cases h; exact .nil
  | (i, x) :: r, as, h => by
    simp only [trPartsS] at h
    split at h
    · rename_i a bs h1 h2
      cases h
      exact .cons i a (σ x) bs _ (htr x a h1) (trPartsS_sound htr h2)
    · cases h

theorem trPartsA_sound (htr : ∀ x io, tr x = some io → Rv M φ (ρ io) (σ x)) {size : Nat} : ∀ {parts : List (Nat × Operand)} {as : List (Nat × Nat × Src)}, trPartsA tr size parts = some as →
    Al ρ M φ (fun i => some (i * size, size)) as (parts.map fun (i, x) => (i, σ x))
  | [], as, h => by simp only [trPartsA] at h; cases h; exact .nil
  | (i, x) :: r, as, h => by
    simp only [trPartsA] at h
    split at h
    · rename_i a bs h1 h2
      cases h
      exact .cons _ size i a (σ x) bs _ rfl (htr x a h1) (trPartsA_sound htr h2)
    · cases h

theorem build_op {cf : CallF} (htr : ∀ x io, tr x = some io → Rv M φ (ρ io) (σ x)) {t : TypeId} {parts : Array (Nat × Operand)} {r : Res} (h : evalOp cf (trBuild P tr t parts.toList) ρ H n = some r) (hr : Ready M φ G w H n r) :
    ∃ v w', (Instr.build t (parts.map fun (i, x) => (i, σ x))).run P w = .ok v w' ∧ Post M φ G n w r v w' := by
  unfold trBuild at h
  split at h
  · rename_i fs hu
    split at h
    · rename_i ps zero hps hz
      split at h
      · rename_i as has
        simp only [evalOp] at h
        split at h
        · rename_i cs hf
          cases h
          obtain ⟨i, z, e1, e2, e3⟩ := zeroCells_sound (M := M) (φ := φ) hz
          have hal := trParts_sound htr has
          have hmap : (parts.map fun (i, x) => (i, σ x)).toList = parts.toList.map fun (i, x) => (i, σ x) := by simp
          obtain ⟨v, g1, g2⟩ := build_sound (P := P) (w := w) (parts := parts.map fun (i, x) => (i, σ x)) hu e1 e2 e3 ps.toArray (fun w => by
            rw [Array.mapM_eq_mapM_toList, Sem.run_map, places_sound hps w]; rfl) (by rw [hmap]; exact hal) hf
          exact ⟨v, w, g1, Post.pure (rd := []) hr.wr g2⟩
        · cases h
      · simp [evalOp] at h
    · simp [evalOp] at h
  · rename_i len e hu
    split at h
    · rename_i size zero hs hz
      split at h
      · rename_i as has
        simp only [evalOp] at h
        split at h
        · rename_i cs hf
          cases h
          obtain ⟨i, z, e1, e2, e3⟩ := zeroCells_sound (M := M) (φ := φ) hz
          have hal := trPartsA_sound htr has
          have hmap : (parts.map fun (i, x) => (i, σ x)).toList = parts.toList.map fun (i, x) => (i, σ x) := by simp
          obtain ⟨cells', f1, f2⟩ := fill_sound hal hf e3
          refine ⟨.agg cells', w, ?_, Post.pure (rd := []) hr.wr f2.agg⟩
          unfold Instr.build
          simp only [Sem.run_bind, run_zero' e1 e2, Result.andThen_ok, run_underlying' hu, run_sizeOf' hs, hmap, f1]
          rfl
        · cases h
      · simp [evalOp] at h
    · simp [evalOp] at h
  · simp [evalOp] at h

theorem bslice_op {cf : CallF} (htr : ∀ x io, tr x = some io → Rv M φ (ρ io) (σ x)) {m : Nat} {t : TypeId} {len : Nat} {parts : Array (Nat × Operand)} {r : Res} (h : evalOp cf (trBslice P tr m t len parts.toList) ρ H n = some r)
    (hr : Ready M φ G w H n r) : ∃ v w', (Instr.buildSlice t len (parts.map fun (i, x) => (i, σ x))).run P w = .ok v w' ∧ Post M φ G n w r v w' := by
  unfold trBslice at h
  split at h
  · rename_i e hu
    split at h
    · rename_i k zero as hs hz has
      split at h
      · rename_i hlim
        obtain ⟨i, z, e1, e2, e3⟩ := zeroCells_sound (M := M) (φ := φ) hz
        exact bslice_sound h hr hu e1 (tySize_sound hs e1) e2 e3 hlim (by simpa using trPartsS_sound htr has)
      · simp [evalOp] at h
    · simp [evalOp] at h
  · simp [evalOp] at h

theorem load_op {cf : CallF} (htr : ∀ x io, tr x = some io → Rv M φ (ρ io) (σ x)) {t : TypeId} {a : Operand} {r : Res} (h : evalOp cf (trLoad P tr t a) ρ H n = some r) (hr : Ready M φ G w H n r) :
    ∃ v w', (Instr.loadAt t (σ a)).run P w = .ok v w' ∧ Post M φ G n w r v w' := by
  unfold trLoad at h
  split at h
  · rename_i g s x hg hs hx
    have hv := htr a x hx
    simp only [evalOp] at h
    split at h
    · rename_i u cs off hρ
      rw [hρ] at hv
      split at h
      · rename_i v hp
        cases h
        obtain ⟨b, o, e1, e2⟩ := hv.reads hr.wr
        obtain ⟨v', f1, f2⟩ := load_sound e2 hp hg hs
        exact ⟨v', w, by rw [e1]; simpa [Instr.loadAt, Instr.sureAddr] using f1, Post.pure (rd := []) hr.wr f2⟩
      · cases h
    · rename_i id ver k i off hρ
      rw [hρ] at hv
      split at h
      · rename_i ver' k' xs hH
        split at h
        · rename_i hc
          obtain ⟨rfl, rfl, hi⟩ := hc
          split at h
          · rename_i v hp
            cases h
            have hG : G id = some (.arr ver k xs) := by rw [hr.same id (.inr (.inl (by simp))), hH]
            obtain ⟨l, e1, e2, e3⟩ := (hr.wr.obj id _ hG).reads hi
            generalize σ a = va at hv ⊢
            cases hv with
            | ptr _ _ _ _ _ l' hl' hk' =>
              obtain rfl : l = l' := Option.some.inj (e1.symm.trans hl')
              obtain ⟨v', f1, f2⟩ := load_sound e3 hp hg hs
              exact ⟨v', w, by simpa [Instr.loadAt, Instr.sureAddr] using f1, Post.pure (rd := [id]) hr.wr f2⟩
          · cases h
        · cases h
      · cases h
    · cases h
  · simp [evalOp] at h

theorem bin_op {cf : CallF} (htr : ∀ x io, tr x = some io → Rv M φ (ρ io) (σ x)) {op : BinOp} {t : TypeId} {x y : Operand} {r : Res} (h : evalOp cf (trBin P tr op t x y) ρ H n = some r) (hr : Ready M φ G w H n r) :
    ∃ v w', (do eqGuard op t x y (σ x) (σ y); binOp op t (σ x) (σ y) : Sem Value).run P w = .ok v w' ∧ Post M φ G n w r v w' := by
  unfold trBin at h
  split at h
  · rename_i a b hx hy
    have ha := htr x a hx
    have hb := htr y b hy
    have plain : evalOp cf (.bin op a b) ρ H n = some r → ∃ v w', (do eqGuard op t x y (σ x) (σ y); binOp op t (σ x) (σ y) : Sem Value).run P w = .ok v w' ∧ Post M φ G n w r v w' := by
      intro h
      simp only [evalOp] at h
      split at h
      · rename_i v hv
        cases h
        obtain ⟨u, e1, e2⟩ := bin_sound (P := P) (w := w) (t := t) hv ha hb
        refine ⟨u, w, ?_, Post.pure (rd := []) hr.wr e2⟩
        simp [guard_plain (P := P) (w := w) (t := t) (x := x) (y := y) hv ha hb, e1]
      · cases h
    have eqs : (op = .eql ∨ op = .neq) → evalOp cf (match P.underlying t with
        | some (.struct fs) =>
          match flatFields P fs.toList 0 with
          | some ks => if P.stoodInHeld t = false ∧ P.eqGuardType P.depth t = false then .eqAgg ks (op == .neq) a b else .bad
          | none => .bad
        | some d =>
          match eqKind d with
          | some k => .eqK k (op == .neq) a b
          | none => .bin op a b
        | none => .bin op a b) ρ H n = some r → ∃ v w', (do eqGuard op t x y (σ x) (σ y); binOp op t (σ x) (σ y) : Sem Value).run P w = .ok v w' ∧ Post M φ G n w r v w' := by
      intro hop h
      have hneg : op = if (op == .neq) = true then .neq else .eql := by rcases hop with rfl | rfl <;> rfl
      split at h
      · rename_i fs hu
        split at h
        · rename_i ks hks
          split at h
          · rename_i hc
            simp only [evalOp] at h
            split at h
            · rename_i p q hp hq
              rw [hp] at ha
              rw [hq] at hb
              split at h
              · rename_i hlen
                split at h
                · rename_i e he
                  cases h
                  have hbin := eqAgg_sound (P := P) (w := w) hu hks hc.1 he hlen.1 hlen.2 ha hb hneg
                  refine ⟨_, w, ?_, Post.pure (rd := []) hr.wr (.bool _)⟩
                  generalize σ x = vx at ha hbin ⊢
                  generalize σ y = vy at hb hbin ⊢
                  cases ha
                  cases hb
                  simp only [Sem.run_bind, run_eqGuard_agg w op t x y _ _ hc.2, Result.andThen_ok]
                  exact hbin
                · cases h
              · cases h
            · cases h
          · simp [evalOp] at h
        · simp [evalOp] at h
      · rename_i d hu
        split at h
        · rename_i k hk
          simp only [evalOp] at h
          split at h
          · rename_i e he
            cases h
            refine ⟨_, w, ?_, Post.pure (rd := []) hr.wr (.bool _)⟩
            simp only [Sem.run_bind, (nilEq_sound (P := P) (w := w) he ha hb hu hk).2 op x y, Result.andThen_ok]
            exact eqK_sound he ha hb hu hk hneg
          · cases h
        · exact plain h
      · exact plain h
    split at h
    · exact eqs (.inl rfl) h
    · exact eqs (.inr rfl) h
    · exact plain h
  · simp [evalOp] at h

end
end Go.Vm
