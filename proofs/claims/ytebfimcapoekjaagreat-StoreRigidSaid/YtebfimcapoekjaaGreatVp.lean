/-
  EVERY OPERATION IS SOUND.
-/
import Derived.Test.YtebfimcapoekjaaGreatVo
namespace Go.Vm

theorem wrap64_small (x : Int) (h0 : 0 ≤ x) (h1 : x ≤ 140737488355328) : IntKind.i64.wrap x = x := by
  unfold IntKind.wrap IntKind.bits IntKind.signed
  simp only [Bool.true_and]
  have e1 : x % (2 ^ 64 : Int) = x := Int.emod_eq_of_lt h0 (by omega)
  rw [e1, if_neg (by simp; omega)]

section
variable {P : Program} {M : Mem} {φ : Places} {G : Objs} {w : World} {H : Heap} {n : Nat} {tr : Operand → Option Src} {ρ : Src → PV} {σ : Operand → Value}

theorem trField_sound {t : TypeId} {i off s : Nat} {g : Bool} (h : trField P t i = some (g, off, s)) : ∃ fs f, P.underlying t = some (.struct fs) ∧ fs[i]? = some f ∧ tyAgg P f.type = some g ∧ tySize P f.type = some s ∧ f.offset = off := by
  unfold trField at h
  split at h
  · rename_i fs hu
    split at h
    · rename_i f hf
      split at h
      · rename_i g' s' h1 h2
        cases h
        exact ⟨fs, f, hu, hf, h1, h2, rfl⟩
      · cases h
    · cases h
  · cases h

theorem trMap_sound {t e : TypeId} {ck : CK} (h : trMap P t = some (ck, e)) : ∃ k, P.underlying t = some (.map k e) ∧ KeyOk P k ck := by
  unfold trMap at h
  split at h
  · rename_i k e' hu
    simp only [Option.map_eq_some_iff] at h
    obtain ⟨c, h1, h2⟩ := h
    cases h2
    exact ⟨k, hu, trKey_ok h1⟩
  · cases h

theorem idx_op {cf : CallF} (htr : ∀ x io, tr x = some io → Rv M φ (ρ io) (σ x)) {t : TypeId} {x i : Operand} {r : Res} (h : evalOp cf (trIdx P tr t x i) ρ H n = some r) (hr : Ready M φ G w H n r) :
    ∃ v w', (Instr.indexAt t (σ x) (σ i)).run P w = .ok v w' ∧ Post M φ G n w r v w' := by
  unfold trIdx at h
  split at h <;> first | (simp [evalOp] at h; done) | skip
  rename_i a b ha hb
  have hx := htr x a ha
  have hi := htr i b hb
  split at h <;> first | (simp [evalOp] at h; done) | skip
  · rename_i e hu
    split at h <;> first | (simp [evalOp] at h; done) | skip
    rename_i k hk
    simp only [evalOp] at h
    split at h
    · rename_i k' xs fl kk j h1 h2
      rw [h1] at hx
      rw [h2] at hi
      split at h
      · rename_i hc
        obtain ⟨rfl, h0, hj⟩ := hc
        cases h
        generalize σ x = vx at hx ⊢
        generalize σ i = vi at hi ⊢
        cases hi
        obtain ⟨bb, o, cap, rfl, e2⟩ := idx_data hx hj
        refine ⟨_, w, indexAt_slice hu hk h0 hj, ?_⟩
        rw [cellOf_add]
        exact Post.pure (rd := []) hr.wr e2
      · cases h
    · rename_i id ver k' off len cap kk j h1 h2
      rw [h1] at hx
      rw [h2] at hi
      split at h
      · rename_i hc
        obtain ⟨rfl, h0, hj⟩ := hc
        cases h
        generalize σ x = vx at hx ⊢
        generalize σ i = vi at hi ⊢
        cases hi
        obtain ⟨ad, cv, rfl, e2⟩ := idx_view hx hj
        exact ⟨_, w, indexAt_slice hu hk h0 hj, Post.pure (rd := []) hr.wr e2⟩
      · cases h
    · cases h
  · rename_i len e hu
    split at h <;> first | (simp [evalOp] at h; done) | skip
    rename_i k hk
    simp only [evalOp] at h
    split at h
    · rename_i t' cs o kk j h1 h2
      rw [h1] at hx
      rw [h2] at hi
      split at h
      · rename_i hc
        cases h
        generalize σ x = vx at hx ⊢
        generalize σ i = vi at hi ⊢
        cases hi
        obtain ⟨ad, rfl, e2⟩ := field_dp (off := j.toNat * k) hx
        exact ⟨_, w, indexAt_array hu hk hc.1 hc.2, Post.pure (rd := []) hr.wr e2⟩
      · cases h
    · rename_i id ver k' m o kk j h1 h2
      rw [h1] at hx
      rw [h2] at hi
      split at h
      · rename_i hc
        cases h
        generalize σ x = vx at hx ⊢
        generalize σ i = vi at hi ⊢
        cases hi
        obtain ⟨ad, rfl, e2⟩ := field_ptr (off := j.toNat * k) hx
        exact ⟨_, w, indexAt_array hu hk hc.1 hc.2, Post.pure (rd := []) hr.wr e2⟩
      · cases h
    · cases h

set_option maxHeartbeats 2000000 in
theorem op_sound {cf : CallF} (hcf : FSound P cf) (hρ : ∀ v, ρ (.c v) = v) (htr : ∀ x io, tr x = some io → Rv M φ (ρ io) (σ x)) {m : Nat} {ts : List TypeId} {o : Oper} {r : Res} (h : evalOp cf (trOp P tr m ts o) ρ H n = some r) (hr : Ready M φ G w H n r) :
    OpSem P (execOp σ o) w (Post M φ G n w r) := by
  obtain ⟨dst, op, ty, pos, after, guard⟩ := o
  cases op <;> simp only [trOp] at h <;> first | (simp only [evalOp] at h; cases h; done) | skip
  case move x =>
    split at h <;> first | (simp only [evalOp] at h; cases h; done) | skip
    rename_i a ha
    simp only [evalOp] at h
    cases h
    exact OpSem.ofP (Post.pure (rd := []) hr.wr (htr x a ha))
  case assign x =>
    split at h <;> first | (simp only [evalOp] at h; cases h; done) | skip
    rename_i a ha
    simp only [evalOp] at h
    cases h
    exact OpSem.ofP (Post.pure (rd := []) hr.wr (htr x a ha))
  case pick c a b =>
    split at h <;> first | (simp only [evalOp] at h; cases h; done) | skip
    rename_i x y z hx hy hz
    have hc := htr c x hx
    simp only [evalOp] at h
    split at h
    · rename_i b' hc1
      rw [hc1] at hc
      cases h
      simp only [execOp]
      generalize σ c = vc at hc ⊢
      cases hc
      refine OpSem.value (w' := w) (by simp [asBool]; rfl) (Post.pure (rd := []) hr.wr ?_)
      cases b' with
      | true => simpa using htr a y hy
      | false => simpa using htr b z hz
    · cases h
  case alloc e =>
    split at h <;> first | (simp only [evalOp] at h; cases h; done) | skip
    rename_i z hz
    obtain ⟨i, zv, h1, h2, h3⟩ := tyZero_sound hz
    simp only [execOp]
    refine OpSem.ofV ?_
    obtain ⟨u, w', e1, e2⟩ := box_sound (P := P) (e := e) (v := zv) h hr (by rw [hρ]; exact cvV_sound h3)
    exact ⟨_, w', by simp [Instr.alloc, run_zero' h1 h2, e1], e2⟩
  case box e x =>
    split at h <;> first | (simp only [evalOp] at h; cases h; done) | skip
    rename_i a ha
    simp only [execOp]
    refine OpSem.ofV ?_
    obtain ⟨u, w', e1, e2⟩ := box_sound (P := P) (e := e) (v := σ x) h hr (htr x a ha)
    exact ⟨_, w', by simp [Instr.box, e1], e2⟩
  case build t parts =>
    simp only [execOp]
    exact OpSem.ofV (build_op htr h hr)
  case buildSlice t len parts =>
    simp only [execOp]
    exact OpSem.ofV (bslice_op htr h hr)
  case load t a =>
    simp only [execOp]
    exact OpSem.ofV (load_op htr h hr)
  case store t a v =>
    split at h <;> first | (simp only [evalOp] at h; cases h; done) | skip
    rename_i s x y hs hx hy
    simp only [evalOp] at h
    simp only [execOp]
    exact store_sound h hr (htr a x hx) (htr v y hy) hs
  case nilCheck x =>
    split at h <;> first | (simp only [evalOp] at h; cases h; done) | skip
    rename_i a ha
    have hx := htr x a ha
    simp only [evalOp] at h
    simp only [execOp]
    split at h <;> first | (cases h; done) | skip
    all_goals
      rename_i h1
      rw [h1] at hx h
      cases h
      generalize σ x = vx at hx ⊢
      have hx0 := hx
      cases hx
      exact OpSem.value (w' := w) rfl (Post.pure (rd := []) hr.wr hx0)
  case binOp op t x y yt =>
    simp only [execOp]
    exact OpSem.ofV (bin_op htr h hr)
  case unOp op t x =>
    split at h <;> first | (simp only [evalOp] at h; cases h; done) | skip
    rename_i a ha
    simp only [evalOp] at h
    split at h <;> first | (cases h; done) | skip
    rename_i v hv
    cases h
    obtain ⟨u, e1, e2⟩ := un_sound (P := P) (w := w) hv (htr x a ha)
    simp only [execOp]
    exact OpSem.ofV ⟨u, w, e1, Post.pure (rd := []) hr.wr e2⟩
  case convert src dst x =>
    split at h <;> first | (simp only [evalOp] at h; cases h; done) | skip
    rename_i a ds k ha hs hd
    have hx := htr x a ha
    simp only [evalOp] at h
    split at h <;> first | (cases h; done) | skip
    rename_i k' m' h1
    rw [h1] at hx
    cases h
    simp only [execOp]
    generalize σ x = vx at hx ⊢
    cases hx
    exact OpSem.ofV ⟨_, w, conv_sound hs hd, Post.pure (rd := []) hr.wr (.int _ _)⟩
  case makeInterface t x =>
    split at h <;> first | (simp only [evalOp] at h; cases h; done) | skip
    rename_i a d ha hd
    split at h <;> first | (simp only [evalOp] at h; cases h; done) | skip
    rename_i hni
    simp only [evalOp] at h
    cases h
    simp only [execOp]
    refine OpSem.ofV ⟨.iface t (σ x), w, ?_, Post.pure (rd := []) hr.wr (.iface t _ _ (htr x a ha))⟩
    cases d <;> simp [isIface] at hni <;> simp [Instr.makeInterface, run_underlying' hd]
  case makeFunc fn first caps =>
    cases fn <;> simp only at h <;> first | (simp only [evalOp] at h; cases h; done) | skip
    rename_i f
    split at h <;> first | (simp only [evalOp] at h; cases h; done) | skip
    rename_i a b ha hb
    simp only [evalOp] at h
    cases h
    simp only [execOp]
    have r1 := trOs_rvl htr ha
    have r2 := trOs_rvl htr hb
    exact OpSem.ofV ⟨_, w, rfl, Post.pure (rd := []) hr.wr (.func f _ _ _ _ r1.1 r2.1 r1.2 r2.2)⟩
  case makeMap t r' =>
    cases r' <;> simp only at h <;> first | (simp only [evalOp] at h; cases h; done) | skip
    simp only [execOp]
    exact OpSem.ofV (mkMap_sound h hr)
  case makeSlice t l c =>
    split at h <;> first | (simp only [evalOp] at h; cases h; done) | skip
    rename_i a b e ha hb hu
    split at h <;> first | (simp only [evalOp] at h; cases h; done) | skip
    rename_i k bytes zero hk hbytes hz
    split at h <;> first | (simp only [evalOp] at h; cases h; done) | skip
    rename_i h1
    obtain ⟨i, z, e1, e2, e3⟩ := zeroCells_sound (M := M) (φ := φ) hz
    simp only [execOp]
    exact OpSem.ofV (mkSlice_sound h hr hu e1 (tySize_sound hk e1) (tyBytes_sound hbytes e1) e2 e3 (htr l a ha) (htr c b hb) wrap64_small h1)
  case slice t x lo hi mx =>
    simp only [execOp]
    exact OpSem.ofV (slice_op htr h hr)
  case fieldAddr t x i =>
    split at h <;> first | (simp only [evalOp] at h; cases h; done) | skip
    rename_i a g off s ha hf
    split at h <;> first | (simp only [evalOp] at h; cases h; done) | skip
    rename_i hs0
    obtain ⟨fs, f, h1, h2, h3, h4, h5⟩ := trField_sound hf
    subst h5
    have hx := htr x a ha
    simp only [evalOp] at h
    simp only [execOp]
    split at h <;> first | (cases h; done) | skip
    · rename_i t' cs o hc
      rw [hc] at hx
      cases h
      generalize σ x = vx at hx ⊢
      obtain ⟨ad, rfl, e2⟩ := field_dp (off := f.offset) hx
      exact OpSem.ofV ⟨_, w, fieldAt_run h1 h2 h4 hs0, Post.pure (rd := []) hr.wr e2⟩
    · rename_i id ver k i' o hc
      rw [hc] at hx
      cases h
      generalize σ x = vx at hx ⊢
      obtain ⟨ad, rfl, e2⟩ := field_ptr (off := f.offset) hx
      exact OpSem.ofV ⟨_, w, fieldAt_run h1 h2 h4 hs0, Post.pure (rd := []) hr.wr e2⟩
  case field t x i =>
    split at h <;> first | (simp only [evalOp] at h; cases h; done) | skip
    rename_i a g off s ha hf
    obtain ⟨fs, f, h1, h2, h3, h4, h5⟩ := trField_sound hf
    subst h5
    have hx := htr x a ha
    simp only [evalOp] at h
    simp only [execOp]
    split at h <;> first | (cases h; done) | skip
    rename_i cs hc
    rw [hc] at hx
    split at h <;> first | (cases h; done) | skip
    rename_i v hp
    cases h
    generalize σ x = vx at hx ⊢
    cases hx with
    | agg _ vs a1 a2 a3 =>
      obtain ⟨u, e1, e2⟩ := part_sound (P := P) (w := w) (.agg cs vs a1 a2 a3) hp h3 h4
      exact OpSem.ofV ⟨u, w, by simp [Instr.field, run_underlying' h1, h2, asAgg, e1], Post.pure (rd := []) hr.wr e2⟩
  case indexAddr t x i =>
    simp only [execOp]
    exact OpSem.ofV (idx_op htr h hr)
  case index t x i =>
    split at h <;> first | (simp only [evalOp] at h; cases h; done) | skip
    rename_i a b ha hb hu
    have hx := htr x a ha
    have hi := htr i b hb
    simp only [evalOp] at h
    simp only [execOp]
    split at h <;> first | (cases h; done) | skip
    rename_i s kk j h1 h2
    rw [h1] at hx
    rw [h2] at hi
    split at h <;> first | (cases h; done) | skip
    rename_i h0
    split at h <;> first | (cases h; done) | skip
    rename_i bt hbt
    cases h
    generalize σ x = vx at hx ⊢
    generalize σ i = vi at hi ⊢
    cases hx
    cases hi
    exact OpSem.ofV ⟨_, w, by simp [Instr.index, asIntOf, run_underlying' hu, h0, hbt], Post.pure (rd := []) hr.wr (.int _ _)⟩
  case lookup t x i ok =>
    split at h <;> first | (simp only [evalOp] at h; cases h; done) | skip
    rename_i a b c e ha hb hm
    split at h <;> first | (simp only [evalOp] at h; cases h; done) | skip
    rename_i z hz
    obtain ⟨k, h1, h2⟩ := trMap_sound hm
    obtain ⟨ti, zv, e1, e2, e3⟩ := tyZero_sound hz
    simp only [execOp]
    exact OpSem.ofV (lookup_sound h hr (htr x a ha) (htr i b hb) h1 h2 e1 e2 (cvV_sound e3))
  case mapUpdate t x k v =>
    split at h <;> first | (simp only [evalOp] at h; cases h; done) | skip
    rename_i a b z c e ha hb hz hm
    obtain ⟨kt, h1, h2⟩ := trMap_sound hm
    simp only [execOp]
    exact OpSem.ofU (mapSet_sound h hr (htr x a ha) (htr k b hb) (htr v z hz) h1 h2)
  case insert t x k v =>
    split at h <;> first | (simp only [evalOp] at h; cases h; done) | skip
    rename_i a b z c e ha hb hz hm
    obtain ⟨kt, h1, h2⟩ := trMap_sound hm
    simp only [execOp]
    exact OpSem.ofU (mapSet_sound h hr (htr x a ha) (htr k b hb) (htr v z hz) h1 h2)
  case mapEntry t x k =>
    split at h <;> first | (simp only [evalOp] at h; cases h; done) | skip
    rename_i a b c e ha hb hm
    split at h <;> first | (simp only [evalOp] at h; cases h; done) | skip
    rename_i z hz
    obtain ⟨kt, h1, h2⟩ := trMap_sound hm
    obtain ⟨ti, zv, e1, e2, e3⟩ := tyZero_sound hz
    simp only [execOp]
    exact OpSem.ofV (mapEntry_sound h hr (htr x a ha) (htr k b hb) h1 h2 e1 e2 (cvV_sound e3))
  case entryStore t x s v =>
    split at h <;> first | (simp only [evalOp] at h; cases h; done) | skip
    rename_i a b c ha hb hc
    simp only [execOp]
    exact OpSem.ofU (entrySet_sound h hr (htr x a ha) (htr s b hb) (htr v c hc))
  case range t x =>
    split at h <;> first | (simp only [evalOp] at h; cases h; done) | skip
    rename_i a k e ha hu
    simp only [execOp]
    exact OpSem.ofV (range_sound hu h hr (htr x a ha))
  case next x str =>
    split at h <;> first | (simp only [evalOp] at h; cases h; done) | skip
    rename_i a ha
    cases str with
    | true => simp only [if_true, evalOp] at h; cases h
    | false =>
      simp only [execOp]
      exact OpSem.ofV (next_sound (by simpa using h) hr (htr x a ha))
  case typeAssert x xt t ok =>
    split at h <;> first | (simp only [evalOp] at h; cases h; done) | skip
    rename_i a d z ha hd hz
    split at h <;> first | (simp only [evalOp] at h; cases h; done) | skip
    rename_i hni
    obtain ⟨ti, zv, e1, e2, e3⟩ := tyZero_sound hz
    have hx := htr x a ha
    simp only [evalOp] at h
    simp only [execOp]
    have hzr : Rv M φ z zv := cvV_sound e3
    split at h <;> first | (cases h; done) | skip
    · rename_i u v hc
      rw [hc] at hx
      generalize σ x = vx at hx ⊢
      cases hx with
      | iface _ _ vv hvv =>
      split at h
      · rename_i hut
        subst hut
        cases h
        refine OpSem.ofV ⟨if ok then .tuple #[vv, .bool true] else vv, w, ?_, Post.pure (rd := []) hr.wr ?_⟩
        · cases d <;> simp [isIface] at hni <;> cases ok <;> simp [Instr.typeAssert, run_underlying' hd]
        · cases ok with
          | true => simpa using pair_rv hvv (.bool true)
          | false => simpa using hvv
      · rename_i hut
        split at h
        · rename_i hok
          cases h
          refine OpSem.ofV ⟨.tuple #[zv, .bool false], w, ?_, Post.pure (rd := []) hr.wr (pair_rv hzr (.bool false))⟩
          cases d <;> simp [isIface] at hni <;> simp [Instr.typeAssert, run_underlying' hd, hut, hok, run_zero' e1 e2]
        · cases h
    · rename_i hc
      rw [hc] at hx
      generalize σ x = vx at hx ⊢
      cases hx
      split at h
      · rename_i hok
        cases h
        refine OpSem.ofV ⟨.tuple #[zv, .bool false], w, ?_, Post.pure (rd := []) hr.wr (pair_rv hzr (.bool false))⟩
        cases d <;> simp [isIface] at hni <;> simp [Instr.typeAssert, run_underlying' hd, hok, run_zero' e1 e2]
      · cases h
  case extract x i =>
    split at h <;> first | (simp only [evalOp] at h; cases h; done) | skip
    rename_i a ha
    have hx := htr x a ha
    simp only [evalOp] at h
    simp only [execOp]
    split at h <;> first | (cases h; done) | skip
    rename_i vs hc
    rw [hc] at hx
    split at h <;> first | (cases h; done) | skip
    rename_i hi
    cases h
    generalize σ x = vx at hx ⊢
    cases hx with
    | tup _ us h1 h2 =>
      have hlt : i < us.size := by omega
      refine OpSem.ofV ⟨us.getD i undef, w, ?_, Post.pure (rd := []) hr.wr (h2 i hi)⟩
      have hget : us[i]? = some (us.getD i undef) := by rw [Array.getElem?_eq_getElem hlt]; simp [Array.getD, hlt]
      simp only [Instr.extract]
      rw [hget]
      rfl
  case call c =>
    simp only [execOp]
    exact call_op hcf htr h hr

end
end Go.Vm
