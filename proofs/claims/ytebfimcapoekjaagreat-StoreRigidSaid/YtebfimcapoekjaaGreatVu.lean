/-
  FUNCTIONS: the evaluator is sound for every fuel.
-/
import Derived.Test.YtebfimcapoekjaaGreatVt
namespace Go.Vm

/-- what is said of a function with no translation -/
def ExtOk (P : Program) (f : FuncId) (g : List PV → Heap → Nat → Option (PV × Heap × Nat)) : Prop :=
  FSound P (fun f' args H n => if f' = f then g args H n else none) ∧ ∀ args H n r H' n', g args H n = some (r, H', n') → n ≤ n' ∧ ∀ id, id < n → H.get id = none → H'.get id = none

structure EnvOk (P : Program) (E : Env) : Prop where
  prog : ∀ f I, E.prog f = some I → ∃ live hs ts, trFunc P f live hs ts = some I
  ext : ∀ f g, E.ext f = some g → ExtOk P f g
  mix : P.follows .mixedOrders = true

theorem tupled_of (vs : List PV) : tupled vs = match vs with | [v] => v | vs => .tup vs := by
  unfold tupled; rfl

theorem evalF_rising {P : Program} {E : Env} (hE : EnvOk P E) : ∀ k, Rising (evalF E k)
  | 0 => fun f args H n r H' n' h => by simp [evalF] at h
  | k + 1 => fun f args H n r H' n' h => by
    have ih := evalF_rising hE k
    unfold evalF at h
    split at h
    · rename_i g hg
      exact (hE.ext f g hg).2 _ _ _ _ _ _ h
    · split at h
      · cases h
      · rename_i I hI
        have key : ∀ {ex s}, evalC (evalF E k) k I.body ⟨start I.live args, H, n⟩ = some (ex, s) → n ≤ s.n ∧ ∀ id, id < n → H.get id = none → s.H.get id = none := fun h => evalC_rose ih k _ h
        split at h
        · rename_i s hs
          split at h
          · cases h; exact key hs
          · cases h
        · rename_i s hs
          split at h
          · cases h; exact key hs
          · cases h
        · cases h

theorem evalF_sound {P : Program} {E : Env} (hE : EnvOk P E) : ∀ k, FSound P (evalF E k)
  | 0 => fun f args H n r H' n' h => by simp [evalF] at h
  | k + 1 => fun f args H n r H' n' h M φ w vs hw hfr hargs => by
    have ih := evalF_sound hE k
    have hrise := evalF_rising hE k
    unfold evalF at h
    split at h
    · rename_i g hg
      exact (hE.ext f g hg).1 f args H n r H' n' (by simpa using h) M φ w vs hw hfr hargs
    · split at h
      · cases h
      · rename_i I hI
        obtain ⟨live, hs, ts, htr⟩ := hE.prog f I hI
        unfold trFunc at htr
        split at htr
        · rename_i fn hfn
          split at htr
          · cases htr
          · rename_i hname
            split at htr
            · rename_i c hbody
              split at htr
              · rename_i b rs hb hrs
                cases htr
                -- the call
                have hgo : ∀ {ex : Ex} {s : St} {us : List PV}, ex = .normal ∨ ex = .ret → evalC (evalF E k) k b ⟨start live args, H, n⟩ = some (ex, s) → evalResults s.S s.H rs = some us →
                    OpSem P (callFunc f vs) w fun v w' => ∃ M' φ', Rv M' φ' (tupled us) v ∧ WR M' φ' s.H.get w' ∧ Ext M φ H.get n w M' φ' s.H.get s.n w' ∧ Fresh φ' s.n ∧ (∀ id ver, id < n → H.get id = none → φ' id ver = φ id ver) := by
                  intro ex s us hex hev hres
                  have hcall : (callFunc f vs).run P w = .ok (.enter f vs) w := by
                    have hn : ¬ fn.name = "runtime.NumGoroutine" := by simpa using hname
                    simp [callFunc, hfn, hbody, hn]
                  refine OpSem.enter hcall (calls_of_wp hfn hbody ?_)
                  have hat : Stands M φ H n w live fn.ntmps ⟨start live args, H, n⟩ { tmps := vs ++ Array.replicate (fn.ntmps - vs.size) undef, defers := [] } w := by
                    refine ⟨M, φ, ⟨by simp; omega, rfl, by simp [start], ?_⟩, hw, .refl _ _ _ _ _, hfr, fun _ _ _ _ => rfl, fun _ _ h => h⟩
                    intro p s hp
                    have hlt := (List.getElem?_eq_some_iff.1 hp).1
                    have e : (start live args).getD p .any = if s < args.length then args.getD s .any else .tup [] := by
                      simp [start, List.getD_eq_getElem?_getD, List.getElem?_map, hp]
                    simp only [e]
                    by_cases hs : s < args.length
                    · rw [if_pos hs]
                      have : s < vs.size := by rw [hargs.1]; exact hs
                      have e2 : (vs ++ Array.replicate (fn.ntmps - vs.size) undef).getD s undef = vs.getD s undef := by
                        simp only [Array.getD_eq_getD_getElem?, Array.getElem?_append_left this]
                      rw [e2]; exact hargs.2 s hs
                    · rw [if_neg hs]
                      have : ¬ s < vs.size := by rw [hargs.1]; exact hs
                      have e2 : (vs ++ Array.replicate (fn.ntmps - vs.size) undef).getD s undef = undef := by
                        simp only [Array.getD_eq_getD_getElem?]
                        rw [Array.getElem?_append_right (by omega)]
                        by_cases h2 : s - vs.size < fn.ntmps - vs.size
                        · simp [h2]
                        · simp [h2]
                      rw [e2]; exact .tup [] #[] rfl (fun j hj => by simp at hj)
                  refine wp_mono (code_sound ih hrise hE.mix k c hb hev hat) ?_
                  rintro e a' w' ⟨rfl, M', φ', hat'⟩
                  obtain ⟨v, hv, hrv⟩ := whole_results (P := P) (fn := fn) hat'.frm hat'.wr hrs hres
                  have : bodyPost P fn (fun e w'' => ∃ v, e = .returned v ∧ ∃ M' φ', Rv M' φ' (tupled us) v ∧ WR M' φ' s.H.get w'' ∧ Ext M φ H.get n w M' φ' s.H.get s.n w'' ∧ Fresh φ' s.n ∧ (∀ id ver, id < n → H.get id = none → φ' id ver = φ id ver)) .normal a' w' :=
                    ⟨hat'.frm.defers, v, hv, v, rfl, M', φ', hrv, hat'.wr, hat'.ext, hat'.fresh, hat'.low⟩
                  rcases hex with rfl | rfl <;> exact this
                simp only at h
                split at h
                · rename_i s hs
                  split at h
                  · rename_i us hus
                    cases h; exact hgo (.inl rfl) hs hus
                  · cases h
                · rename_i s hs
                  split at h
                  · rename_i us hus
                    cases h; exact hgo (.inr rfl) hs hus
                  · cases h
                · cases h
              · cases htr
            · cases htr
        · cases htr

end Go.Vm
