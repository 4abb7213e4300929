/-
  StoreDoubles: types that double, chained, are told as far as they are types; too large beyond; none in a ring. No condition.
-/
import Derived.Test.YtebfimcapoekjaaGreatRows
import Derived.ProofKit
import Derived.OpenShut
import Derived.Carry
import Derived.Test.YtebfimcapoekjaaGreatMg
namespace Go.Proofs.YtebfimcapoekjaaGreat.storeDoubles
open Go.ChangeShapes Go.WideShapes Go.ChangeAt Go.RowKit Go.Vm
set_option maxRecDepth 100000
theorem own : ownKnob Tryz.prog.godebug = none := by kernel_rfl
theorem laidOut : laidOutB Tryz.prog = true := by kernel_rfl
theorem cmp_next : Extern.findNext Tryz.f272 = none := by kernel_rfl
theorem add_next : Extern.findNext Tryz.f278 = none := by kernel_rfl
theorem cmp_ext : ExtOk Tryz.prog 272 extCmp := extCmp_ok Tryz.func272 (by kernel_rfl) (by kernel_rfl) cmp_next (by kernel_rfl)
theorem add_ext : ExtOk Tryz.prog 278 extAdd := extAdd_ok Tryz.func278 (by kernel_rfl) (by kernel_rfl) add_next (by kernel_rfl)
theorem sub_next : Extern.findNext Tryz.f279 = none := by kernel_rfl
theorem sub_ext : ExtOk Tryz.prog 279 extSub := extSub_ok Tryz.func279 (by kernel_rfl) (by kernel_rfl) sub_next (by kernel_rfl)
theorem envOk : EnvOk Tryz.prog Genv where
  prog f I h := by
    have := AllOk.at G_all (j := f) h
    simpa using this
  ext f g h := by
    simp only [Genv, Gext] at h
    split at h
    · rename_i e; subst e; cases h; exact cmp_ext
    · split at h
      · rename_i e; subst e; cases h; exact add_ext
      · split at h
        · rename_i e; subst e; cases h; exact sub_ext
        · cases h
  mix := by kernel_rfl
/-- all memory there is -/
def still (W : World) : Mem := fun t a => if t = true then none else W.cell? a
theorem still_wr (W : World) : WR (still W) noPlaces (Heap.get []) W where
  mem t a v h := by
    unfold still at h
    split at h
    · cases h
    · exact h
  obj id o h := by simp [Heap.get] at h
  inj i j x y l m h := by simp [Heap.get] at h
  sep t a v _ := own_none
theorem enter_run {P : Program} {f : FuncId} {fn : Func} {args : Array Value} {w : World} (hf : P.funcs[f]? = some fn) (h1 : ¬ fn.name = "runtime.NumGoroutine") (h2 : fn.body.isNone = false) : (callFunc f args).run P w = .ok (.enter f args) w := by
  simp only [Option.isNone_eq_false_iff] at h2
  cases hb : fn.body with
  | none => rw [hb] at h2; simp at h2
  | some c => simp [callFunc, hf, h1, hb]
theorem spot_of {P : Program} {w : World} {r : Reach} {base : Nat} {t e : TypeId} {a : Addr} {len cap : Nat} (hu : P.underlying t = some (.slice e)) (h : Value.okWide P w r base t (.slice (some a) len cap)) : a.spot = none := by
  unfold Value.okWide at h
  simp only [hu, Cell.okWide, Cell.ok, World.has] at h
  exact h.2.2.2.1
theorem rows_of (zs : List Int) : (zs.map fun z => [PV.int .i64 z]).length = zs.length := by simp
theorem walk {v0 : Value} {p : PV} {W : World} (hv : Rv (still W) noPlaces p v0) (h : ∃ H n, Gf 3 [p] [] 0 = some (.bool true, H, n)) :
    Calls Tryz.prog 3 #[v0] W fun e W' => e = .returned (.bool true) ∧ Below W.heap.size W W' := by
  obtain ⟨H, n, h⟩ := h
  obtain ⟨k, h⟩ := (lim_iff _).1 h
  have hs := evalF_sound envOk k 3 [p] [] 0 _ _ _ h (still W) noPlaces W #[v0] (still_wr W) (noPlaces_fresh 0) ⟨rfl, fun j hj => by
    match j, hj with
    | 0, _ => exact hv⟩
  have hcall := enter_run (args := #[v0]) (w := W) Tryz.func3 (by decide +kernel) (by kernel_rfl)
  simp only [OpSem, hcall] at hs
  refine hs.mono ?_
  rintro e W' ⟨v, rfl, M', φ', h1, h2, h3, _, _⟩
  cases h1
  exact ⟨rfl, h3.os, h3.tape, h3.output, h3.size, fun b hb => h3.block b hb own_none⟩
theorem contract (H : Type) (enc : TypeId × Value → H) (W : World) (base : Nat) (args : Array Value) (ds gs : List (DataW H)) (before : List MemPlace)
    (hval : ∀ (j : Nat) t v, Tryz.f3.params[j]? = some t → args[j]? = some v → Value.okWide Tryz.prog W .any base t v)
    (hW : DataW.Whole enc Tryz.prog Tryz.f3.params.toList Rows.storeDoublesSpec.vars false W args.toList ds gs before) :
    Calls Tryz.prog 3 args W fun e W' => ∃ v, e = .returned v ∧ Rows.storeDoublesSpec.post enc Tryz.prog Tryz.f3 false true false false W args v W' := by
  have hW' := hW
  obtain ⟨p, q, hA0, hV, rfl, hfz, hnd⟩ := hW
  have hA : DataW.TrodAll enc Tryz.prog W 0 (fun _ => true) true Tryz.f3.params.toList args.toList ds p := hA0
  rw [Tryz.params3] at hA hval
  obtain ⟨v0, d0, rfl, rfl, h0⟩ := trodAll_one hA
  obtain ⟨rfl, rfl⟩ := trodVars_none hV
  have hrun : ∃ pv, Rv (still W) noPlaces pv v0 ∧ ∃ H n, Gf 3 [pv] [] 0 = some (.bool true, H, n) := by
    obtain ⟨fuel, hf⟩ := h0
    obtain ⟨av, len0, cap0, rfl⟩ := okWide_slice Tryz.underlying22 (hval 0 22 v0 rfl rfl)
    rcases open_ints Tryz.underlying22 Tryz.underlying3 (show Tryz.prog.cellsOf 3 = 1 by kernel_rfl) hf with ⟨hcs, hx⟩ | ⟨a, len', cap', zs, hcs, _, hl, hm, hz, hx, hcell, hwz⟩
    · simp [Value.cells] at hcs
      obtain ⟨rfl, rfl, rfl⟩ := hcs
      exact ⟨.nils, .nils, law_nil⟩
    · simp [Value.cells] at hcs
      obtain ⟨rfl, rfl, rfl⟩ := hcs
      have hsp := spot_of Tryz.underlying22 (hval 0 22 _ rfl rfl)
      simp only [if_true] at hz
      have ha : a = cellOf a.block a.off := cellOf_eta hsp
      refine ⟨.data 1 ((zs.take len0).map fun z => [PV.int .i64 z]) .part, ?_, law_run (fun i hi => ?_)⟩
      · have hlen : ((zs.take len0).map fun z => [PV.int .i64 z]).length = len0 := by simp; omega
        have hget : ∀ i, i < len0 → ((zs.take len0).map fun z => [PV.int .i64 z]).getD i [] = [PV.int .i64 (zs.getD i 0)] := by
          intro i hi
          have : i < zs.length := by omega
          simp [List.getD_eq_getElem?_getD, hi, this]
        have hrv : Rv (still W) noPlaces (.data 1 ((zs.take len0).map fun z => [PV.int .i64 z]) .part) (.slice (some (cellOf a.block a.off)) ((zs.take len0).map fun z => [PV.int .i64 z]).length cap0) := by
          refine .data 1 _ .part a.block a.off cap0 (fun i _ => .int .i64 (zs.getD i 0)) ?_ (by rw [hlen]; exact hl) (fun h => by cases h) ?_ ?_ ?_ ?_
          · intro x hx c hc
            obtain ⟨z, _, rfl⟩ := List.mem_map.1 hx
            simp at hc
            subst hc
            exact .int _ _ _
          · intro i hi
            rw [hlen] at hi
            rw [hget i hi]; rfl
          · intro i j hi hj
            rw [hlen] at hi
            have hj0 : j = 0 := by omega
            subst hj0
            have := hcell i (by omega)
            simp only [still, Fl.isTmp, Bool.false_eq_true, if_false, Nat.mul_one, Nat.add_zero]
            rw [ha, cellOf_add] at this
            exact this
          · intro i j hi hj; rfl
          · intro i j hi hj
            rw [hlen] at hi
            have hj0 : j = 0 := by omega
            subst hj0
            rw [hget i hi]
            exact .int _ _
        rw [hlen, ← ha] at hrv
        exact hrv
      · simp only [List.length_map] at hi
        have h2 : i < zs.length := by simp at hi; omega
        have h3 : i < len0 := by simp at hi; omega
        exact ⟨zs[i], by simp [h2, h3]⟩
  obtain ⟨pv, hpv, hev⟩ := hrun
  refine (walk hpv hev).mono fun e W' ⟨he, hb⟩ => ?_
  subst he
  refine ⟨_, rfl, [d0], [], p ++ [], [], p, [], hW', ?_, ?_, ?_, hb.frame _, fun h => by cases h⟩
  · exact trodAll_cons_mk (p := []) (p' := []) (shut_bool Tryz.underlying4 _) trodAll_mk0
  · exact trodAll_mk1 (Below.trod laidOut (by kernel_rfl) (of_decide_eq_true (by kernel_rfl)) h0 hb (fun x hx => hW'.lt x (by simpa using hx)))
  · simp [DataW.TrodVars, Rows.storeDoublesSpec]
set_option maxRecDepth 100000 in
theorem lifted (os : Os) (started : os.Started) (H : Type) (enc : TypeId × Value → H) :
    ReturnsInHanded {} Tryz.checked os 3 .any (Rows.storeDoublesSpec.pre6 enc Tryz.prog Tryz.f3 Rows.storeDoublesRow.domain false) (Rows.storeDoublesSpec.post enc Tryz.prog Tryz.f3 false true false false) := by
  refine returnsInHanded_of_change (C := Tryz.checked) own started (by kernel_rfl) Tryz.func3
    (ChangeSpec.witness6 (enc := enc) (C := Tryz.checked) false ⟨#[], #[.slice none 0 0], []⟩ 8 (by kernel_rfl) (by kernel_rfl) (by kernel_rfl) (by kernel_rfl)) ?_
  intro W base args ds gs before hval0 hW hcnd _
  exact contract H enc W base args ds gs before hval0 hW
theorem proved : Rows.StoreDoublesSaid :=
  OpenClaim.holds_of_wide 3 Tryz.f3 rfl rfl rfl rfl rfl rfl rfl ⟨rfl, rfl, rfl, rfl, rfl⟩ rfl rfl rfl rfl rfl (by kernel_rfl) Tryz.func3 (by kernel_rfl)
    (of_decide_eq_true (by kernel_rfl)) (by unfold Func.isWrapper; first | (rw [if_pos (by decide +kernel)]; kernel_rfl) | (rw [if_neg (by decide +kernel)]; exact ⟨rfl, rfl⟩))
    (fun os started H enc _ => lifted os started H enc)
end Go.Proofs.YtebfimcapoekjaaGreat.storeDoubles
