/-
  CODE AND FUNCTIONS.
-/
import Derived.Test.YtebfimcapoekjaaGreatVs
import Derived.Scope
import Derived.LoopN
namespace Go.Vm

def slotL (live : List Nat) (s : Nat) : Option Src := (live.idxOf? s).map .x

def trCode (P : Program) (live : List Nat) (ntmps : Nat) (hs : List (Nat × List Nat)) (ts : List TypeId) : Code → Option ICode
  | .skip => some .skip
  | .label _ => some .skip
  | .region id ops draw => (trRegion P live ntmps ((hs.lookup id).getD []) ts ops draw).map .reg
  | .seq a b =>
    match trCode P live ntmps hs ts a, trCode P live ntmps hs ts b with
    | some x, some y => some (.seq x y)
    | _, _ => none
  | .cond c a b =>
    match trO (slotL live) c, trCode P live ntmps hs ts a, trCode P live ntmps hs ts b with
    | some z, some x, some y => some (.cond z x y)
    | _, _, _ => none
  | .block id a => (trCode P live ntmps hs ts a).map (.block id)
  | .loop a => (trCode P live ntmps hs ts a).map .loop
  | .scope a => trCode P live ntmps hs ts a
  | .exit id => some (.exit id)
  | .ret => some .ret
  | _ => some .bad

def trResult (P : Program) (live : List Nat) : ResultVar → Option IRes
  | .tmp t => (slotL live t).map .val
  | .cell a t =>
    match slotL live a, tyAgg P t, tySize P t with
    | some x, some g, some s => some (.cell x g s)
    | _, _, _ => none

def trResults (P : Program) (live : List Nat) : List ResultVar → Option (List IRes)
  | [] => some []
  | r :: rs =>
    match trResult P live r, trResults P live rs with
    | some a, some as => some (a :: as)
    | _, _ => none

def trFunc (P : Program) (f : FuncId) (live : List Nat) (hs : List (Nat × List Nat)) (ts : List TypeId) : Option IFunc :=
  match P.funcs[f]? with
  | some fn =>
    if fn.name == "runtime.NumGoroutine" then none
    else
      match fn.body with
      | some c =>
        match trCode P live fn.ntmps hs ts c, trResults P live fn.results.toList with
        | some b, some rs => some ⟨live, b, rs⟩
        | _, _ => none
      | none => none
  | none => none

def Ex.to : Ex → Exit
  | .normal => .normal
  | .exit id => .exit id
  | .ret => .ret

section
variable {P : Program} {cf : CallF} {M₀ : Mem} {φ₀ : Places} {H₀ : Heap} {n₀ : Nat} {w₀ : World} {lv : List Nat} {ntmps : Nat} {hs : List (Nat × List Nat)} {ts : List TypeId}

theorem reg_sound {Q : Exit → Act → World → Prop} {id : Nat} {ops : Array Oper} {draw : Bool} {hints : List Nat} {r : IReg} {s s' : St} {a : Act} {w : World} (hcf : FSound P cf) (hrise : Rising cf) (hmix : P.follows .mixedOrders = true)
    (htr : trRegion P lv ntmps hints ts ops draw = some r) (hev : evalR cf r s = some s') (hat : Stands M₀ φ₀ H₀ n₀ w₀ lv ntmps s a w)
    (hQ : ∀ a' w', Stands M₀ φ₀ H₀ n₀ w₀ lv ntmps s' a' w' → Q .normal a' w') : (Code.region id ops draw).wp P Q a w := by
  obtain ⟨M, φ, hat⟩ := hat
  unfold trRegion at htr
  split at htr
  · rename_i hc
    simp only [Bool.and_eq_true] at hc
    obtain ⟨hd, hg⟩ := hc
    have hlen : (regOps P lv hints ts ops).length = ops.size := by simp [regOps]
    cases draw with
    | true =>
      simp only [if_true] at htr
      split at htr
      · rename_i hmo
        simp only [Bool.and_eq_true] at hmo
        cases htr
        unfold evalR at hev
        simp only at hev
        split at hev
        · rename_i T H n L hops
          split at hev
          · rename_i hor
            cases hev
            obtain ⟨h1, Hs, ns, h2, h3, h4, h5, ht⟩ := told_of hops
            rw [hlen] at h1 h4 h5
            refine wp_region_any hmix ?_
            refine inv_any hcf hrise hd hg hmo.1 hmo.2 h1 ht (by rw [h2, h3]; exact hor) (M := M) (φ := φ) (G := s.H.get) (n := s.n) (w := w) ?_ ops.size _ (by simp) ?_ ?_ a _ M φ s.H.get ?_
            · intro a' w' M' φ' G' hinv
              have := inv_end hrise hat h2 h3 ht hinv (fun i => Iff.rfl)
              rw [h4, h5] at this
              exact hQ a' w' this
            · simp
            · intro i k hk hi
              simp [Array.getD, Array.getElem_replicate] at hi
            · have e : (fun j => (Array.replicate ops.size false).getD j false = true) = fun _ => False := by
                funext j
                refine propext ⟨fun h => ?_, False.elim⟩
                simp [Array.getD, Array.getElem_replicate] at h
              rw [e]
              exact inv_start hat h2 h3 rfl rfl rfl rfl
          · cases hev
        · cases hev
      · cases htr
    | false =>
      simp only [Bool.false_eq_true, if_false] at htr
      cases htr
      unfold evalR at hev
      simp only at hev
      split at hev
      · rename_i T H n L hops
        cases hev
        obtain ⟨h1, Hs, ns, h2, h3, h4, h5, ht⟩ := told_of hops
        rw [hlen] at h1 h4 h5
        refine wp_region ?_
        rw [List.range_eq_range']
        refine inv_list hcf hrise hd hg ht (M := M) (φ := φ) (G := s.H.get) (n := s.n) (w := w) ?_ ops.size 0 (by omega) a w M φ s.H.get ?_
        · intro a' w' M' φ' G' hinv
          have := inv_end hrise hat h2 h3 ht hinv (fun i => Iff.rfl)
          rw [h4, h5] at this
          exact hQ a' w' this
        · have e : (fun j => j < 0) = fun _ => False := by funext j; simp
          rw [e]
          exact inv_start hat h2 h3 rfl rfl rfl rfl
      · cases hev
  · cases htr

theorem slotL_spec {live : List Nat} {s : Nat} {io : Src} (h : slotL live s = some io) : ∃ p, live[p]? = some s ∧ io = .x p := by
  simp only [slotL, Option.map_eq_some_iff] at h
  obtain ⟨p, hp, rfl⟩ := h
  refine ⟨p, ?_, rfl⟩
  have := List.of_findIdx?_eq_some hp
  cases hl : live[p]? with
  | none => simp [hl] at this
  | some x => simp [hl] at this; rw [this]

theorem trO_live {M : Mem} {φ : Places} {S : List PV} {a : Act} (hf : Frm M φ lv ntmps S a) {x : Operand} {io : Src} (h : trO (slotL lv) x = some io) : Rv M φ (io.ev S []) (a.eval x) := by
  cases x with
  | tmp s =>
    simp only [trO] at h
    obtain ⟨p, hp, rfl⟩ := slotL_spec h
    exact hf.slots p s hp
  | const v =>
    simp only [trO, Option.map_eq_some_iff] at h
    obtain ⟨p, hp, rfl⟩ := h
    exact cvV_sound hp
  | global g =>
    simp only [trO, Option.some.injEq] at h
    subst h
    exact .any _
  | func f =>
    simp only [trO, Option.some.injEq] at h
    subst h
    exact .func f [] [] #[] #[] rfl rfl (fun j hj => by simp at hj) (fun j hj => by simp at hj)

theorem code_sound (hcf : FSound P cf) (hrise : Rising cf) (hmix : P.follows .mixedOrders = true) (k : Nat) : ∀ (c : Code) {ic : ICode} {s s' : St} {ex : Ex} {a : Act} {w : World}, trCode P lv ntmps hs ts c = some ic → evalC cf k ic s = some (ex, s') →
    Stands M₀ φ₀ H₀ n₀ w₀ lv ntmps s a w → c.wp P (fun e a' w' => e = ex.to ∧ Stands M₀ φ₀ H₀ n₀ w₀ lv ntmps s' a' w') a w := by
  intro c
  induction c with
  | skip => intro ic s s' ex a w htr hev hat; simp only [trCode] at htr; cases htr; simp only [evalC] at hev; cases hev; exact wp_skip ⟨rfl, hat⟩
  | label l => intro ic s s' ex a w htr hev hat; simp only [trCode] at htr; cases htr; simp only [evalC] at hev; cases hev; exact wp_label ⟨rfl, hat⟩
  | region id ops draw =>
    intro ic s s' ex a w htr hev hat
    simp only [trCode, Option.map_eq_some_iff] at htr
    obtain ⟨r, hr, rfl⟩ := htr
    simp only [evalC] at hev
    split at hev
    · rename_i s1 h1
      cases hev
      exact reg_sound hcf hrise hmix hr h1 hat (fun a' w' h => ⟨rfl, h⟩)
    · cases hev
  | seq x y ihx ihy =>
    intro ic s s' ex a w htr hev hat
    simp only [trCode] at htr
    split at htr
    · rename_i ix iy hx hy
      cases htr
      simp only [evalC] at hev
      split at hev
      · rename_i s1 h1
        refine wp_seq (wp_mono (ihx hx h1 hat) ?_)
        rintro e a1 w1 ⟨rfl, hat1⟩
        exact ihy hy hev hat1
      · rename_i hne
        refine wp_seq (wp_mono (ihx hx hev hat) ?_)
        rintro e a1 w1 ⟨rfl, hat1⟩
        cases ex with
        | normal => exact absurd hev (hne s')
        | exit id => exact ⟨rfl, hat1⟩
        | ret => exact ⟨rfl, hat1⟩
    · cases htr
  | cond c x y ihx ihy =>
    intro ic s s' ex a w htr hev hat
    simp only [trCode] at htr
    split at htr
    · rename_i z ix iy hz hx hy
      cases htr
      simp only [evalC] at hev
      obtain ⟨M, φ, hat'⟩ := id hat
      have hv := trO_live hat'.frm hz
      generalize z.ev s.S [] = zv at hev hv
      generalize hav : a.eval c = av at hv
      split at hev
      · cases hv
        exact wp_cond_true hav (ihx hx hev hat)
      · cases hv
        exact wp_cond_false hav (ihy hy hev hat)
      · cases hev
    · cases htr
  | block id x ih =>
    intro ic s s' ex a w htr hev hat
    simp only [trCode, Option.map_eq_some_iff] at htr
    obtain ⟨ix, hx, rfl⟩ := htr
    simp only [evalC] at hev
    split at hev
    · rename_i i s1 h1
      refine wp_block (wp_mono (ih hx h1 hat) ?_)
      rintro e a1 w1 ⟨rfl, hat1⟩
      by_cases hi : i = id
      · rw [if_pos hi] at hev
        cases hev
        simp only [Ex.to, Exit.inBlock, hi, if_true]
        exact ⟨trivial, hat1⟩
      · rw [if_neg hi] at hev
        cases hev
        simp only [Ex.to, Exit.inBlock, hi, if_false]
        exact ⟨trivial, hat1⟩
    · rename_i hne
      refine wp_block (wp_mono (ih hx hev hat) ?_)
      rintro e a1 w1 ⟨rfl, hat1⟩
      cases ex with
      | normal => exact ⟨rfl, hat1⟩
      | exit id => exact absurd hev (hne id s')
      | ret => exact ⟨rfl, hat1⟩
  | loop x ih =>
    intro ic s s' ex a w htr hev hat
    simp only [trCode, Option.map_eq_some_iff] at htr
    obtain ⟨ix, hx, rfl⟩ := htr
    simp only [evalC] at hev
    refine wp_loop_rounds k ?_
    have key : ∀ (m : Nat) (s : St) (a : Act) (w : World), iter (fun s' => evalC cf k ix s') m s = some (ex, s') → Stands M₀ φ₀ H₀ n₀ w₀ lv ntmps s a w →
        Code.rounds P x (fun e a' w' => e = ex.to ∧ Stands M₀ φ₀ H₀ n₀ w₀ lv ntmps s' a' w') m a w := by
      intro m
      induction m with
      | zero => intro s a w h _; simp [iter] at h
      | succ m ihm =>
        intro s a w h hat
        simp only [iter] at h
        rw [rounds_succ]
        split at h
        · rename_i s1 h1
          refine wp_mono (ih hx h1 hat) ?_
          rintro e a1 w1 ⟨rfl, hat1⟩
          exact ihm s1 a1 w1 h hat1
        · rename_i hne
          refine wp_mono (ih hx h hat) ?_
          rintro e a1 w1 ⟨rfl, hat1⟩
          cases ex with
          | normal => exact absurd h (hne s')
          | exit id => exact ⟨rfl, hat1⟩
          | ret => exact ⟨rfl, hat1⟩
    exact key k s a w hev hat
  | scope x ih =>
    intro ic s s' ex a w htr hev hat
    simp only [trCode] at htr
    refine wp_scope_straight (wp_mono (ih htr hev hat) ?_)
    rintro e a1 w1 ⟨rfl, hat1⟩
    cases ex <;> exact ⟨rfl, hat1⟩
  | exit id => intro ic s s' ex a w htr hev hat; simp only [trCode] at htr; cases htr; simp only [evalC] at hev; cases hev; exact wp_exit ⟨rfl, hat⟩
  | ret => intro ic s s' ex a w htr hev hat; simp only [trCode] at htr; cases htr; simp only [evalC] at hev; cases hev; exact wp_ret ⟨rfl, hat⟩
  | _ => intro ic s s' ex a w htr hev hat; simp only [trCode] at htr; cases htr; simp only [evalC] at hev; cases hev

/-- what a rising callee leaves, code leaves -/
def Rose (s s' : St) : Prop := s.n ≤ s'.n ∧ ∀ id, id < s.n → s.H.get id = none → s'.H.get id = none

theorem Rose.refl (s : St) : Rose s s := ⟨Nat.le_refl _, fun _ _ h => h⟩
theorem Rose.trans {s1 s2 s3 : St} (h : Rose s1 s2) (k : Rose s2 s3) : Rose s1 s3 :=
  ⟨Nat.le_trans h.1 k.1, fun id hid hn => k.2 id (Nat.lt_of_lt_of_le hid h.1) (h.2 id hid hn)⟩

theorem evalR_rose (hrise : Rising cf) {r : IReg} {s s' : St} (h : evalR cf r s = some s') : Rose s s' := by
  have key : ∀ {T H n L S'}, evalOps cf s.S r.ops [] s.H s.n [] = some (T, H, n, L) → Rose s ⟨S', H, n⟩ := by
    intro T H n L S' ho
    obtain ⟨h1, Hs, ns, h2, h3, h4, h5, ht⟩ := told_of ho
    subst h4 h5
    refine ⟨?_, fun id hid hn => ?_⟩
    · rw [← h3]; exact ht.mono hrise (Nat.zero_le _) (Nat.le_refl _)
    · exact ht.none hrise id (by omega) (by rw [h2]; exact hn) (Nat.le_refl _)
  unfold evalR at h
  split at h
  · rename_i T H n L ho
    split at h
    · cases h; exact key ho
    · split at h
      · cases h; exact key ho
      · cases h
  · cases h

theorem evalC_rose (hrise : Rising cf) (k : Nat) : ∀ (c : ICode) {s s' : St} {ex : Ex}, evalC cf k c s = some (ex, s') → Rose s s' := by
  intro c
  induction c with
  | skip => intro s s' ex h; simp only [evalC] at h; cases h; exact .refl _
  | reg r =>
    intro s s' ex h
    simp only [evalC] at h
    split at h
    · rename_i h1; cases h; exact evalR_rose hrise h1
    · cases h
  | seq a b iha ihb =>
    intro s s' ex h
    simp only [evalC] at h
    split at h
    · rename_i h1; exact (iha h1).trans (ihb h)
    · exact iha h
  | cond c a b iha ihb =>
    intro s s' ex h
    simp only [evalC] at h
    split at h
    · exact iha h
    · exact ihb h
    · cases h
  | block id a iha =>
    intro s s' ex h
    simp only [evalC] at h
    split at h
    · rename_i h1
      split at h
      · cases h; exact iha h1
      · cases h; exact iha h1
    · exact iha h
  | loop a iha =>
    intro s s' ex h
    simp only [evalC] at h
    have key : ∀ (m : Nat) (s : St), iter (fun s' => evalC cf k a s') m s = some (ex, s') → Rose s s' := by
      intro m
      induction m with
      | zero => intro s h; simp [iter] at h
      | succ m ihm =>
        intro s h
        simp only [iter] at h
        split at h
        · rename_i h1; exact (iha h1).trans (ihm _ h)
        · exact iha h
    exact key k s h
  | exit id => intro s s' ex h; simp only [evalC] at h; cases h; exact .refl _
  | ret => intro s s' ex h; simp only [evalC] at h; cases h; exact .refl _
  | bad => intro s s' ex h; simp only [evalC] at h; cases h

def resOf (tmps : Array Value) : ResultVar → Sem Value
  | .tmp t => pure (tmps.getD t undef)
  | .cell a t => do loadVar t (← asAddr (tmps.getD a undef))

theorem trResult_sound {M : Mem} {φ : Places} {S : List PV} {a : Act} {H : Heap} {w : World} (hf : Frm M φ lv ntmps S a) (hw : WR M φ H.get w) {r : ResultVar} {ir : IRes} {v : PV} (h : trResult P lv r = some ir) (hv : evalRes S H ir = some v) :
    ∃ u, (resOf a.tmps r).run P w = .ok u w ∧ Rv M φ v u := by
  unfold resOf
  cases r with
  | tmp t =>
    simp only [trResult, Option.map_eq_some_iff] at h
    obtain ⟨x, hx, rfl⟩ := h
    obtain ⟨p, hp, rfl⟩ := slotL_spec hx
    simp only [evalRes] at hv
    cases hv
    exact ⟨_, by simp, hf.slots p t hp⟩
  | cell x t =>
    simp only [trResult] at h
    split at h
    · rename_i y g sz hy hg hsz
      cases h
      obtain ⟨p, hp, rfl⟩ := slotL_spec hy
      have hrv := hf.slots p x hp
      simp only [evalRes, Src.ev] at hv
      split at hv
      · rename_i u cs off hρ
        rw [hρ] at hrv
        obtain ⟨b, o, e1, e2⟩ := hrv.reads hw
        obtain ⟨v', f1, f2⟩ := load_sound (P := P) e2 hv hg hsz
        exact ⟨v', by simp only; rw [e1]; simpa [asAddr] using f1, f2⟩
      · rename_i id ver k i off hρ
        rw [hρ] at hrv
        split at hv
        · rename_i ver' k' xs hH
          split at hv
          · rename_i hc
            obtain ⟨rfl, rfl, hi⟩ := hc
            obtain ⟨l, e1, e2, e3⟩ := (hw.obj id _ hH).reads hi
            simp only
            generalize a.tmps.getD x undef = va at hrv ⊢
            cases hrv with
            | ptr _ _ _ _ _ l' hl' hk' =>
              obtain rfl : l = l' := Option.some.inj (e1.symm.trans hl')
              obtain ⟨v', f1, f2⟩ := load_sound (P := P) e3 hv hg hsz
              exact ⟨v', by simpa [asAddr] using f1, f2⟩
          · cases hv
        · cases hv
      · cases hv
    · cases h

theorem results_sound {M : Mem} {φ : Places} {S : List PV} {a : Act} {H : Heap} {w : World} (hf : Frm M φ lv ntmps S a) (hw : WR M φ H.get w) : ∀ (rs : List ResultVar) {is : List IRes} {vs : List PV}, trResults P lv rs = some is → evalResults S H is = some vs →
    ∃ us : List Value, (rs.mapM (resOf a.tmps)).run P w = .ok us w ∧ us.length = vs.length ∧ ∀ j, j < vs.length → Rv M φ (vs.getD j .any) (us.getD j undef)
  | [], is, vs, htr, hv => by
    simp only [trResults] at htr
    cases htr
    simp only [evalResults] at hv
    cases hv
    exact ⟨[], by simp, rfl, fun j hj => by simp at hj⟩
  | r :: rs, is, vs, htr, hv => by
    simp only [trResults] at htr
    split at htr
    · rename_i ir is' h1 h2
      cases htr
      simp only [evalResults] at hv
      split at hv
      · rename_i v vs' h3 h4
        cases hv
        obtain ⟨u, e1, e2⟩ := trResult_sound (P := P) hf hw h1 h3
        obtain ⟨us, f1, f2, f3⟩ := results_sound hf hw rs h2 h4
        refine ⟨u :: us, ?_, by simp [f2], ?_⟩
        · simp only [List.mapM_cons]
          simp [e1, f1]
        · intro j hj
          cases j with
          | zero => simpa using e2
          | succ j => simpa using f3 j (by simpa using hj)
      · cases hv
    · cases htr

theorem results_eq (fn : Func) (tmps : Array Value) : results fn tmps = (do let vs ← fn.results.mapM (resOf tmps); pure (if h : vs.size = 1 then vs[0] else .tuple vs)) := rfl

/-- a function's results -/
theorem whole_results {M : Mem} {φ : Places} {S : List PV} {a : Act} {H : Heap} {w : World} (hf : Frm M φ lv ntmps S a) (hw : WR M φ H.get w) {fn : Func} {is : List IRes} {vs : List PV} (htr : trResults P lv fn.results.toList = some is)
    (hv : evalResults S H is = some vs) : ∃ v, (results fn a.tmps).run P w = .ok v w ∧ Rv M φ (tupled vs) v := by
  obtain ⟨us, h1, h2, h3⟩ := results_sound (P := P) hf hw _ htr hv
  have hrun : (fn.results.mapM (resOf a.tmps)).run P w = .ok us.toArray w := by
    rw [Array.mapM_eq_mapM_toList]
    simp [h1]
  refine ⟨if h : us.toArray.size = 1 then us.toArray[0] else .tuple us.toArray, ?_, ?_⟩
  · rw [results_eq]
    simp [hrun]
  · match vs, us, h2, h3 with
    | [], [], _, _ => exact .tup [] #[] rfl (fun j hj => by simp at hj)
    | [v], [u], _, h3 => simpa [tupled] using h3 0 (by simp)
    | v1 :: v2 :: vs, u1 :: u2 :: us, h2, h3 =>
      simp only [tupled]
      rw [dif_neg (by simp)]
      exact .tup _ _ (by simpa using h2) (fun j hj => by simpa [Array.getD_eq_getD_getElem?, List.getD_eq_getElem?_getD] using h3 j hj)

end
end Go.Vm
